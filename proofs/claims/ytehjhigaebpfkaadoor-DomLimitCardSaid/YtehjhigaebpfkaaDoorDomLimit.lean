/- DomLimit answers true, whatever the limit and whether templates are made. -/
import Derived.Test.YtehjhigaebpfkaaDoorKnown
import Derived.Test.YtehjhigaebpfkaaDoorRow
namespace Go.Proofs.YtehjhigaebpfkaaDoor
open Go.RowKit

def tmplS : ByteArray := ⟨#[116, 101, 109, 112, 108, 97, 116, 101]⟩
theorem tmpl_may : mayB 1 tmplS .empty = true := by kernel_rfl
theorem tmpl_is : tmplB 1 tmplS = true := by kernel_rfl
theorem div_not : tmplB 1 divS = false := by kernel_rfl

section
variable {W w : World} {rs : List Res} {p : Nat} {A : Doc}

/-- the loop makes nodes of one name, k at a time -/
theorem makeNo_iff (A : Doc) {nm : ByteArray} {k : Nat} (hk : tmplB 1 nm = decide (k = 2)) (h1 : k = 1 ∨ k = 2) : A.makeNo 1 nm = decide (A.lim < A.n + k) := by
  unfold Doc.makeNo
  rw [hk]
  rcases h1 with rfl | rfl
  · simp
  · rw [Bool.eq_iff_iff]; simp; omega
theorem made_k (A : Doc) {nm da : ByteArray} {k : Nat} (hk : tmplB 1 nm = decide (k = 2)) (h1 : k = 1 ∨ k = 2) : (A.made 1 nm da []).n = A.n + k := by
  rw [made_n, hk]
  rcases h1 with rfl | rfl <;> rfl

set_option maxRecDepth 100000 in
set_option maxHeartbeats 1000000 in
theorem limit_walk (h : Sep W w rs) (hT : Laid W) (l : Int) (h0 : 0 ≤ l) (h1 : l ≤ 65535) (t : Bool) :
    Calls Tryd.prog 4 #[.int .u16 l, .bool t] w fun e w' => e = .returned (.bool true) ∧ Sep W w' rs := by
  have H := Lib.hid h
  have HT := Lib.hid hT
  have hm0 : 0 ≤ l % 300 := Int.emod_nonneg _ (by omega)
  have hm1 : l % 300 < 300 := Int.emod_lt_of_pos _ (by omega)
  have hr : Int.tmod l 300 = l % 300 := Int.tmod_eq_emod_of_nonneg h0
  clear h hT
  go_enter Tryd.func4, Tryd.ntmps4
  cases t
  · go_wp2_with fail
    refine (New_yes H.out (1 + l % 300) (by omega) (by omega)).mono ?_
    rintro e w1 ⟨p, rfl, hS1⟩
    have H1 := Lib.hid hS1
    clear hS1 H
    go_wp2_with fail
    go_loopw [9] (fun v wr => ∃ A : Doc, v = int A.n ∧ A.lim = 1 + l % 300 ∧ Sep W wr (docA p A :: rs)) (fun v _ => (301 - intOf v).toNat)
    case atStart => exact ⟨Doc.new (1 + l % 300), rfl, rfl, H1.out⟩
    case round =>
      obtain ⟨A, rfl, hlim, hS⟩ := hrel
      have hle := (docA_open hS).1.le
      have hmk := makeNo_iff A (nm := divS) (k := 1) (by rw [div_not]; rfl) (by simp)
      have HS := Lib.hid hS
      clear hS H1
      have hwr : IntKind.i64.wrap ((A.n : Int) + 1) = (A.n : Int) + 1 := by rw [IntKind.wrap_i64]; omega
      cases hno : A.makeNo 1 divS
      · have en : ((A.made 1 divS .empty []).n : Int) = (A.n : Int) + 1 := by rw [made_k A (k := 1) (by rw [div_not]; rfl) (by simp)]; rfl
        have t1 : decide ((A.n : Int) + 1 > 1 + l % 300) = false := by rw [hno] at hmk; simp at hmk; simp; omega
        have hle' : (A.n : Int) + 1 ≤ 1 + l % 300 := by simp at t1; exact t1
        go_wp2_with fail
        refine (make_yes HS.out HT.out (arg 1 divS .empty) (by decide) div_may hno).mono ?_
        rintro e w2 ⟨rfl, h2⟩
        have H2 := Lib.hid (show Sep W w2 (docA p (A.made 1 divS .empty []) :: rs) from h2)
        clear h2
        go_wp2_with fail
        refine (len_doc H2.out).mono ?_
        rintro e w3 ⟨rfl, rfl⟩
        rw [en]
        go_wp2_with fail
        go_roundw
        case rel => exact ⟨A.made 1 divS .empty [], by rw [en], by rw [made_lim, hlim], H2.out⟩
        case measure => simp [intOf]; omega
      · have t1 : decide ((A.n : Int) + 1 > 1 + l % 300) = true := by rw [hno] at hmk; simp at hmk; simp; omega
        go_wp2_with fail
        refine (make_no_room HS.out HT.out (arg 1 divS .empty) (by decide) div_may hno).mono ?_
        rintro e w2 ⟨rfl, h2⟩
        have H2 := Lib.hid h2
        clear h2
        go_wp2_with fail
        refine (known_any H2.out HT.out).mono ?_
        rintro e w3 ⟨rfl, h3⟩
        have H3 := Lib.hid h3
        clear h3
        go_wp2_with fail
        refine (len_doc H3.out).mono ?_
        rintro e w3 ⟨rfl, rfl⟩
        go_wp2
        go_ret
        exact ⟨rfl, H3.out.tail⟩
  · go_wp2_with fail
    refine (New_yes H.out (1 + l % 300) (by omega) (by omega)).mono ?_
    rintro e w1 ⟨p, rfl, hS1⟩
    have H1 := Lib.hid hS1
    clear hS1 H
    go_wp2_with fail
    go_loopw [9] (fun v wr => ∃ A : Doc, v = int A.n ∧ A.lim = 1 + l % 300 ∧ Sep W wr (docA p A :: rs)) (fun v _ => (301 - intOf v).toNat)
    case atStart => exact ⟨Doc.new (1 + l % 300), rfl, rfl, H1.out⟩
    case round =>
      obtain ⟨A, rfl, hlim, hS⟩ := hrel
      have hle := (docA_open hS).1.le
      have hmk := makeNo_iff A (nm := tmplS) (k := 2) (by rw [tmpl_is]; rfl) (by simp)
      have HS := Lib.hid hS
      clear hS H1
      have hwr : IntKind.i64.wrap ((A.n : Int) + 2) = (A.n : Int) + 2 := by rw [IntKind.wrap_i64]; omega
      cases hno : A.makeNo 1 tmplS
      · have en : ((A.made 1 tmplS .empty []).n : Int) = (A.n : Int) + 2 := by rw [made_k A (k := 2) (by rw [tmpl_is]; rfl) (by simp)]; rfl
        have t1 : decide ((A.n : Int) + 2 > 1 + l % 300) = false := by rw [hno] at hmk; simp at hmk; simp; omega
        have hle' : (A.n : Int) + 2 ≤ 1 + l % 300 := by simp at t1; exact t1
        go_wp2_with fail
        refine (make_yes HS.out HT.out (arg 1 tmplS .empty) (by decide) tmpl_may hno).mono ?_
        rintro e w2 ⟨rfl, h2⟩
        have H2 := Lib.hid (show Sep W w2 (docA p (A.made 1 tmplS .empty []) :: rs) from h2)
        clear h2
        go_wp2_with fail
        refine (len_doc H2.out).mono ?_
        rintro e w3 ⟨rfl, rfl⟩
        rw [en]
        go_wp2_with fail
        go_roundw
        case rel => exact ⟨A.made 1 tmplS .empty [], by rw [en], by rw [made_lim, hlim], H2.out⟩
        case measure => simp [intOf]; omega
      · have t1 : decide ((A.n : Int) + 2 > 1 + l % 300) = true := by rw [hno] at hmk; simp at hmk; simp; omega
        go_wp2_with fail
        refine (make_no_room HS.out HT.out (arg 1 tmplS .empty) (by decide) tmpl_may hno).mono ?_
        rintro e w2 ⟨rfl, h2⟩
        have H2 := Lib.hid h2
        clear h2
        go_wp2_with fail
        refine (known_any H2.out HT.out).mono ?_
        rintro e w3 ⟨rfl, h3⟩
        have H3 := Lib.hid h3
        clear h3
        go_wp2_with fail
        refine (len_doc H3.out).mono ?_
        rintro e w3 ⟨rfl, rfl⟩
        go_wp2
        go_ret
        exact ⟨rfl, H3.out.tail⟩
end

open Go.ChangeShapes Go.WideShapes Go.ChangeAt

namespace domLimit
abbrev F : Nat := 4
abbrev wit : Array Value := #[.int .u16 0, .bool false]
theorem row (os : Os) {H : Type} (enc : TypeId × Value → H) :
    (OpenSpec.ofChange Rows.domLimitSpec).preRow enc Tryd.prog Tryd.f4 Rows.domLimitRow.domain false Rows.domLimitRow.laid ((laidWorld os).forCall (fun _ _ => 0) ⟨#[], wit, []⟩).memory wit := by
  obtain ⟨places, hx⟩ : ∃ places, DataW.whole enc Tryd.prog ((laidWorld os).forCall (fun _ _ => 0) ⟨#[], wit, []⟩).memory Tryd.f4.params.toList Rows.domLimitSpec.vars false wit.toList 8 = some ([.lit (.int .u16 0), .lit (.bool false)], [], places) := ⟨[], by kernel_rfl⟩
  exact OpenSpec.preRow_of_cond 8 hx (by kernel_rfl) (fun k hk => by cases hk) (by kernel_rfl) (laid_met os _)
set_option maxRecDepth 100000 in
theorem lifted (os : Os) (started : os.Started) (H : Type) (enc : TypeId × Value → H) (G : Stop.Interp) :
    ReturnsInHanded {} Tryd.checked os F .any ((OpenSpec.ofChange Rows.domLimitSpec).preRow enc Tryd.prog Tryd.f4 Rows.domLimitRow.domain false Rows.domLimitRow.laid) (((OpenSpec.ofChange Rows.domLimitSpec).at G).post enc Tryd.prog Tryd.f4 false true false false) := by
  refine returnsInHanded_of_row (C := Tryd.checked) (s := OpenSpec.ofChange Rows.domLimitSpec) rowOwn started (by kernel_rfl) Tryd.func4
    (witness_row_atRef (enc := enc) (C := Tryd.checked) false (laidWorld os) wit rfl (by kernel_rfl) (by kernel_rfl) (by kernel_rfl) (row os enc)) ?_
  intro W base args ds gs before hval0 hW _ _ _ hL _ _
  have hval : ∀ (j : Nat) t v, Tryd.f4.params[j]? = some t → args[j]? = some v → Value.okWide Tryd.prog W .any base t v := hval0
  have hW' : DataW.Whole enc Tryd.prog Tryd.f4.params.toList Rows.domLimitSpec.vars false W args.toList ds gs before := hW
  obtain ⟨p, q, hA0, hV, rfl, _, _⟩ := hW
  have hA : DataW.TrodAll enc Tryd.prog W 0 (fun _ => true) true Tryd.f4.params.toList args.toList ds p := hA0
  rw [Tryd.params4] at hA hval
  obtain ⟨v0, v1, d0, d1, p0, p1, rfl, rfl, rfl, h0, h1⟩ := trodAll_two hA
  obtain ⟨rfl, rfl⟩ := trodVars_none hV
  obtain ⟨l, rfl, rfl, rfl, hl⟩ := open_int Tryd.underlying24 (hval 0 24 v0 rfl rfl) h0
  obtain ⟨t, rfl, rfl, rfl⟩ := open_bool Tryd.underlying4 (hval 1 4 v1 rfl rfl) h1
  have hb := bounds_u16 hl
  refine (limit_walk (Sep.start W) (theLaid_tail hL) l hb.1 hb.2 t).mono ?_
  rintro e W' ⟨rfl, hS⟩
  exact ⟨_, rfl, law_post hW' rfl hS.below (by kernel_rfl) (by kernel_rfl) rfl⟩
theorem said : Rows.DomLimitSaid :=
  OpenClaim.holds_of_cond F Tryd.f4 rfl rfl rfl rfl rfl rfl rfl ⟨rfl, rfl, rfl, rfl, rfl⟩ rfl rfl rfl rfl rfl (by kernel_rfl) Tryd.func4 (by kernel_rfl)
    (of_decide_eq_true (by kernel_rfl)) (by unfold Func.isWrapper; first | (rw [if_pos (by decide +kernel)]; kernel_rfl) | (rw [if_neg (by decide +kernel)]; exact ⟨rfl, rfl⟩))
    (fun os started H enc _ G => by rw [OpenClaim.pre_eq_preRow]; exact lifted os started H enc G)
theorem plain (f : FuncId) (fn : Func) (hf : Tryd.pinned.checked.prog.funcNamed "portiere/portierelaw08.DomLimit" = some f) (hfn : Tryd.pinned.checked.prog.funcs[f]? = some fn) :
    false = Tryd.pinned.checked.prog.looks [] ∧ ∀ (j : Nat) t, fn.params[j]? = some t → Tryd.pinned.checked.prog.wantsStandIn t = false := by
  obtain rfl : f = F := Option.some.inj ((show Tryd.prog.funcNamed "portiere/portierelaw08.DomLimit" = some F by kernel_rfl).symm.trans hf) |>.symm
  obtain rfl : fn = Tryd.f4 := (Option.some.inj (Tryd.func4.symm.trans hfn)).symm
  refine ⟨by kernel_rfl, fun j t ht => ?_⟩
  have hall : (Tryd.f4.params.toList.all fun t => !Tryd.prog.wantsStandIn t) = true := by kernel_rfl
  have := List.all_eq_true.1 hall t (Array.mem_toList_iff.2 (Array.mem_of_getElem? ht))
  exact (show Tryd.prog.wantsStandIn t = false by simpa using this)
/-- the card -/
theorem card : Rows.DomLimitCardSaid :=
  Claim7.holds_tied_plain_at .later [] _ _ _ _ said (fun _ h => by cases h) (by kernel_rfl) (fun _ h => by cases h) domLimit_row_tie rfl ⟨rfl, rfl⟩ (by kernel_rfl) rfl plain (by kernel_rfl)
end domLimit
end Go.Proofs.YtehjhigaebpfkaaDoor
