/- A document that grows: a node is made and put in at an end. plain: a document with so many elements in its Fragment. -/
import Derived.Test.YtehjhigaebpfkaaDoorKnown
namespace Go.Proofs.YtehjhigaebpfkaaDoor
open Go.RowKit

theorem climb_in {f : Int → Int} {S : Int → Prop} (hS : ∀ x, S x → f x ≠ -1 → S (f x)) {i j : Int} (hi : S i) (h : Climb f i j) : S j := by
  induction h with
  | here => exact hi
  | up h1 _ ih => exact ih (hS _ hi h1)

section
variable {A : Doc} {up : Int} {k : Int} {nm da : ByteArray}
theorem made_old (ht : tmplB k nm = false) {j : Int} (hj : j ≠ A.n) : (A.made k nm da []).nd j = A.nd j := by
  unfold Doc.made
  rw [if_neg (by rw [ht]; decide)]
  simp only [Doc.add]; rw [if_neg hj]
theorem made_new (ht : tmplB k nm = false) : (A.made k nm da []).nd A.n = newNd k nm da [] noFl := by
  unfold Doc.made
  rw [if_neg (by rw [ht]; decide)]
  exact add_nd_new _
theorem made_n1 (ht : tmplB k nm = false) : (A.made k nm da []).n = A.n + 1 := by rw [made_n, if_neg (by rw [ht]; decide)]
theorem made_in (ht : tmplB k nm = false) {j : Int} : (A.made k nm da []).In j ↔ A.In j ∨ j = A.n := by
  unfold Doc.In; rw [made_n1 ht]; omega

/-- what is put in where it was in nothing -/
theorem put_free {i : Int} (h : (A.nd i).up = -1) (j : Int) : (A.put up i (-1)).nd j = if j = i then ((if j = up then (A.nd j).setKids ((A.nd j).kids ++ [i]) else A.nd j)).setUp up else if j = up then (A.nd j).setKids ((A.nd j).kids ++ [i]) else A.nd j := by
  have e : A.take i = A := by unfold Doc.take; rw [if_pos h]
  unfold Doc.put
  rw [e]
  simp only [Doc.set_nd, Doc.ahead, if_true]

theorem grow_ins (hw : WF A) (hu : A.In up) (ht : tmplB k nm = false) (hk : k ≠ 4) (htk : takesB (A.nd up).kind (A.nd up).name = true) :
    (A.made k nm da []).insertE up A.n (-1) = 0 ∧ (A.made k nm da []).insertA up A.n (-1) = (A.made k nm da []).put up A.n (-1) := by
  have hun : up ≠ A.n := by have := hu.2; omega
  have hin : (A.made k nm da []).In A.n := (made_in ht).2 (.inr rfl)
  have hpar : ∀ x, A.In x → (A.made k nm da []).par x = A.par x := fun x hx => by
    unfold Doc.par; rw [made_old ht (by have := hx.2; omega)]
  have he : (A.made k nm da []).insertE up A.n (-1) = 0 := by
    refine Doc.insertE_ok ((made_in ht).2 (.inl hu)) hin (.inl rfl) (Doc.fits_of ?_ ?_ ?_ fun hc => ?_) (.inl rfl)
    · rw [made_old ht hun]; exact htk
    · have := hw.pos; omega
    · rw [made_new ht]; rfl
    · have := climb_in (S := A.In) (fun x hx h => by rw [hpar x hx] at h ⊢; exact hw.par_in hx h) hu hc
      have := this.2
      omega
  exact ⟨he, Doc.insertA_end he hin (by rw [made_new ht]; exact hk)⟩
theorem grow_nd (ht : tmplB k nm = false) (hun : up ≠ A.n) (j : Int) :
    ((A.made k nm da []).put up A.n (-1)).nd j = if j = A.n then (newNd k nm da [] noFl).setUp up else if j = up then (A.nd j).setKids ((A.nd j).kids ++ [(A.n : Int)]) else A.nd j := by
  rw [put_free (by rw [made_new ht]; rfl)]
  by_cases h : j = A.n
  · rw [if_pos h, if_pos h, h, if_neg (Ne.symm hun), made_new ht]
  · rw [if_neg h, if_neg h, made_old ht h]
theorem grow_n (ht : tmplB k nm = false) : ((A.made k nm da []).put up A.n (-1)).n = A.n + 1 := by rw [put_n, made_n1 ht]
theorem grow_lim : ((A.made k nm da []).put up A.n (-1)).lim = A.lim := by rw [put_lim, made_lim]
theorem makeNo_no (ht : tmplB k nm = false) (h : (A.n : Int) < A.lim) : A.makeNo k nm = false := by
  unfold Doc.makeNo; rw [ht]; simp; omega
end

/-- 1, 2, .. -/
def upto (k : Nat) : List Int := (List.range k).map fun i => ((i : Nat) : Int) + 1
theorem upto_succ (k : Nat) : upto (k + 1) = upto k ++ [(k : Int) + 1] := by simp [upto, List.range_succ]
theorem upto_len (k : Nat) : (upto k).length = k := by simp [upto]
theorem upto_at {k j : Nat} (h : j < k) : (upto k)[j]? = some ((j : Int) + 1) := by simp [upto, h]
theorem upto_mem {k : Nat} {x : Int} : x ∈ upto k ↔ 1 ≤ x ∧ x ≤ k := by
  unfold upto
  rw [List.mem_map]
  constructor
  · rintro ⟨j, hj, rfl⟩
    have := List.mem_range.1 hj
    omega
  · intro h
    exact ⟨(x - 1).toNat, List.mem_range.2 (by omega), by omega⟩

/-- elements side by side -/
structure Flat (A : Doc) (k : Nat) : Prop where
  n : A.n = k + 1
  lim : A.lim = 300
  top : A.nd 0 = (newNd 4 .empty .empty [] noFl).setKids (upto k)
  nd : ∀ j : Int, 1 ≤ j → j ≤ k → A.nd j = (newNd 1 divS .empty [] noFl).setUp 0
theorem Flat.new : Flat (Doc.new 300) 0 := ⟨rfl, rfl, rfl, fun j h1 h2 => by omega⟩
theorem div_no_tmpl : tmplB 1 divS = false := by kernel_rfl
theorem top_takes : takesB 4 .empty = true := by kernel_rfl
theorem Flat.grow {A : Doc} {k : Nat} (h : Flat A k) (hw : WF A) : (A.made 1 divS .empty []).insertE 0 A.n (-1) = 0 ∧ Flat ((A.made 1 divS .empty []).insertA 0 A.n (-1)) (k + 1) := by
  obtain ⟨h1, h2⟩ := grow_ins (up := 0) (k := 1) (nm := divS) (da := .empty) hw ⟨by omega, by have := hw.pos; omega⟩ div_no_tmpl (by decide) (by rw [h.top]; exact top_takes)
  refine ⟨h1, ?_⟩
  rw [h2]
  have hn := h.n
  refine ⟨by rw [grow_n div_no_tmpl, hn], by rw [grow_lim, h.lim], ?_, fun j j1 j2 => ?_⟩
  · rw [grow_nd div_no_tmpl (by omega), if_neg (by omega), if_pos rfl, h.top, hn, upto_succ]
    rfl
  · rw [grow_nd div_no_tmpl (by omega)]
    by_cases hj : j = A.n
    · rw [if_pos hj]
    · rw [if_neg hj, if_neg (by omega)]
      exact h.nd j j1 (by omega)
theorem Flat.room {A : Doc} {k : Nat} (h : Flat A k) (hk : k < 299) : A.makeNo 1 divS = false := makeNo_no div_no_tmpl (by rw [h.n, h.lim]; omega)

section
variable {W w : World} {rs : List Res} {p : Nat}
set_option maxRecDepth 100000 in
set_option maxHeartbeats 1000000 in
theorem plain_any (h : Sep W w rs) (hT : Laid W) (m : Nat) (hm : m ≤ 100) :
    Calls Tryd.prog 13 #[int m] w fun e w' => ∃ p A, e = .returned (ptr p) ∧ Flat A m ∧ Sep W w' (docA p A :: rs) := by
  have H := Lib.hid h
  have HT := Lib.hid hT
  clear h hT
  go_enter Tryd.func13, Tryd.ntmps13
  go_wp2_with fail
  refine (New_yes H.out 300 (by omega) (by omega)).mono ?_
  rintro e w1 ⟨p, rfl, hS1⟩
  have H1 := Lib.hid hS1
  clear hS1 H
  go_wp2_with fail
  go_loopw [4] (fun v wr => ∃ (i : Nat) (A : Doc), v = int i ∧ i ≤ m ∧ Flat A i ∧ Sep W wr (docA p A :: rs)) (fun v _ => m - (intOf v).toNat)
  case atStart => exact ⟨0, Doc.new 300, rfl, Nat.zero_le _, Flat.new, H1.out⟩
  case round =>
    obtain ⟨i, A, rfl, hi, hF, hS⟩ := hrel
    have hw := (docA_open hS).1
    have HS := Lib.hid hS
    clear hS H1
    by_cases him : i < m
    · have t1 : decide ((i : Int) < m) = true := by simp; omega
      obtain ⟨g1, g2⟩ := hF.grow hw
      have G1 := Lib.hid g1
      have G2 := Lib.hid g2
      have hno := hF.room (by omega)
      have hwr : IntKind.i64.wrap ((i : Int) + 1) = ((i + 1 : Nat) : Int) := by rw [IntKind.wrap_i64]; omega
      clear g1 g2
      go_wp2_with fail
      refine (make_yes HS.out HT.out (arg 1 divS .empty) (by decide) div_may hno).mono ?_
      rintro e w2 ⟨rfl, h2⟩
      have H2 := Lib.hid (show Sep W w2 (docA p (A.made 1 divS .empty []) :: rs) from h2)
      clear h2
      go_wp2_with fail
      refine (insert_doc H2.out HT.out 0 A.n (-1)).mono ?_
      rintro e w3 ⟨rfl, h3⟩
      have H3 := Lib.hid h3
      clear h3
      rw [G1.out]
      go_wp2_with fail
      go_roundw
      case rel => exact ⟨i + 1, _, rfl, him, G2.out, H3.out⟩
      case measure => simp [intOf]; omega
    · obtain rfl : i = m := by omega
      have t1 : decide ((i : Int) < i) = false := by simp
      go_wp2_with fail
      go_ret
      exact ⟨p, A, rfl, hF, HS.out⟩
end
end Go.Proofs.YtehjhigaebpfkaaDoor
