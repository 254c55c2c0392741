/- DomGiven answers true, whatever the numbers, where they are not too many for any machine. -/
import Derived.Test.YtehjhigaebpfkaaDoorGive
import Derived.Test.YtehjhigaebpfkaaDoorPlain
import Derived.Test.YtehjhigaebpfkaaDoorArgRows
namespace Go.Proofs.YtehjhigaebpfkaaDoor
open Go.RowKit

theorem slot_may : mayB 1 slotS .empty = true := by kernel_rfl
theorem slot_no_tmpl : tmplB 1 slotS = false := by kernel_rfl
theorem slot_is : (slotS.toList == [115, 108, 111, 116]) = true := by kernel_rfl

def total (ll : List (List Int)) : Nat := (ll.map fun r => r.length + 1).sum
theorem total_snoc {ll : List (List Int)} {i : Nat} (h : i < ll.length) : total (ll.take (i + 1)) = total (ll.take i) + ((ll[i]).length + 1) := by
  unfold total
  rw [List.take_succ_eq_append_getElem h, List.map_append, List.sum_append]
  simp only [List.map_cons, List.map_nil, List.sum_cons, List.sum_nil]
  omega
theorem total_len : ∀ ll : List (List Int), ll.length ≤ total ll
  | [] => Nat.zero_le _
  | r :: t => by
    have := total_len t
    unfold total at this ⊢
    simp only [List.length_cons, List.map_cons, List.sum_cons]
    omega
theorem total_take (ll : List (List Int)) (i : Nat) : total (ll.take i) ≤ total ll := by
  unfold total
  conv => rhs; rw [← List.take_append_drop i ll]
  rw [List.map_append, List.sum_append]; omega
theorem total_at {ll : List (List Int)} {i : Nat} (h : i < ll.length) : (ll[i]).length + 1 ≤ total ll := by
  have h1 := total_snoc h
  have h2 := total_take ll (i + 1)
  omega

/-- ten elements, and the first slots -/
structure Giv (D : Doc) (i : Nat) : Prop where
  n : D.n = 11 + i
  lim : D.lim = 300
  kind : ∀ x : Int, 1 ≤ x → x ≤ 10 → (D.nd x).kind = 1
  slot : ∀ x : Int, 11 ≤ x → x < 11 + i → (D.nd x).kind = 1 ∧ (D.nd x).name = slotS
theorem Giv.start {A : Doc} (h : Flat A 10) : Giv A 0 ∧ ∀ x : Int, 1 ≤ x → x ≤ 10 → (A.nd x).slot = -1 :=
  ⟨⟨h.n, h.lim, fun x h1 h2 => by rw [h.nd x h1 h2]; rfl, fun x h1 h2 => by omega⟩, fun x h1 h2 => by rw [h.nd x h1 h2]; rfl⟩
theorem Giv.more {D : Doc} {i : Nat} (h : Giv D i) (hi : i < 3) : D.makeNo 1 slotS = false ∧ Giv (D.made 1 slotS .empty []) (i + 1) ∧ ∀ x : Int, x ≤ 10 → (D.made 1 slotS .empty []).nd x = D.nd x := by
  have hn := h.n
  have old : ∀ x : Int, x < 11 + i → (D.made 1 slotS .empty []).nd x = D.nd x := fun x hx => made_old slot_no_tmpl (by rw [hn]; omega)
  refine ⟨makeNo_no slot_no_tmpl (by rw [h.lim, hn]; omega), ⟨by rw [made_n1 slot_no_tmpl, hn]; omega, by rw [made_lim, h.lim], fun x h1 h2 => by rw [old x (by omega)]; exact h.kind x h1 h2, fun x h1 h2 => ?_⟩, fun x hx => old x (by omega)⟩
  by_cases e : x = D.n
  · rw [e, made_new slot_no_tmpl]; exact ⟨rfl, rfl⟩
  · rw [old x (by rw [hn] at e; omega)]; exact h.slot x h1 (by rw [hn] at e; omega)

/-- where each of the ten is given, as the law's own list tells it -/
def Told (D : Doc) (f : Nat → Int) : Prop := ∀ x : Nat, 1 ≤ x → x ≤ 10 → (D.nd x).slot = if f x = 0 then -1 else f x
theorem Giv.step {D : Doc} (h : Giv D 3) (hw : WF D) {f : Nat → Int} (hf : Told D f) {k : Int} (hk : 11 ≤ k) (hk2 : k < 14) {l : List Int} (hl : ∀ x ∈ l, 1 ≤ x ∧ x ≤ 10) (hlen : l.length ≤ 200) :
    D.givesE k l = 0 ∧ Giv (D.giveA k l) 3 ∧ Told (D.giveA k l) (fun x => if (x : Int) ∈ l then k else if f x = k then 0 else f x) := by
  have hn := h.n
  have hin : ∀ x : Int, 0 ≤ x → x < 14 → D.In x := fun x h1 h2 => ⟨h1, by rw [hn]; omega⟩
  have hks := h.slot k hk (by omega)
  have hki := hin k (by omega) hk2
  have g : ∀ {α : Type} (g : Nd → α), (∀ x, g x.nogive = g x) → ∀ j, g ((D.giveA k l).nd j) = g (D.nd j) := fun g hg j => by rw [← hg, giveA_nogive, hg]
  refine ⟨?_, ⟨by rw [giveA_n, hn], by rw [giveA_lim, h.lim], fun x h1 h2 => by rw [g Nd.kind (fun _ => rfl)]; exact h.kind x h1 h2, fun x h1 h2 => by rw [g Nd.kind (fun _ => rfl), g Nd.name (fun _ => rfl)]; exact h.slot x h1 h2⟩, fun x h1 h2 => ?_⟩
  · unfold Doc.givesE
    rw [if_pos ⟨hki, fun x hx => hin x (by have := hl x hx; omega) (by have := hl x hx; omega)⟩, if_pos ⟨hks.1, by rw [hks.2]; exact slot_is⟩, if_pos (fun x hx => ?_), if_pos hlen]
    unfold Doc.slottable
    rw [h.kind x (hl x hx).1 (hl x hx).2]; rfl
  · show _ = (if (if (x : Int) ∈ l then k else if f x = k then 0 else f x) = 0 then -1 else (if (x : Int) ∈ l then k else if f x = k then 0 else f x))
    rw [giveA_slot hw hki (hin x (by omega) (by omega)), hf x h1 h2]
    by_cases hm : (x : Int) ∈ l
    · rw [if_pos hm, if_pos hm, if_neg (by omega)]
    · rw [if_neg hm, if_neg hm]
      have k0 : ¬ (0 : Int) = k := by omega
      have k1 : ¬ (-1 : Int) = k := by omega
      have k2 : ¬ k = 0 := by omega
      by_cases h0 : f x = 0
      · simp [h0, k0, k1]
      · by_cases h3 : f x = k
        · simp [h3, k2]
        · simp [h0, h3]

theorem arrOf_congr {n : Nat} {f g : Nat → Int} (h : ∀ j, j < n → f j = g j) : arrOf n f = arrOf n g := by
  unfold arrOf
  congr 1
  refine List.map_congr_left fun j hj => ?_
  rw [h j (List.mem_range.1 hj)]
def s3 : Nat → Int := fun j => if j < 3 then 11 + (j : Int) else 0
def oneOf (y : Int) : Int := 1 + y % 10
theorem oneOf_nat (y : Int) (h : 0 ≤ y) : ∃ x : Nat, 1 ≤ x ∧ x ≤ 10 ∧ oneOf y = (x : Int) ∧ (1 : Int) + y.tmod 10 = (x : Int) ∧ (1 : Int) + y % 10 = (x : Int) := by
  unfold oneOf
  have h1 := Int.emod_nonneg y (by decide : (10 : Int) ≠ 0)
  have h2 := Int.emod_lt_of_pos y (by decide : (0 : Int) < 10)
  obtain ⟨z, hz⟩ := Int.eq_ofNat_of_zero_le h1
  have e : y.tmod 10 = y % 10 := Int.tmod_eq_emod_of_nonneg h
  rw [e, hz]
  exact ⟨z + 1, by omega, by omega, by omega, by omega, by omega⟩

section
variable {W w : World} {rs : List Res} {p : Nat}
set_option maxRecDepth 100000 in
set_option maxHeartbeats 2000000 in
theorem given_walk (h : Sep W w rs) (hT : Laid W) (v : Value) (ll : List (List Int)) (hl : ArgRows .u8 W v ll) (htot : total ll ≤ 3000000) :
    Calls Tryd.prog 8 #[v] w fun e w' => e = .returned (.bool true) ∧ Sep W w' rs := by
  have H := Lib.hid h
  have HT := Lib.hid hT
  have HL := Lib.hid hl
  obtain ⟨a0, c0, rfl⟩ := hl.form
  have hll := total_len ll
  obtain ⟨i0, hi0, hz0, hz1, hz2⟩ := info_parts infoInt
  clear h hT hl
  go_enter Tryd.func8, Tryd.ntmps8
  go_wp2_with fail
  go_loopw [3, 4] (fun nv v wr => ∃ i : Nat, v = int i ∧ i ≤ ll.length ∧ nv = int (total (ll.take i)) ∧ Sep W wr rs) (fun _ v _ => ll.length - (intOf v).toNat)
  case atStart => exact ⟨0, rfl, Nat.zero_le _, rfl, H.out⟩
  case round =>
    obtain ⟨i, rfl, hi, rfl, hS⟩ := hrel
    have HS := Lib.hid hS
    clear H
    by_cases hil : i < ll.length
    · have t1 : decide ((i : Int) < ll.length) = true := by simp; omega
      obtain ⟨b0, o0, rfl, hat⟩ := HL.out.at (by omega)
      obtain ⟨u, cu, _, hcell⟩ := hat i hil
      have c1 := hcell hS
      have hts := total_snoc hil
      have htt := total_take ll (i + 1)
      have hwr : IntKind.i64.wrap ((i : Int) + 1) = ((i + 1 : Nat) : Int) := by rw [IntKind.wrap_i64]; omega
      obtain ⟨L, hL⟩ : ∃ L, L = (ll[i]).length := ⟨_, rfl⟩
      obtain ⟨T, hTt⟩ : ∃ T, T = total (ll.take i) := ⟨_, rfl⟩
      rw [← hL] at c1 hts
      rw [← hTt] at hts ⊢
      have hw1 : IntKind.i64.wrap ((L : Int) + 1) = (L : Int) + 1 := by rw [IntKind.wrap_i64]; omega
      have hw2 : IntKind.i64.wrap ((T : Int) + ((L : Int) + 1)) = (T : Int) + ((L : Int) + 1) := by rw [IntKind.wrap_i64]; omega
      have HTS := Lib.hid hts
      clear hS hat hcell hts hL hTt
      go_wp2_with fail
      go_roundw
      case rel => exact ⟨i + 1, rfl, hil, by rw [HTS.out]; simp, HS.out⟩
      case measure => simp [intOf]; omega
    · obtain rfl : i = ll.length := by omega
      have t1 : decide ((ll.length : Int) < ll.length) = false := by simp
      rw [List.take_length]
      clear hS
      by_cases hbig : 150 < total ll
      · have t2 : decide ((total ll : Int) > 150) = true := by simp; omega
        go_wp2_with fail
        refine (known_any HS.out HT.out).mono ?_
        rintro e w2 ⟨rfl, h2⟩
        have H2 := Lib.hid h2
        clear h2
        go_wp2
        go_ret
        exact ⟨rfl, H2.out⟩
      · have t2 : decide ((total ll : Int) > 150) = false := by simp; omega
        go_wp2_with fail
        refine (known_any HS.out HT.out).mono ?_
        rintro e w2 ⟨rfl, h2⟩
        have H2 := Lib.hid h2
        clear h2 HS
        go_wp2_with fail
        refine (plain_any H2.out HT.out 10 (by omega)).mono ?_
        rintro e w3 ⟨p, A0, rfl, hF, h3⟩
        obtain ⟨hg0, hs0⟩ := Giv.start hF
        have H3 := Lib.hid (h3.blk_new (arrOf 3 (fun _ => 0)) 54)
        have HG0 := Lib.hid hg0
        have HS0 := Lib.hid hs0
        have Htot := Lib.hid (show total ll ≤ 150 by omega)
        have hll2 : ll.length ≤ 150 := by omega
        obtain ⟨gs, hgs⟩ : ∃ gs, gs = w3.heap.size := ⟨_, rfl⟩
        have Hgs := Lib.hid hgs
        clear h3 H2 hF hg0 hs0 htot hbig t1 t2
        go_wp2_with fail
        rw [← hgs]
        have H4 := Lib.hid (show Sep W (w3.alloc (.cells #[int 0, int 0, int 0] 54)) (blk gs 54 (arrOf 3 (fun _ => 0)) :: docA p A0 :: rs) from hgs ▸ H3.out)
        clear hgs H3
        go_loopw [7] (fun v wr => ∃ (i : Nat) (D : Doc), v = int i ∧ i ≤ 3 ∧ Giv D i ∧ (∀ x : Int, 1 ≤ x → x ≤ 10 → (D.nd x).slot = -1) ∧ Sep W wr (blk gs 54 (arrOf 3 (fun j => if j < i then 11 + (j : Int) else 0)) :: docA p D :: rs)) (fun v _ => 3 - (intOf v).toNat)
        case atStart => exact ⟨0, A0, rfl, Nat.zero_le _, HG0.out, HS0.out, H4.out⟩
        case round =>
          obtain ⟨i, D, rfl, hi, hG, hD0, hS⟩ := hrel
          have HS := Lib.hid hS
          clear H4 Hgs HG0 HS0
          by_cases hi3 : i < 3
          · have t1 : decide ((i : Int) < 3) = true := by simp; omega
            obtain ⟨m1, m2, m3⟩ := hG.more hi3
            have hn := hG.n
            have M2 := Lib.hid m2
            have hD1 : ∀ x : Int, 1 ≤ x → x ≤ 10 → ((D.made 1 slotS .empty []).nd x).slot = -1 := fun x h1 h2 => by rw [m3 x h2]; exact hD0 x h1 h2
            have HD1 := Lib.hid hD1
            have hwr : IntKind.i64.wrap ((i : Int) + 1) = ((i + 1 : Nat) : Int) := by rw [IntKind.wrap_i64]; omega
            have hnn : (D.n : Int) = 11 + (i : Int) := by rw [hn]; omega
            have Hnn := Lib.hid hnn
            have harr : ∀ w', Sep W w' (blk gs 54 (arrOf 3 (fun j => if j < i then 11 + (j : Int) else 0)) :: docA p (D.made 1 slotS .empty []) :: rs) → Sep W (w'.setCell ⟨gs, i, none⟩ (int (11 + (i : Int)))) (blk gs 54 (arrOf 3 (fun j => if j < i + 1 then 11 + (j : Int) else 0)) :: docA p (D.made 1 slotS .empty []) :: rs) := fun w' h => by
              have := h.blk_set i (int (11 + (i : Int)))
              rw [arrOf_set] at this
              have e : (fun j : Nat => if j = i then 11 + (i : Int) else if j < i then 11 + (j : Int) else 0) = fun j => if j < i + 1 then 11 + (j : Int) else 0 := by
                funext j
                by_cases h1 : j = i
                · subst h1; simp
                · by_cases h2 : j < i
                  · simp [h1, h2]; omega
                  · simp [h1, h2]; omega
              rw [e] at this
              exact this
            have Harr := Lib.hid harr
            clear m2 m3 hD0 hD1 hG hn hnn harr hS
            go_wp2_with fail
            refine (make_yes HS.out.swap HT.out (arg 1 slotS .empty) (by decide) slot_may m1).mono ?_
            rintro e w4 ⟨rfl, h4⟩
            rw [Hnn.out]
            have h5 := (show Sep W w4 (docA p (D.made 1 slotS .empty []) :: blk gs 54 (arrOf 3 (fun j => if j < i then 11 + (j : Int) else 0)) :: rs) from h4).swap
            have cs := (h5.blk_cell i).trans (arrOf_get hi3)
            have fs := h5.blk_frozen i
            have H6 := Lib.hid (Harr.out _ h5)
            clear h4 h5
            go_wp2_with fail
            go_roundw
            case rel => exact ⟨i + 1, _, rfl, hi3, M2.out, HD1.out, H6.out⟩
            case measure => simp [intOf]; omega
          · have e3 : i = 3 := by omega
            have t1 : decide ((i : Int) < 3) = false := by simp; omega
            rw [e3] at hG HS
            clear e3
            have Hg3 := Lib.hid hG
            have Hd0 := Lib.hid hD0
            have HSx := Lib.hid (show Sep W (wr.alloc (.cells #[int 0, int 0, int 0, int 0, int 0, int 0, int 0, int 0, int 0, int 0, int 0] 55)) (blk wr.heap.size 55 (arrOf 11 (fun _ => 0)) :: blk gs 54 (arrOf 3 s3) :: docA p D :: rs) from HS.out.blk_new (arrOf 11 (fun _ => 0)) 55)
            obtain ⟨gl, hgl⟩ : ∃ gl, gl = wr.heap.size := ⟨_, rfl⟩
            clear hS hG hD0
            go_wp2_with fail
            rw [← hgl]
            have HS2 := Lib.hid (hgl ▸ HSx.out.swap.third : Sep W (wr.alloc (.cells #[int 0, int 0, int 0, int 0, int 0, int 0, int 0, int 0, int 0, int 0, int 0] 55)) (docA p D :: blk gs 54 (arrOf 3 s3) :: blk gl 55 (arrOf 11 (fun _ => 0)) :: rs))
            clear hgl HSx HS
            go_loopw [9] (fun v wr => ∃ (i : Nat) (D : Doc) (f : Nat → Int), v = int i ∧ i ≤ ll.length ∧ Giv D 3 ∧ Told D f ∧ Sep W wr (docA p D :: blk gs 54 (arrOf 3 s3) :: blk gl 55 (arrOf 11 f) :: rs)) (fun v _ => ll.length - (intOf v).toNat)
            case atStart => exact ⟨0, D, fun _ => 0, rfl, Nat.zero_le _, Hg3.out, fun x h1 h2 => by rw [Hd0.out x (by omega) (by omega)]; rfl, HS2.out⟩
            case round =>
              obtain ⟨i, D, f, rfl, hi, hG, hTo, hS⟩ := hrel
              have HS := Lib.hid hS
              have HG := Lib.hid hG
              have HTo := Lib.hid hTo
              have Hw := Lib.hid (docA_open hS).1
              clear HS2 Hg3 Hd0
              by_cases hil : i < ll.length
              · have t2 : decide ((i : Int) < ll.length) = true := by simp; omega
                obtain ⟨r, hr⟩ : ∃ r, r = i % 3 := ⟨_, rfl⟩
                have hr3 : r < 3 := by omega
                have hri : (i : Int).tmod 3 = (r : Int) := by rw [Int.tmod_eq_emod_of_nonneg (by omega)]; omega
                have hri2 : (i : Int) % 3 = (r : Int) := by omega
                have cs : _ = some (int (s3 r)) := (hS.swap.blk_cell r).trans (arrOf_get hr3)
                have hs3 : s3 r = 11 + (r : Int) := by unfold s3; rw [if_pos hr3]
                rw [hs3] at cs
                obtain ⟨k, hk⟩ : ∃ k : Int, k = 11 + (r : Int) := ⟨_, rfl⟩
                rw [← hk] at cs
                have hk1 : 11 ≤ k := by omega
                have hk2 : k < 14 := by omega
                have hwr : IntKind.i64.wrap ((i : Int) + 1) = ((i + 1 : Nat) : Int) := by rw [IntKind.wrap_i64]; omega
                clear hS hG hTo hr hs3 hk
                go_wp2_with fail
                go_loopw [12] (fun v wr => ∃ j : Nat, v = int j ∧ j ≤ 11 ∧ Sep W wr (docA p D :: blk gs 54 (arrOf 3 s3) :: blk gl 55 (arrOf 11 (fun x => if x < j ∧ f x = k then 0 else f x)) :: rs)) (fun v _ => 11 - (intOf v).toNat)
                case atStart => exact ⟨0, rfl, Nat.zero_le _, by simpa using HS.out⟩
                case round =>
                  obtain ⟨j, rfl, hj, hS⟩ := hrel
                  have HSj := Lib.hid hS
                  by_cases hj11 : j < 11
                  · have t3 : decide ((j : Int) < 11) = true := by simp; omega
                    have hc := hS.third.blk_cell j
                    rw [arrOf_get hj11, if_neg (fun h => by omega)] at hc
                    have hfz := hS.third.blk_frozen j
                    have hwr2 : IntKind.i64.wrap ((j : Int) + 1) = ((j + 1 : Nat) : Int) := by rw [IntKind.wrap_i64]; omega
                    by_cases hfk : f j = k
                    · have t4 : (f j == k) = true := by simpa using hfk
                      have hst := hS.third.blk_set j (int 0)
                      rw [arrOf_set, arrOf_congr (g := fun x => if x < j + 1 ∧ f x = k then 0 else f x) (fun x _ => by
                        by_cases h1 : x = j
                        · subst h1; simp [hfk]
                        · by_cases h2 : x < j <;> by_cases h3 : f x = k <;> simp [h1, h2, h3] <;> omega)] at hst
                      have Hst := Lib.hid hst.back2
                      clear hS hst
                      go_wp2_with fail
                      go_roundw
                      case rel => exact ⟨j + 1, rfl, hj11, Hst.out⟩
                      case measure => simp [intOf]; omega
                    · have t4 : (f j == k) = false := by simpa using hfk
                      have e : arrOf 11 (fun x => if x < j ∧ f x = k then 0 else f x) = arrOf 11 (fun x => if x < j + 1 ∧ f x = k then 0 else f x) := arrOf_congr fun x _ => by
                        by_cases h1 : x = j
                        · subst h1; simp [hfk]
                        · by_cases h2 : x < j <;> by_cases h3 : f x = k <;> simp [h2, h3] <;> omega
                      have He := Lib.hid e
                      clear hS e hfk
                      go_wp2_with fail
                      go_roundw
                      case rel => exact ⟨j + 1, rfl, hj11, He.out ▸ HSj.out⟩
                      case measure => simp [intOf]; omega
                  · have e11 : j = 11 := by omega
                    have t3 : decide ((j : Int) < 11) = false := by simp; omega
                    rw [e11] at HSj
                    clear e11
                    rw [arrOf_congr (n := 11) (f := fun x => if x < 11 ∧ f x = k then 0 else f x) (g := fun x => if f x = k then 0 else f x) (fun x hx => by by_cases h : f x = k <;> simp [h, hx])] at HSj
                    clear hS HS
                    obtain ⟨b0, o0, rfl, hat⟩ := HL.out.at (by omega)
                    obtain ⟨u, cu, hrow, hcell⟩ := hat i hil
                    have hrl := total_at hil
                    have hrl2 : (ll[i]).length ≤ 150 := by have := Htot.out; omega
                    have Hrow := Lib.hid hrow
                    have hcell' : ∀ (w' : World) (rs' : List Res), Sep W w' rs' → w'.cell? ⟨b0, o0 + i, none⟩ = some (.slice u (ll[i]).length cu) := fun w' rs' h => hcell h
                    have Hcell := Lib.hid hcell'
                    obtain ⟨row, hrw⟩ : ∃ row, row = ll[i] := ⟨_, rfl⟩
                    rw [← hrw] at Hrow Hcell hrl2
                    clear hat hcell hcell' hrow hrl hrw
                    have HSn := Lib.hid (HSj.out.nilRow TInt 1 none)
                    have HSm := Lib.hid (show Sep W _ (irow (.slice none 0 0) [] :: docA p D :: blk gs 54 (arrOf 3 s3) :: blk gl 55 (arrOf 11 (fun x => if f x = k then 0 else f x)) :: rs) from HSn.out)
                    obtain ⟨f1, hf1⟩ : ∃ f1 : Nat → Int, f1 = fun x => if f x = k then 0 else f x := ⟨_, rfl⟩
                    have Hf1 := Lib.hid hf1
                    rw [← hf1] at HSm
                    clear hf1 HSn HSj
                    go_wp2_with fail
                    go_loopw [11, 13] (fun gv v wr => ∃ j : Nat, v = int j ∧ j ≤ row.length ∧ Sep W wr (irow gv ((row.take j).map oneOf) :: docA p D :: blk gs 54 (arrOf 3 s3) :: blk gl 55 (arrOf 11 (fun x => if (x : Int) ∈ (row.take j).map oneOf then k else f1 x)) :: rs)) (fun _ v _ => row.length - (intOf v).toNat)
                    case atStart => exact ⟨0, rfl, Nat.zero_le _, by simpa using HSm.out⟩
                    case round =>
                      obtain ⟨j, rfl, hj, hS⟩ := hrel
                      obtain ⟨ag, cg, rfl⟩ := hS.irow_form
                      have HSj := Lib.hid hS
                      have d0 := Hcell.out _ _ hS
                      clear HSm
                      by_cases hjr : j < row.length
                      · have t3 : decide ((j : Int) < row.length) = true := by simp; omega
                        obtain ⟨b1, o1, rfl, hat⟩ := Hrow.out.at (by omega)
                        have d1 := hat j row[j] hS (by simp [hjr])
                        have hyb := bounds_u8 (Hrow.out.1 row[j] (List.getElem_mem hjr))
                        obtain ⟨y, hy⟩ : ∃ y, y = row[j] := ⟨_, rfl⟩
                        rw [← hy] at d1 hyb
                        obtain ⟨x, hx1, hx2, hx3, hx4, hx5⟩ := oneOf_nat y hyb.1
                        have hnext : (row.take (j + 1)).map oneOf = (row.take j).map oneOf ++ [(x : Int)] := by
                          rw [List.take_succ_eq_append_getElem hjr, List.map_append, List.map_cons, List.map_nil, ← hy, hx3]
                        have hlen : ((row.take j).map oneOf).length = j := by rw [List.length_map, List.length_take]; omega
                        have hwr2 : IntKind.i64.wrap ((j : Int) + 1) = ((j + 1 : Nat) : Int) := by rw [IntKind.wrap_i64]; omega
                        have hx11 : x < 11 := by omega
                        obtain ⟨xs, hxs⟩ : ∃ xs, xs = (row.take j).map oneOf := ⟨_, rfl⟩
                        rw [← hxs] at hnext hlen HSj hS
                        have HN := Lib.hid hnext
                        have hb1 : xs.length + 1 ≤ maxLen := by rw [hlen]; unfold maxLen; omega
                        have hb2 : (xs.length + 1) * 8 ≤ 140737488355328 := by rw [hlen]; omega
                        have hn1 : ∀ u ∈ [int (x : Int)], u.oneCell' = true := by intro u hu; rw [List.mem_singleton.1 hu]; rfl
                        clear hS hat hnext hlen hx3 hy
                        rw [← hxs]
                        clear hxs
                        go_wp2_with (at_builtin; refine wpList_app rfl _ _ 29 rfl Tryd.underlying29 hi0 hz0 hz1 hz2 rfl (by decide) rfl (HSj.out.alloc _) _ _ _ [int (x : Int)] rfl (src_new _ _ _) hn1 hb1 hb2 ?_; intro v' w' h'; have H5 := Lib.hid h'; clear h'; refine halt ?_)
                        have h6 : Sep W w' (irow v' (xs ++ [(x : Int)]) :: docA p D :: blk gs 54 (arrOf 3 s3) :: blk gl 55 (arrOf 11 (fun x => if (x : Int) ∈ xs then k else f1 x)) :: rs) := by simpa [irow, icells_snoc] using H5.out
                        obtain ⟨ag2, cg2, rfl⟩ := h6.irow_form
                        have e0 := (h6.fourth.blk_cell x).trans (arrOf_get hx11)
                        have ef := h6.fourth.blk_frozen x
                        have h7 := (h6.fourth.blk_set x (int k)).back3
                        rw [arrOf_set, arrOf_congr (n := 11) (f := fun i => if i = x then k else if (i : Int) ∈ xs then k else f1 i) (g := fun i => if (i : Int) ∈ xs ++ [(x : Int)] then k else f1 i) (fun i _ => by
                          by_cases h1 : i = x
                          · subst h1; simp
                          · by_cases h2 : (i : Int) ∈ xs
                            · simp [h1, h2]
                            · have h3 : ¬ (i : Int) = (x : Int) := fun e => h1 (by omega)
                              simp [h1, h2, h3])] at h7
                        have H7 := Lib.hid h7
                        clear h6 h7 H5 HSj
                        refine Halt.go ?_
                        go_wp2_with fail
                        go_roundw
                        case rel => exact ⟨j + 1, rfl, hjr, by rw [HN.out]; exact H7.out⟩
                        case measure => simp [intOf]; omega
                      · obtain rfl : j = row.length := by omega
                        have t3 : decide ((row.length : Int) < row.length) = false := by simp
                        rw [List.take_length] at HSj hS ⊢
                        obtain ⟨xs, hxs⟩ : ∃ xs, xs = row.map oneOf := ⟨_, rfl⟩
                        rw [← hxs] at HSj hS ⊢
                        have hlen : xs.length ≤ 200 := by rw [hxs, List.length_map]; omega
                        have hxr : ∀ x ∈ xs, 1 ≤ x ∧ x ≤ 10 := by
                          intro x hx
                          rw [hxs] at hx
                          obtain ⟨y, hy, rfl⟩ := List.mem_map.1 hx
                          obtain ⟨z, z1, z2, z3, _⟩ := oneOf_nat y (bounds_u8 (Hrow.out.1 y hy)).1
                          rw [z3]; omega
                        obtain ⟨q1, q2, q3⟩ := HG.out.step Hw.out HTo.out hk1 hk2 hxr hlen
                        have Q2 := Lib.hid q2
                        have Q3 := Lib.hid q3
                        have hF1 : (fun x : Nat => if (x : Int) ∈ xs then k else f1 x) = fun x : Nat => if (x : Int) ∈ xs then k else if f x = k then 0 else f x := by rw [Hf1.out]
                        rw [hF1] at HSj
                        obtain ⟨F, hF⟩ : ∃ F : Nat → Int, F = fun x : Nat => if (x : Int) ∈ xs then k else if f x = k then 0 else f x := ⟨_, rfl⟩
                        rw [← hF] at HSj Q3
                        clear hS hxs hF1 hF q2 q3
                        go_wp2_with fail
                        refine (give_ok HSj.out.swap (l := xs) (fun h => h.tail.intsAt (by omega)) k q1).mono ?_
                        rintro e w5 ⟨rfl, h5⟩
                        have H5 := Lib.hid (show Sep W w5 (docA p (D.giveA k xs) :: blk gs 54 (arrOf 3 s3) :: blk gl 55 (arrOf 11 F) :: rs) from h5.swap.tail)
                        clear h5 HSj
                        go_wp2_with fail
                        go_loopw [15] (fun v wr => ∃ x : Nat, v = int x ∧ 1 ≤ x ∧ x ≤ 11 ∧ Sep W wr (docA p (D.giveA k xs) :: blk gs 54 (arrOf 3 s3) :: blk gl 55 (arrOf 11 F) :: rs)) (fun v _ => 11 - (intOf v).toNat)
                        case atStart => exact ⟨1, rfl, Nat.le_refl _, by omega, H5.out⟩
                        case round =>
                          obtain ⟨x, rfl, hx1, hx2, hS⟩ := hrel
                          have HSx := Lib.hid hS
                          clear H5
                          by_cases hx11 : x < 11
                          · have t4 : decide ((x : Int) ≤ 10) = true := by simp; omega
                            have e0 := (hS.third.blk_cell x).trans (arrOf_get hx11)
                            have hsl := Q3.out x hx1 (by omega)
                            have hin : (D.giveA k xs).In x := ⟨by omega, by rw [Q2.out.n]; omega⟩
                            have hwr2 : IntKind.i64.wrap ((x : Int) + 1) = ((x + 1 : Nat) : Int) := by rw [IntKind.wrap_i64]; omega
                            by_cases h0 : F x = 0
                            · rw [h0] at e0
                              rw [if_pos h0] at hsl
                              have Hsl := Lib.hid hsl
                              clear hS hsl h0
                              go_wp2_with fail
                              refine (slot_doc HSx.out x hin).mono ?_
                              rintro e w6 ⟨rfl, rfl⟩
                              rw [Hsl.out]
                              go_wp2_with fail
                              go_roundw
                              case rel => exact ⟨x + 1, rfl, by omega, by omega, HSx.out⟩
                              case measure => simp [intOf]; omega
                            · have t5 : (F x == 0) = false := by simpa using h0
                              rw [if_neg h0] at hsl
                              have Hsl := Lib.hid hsl
                              clear hS hsl h0
                              go_wp2_with fail
                              refine (slot_doc HSx.out x hin).mono ?_
                              rintro e w6 ⟨rfl, rfl⟩
                              rw [Hsl.out]
                              go_wp2_with fail
                              go_roundw
                              case rel => exact ⟨x + 1, rfl, by omega, by omega, HSx.out⟩
                              case measure => simp [intOf]; omega
                          · obtain rfl : x = 11 := by omega
                            have t4 : decide (((11 : Nat) : Int) ≤ 10) = false := by simp
                            clear hS
                            go_wp2_with fail
                            go_roundw
                            case rel => exact ⟨i + 1, _, F, rfl, hil, Q2.out, Q3.out, HSx.out⟩
                            case measure => simp [intOf]; omega
              · obtain rfl : i = ll.length := by omega
                have t2 : decide ((ll.length : Int) < ll.length) = false := by simp
                clear hS hG hTo
                go_wp2
                go_ret
                exact ⟨rfl, HS.out.tail.tail.tail⟩
end
end Go.Proofs.YtehjhigaebpfkaaDoor
