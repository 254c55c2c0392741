/- Give, Slot: on a whole document. -/
import Derived.Test.YtehjhigaebpfkaaDoorGivePure
namespace Go.Proofs.YtehjhigaebpfkaaDoor
open Go.RowKit

def slotS : ByteArray := ⟨#[115, 108, 111, 116]⟩
def Doc.slottable (A : Doc) (i : Int) : Bool := (A.nd i).kind == 1 || (A.nd i).kind == 2
noncomputable def Doc.givesE (A : Doc) (s : Int) (l : List Int) : Int :=
  if A.In s ∧ ∀ x ∈ l, A.In x then (if (A.nd s).kind = 1 ∧ ((A.nd s).name.toList == [115, 108, 111, 116]) = true then (if ∀ x ∈ l, A.slottable x = true then (if l.length ≤ 200 then 0 else 1) else 81) else 110) else 80

section
variable {W w : World} {rs : List Res} {p : Nat} {A : Doc}
theorem free_doc (h : Sep W w (docA p A :: rs)) (i : Int) (hi : A.In i) :
    Calls Tryd.prog 53 #[ptr p, int i] w fun e w' => e = .returned (.tuple #[]) ∧ Sep W w' (docA p (A.free i) :: rs) := by
  obtain ⟨hw, B, R, hl, hS⟩ := docA_open h
  have hn := hw.n_le
  obtain ⟨j, rfl, hj⟩ := icast hi.1 hi.2
  refine (free_core hS j hj (by rw [(hl.same j hi).slot]; exact hw.slot j hi) (fun s hs => ?_)).mono ?_
  · have hin : A.In s := ⟨by omega, by omega⟩
    rw [(hl.same s hin).given]
    have := hw.given_len hin
    exact ⟨hw.gnod s hin, by omega⟩
  · rintro e w' ⟨rfl, h'⟩
    have h2 : Sep W w' (docR p B (A.free j).n (A.free j).lim (freeR R j) :: rs) := by rw [free_n, free_lim]; exact h'
    exact ⟨rfl, docA_close (hw.free j) (hl.freed hi) h2⟩

set_option maxRecDepth 100000 in
theorem slottable_doc (h : Sep W w (docA p A :: rs)) (i : Int) (hi : A.In i) :
    Calls Tryd.prog 72 #[ptr p, int i] w fun e w' => e = .returned (.bool (A.slottable i)) ∧ w = w' := by
  obtain ⟨B, cap, R, av, gv, hl, c0, hc⟩ := cell_doc h
  obtain ⟨j, rfl, hj⟩ := icast hi.1 hi.2
  have u0 : w.cell? ⟨B, j * 19, none⟩ = _ := hc j 0 hj (by omega) _ rfl
  rw [(hl.same j hi).kind] at u0
  have hr : A.slottable j = ((A.nd j).kind == 1 || (A.nd j).kind == 2) := rfl
  have HR := Lib.hid hr
  clear h hc hl hr
  cases t1 : ((A.nd j).kind == 1)
  · cases t2 : ((A.nd j).kind == 2)
    all_goals
      go_enter Tryd.func72, Tryd.ntmps72
      go_wp2
      go_ret
      exact ⟨by rw [HR.out, t1, t2]; rfl, rfl⟩
  · go_enter Tryd.func72, Tryd.ntmps72
    go_wp2
    go_ret
    exact ⟨by rw [HR.out, t1]; rfl, rfl⟩

set_option maxRecDepth 100000 in
theorem gives1_doc (h : Sep W w (docA p A :: rs)) (q : Nat) (hq : w.cell? ⟨q, 0, none⟩ = some (ptr p)) (i : Int) (hi : A.In i) :
    Calls Tryd.prog 71 #[int i, .pointer (some ⟨q, 0, none⟩)] w fun e w' => e = .returned (.bool (!A.slottable i)) ∧ w = w' := by
  have H := Lib.hid h
  clear h
  go_enter Tryd.func71, Tryd.ntmps71
  go_wp2_with fail
  refine (slottable_doc H.out i hi).mono ?_
  rintro e w' ⟨rfl, rfl⟩
  go_wp2
  go_ret
  exact ⟨rfl, rfl⟩

theorem lacks_doc (h : Sep W w (docA p A :: rs)) (i : Int) : Calls Tryd.prog 41 #[ptr p, int i] w fun e w' => e = .returned (.bool (!decide (A.In i))) ∧ w = w' := by
  by_cases hi : A.In i
  · rw [decide_eq_true hi]; exact lacks_doc_no h i hi
  · rw [decide_eq_false hi]; exact lacks_doc_yes h i hi

set_option maxRecDepth 100000 in
theorem slot_doc (h : Sep W w (docA p A :: rs)) (i : Int) (hi : A.In i) :
    Calls Tryd.prog 26 #[ptr p, int i] w fun e w' => e = .returned (int (A.nd i).slot) ∧ w = w' := by
  obtain ⟨B, cap, R, av, gv, hl, c0, hc⟩ := cell_doc h
  obtain ⟨j, rfl, hj⟩ := icast hi.1 hi.2
  have u17 := hc j 17 hj (by omega) _ rfl
  rw [(hl.same j hi).slot] at u17
  have H := Lib.hid h
  clear h hc hl
  go_enter Tryd.func26, Tryd.ntmps26
  go_wp2_with fail
  refine (lacks_doc_no H.out j hi).mono ?_
  rintro e w' ⟨rfl, rfl⟩
  go_wp2
  go_ret
  exact ⟨rfl, rfl⟩

set_option maxRecDepth 100000 in
set_option maxHeartbeats 1000000 in
theorem gives_ok (h : Sep W w (docA p A :: rs)) {a : Option Addr} {c : Nat} {l : List Int} (hr : ∀ {w' : World} {r : Res}, Sep W w' (r :: rs) → IntsAt w' a l) (s : Int) (he : A.givesE s l = 0) :
    Calls Tryd.prog 51 #[ptr p, int s, .slice a l.length c] w fun e w' => e = .returned (.int .u16 0) ∧ Sep W w' (docA p A :: rs) := by
  have hb := h.blk_new #[ptr p] 22
  have hh : ∃ h1 : A.In s ∧ ∀ x ∈ l, A.In x, (A.nd s).kind = 1 ∧ ((A.nd s).name.toList == [115, 108, 111, 116]) = true ∧ (∀ x ∈ l, A.slottable x = true) ∧ l.length ≤ 200 := by
    unfold Doc.givesE at he
    split at he
    · rename_i h1
      split at he
      · rename_i h2
        split at he
        · rename_i h3
          split at he
          · rename_i h4; exact ⟨h1, h2.1, h2.2, h3, h4⟩
          · exact absurd he (by decide)
        · exact absurd he (by decide)
      · exact absurd he (by decide)
    · exact absurd he (by decide)
  obtain ⟨⟨hs, hin⟩, hk, hnm, hsl, hlen⟩ := hh
  have hq := hb.blk_cell 0
  have hI := hr hb.tail
  have hd : Sep W (w.alloc (.cells #[ptr p] 22)) (docA p A :: rs) := hb.tail
  obtain ⟨B, cap, R, av, gv, hl, c0, hc⟩ := cell_doc hd
  obtain ⟨j, rfl, hj⟩ := icast hs.1 hs.2
  have u0 : (w.alloc (.cells #[ptr p] 22)).cell? ⟨B, j * 19, none⟩ = _ := hc j 0 hj (by omega) _ rfl
  rw [(hl.same j hs).kind, hk] at u0
  have u1 := hc j 1 hj (by omega) _ rfl
  rw [(hl.same j hs).name] at u1
  have e1 : l.any (fun x => !decide (A.In x)) = false := by
    rw [List.any_eq_false]; intro x hx; simp [hin x hx]
  have e2 : l.any (fun x => !A.slottable x) = false := by
    rw [List.any_eq_false]; intro x hx; simp [hsl x hx]
  have E1 := Lib.hid e1
  have E2 := Lib.hid e2
  have HI := Lib.hid hI
  have HD := Lib.hid hd
  have Hin := Lib.hid hin
  have t3 : decide ((l.length : Int) > 200) = false := by simp; omega
  have hq' : (w.alloc (.cells #[ptr p] 22)).cell? ⟨w.heap.size, 0, none⟩ = some (ptr p) := hq
  have Hq := Lib.hid hq'
  clear h hb hr he hk hsl hin hq hI hd hc hl e1 e2
  go_enter Tryd.func51, Tryd.ntmps51
  go_wp2_with fail
  refine (lacks_doc_no HD.out j hs).mono ?_
  rintro e w1 ⟨rfl, hw1⟩
  have HD1 := Lib.hid (hw1 ▸ HD.out : Sep W w1 (docA p A :: rs))
  have HI1 := Lib.hid (hw1 ▸ HI.out : IntsAt w1 a l)
  rw [hw1] at u0 u1 c0 Hq hq'
  generalize w.heap.size = q at *
  clear hw1 HD HI
  go_wp2_with fail
  refine (contains_lacks p (fun x => !decide (A.In x)) a c l w1 HI1.out (fun y _ => lacks_doc HD1.out y)).mono ?_
  rintro e w2 ⟨rfl, rfl⟩
  rw [E1.out]
  go_wp2_with fail
  refine (contains_gives q (fun x => !A.slottable x) a c l w1 HI1.out (fun y hy => gives1_doc HD1.out q Hq.out y (Hin.out y hy))).mono ?_
  rintro e w2 ⟨rfl, rfl⟩
  rw [E2.out]
  go_wp2
  go_ret
  exact ⟨rfl, HD1.out⟩
end
end Go.Proofs.YtehjhigaebpfkaaDoor
