/- element: an element, or why it is none. -/
import Derived.Test.YtgdmaikjaopddaaGreatDoorJ10
namespace Go.Proofs.YtgdmaikjaopddaaGreatDoor
open Go.RowKit

section
variable {W w : World} {rs : List Res} {p : Nat} {A : Doc}
set_option maxRecDepth 100000 in
theorem element_no (h : Sep W w (docA p A :: rs)) (i : Int) (hi : ¬ A.In i) :
    Calls Tryz.prog 61 #[ptr p, int i] w fun e w' => e = .returned (.tuple #[.pointer none, .int .u16 80]) ∧ w = w' := by
  have H := Lib.hid h
  clear h
  go_enter Tryz.func61, Tryz.ntmps61
  go_wp2_with (go_at_call 32; refine (lacks_doc_yes H.out i hi).mono ?_; rintro e w' ⟨rfl, rfl⟩)
  refine bodyPost_ret (v := .tuple #[.pointer none, .int .u16 80]) ?_ rfl ⟨rfl, rfl⟩
  simp [results, Tryz.results61, go_sem]

set_option maxRecDepth 100000 in
theorem element_other (h : Sep W w (docA p A :: rs)) (i : Int) (hi : A.In i) (hk : ((A.nd i).kind == 1) = false) :
    Calls Tryz.prog 61 #[ptr p, int i] w fun e w' => e = .returned (.tuple #[.pointer none, .int .u16 81]) ∧ w = w' := by
  have H := Lib.hid h
  obtain ⟨B, cap, R, av, gv, hl, c0, hc⟩ := cell_doc h
  obtain ⟨j, rfl, hj⟩ := icast hi.1 hi.2
  have u0 : w.cell? ⟨B, j * 19, none⟩ = _ := hc j 0 hj (by omega) _ rfl
  rw [(hl.same j hi).kind] at u0
  have hk2 : ((A.nd j).kind != 1) = true := by simpa using hk
  clear h hc hl
  go_enter Tryz.func61, Tryz.ntmps61
  go_wp2_with (go_at_call 32; refine (lacks_doc_no H.out j hi).mono ?_; rintro e w' ⟨rfl, rfl⟩)
  refine bodyPost_ret (v := .tuple #[.pointer none, .int .u16 81]) ?_ rfl ⟨rfl, rfl⟩
  simp [results, Tryz.results61, go_sem]

set_option maxRecDepth 100000 in
theorem element_yes (h : Sep W w (docA p A :: rs)) (j : Nat) (hj : j < A.n) (hk : ((A.nd j).kind == 1) = true) {B cap : Nat} (c0 : w.cell? ⟨p, 0, none⟩ = some (.slice (some ⟨B, 0, none⟩) A.n cap)) :
    Calls Tryz.prog 61 #[ptr p, int j] w fun e w' => e = .returned (.tuple #[.pointer (some ⟨B, j * 19, none⟩), .int .u16 0]) ∧ w = w' := by
  have H := Lib.hid h
  obtain ⟨B', cap', R, av, gv, hl, c0', hc⟩ := cell_doc h
  rw [c0] at c0'
  injection c0' with c0'
  injection c0' with e1 _ e2
  injection e1 with e1
  injection e1 with e1
  subst e1
  have hi : A.In j := ⟨by omega, by omega⟩
  have u0 : w.cell? ⟨B, j * 19, none⟩ = _ := hc j 0 hj (by omega) _ rfl
  rw [(hl.same j hi).kind] at u0
  have hk2 : ((A.nd j).kind != 1) = false := by simpa using hk
  clear h hc hl
  go_enter Tryz.func61, Tryz.ntmps61
  go_wp2_with (go_at_call 32; refine (lacks_doc_no H.out j hi).mono ?_; rintro e w' ⟨rfl, rfl⟩)
  refine bodyPost_ret (v := .tuple #[.pointer (some ⟨B, j * 19, none⟩), .int .u16 0]) ?_ rfl ⟨rfl, rfl⟩
  simp [results, Tryz.results61, go_sem]
end
end Go.Proofs.YtgdmaikjaopddaaGreatDoor
