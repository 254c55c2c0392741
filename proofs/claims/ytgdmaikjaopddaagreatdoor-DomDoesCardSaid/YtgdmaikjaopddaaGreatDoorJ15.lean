/- names.Valid of a text of any size. -/
import Derived.Test.YtgdmaikjaopddaaGreatDoorJ04
namespace Go.Proofs.YtgdmaikjaopddaaGreatDoor
open Go.RowKit

theorem validB_size {s : ByteArray} (h : validB s = true) : s.size ≤ 60 := by
  unfold validB at h
  simp only [Bool.and_eq_true, Bool.not_eq_true', decide_eq_false_iff_not] at h
  have := h.1.1.2
  omega
set_option maxRecDepth 100000 in
theorem Valid_all (s : ByteArray) (w : World) : Calls Tryz.prog 97 #[.string s] w fun e w' => e = .returned (.bool (validB s)) ∧ Below w.heap.size w w' := by
  by_cases hs : s.size ≤ 1000000
  · exact Valid_any s w hs
  · have h2 : decide ((60 : Int) < (s.size : Int)) = true := by simp; omega
    have h1 : s.toList.isEmpty = false := by
      cases h1 : s.toList.isEmpty
      · rfl
      · exfalso
        rw [toList_data] at h1
        have : s.data.toList = [] := by simpa using h1
        have h3 : s.data.toList.length = 0 := by rw [this]; rfl
        have h4 : s.size = 0 := by simpa using h3
        omega
    have hv : validB s = false := by simp [validB, h2]
    have HV := Lib.hid hv
    clear hv hs
    go_enter Tryz.func97, Tryz.ntmps97
    go_wp2
    go_ret
    exact ⟨by rw [HV.out]; rfl, Below.refl _ _⟩

end Go.Proofs.YtgdmaikjaopddaaGreatDoor
