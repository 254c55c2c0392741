/- Names that may have a shadow root: Custom and Host. -/
import Derived.Test.YtehjhigaebpfkaaDoorNames
namespace Go.Proofs.YtehjhigaebpfkaaDoor
open Go.RowKit

/-- a variable of the library holds some number -/
def MaxIs (W : World) : Prop := ∃ m, W.cell? ⟨2, 0, none⟩ = some (.int .i64 m)
theorem cell_lt {w : World} {g j : Nat} {v : Value} (h : w.cell? ⟨g, j, none⟩ = some v) : g < w.heap.size := by
  unfold World.cell? at h
  cases hgg : w.heap[g]? with
  | none => rw [hgg] at h; cases h
  | some o => exact (Array.getElem?_eq_some_iff.1 hgg).1
theorem MaxIs.below {W w : World} (h : MaxIs W) (hb : Below W.heap.size W w) : MaxIs w := by
  obtain ⟨m, hm⟩ := h
  exact ⟨m, (hb.cell (p := ⟨_, 0, none⟩) (cell_lt hm)).trans hm⟩

theorem validB_size {s : ByteArray} (h : validB s = true) : s.size ≤ 60 := by
  unfold validB at h
  simp only [Bool.and_eq_true, Bool.not_eq_true', decide_eq_false_iff_not] at h
  have := h.1.1.2
  omega
set_option maxRecDepth 100000 in
theorem Valid_all (s : ByteArray) (w : World) : Calls Tryd.prog 89 #[.string s] w fun e w' => e = .returned (.bool (validB s)) ∧ Below w.heap.size w w' := by
  by_cases hs : s.size ≤ 1000000
  · exact Valid_any s w hs
  · have h2 : decide ((60 : Int) < (s.size : Int)) = true := by simp; omega
    have h1 : s.toList.isEmpty = false := by
      cases h1 : s.toList.isEmpty
      · rfl
      · exfalso
        rw [toList_data] at h1
        have : s.data.toList = [] := by simpa using h1
        have h3 : s.data.toList.length = 0 := by rw [this]; rfl
        have h4 : s.size = 0 := by simpa using h3
        omega
    have hv : validB s = false := by simp [validB, h2]
    have HV := Lib.hid hv
    clear hv hs
    go_enter Tryd.func89, Tryd.ntmps89
    go_wp2
    go_ret
    exact ⟨by rw [HV.out]; rfl, Below.refl _ _⟩

def hostsS : ByteArray := ⟨#[97, 114, 116, 105, 99, 108, 101, 32, 97, 115, 105, 100, 101, 32, 98, 108, 111, 99, 107, 113, 117, 111, 116, 101, 32, 98, 111, 100, 121, 32, 100, 105, 118, 32, 102, 111, 111, 116, 101, 114, 32, 104, 49, 32, 104, 50, 32, 104, 51, 32, 104, 52, 32, 104, 53, 32, 104, 54, 32, 104, 101, 97, 100, 101, 114, 32, 109, 97, 105, 110, 32, 110, 97, 118, 32, 112, 32, 115, 101, 99, 116, 105, 111, 110, 32, 115, 112, 97, 110]⟩
def othersS : ByteArray := ⟨#[97, 110, 110, 111, 116, 97, 116, 105, 111, 110, 45, 120, 109, 108, 32, 99, 111, 108, 111, 114, 45, 112, 114, 111, 102, 105, 108, 101, 32, 102, 111, 110, 116, 45, 102, 97, 99, 101, 32, 102, 111, 110, 116, 45, 102, 97, 99, 101, 45, 115, 114, 99, 32, 102, 111, 110, 116, 45, 102, 97, 99, 101, 45, 117, 114, 105, 32, 102, 111, 110, 116, 45, 102, 97, 99, 101, 45, 102, 111, 114, 109, 97, 116, 32, 102, 111, 110, 116, 45, 102, 97, 99, 101, 45, 110, 97, 109, 101, 32, 109, 105, 115, 115, 105, 110, 103, 45, 103, 108, 121, 112, 104]⟩
def customB (s : ByteArray) : Bool := validB s && (Lib.contains s.data.toList [45] && !amongB othersS s)
def hostB (s : ByteArray) : Bool := customB s || amongB hostsS s

theorem others_any (s : ByteArray) (w : World) (hT : Laid w) : Calls Tryd.prog 76 #[.string othersS, .string s] w fun e w' => e = .returned (.bool (amongB othersS s)) ∧ Below w.heap.size w w' := by
  refine among_any othersS s w hT (by decide) (fun j b hb => ?_) (by decide)
  have : ∀ b ∈ othersS.data.toList, b.toNat < 128 := by decide
  exact this b (List.mem_of_getElem? hb)
theorem hosts_any (s : ByteArray) (w : World) (hT : Laid w) : Calls Tryd.prog 76 #[.string hostsS, .string s] w fun e w' => e = .returned (.bool (amongB hostsS s)) ∧ Below w.heap.size w w' := by
  refine among_any hostsS s w hT (by decide) (fun j b hb => ?_) (by decide)
  have : ∀ b ∈ hostsS.data.toList, b.toNat < 128 := by decide
  exact this b (List.mem_of_getElem? hb)

set_option maxRecDepth 100000 in
theorem Custom_any (s : ByteArray) (w : World) (hT : Laid w) (hM : MaxIs w) : Calls Tryd.prog 75 #[.string s] w fun e w' => e = .returned (.bool (customB s)) ∧ Below w.heap.size w w' := by
  have HT := Lib.hid hT
  have HM := Lib.hid hM
  have hr : customB s = (validB s && (Lib.contains s.data.toList [45] && !amongB othersS s)) := rfl
  have HR := Lib.hid hr
  clear hT hM hr
  go_enter Tryd.func75, Tryd.ntmps75
  go_wp2_with fail
  refine (Valid_all s w).mono ?_
  rintro e w1 ⟨rfl, hb1⟩
  cases hv : validB s
  · have HB := Lib.hid hb1
    clear hb1
    go_wp2
    go_ret
    exact ⟨by rw [HR.out, hv]; rfl, HB.out⟩
  · obtain ⟨m, hm⟩ := HM.out.below hb1
    have HT1 := Lib.hid (HT.out.below hb1)
    have HB := Lib.hid hb1
    clear hb1
    go_wp2_with fail
    refine (Tryd.strings_Contains s ⟨#[45]⟩ m w1 (by have := validB_size hv; omega) hm).mono ?_
    rintro e w2 ⟨rfl, rfl⟩
    have hl : (ByteArray.mk #[45]).data.toList = [45] := rfl
    rw [hl]
    cases hc : Lib.contains s.data.toList [45]
    · go_wp2
      go_ret
      exact ⟨by rw [HR.out, hv, hc]; rfl, HB.out⟩
    · clear hm
      go_wp2_with fail
      refine (others_any s _ HT1.out).mono ?_
      rintro e w3 ⟨rfl, hb3⟩
      have HB3 := Lib.hid (HB.out.trans (hb3.mono HB.out.size))
      clear hb3
      go_wp2
      go_ret
      exact ⟨by rw [HR.out, hv, hc]; rfl, HB3.out⟩

set_option maxRecDepth 100000 in
theorem Host_any (s : ByteArray) (w : World) (hT : Laid w) (hM : MaxIs w) : Calls Tryd.prog 54 #[.string s] w fun e w' => e = .returned (.bool (hostB s)) ∧ Below w.heap.size w w' := by
  have HT := Lib.hid hT
  have HM := Lib.hid hM
  have hr : hostB s = (customB s || amongB hostsS s) := rfl
  have HR := Lib.hid hr
  clear hT hM hr
  go_enter Tryd.func54, Tryd.ntmps54
  go_wp2_with fail
  refine (Custom_any s w HT.out HM.out).mono ?_
  rintro e w1 ⟨rfl, hb1⟩
  cases hv : customB s
  · have HT1 := Lib.hid (HT.out.below hb1)
    have HB := Lib.hid hb1
    clear hb1
    go_wp2_with fail
    refine (hosts_any s w1 HT1.out).mono ?_
    rintro e w3 ⟨rfl, hb3⟩
    have HB3 := Lib.hid (HB.out.trans (hb3.mono HB.out.size))
    clear hb3
    go_wp2
    go_ret
    exact ⟨by rw [HR.out, hv]; rfl, HB3.out⟩
  · have HB := Lib.hid hb1
    clear hb1
    go_wp2
    go_ret
    exact ⟨by rw [HR.out, hv]; rfl, HB.out⟩
end Go.Proofs.YtehjhigaebpfkaaDoor
