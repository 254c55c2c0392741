/- What may be made: package tree's Sound of one item without attributes, and package dom's right. -/
import Derived.Test.YtehjhigaebpfkaaDoorNames
namespace Go.Proofs.YtehjhigaebpfkaaDoor
open Go.RowKit

def itemVal (k : Int) (nm da : ByteArray) (A : Option Addr) (n c : Nat) : Value := .agg #[int 0, .int .u8 k, .string nm, .string da, .slice A n c]

set_option maxRecDepth 100000 in
theorem many_any (k : Int) (nm da : ByteArray) (A : Option Addr) (n c : Nat) (w : World) :
    Calls Tryd.prog 90 #[itemVal k nm da A n c] w fun e w' => e = .returned (.bool (decide ((n : Int) > 50))) ∧ Below w.heap.size w w' := by
  unfold itemVal
  go_enter Tryd.func90, Tryd.ntmps90
  go_wp2
  go_ret
  exact ⟨rfl, (Below.refl _ _).alloc (Nat.le_refl _) _⟩

/-- an item without attributes, by itself -/
def rightB (k : Int) (nm da : ByteArray) : Bool :=
  if k = 1 then validB nm && da.toList.isEmpty else if k = 2 then nm.toList.isEmpty && !da.toList.isEmpty else if k = 3 then nm.toList.isEmpty else if k = 6 then da.toList.isEmpty else false

set_option maxRecDepth 100000 in
theorem right_bare (k : Int) (nm da : ByteArray) (A : Option Addr) (c : Nat) (w : World) (hs : nm.size ≤ 1000000) :
    Calls Tryd.prog 68 #[itemVal k nm da A 0 c, .bool true] w fun e w' => e = .returned (.bool (rightB k nm da)) ∧ Below w.heap.size w w' := by
  unfold itemVal
  by_cases h1 : k = 1
  · subst h1
    cases hv : validB nm
    · have hr : rightB 1 nm da = false := by simp [rightB, hv]
      have HR := Lib.hid hr
      have HV := Lib.hid hv
      clear hr hv
      go_enter Tryd.func68, Tryd.ntmps68
      go_wp2
      refine wp_loop_rounds 1 ?_
      rw [rounds_succ]
      go_wp2_with fail
      refine (Valid_any _ _ hs).mono ?_
      rintro e w1 ⟨rfl, hb1⟩
      rw [HV.out]
      have hb2 : Below w.heap.size w w1 := ((Below.refl _ _).alloc (Nat.le_refl _) _).trans (hb1.mono (by simp))
      have hcl : ∀ j, j < 5 → w1.cell? ⟨w.heap.size, j, none⟩ = (#[int 0, .int .u8 1, .string nm, .string da, .slice A 0 c] : Array Value)[j]? := fun j _ => by rw [hb1.cell (by simp), cell_of_row _ _ _ _ _ _ (heap_alloc_new w _)]
      have c0 : w1.cell? ⟨w.heap.size, 0, none⟩ = some (int 0) := hcl 0 (by omega)
      have c1 : w1.cell? ⟨w.heap.size, 1, none⟩ = some (.int .u8 1) := hcl 1 (by omega)
      have c2 : w1.cell? ⟨w.heap.size, 2, none⟩ = some (.string nm) := hcl 2 (by omega)
      have c3 : w1.cell? ⟨w.heap.size, 3, none⟩ = some (.string da) := hcl 3 (by omega)
      have c4 : w1.cell? ⟨w.heap.size, 4, none⟩ = some (.slice A 0 c) := hcl 4 (by omega)
      have HB := Lib.hid hb2
      clear hb1 hb2 hcl
      go_wp2
      go_ret
      exact ⟨by rw [HR.out]; rfl, HB.out⟩
    · cases hd : da.toList.isEmpty
      · have hr : rightB 1 nm da = false := by simp [rightB, hv, hd]
        have HR := Lib.hid hr
        have HV := Lib.hid hv
        clear hr hv
        go_enter Tryd.func68, Tryd.ntmps68
        go_wp2
        refine wp_loop_rounds 1 ?_
        rw [rounds_succ]
        go_wp2_with fail
        refine (Valid_any _ _ hs).mono ?_
        rintro e w1 ⟨rfl, hb1⟩
        rw [HV.out]
        have hb2 : Below w.heap.size w w1 := ((Below.refl _ _).alloc (Nat.le_refl _) _).trans (hb1.mono (by simp))
        have hcl : ∀ j, j < 5 → w1.cell? ⟨w.heap.size, j, none⟩ = (#[int 0, .int .u8 1, .string nm, .string da, .slice A 0 c] : Array Value)[j]? := fun j _ => by rw [hb1.cell (by simp), cell_of_row _ _ _ _ _ _ (heap_alloc_new w _)]
        have c0 : w1.cell? ⟨w.heap.size, 0, none⟩ = some (int 0) := hcl 0 (by omega)
        have c1 : w1.cell? ⟨w.heap.size, 1, none⟩ = some (.int .u8 1) := hcl 1 (by omega)
        have c2 : w1.cell? ⟨w.heap.size, 2, none⟩ = some (.string nm) := hcl 2 (by omega)
        have c3 : w1.cell? ⟨w.heap.size, 3, none⟩ = some (.string da) := hcl 3 (by omega)
        have c4 : w1.cell? ⟨w.heap.size, 4, none⟩ = some (.slice A 0 c) := hcl 4 (by omega)
        have HB := Lib.hid hb2
        clear hb1 hb2 hcl
        go_wp2
        go_ret
        exact ⟨by rw [HR.out]; rfl, HB.out⟩
      · have hr : rightB 1 nm da = true := by simp [rightB, hv, hd]
        have HR := Lib.hid hr
        have HV := Lib.hid hv
        clear hr hv
        go_enter Tryd.func68, Tryd.ntmps68
        go_wp2
        refine wp_loop_rounds 1 ?_
        rw [rounds_succ]
        go_wp2_with fail
        refine (Valid_any _ _ hs).mono ?_
        rintro e w1 ⟨rfl, hb1⟩
        rw [HV.out]
        have hb2 : Below w.heap.size w w1 := ((Below.refl _ _).alloc (Nat.le_refl _) _).trans (hb1.mono (by simp))
        have hcl : ∀ j, j < 5 → w1.cell? ⟨w.heap.size, j, none⟩ = (#[int 0, .int .u8 1, .string nm, .string da, .slice A 0 c] : Array Value)[j]? := fun j _ => by rw [hb1.cell (by simp), cell_of_row _ _ _ _ _ _ (heap_alloc_new w _)]
        have c0 : w1.cell? ⟨w.heap.size, 0, none⟩ = some (int 0) := hcl 0 (by omega)
        have c1 : w1.cell? ⟨w.heap.size, 1, none⟩ = some (.int .u8 1) := hcl 1 (by omega)
        have c2 : w1.cell? ⟨w.heap.size, 2, none⟩ = some (.string nm) := hcl 2 (by omega)
        have c3 : w1.cell? ⟨w.heap.size, 3, none⟩ = some (.string da) := hcl 3 (by omega)
        have c4 : w1.cell? ⟨w.heap.size, 4, none⟩ = some (.slice A 0 c) := hcl 4 (by omega)
        have HB := Lib.hid hb2
        clear hb1 hb2 hcl
        go_wp2_with fail
        refine (many_any 1 nm da A 0 c _).mono ?_
        rintro e w2 ⟨rfl, hb3⟩
        have HB3 := Lib.hid (HB.out.trans (hb3.mono HB.out.size))
        clear hb3
        go_wp2
        go_ret
        exact ⟨by rw [HR.out]; rfl, HB3.out⟩
  · have e1 : (k == 1) = false := by simpa using h1
    by_cases h2 : k = 2
    · subst h2
      cases hn : nm.toList.isEmpty
      · have hr : rightB 2 nm da = false := by simp [rightB, hn]
        have HR := Lib.hid hr
        clear hr
        go_enter Tryd.func68, Tryd.ntmps68
        go_wp2
        all_goals go_ret
        all_goals exact ⟨by rw [HR.out]; rfl, (Below.refl _ _).alloc (Nat.le_refl _) _⟩
      · cases hd : da.toList.isEmpty
        · have hd' : (!da.toList.isEmpty) = true := by simp [hd]
          have hr : rightB 2 nm da = true := by simp [rightB, hn, hd]
          have HR := Lib.hid hr
          clear hr
          go_enter Tryd.func68, Tryd.ntmps68
          go_wp2
          all_goals go_ret
          all_goals exact ⟨by rw [HR.out]; rfl, (Below.refl _ _).alloc (Nat.le_refl _) _⟩
        · have hd' : (!da.toList.isEmpty) = false := by simp [hd]
          have hr : rightB 2 nm da = false := by simp [rightB, hn, hd]
          have HR := Lib.hid hr
          clear hr
          go_enter Tryd.func68, Tryd.ntmps68
          go_wp2
          all_goals go_ret
          all_goals exact ⟨by rw [HR.out]; rfl, (Below.refl _ _).alloc (Nat.le_refl _) _⟩
    · have e2 : (k == 2) = false := by simpa using h2
      by_cases h3 : k = 3
      · subst h3
        cases hn : nm.toList.isEmpty
        · have hr : rightB 3 nm da = false := by simp [rightB, hn]
          have HR := Lib.hid hr
          clear hr
          go_enter Tryd.func68, Tryd.ntmps68
          go_wp2
          all_goals go_ret
          all_goals exact ⟨by rw [HR.out]; rfl, (Below.refl _ _).alloc (Nat.le_refl _) _⟩
        · have hr : rightB 3 nm da = true := by simp [rightB, hn]
          have HR := Lib.hid hr
          clear hr
          go_enter Tryd.func68, Tryd.ntmps68
          go_wp2
          all_goals go_ret
          all_goals exact ⟨by rw [HR.out]; rfl, (Below.refl _ _).alloc (Nat.le_refl _) _⟩
      · have e3 : (k == 3) = false := by simpa using h3
        by_cases h6 : k = 6
        · subst h6
          cases hd : da.toList.isEmpty
          · have hr : rightB 6 nm da = false := by simp [rightB, hd]
            have HR := Lib.hid hr
            clear hr
            go_enter Tryd.func68, Tryd.ntmps68
            go_wp2
            all_goals go_ret
            all_goals exact ⟨by rw [HR.out]; rfl, (Below.refl _ _).alloc (Nat.le_refl _) _⟩
          · have hr : rightB 6 nm da = true := by simp [rightB, hd]
            have HR := Lib.hid hr
            clear hr
            go_enter Tryd.func68, Tryd.ntmps68
            go_wp2
            all_goals go_ret
            all_goals exact ⟨by rw [HR.out]; rfl, (Below.refl _ _).alloc (Nat.le_refl _) _⟩
        · have e6 : (k == 6) = false := by simpa using h6
          have hr : rightB k nm da = false := by simp [rightB, h1, h2, h3, h6]
          have HR := Lib.hid hr
          clear hr h1 h2 h3 h6
          go_enter Tryd.func68, Tryd.ntmps68
          go_wp2
          go_ret
          exact ⟨by rw [HR.out]; rfl, (Below.refl _ _).alloc (Nat.le_refl _) _⟩

/-- Sound of one item without attributes -/
theorem cell_alloc_new (w : World) (cs : Array Value) (e j : Nat) : (w.alloc (.cells cs e)).cell? ⟨w.heap.size, j, none⟩ = cs[j]? := cell_of_row _ _ _ _ _ _ (heap_alloc_new w _)

set_option maxRecDepth 100000 in
theorem sound_bare (g k' : Nat) (k : Int) (nm da : ByteArray) (A : Option Addr) (c : Nat) (w : World) (hT : Laid w) (hs : nm.size ≤ 1000000)
    (hc : ∀ j, j < 5 → w.cell? ⟨g, j, none⟩ = (#[int 0, .int .u8 k, .string nm, .string da, .slice A 0 c] : Array Value)[j]?) :
    Calls Tryd.prog 48 #[.slice (some ⟨g, 0, none⟩) 1 k'] w fun e w' => e = .returned (.bool (rightB k nm da)) ∧ Below w.heap.size w w' := by
  have c0 : w.cell? ⟨g, 0, none⟩ = some (int 0) := hc 0 (by omega)
  have c1 : w.cell? ⟨g, 1, none⟩ = some (.int .u8 k) := hc 1 (by omega)
  have c2 : w.cell? ⟨g, 2, none⟩ = some (.string nm) := hc 2 (by omega)
  have c3 : w.cell? ⟨g, 3, none⟩ = some (.string da) := hc 3 (by omega)
  have c4 : w.cell? ⟨g, 4, none⟩ = some (.slice A 0 c) := hc 4 (by omega)
  clear hc
  have HT := Lib.hid hT
  clear hT
  cases hr : rightB k nm da
  · have HR := Lib.hid hr
    clear hr
    go_enter Tryd.func48, Tryd.ntmps48
    go_wp2
    refine wp_loop_rounds 2 ?_
    rw [rounds_succ]
    go_wp2_with fail
    refine (right_bare k nm da A c _ hs).mono ?_
    rintro e w1 ⟨rfl, hb1⟩
    rw [HR.out]
    have hb2 : Below w.heap.size w w1 := ((Below.refl _ _).alloc (Nat.le_refl _) _).trans (hb1.mono (by simp))
    have HB := Lib.hid hb2
    clear hb1 hb2
    go_wp2
    go_ret
    exact ⟨rfl, HB.out⟩
  · by_cases h1 : k = 1
    · subst h1
      cases hv : voidB nm
      · have HVo := Lib.hid hv
        clear hv
        have HR := Lib.hid hr
        clear hr
        go_enter Tryd.func48, Tryd.ntmps48
        go_wp2
        refine wp_loop_rounds 2 ?_
        rw [rounds_succ]
        go_wp2_with fail
        refine (right_bare 1 nm da A c _ hs).mono ?_
        rintro e w1 ⟨rfl, hb1⟩
        rw [HR.out]
        have hb2 : Below w.heap.size w w1 := ((Below.refl _ _).alloc (Nat.le_refl _) _).trans (hb1.mono (by simp))
        have hcl : ∀ j, j < 5 → w1.cell? ⟨w.heap.size, j, none⟩ = (#[int 0, .int .u8 1, .string nm, .string da, .slice A 0 c] : Array Value)[j]? := fun j _ => by rw [hb1.cell (by simp), cell_alloc_new]
        have d0 : w1.cell? ⟨w.heap.size, 0, none⟩ = some (int 0) := hcl 0 (by omega)
        have d1 : w1.cell? ⟨w.heap.size, 1, none⟩ = some (.int .u8 1) := hcl 1 (by omega)
        have d2 : w1.cell? ⟨w.heap.size, 2, none⟩ = some (.string nm) := hcl 2 (by omega)
        have HB := Lib.hid hb2
        clear hb1 hb2 hcl
        go_wp2_with fail
        refine (Void_any nm w1 (HT.out.below HB.out)).mono ?_
        rintro e w2 ⟨rfl, hb3⟩
        rw [HVo.out]
        have HB3 := Lib.hid (HB.out.trans (hb3.mono HB.out.size))
        clear hb3
        go_wp2
        rw [rounds_succ]
        go_wp2
        go_ret
        exact ⟨rfl, HB3.out⟩
      · have HVo := Lib.hid hv
        clear hv
        have HR := Lib.hid hr
        clear hr
        go_enter Tryd.func48, Tryd.ntmps48
        go_wp2
        refine wp_loop_rounds 2 ?_
        rw [rounds_succ]
        go_wp2_with fail
        refine (right_bare 1 nm da A c _ hs).mono ?_
        rintro e w1 ⟨rfl, hb1⟩
        rw [HR.out]
        have hb2 : Below w.heap.size w w1 := ((Below.refl _ _).alloc (Nat.le_refl _) _).trans (hb1.mono (by simp))
        have hcl : ∀ j, j < 5 → w1.cell? ⟨w.heap.size, j, none⟩ = (#[int 0, .int .u8 1, .string nm, .string da, .slice A 0 c] : Array Value)[j]? := fun j _ => by rw [hb1.cell (by simp), cell_alloc_new]
        have d0 : w1.cell? ⟨w.heap.size, 0, none⟩ = some (int 0) := hcl 0 (by omega)
        have d1 : w1.cell? ⟨w.heap.size, 1, none⟩ = some (.int .u8 1) := hcl 1 (by omega)
        have d2 : w1.cell? ⟨w.heap.size, 2, none⟩ = some (.string nm) := hcl 2 (by omega)
        have HB := Lib.hid hb2
        clear hb1 hb2 hcl
        go_wp2_with fail
        refine (Void_any nm w1 (HT.out.below HB.out)).mono ?_
        rintro e w2 ⟨rfl, hb3⟩
        rw [HVo.out]
        have HB3 := Lib.hid (HB.out.trans (hb3.mono HB.out.size))
        clear hb3
        go_wp2
        rw [rounds_succ]
        go_wp2
        go_ret
        exact ⟨rfl, HB3.out⟩
    · have e1 : (k == 1) = false := by simpa using h1
      clear h1
      have HR := Lib.hid hr
      clear hr
      go_enter Tryd.func48, Tryd.ntmps48
      go_wp2
      refine wp_loop_rounds 2 ?_
      rw [rounds_succ]
      go_wp2_with fail
      refine (right_bare k nm da A c _ hs).mono ?_
      rintro e w1 ⟨rfl, hb1⟩
      rw [HR.out]
      have hb2 : Below w.heap.size w w1 := ((Below.refl _ _).alloc (Nat.le_refl _) _).trans (hb1.mono (by simp))
      have hcl : ∀ j, j < 5 → w1.cell? ⟨w.heap.size, j, none⟩ = (#[int 0, .int .u8 k, .string nm, .string da, .slice A 0 c] : Array Value)[j]? := fun j _ => by rw [hb1.cell (by simp), cell_alloc_new]
      have d0 : w1.cell? ⟨w.heap.size, 0, none⟩ = some (int 0) := hcl 0 (by omega)
      have d1 : w1.cell? ⟨w.heap.size, 1, none⟩ = some (.int .u8 k) := hcl 1 (by omega)
      have d2 : w1.cell? ⟨w.heap.size, 2, none⟩ = some (.string nm) := hcl 2 (by omega)
      have HB := Lib.hid hb2
      clear hb1 hb2 hcl
      go_wp2
      rw [rounds_succ]
      go_wp2
      go_ret
      exact ⟨rfl, HB.out⟩
end Go.Proofs.YtehjhigaebpfkaaDoor
