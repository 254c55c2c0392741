/- tree.writable at a name with an odd sign. -/
import Derived.Test.YtehjhigaebpfkaaDoorWritable
import Derived.Test.YtehjhigaebpfkaaDoorLater
namespace Go.Proofs.YtehjhigaebpfkaaDoor
open Go.RowKit

set_option maxRecDepth 100000 in
set_option maxHeartbeats 2000000 in
theorem writable_dry (n v : ByteArray) (w : World) (h : n.toList.isEmpty = true ∨ ¬ (n.size : Int) ≤ 60 ∨ ¬ (v.size : Int) ≤ 2000) : Calls Tryd.prog 87 #[.agg #[.string n, .string v]] w fun e w' => e = .returned (.bool (writB n v)) ∧ Below w.heap.size w w' := by
  have hv : writB n v = false := by
    unfold writB
    rcases h with h | h | h <;> simp [h]
  have HV := Lib.hid hv
  clear hv
  cases h1 : n.toList.isEmpty
  · by_cases h2 : (n.size : Int) ≤ 60
    · have h3 : ¬ (v.size : Int) ≤ 2000 := by
        rcases h with h | h | h
        · rw [h1] at h; cases h
        · exact absurd h2 h
        · exact h
      have e3 : decide ((v.size : Int) ≤ 2000) = false := decide_eq_false h3
      have e2 : decide ((n.size : Int) ≤ 60) = true := decide_eq_true h2
      clear h
      go_enter Tryd.func87, Tryd.ntmps87
      go_wp2
      go_quiet (fail)
      go_wp2
      go_ret
      exact ⟨by rw [HV.out]; rfl, alloc_drewN _ _ _⟩
    · have e2 : decide ((n.size : Int) ≤ 60) = false := decide_eq_false h2
      clear h
      go_enter Tryd.func87, Tryd.ntmps87
      go_wp2
      go_quiet (fail)
      go_wp2
      go_ret
      exact ⟨by rw [HV.out]; rfl, alloc_drewN _ _ _⟩
  · clear h
    go_enter Tryd.func87, Tryd.ntmps87
    go_wp2
    go_quiet (fail)
    go_wp2
    go_ret
    exact ⟨by rw [HV.out]; rfl, alloc_drewN _ _ _⟩

set_option maxRecDepth 100000 in
set_option maxHeartbeats 2000000 in
theorem writable_odd (n v : ByteArray) (w : World) (h4 : Lib.containsAny n.data.toList oddS.data.toList = true) (h1 : n.toList.isEmpty = false) (h2 : (n.size : Int) ≤ 60) (h3 : (v.size : Int) ≤ 2000) : Calls Tryd.prog 87 #[.agg #[.string n, .string v]] w fun e w' => e = .returned (.bool (writB n v)) ∧ Below w.heap.size w w' := by
  have c1 := fun w => containsAny_any n oddS w (by decide) (by decide) (by omega) oddS_asc
  rw [h4] at c1
  have hv : writB n v = false := by simp [writB, h4]
  have HV := Lib.hid hv
  clear hv h4
  obtain ⟨w0, hw0⟩ : ∃ w0, w0 = w.alloc (.cells #[.string n, .string v] 45) := ⟨_, rfl⟩
  have HBW := Lib.hid (show Below w.heap.size w w0 from hw0 ▸ alloc_drewN w _ 0)
  have g0 : ∀ p : Later w0, p.w.cell? ⟨w.heap.size, 0, none⟩ = some (.string n) := fun p => p.cell (hw0 ▸ World.cell?_alloc_at _ _ _ _ (by simp))
  have g1 : ∀ p : Later w0, p.w.cell? ⟨w.heap.size, 1, none⟩ = some (.string v) := fun p => p.cell (hw0 ▸ World.cell?_alloc_at _ _ _ _ (by simp))
  have C1 := Lib.hid c1
  have HW0 := Lib.hid hw0
  clear c1 hw0
  go_enter Tryd.func87, Tryd.ntmps87
  go_wp2_with fail
  rw [← HW0.out]
  refine wp_region_later (by kernel_rfl) (by kernel_rfl) ?_
  repeat (go_big_quiet_step ((go_at_call 97; exact Calls.later fun w _ => C1.out w)))
  refine wpQuiet_nil ?_
  rintro w1 ⟨⟨_, hb1⟩, rfl⟩
  clear g0 g1
  go_wp2
  go_ret
  exact ⟨by rw [HV.out]; rfl, HBW.out.trans (hb1.mono HBW.out.size)⟩

theorem writable_any (n v : ByteArray) (w : World) : Calls Tryd.prog 87 #[.agg #[.string n, .string v]] w fun e w' => e = .returned (.bool (writB n v)) ∧ Below w.heap.size w w' := by
  cases h4 : Lib.containsAny n.data.toList oddS.data.toList
  · exact writable_part n v w h4
  · cases h1 : n.toList.isEmpty
    · by_cases h2 : (n.size : Int) ≤ 60
      · by_cases h3 : (v.size : Int) ≤ 2000
        · exact writable_odd n v w h4 h1 h2 h3
        · exact writable_dry n v w (.inr (.inr h3))
      · exact writable_dry n v w (.inr (.inl h2))
    · exact writable_dry n v w (.inl h1)
end Go.Proofs.YtehjhigaebpfkaaDoor
