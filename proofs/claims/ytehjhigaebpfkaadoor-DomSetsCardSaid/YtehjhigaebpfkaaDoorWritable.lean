/- tree.writable: may an attribute be written. -/
import Derived.Test.YtehjhigaebpfkaaDoorLower
namespace Go.Proofs.YtehjhigaebpfkaaDoor
open Go.RowKit

def oddS : ByteArray := ⟨#[0, 32, 9, 10, 12, 47, 62, 61]⟩
theorem oddS_asc : Asc oddS := by
  intro b hb
  have : oddS.data.toList = [0, 32, 9, 10, 12, 47, 62, 61] := rfl
  rw [this] at hb
  simp only [List.mem_cons, List.not_mem_nil, or_false] at hb
  rcases hb with rfl | rfl | rfl | rfl | rfl | rfl | rfl | rfl <;> decide
/-- may an attribute be written -/
def writB (n v : ByteArray) : Bool := !n.toList.isEmpty && decide ((n.size : Int) ≤ 60) && decide ((v.size : Int) ≤ 2000) && !(Lib.containsAny n.data.toList oddS.data.toList) && decide ((bytesOf n).map lowB = bytesOf n)

theorem bytes_inj {a b : ByteArray} (h : bytesOf a = bytesOf b) : a.toList = b.toList := by
  rw [toList_data, toList_data]
  have hi : Function.Injective (fun b : UInt8 => (b.toNat : Int)) := fun x y h => by
    have : x.toNat = y.toNat := Int.ofNat_inj.1 h
    exact UInt8.toNat_inj.1 this
  exact List.map_inj_right (fun _ _ h => hi h) |>.1 h

theorem low_eq {t n : ByteArray} (h : bytesOf t = (bytesOf n).map lowB) : (t.toList == n.toList) = decide ((bytesOf n).map lowB = bytesOf n) := by
  rw [← h]
  by_cases e : bytesOf t = bytesOf n
  · rw [decide_eq_true e, bytes_inj e]; simp
  · rw [decide_eq_false e]
    simp only [beq_eq_false_iff_ne, ne_eq]
    intro h2
    apply e
    unfold bytesOf
    rw [← toList_data, ← toList_data, h2]

theorem alloc_drewN (w : World) (o : Obj) (m : Nat) : Below w.heap.size w ((w.alloc o).drewN m) := by
  have h := (Below.refl w.heap.size w).alloc (Nat.le_refl _) o
  exact ⟨h.os, h.tape, h.output, h.size, h.block⟩
theorem keepW {w1 w2 : World} {g : Nat} {a b : Value} (h : w1.cell? ⟨g, 0, none⟩ = some a ∧ w1.cell? ⟨g, 1, none⟩ = some b) (hb : Below w1.heap.size w1 w2) (hg : g < w1.heap.size) : w2.cell? ⟨g, 0, none⟩ = some a ∧ w2.cell? ⟨g, 1, none⟩ = some b :=
  ⟨(hb.cell (p := ⟨g, 0, none⟩) hg).trans h.1, (hb.cell (p := ⟨g, 1, none⟩) hg).trans h.2⟩

set_option maxRecDepth 100000 in
set_option maxHeartbeats 2000000 in
theorem writable_part (n v : ByteArray) (w : World) (h4 : Lib.containsAny n.data.toList oddS.data.toList = false) : Calls Tryd.prog 87 #[.agg #[.string n, .string v]] w fun e w' => e = .returned (.bool (writB n v)) ∧ Below w.heap.size w w' := by
  cases h1 : n.toList.isEmpty
  · by_cases h2 : (n.size : Int) ≤ 60
    · by_cases h3 : (v.size : Int) ≤ 2000
      · have c1 := fun w => containsAny_any n oddS w (by decide) (by decide) (by omega) oddS_asc
        have c2 := fun w => Lower_any n w (by omega)
        have hv : writB n v = (!(Lib.containsAny n.data.toList oddS.data.toList) && decide ((bytesOf n).map lowB = bytesOf n)) := by simp [writB, h1, h2, h3]
        have HV := Lib.hid hv
        clear hv
        have hbw : Below w.heap.size w ((w.alloc (.cells #[.string n, .string v] 45)).drew) := alloc_drewN w _ 1
        have hS0 : ((w.alloc (.cells #[.string n, .string v] 45)).drew).cell? ⟨w.heap.size, 0, none⟩ = some (.string n) ∧ ((w.alloc (.cells #[.string n, .string v] 45)).drew).cell? ⟨w.heap.size, 1, none⟩ = some (.string v) := ⟨World.cell?_alloc_at _ _ _ _ (by simp), World.cell?_alloc_at _ _ _ _ (by simp)⟩
        have hg : w.heap.size < ((w.alloc (.cells #[.string n, .string v] 45)).drew).heap.size := by simp
        have HBW := Lib.hid hbw
        have HS0 := Lib.hid hS0
        have Hg := Lib.hid hg
        have g0 : (w.alloc (.cells #[.string n, .string v] 45)).cell? ⟨w.heap.size, 0, none⟩ = some (.string n) := hS0.1
        have g1 : (w.alloc (.cells #[.string n, .string v] 45)).cell? ⟨w.heap.size, 1, none⟩ = some (.string v) := hS0.2
        clear hbw hS0 hg
        have C1 := Lib.hid c1
        have C2 := Lib.hid c2
        clear c1 c2
        go_enter Tryd.func87, Tryd.ntmps87
        go_wp2_with fail
        generalize w.alloc (.cells #[.string n, .string v] 45) = w0 at *
        go_region_held3 (fun w' => w'.cell? ⟨w.heap.size, 0, none⟩ = some (.string n) ∧ w'.cell? ⟨w.heap.size, 1, none⟩ = some (.string v))
          (first
            | with_reducible exact HS0.out
            | with_reducible exact keepW HS0.out hb1 Hg.out
            | with_reducible exact keepW (keepW HS0.out hb1 Hg.out) hb2 Hg1.out)
          ((first
            | (go_at_call 97; refine (C1.out _).mono ?_; rintro e w1 ⟨rfl, hb1⟩; rw [h4]; have Hg1 := Lib.hid (Nat.lt_of_lt_of_le Hg.out hb1.size))
            | (go_at_call 98; refine (C2.out _).mono ?_; rintro e w2 ⟨⟨t, rfl, ht⟩, hb2⟩; have hle := low_eq ht)))
        go_wp2
        go_ret
        refine ⟨?_, ?_⟩
        · rw [HV.out, h4]; rfl
        · exact (HBW.out.trans (hb1.mono (Nat.le_of_lt Hg.out))).trans (hb2.mono (Nat.le_of_lt Hg1.out))
      · have hv : writB n v = false := by simp [writB, h3]
        have e3 : decide ((v.size : Int) ≤ 2000) = false := decide_eq_false h3
        have e2 : decide ((n.size : Int) ≤ 60) = true := decide_eq_true h2
        have HV := Lib.hid hv
        clear hv
        go_enter Tryd.func87, Tryd.ntmps87
        go_wp2
        go_quiet (fail)
        go_wp2
        go_ret
        exact ⟨by rw [HV.out]; rfl, alloc_drewN _ _ _⟩
    · have hv : writB n v = false := by simp [writB, h2]
      have e2 : decide ((n.size : Int) ≤ 60) = false := decide_eq_false h2
      have HV := Lib.hid hv
      clear hv
      go_enter Tryd.func87, Tryd.ntmps87
      go_wp2
      go_quiet (fail)
      go_wp2
      go_ret
      exact ⟨by rw [HV.out]; rfl, alloc_drewN _ _ _⟩
  · have hv : writB n v = false := by simp [writB, h1]
    have HV := Lib.hid hv
    clear hv
    go_enter Tryd.func87, Tryd.ntmps87
    go_wp2
    go_quiet (fail)
    go_wp2
    go_ret
    exact ⟨by rw [HV.out]; rfl, alloc_drewN _ _ _⟩
end Go.Proofs.YtehjhigaebpfkaaDoor
