/- SameInts: are two rows of numbers alike. -/
import Derived.Test.YtgdmaikjaopddaaGreatDoorJ09
namespace Go.Proofs.YtgdmaikjaopddaaGreatDoor
open Go.RowKit

section
variable {W w : World} {rs : List Res}
theorem same_step {a b : List Int} {j : Nat} (hl : a.length = b.length) (hj : j < a.length) (hp : a.take j = b.take j) : (a.take (j + 1) = b.take (j + 1)) ↔ a[j] = b[j]'(hl ▸ hj) := by
  have hb : j < b.length := hl ▸ hj
  rw [List.take_succ_eq_append_getElem hj, List.take_succ_eq_append_getElem hb, hp]
  exact ⟨fun h => by have := List.append_cancel_left h; injection this, fun h => by rw [h]⟩

set_option maxRecDepth 100000 in
set_option maxHeartbeats 1000000 in
theorem sameInts_any {v1 v2 : Value} {a b : List Int} (h : Sep W w (irow v1 a :: irow v2 b :: rs)) (ha : a.length ≤ 1000000) :
    Calls Tryz.prog 16 #[v1, v2] w fun e w' => e = .returned (.bool (decide (a = b))) ∧ Sep W w' (irow v1 a :: irow v2 b :: rs) := by
  have H := Lib.hid h
  obtain ⟨A1, c1, rfl⟩ := h.irow_form
  obtain ⟨A2, c2, rfl⟩ := h.tail.irow_form
  by_cases hl : a.length = b.length
  · have e1 : ((a.length : Int) != b.length) = false := by simp [hl]
    clear h
    go_enter Tryz.func16, Tryz.ntmps16
    go_wp2_with fail
    go_loopw [5] (fun v wr => ∃ i : Nat, v = int i ∧ i ≤ a.length ∧ a.take i = b.take i ∧ Sep W wr (irow (.slice A1 a.length c1) a :: irow (.slice A2 b.length c2) b :: rs)) (fun v _ => a.length - (intOf v).toNat)
    case atStart => exact ⟨0, rfl, Nat.zero_le _, by simp, H.out⟩
    case round =>
      obtain ⟨i, rfl, hi, hp, hS⟩ := hrel
      by_cases hia : i < a.length
      · have hib : i < b.length := hl ▸ hia
        obtain ⟨g1, k1, hv1, hc1⟩ := hS.irow_open (by omega)
        obtain ⟨g2, k2, hv2, hc2⟩ := hS.tail.irow_open (by omega)
        obtain ⟨rfl, rfl⟩ : A1 = some ⟨g1, 0, none⟩ ∧ c1 = k1 := by injection hv1 with h1 _ h3; exact ⟨h1, h3⟩
        obtain ⟨rfl, rfl⟩ : A2 = some ⟨g2, 0, none⟩ ∧ c2 = k2 := by injection hv2 with h1 _ h3; exact ⟨h1, h3⟩
        have u1 : wr.cell? ⟨g1, i, none⟩ = some (int a[i]) := hc1 i _ (by simp [hia])
        have u2 : wr.cell? ⟨g2, i, none⟩ = some (int b[i]) := hc2 i _ (by simp [hib])
        have t1 : decide ((i : Int) < a.length) = true := by simp; omega
        have hst := same_step hl hia hp
        have HS := Lib.hid hS
        have hwr : IntKind.i64.wrap ((i : Int) + 1) = ((i + 1 : Nat) : Int) := by rw [IntKind.wrap_i64]; omega
        clear hS hv1 hv2 hc1 hc2
        by_cases he : a[i] = b[i]
        · have t2 : (a[i] != b[i]) = false := by simpa using he
          have hp' := Lib.hid (hst.2 he)
          clear hst he
          go_wp2_with fail
          go_quiet (fail)
          go_wp2_with fail
          go_roundw
          case rel => exact ⟨i + 1, rfl, hia, hp'.out, HS.out.drewN _⟩
          case measure => simp [intOf]; omega
        · have t2 : (a[i] != b[i]) = true := by simpa using he
          have hne : decide (a = b) = false := by
            simp only [decide_eq_false_iff_not]
            rintro rfl
            exact he rfl
          have Hne := Lib.hid hne
          clear hst he hne
          go_wp2_with fail
          go_quiet (fail)
          go_wp2
          go_ret
          exact ⟨by rw [Hne.out]; rfl, HS.out.drewN _⟩
      · obtain rfl : i = a.length := by omega
        have t1 : decide ((a.length : Int) < a.length) = false := by simp
        have hab : a = b := by rw [List.take_length, hl, List.take_length] at hp; exact hp
        have Hab := Lib.hid (show decide (a = b) = true by simpa using hab)
        have HS := Lib.hid hS
        clear hS hab hp
        go_wp2
        go_ret
        exact ⟨by rw [Hab.out]; rfl, HS.out⟩
  · have e1 : ((a.length : Int) != b.length) = true := by simpa using fun h => hl (by omega)
    have hne : decide (a = b) = false := by
      simp only [decide_eq_false_iff_not]
      rintro rfl
      exact hl rfl
    have Hne := Lib.hid hne
    clear h hne
    go_enter Tryz.func16, Tryz.ntmps16
    go_wp2
    go_ret
    exact ⟨by rw [Hne.out]; rfl, H.out⟩
end
end Go.Proofs.YtgdmaikjaopddaaGreatDoor
