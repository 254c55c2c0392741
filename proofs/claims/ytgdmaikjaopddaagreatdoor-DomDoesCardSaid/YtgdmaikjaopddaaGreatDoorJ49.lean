/- SameAttrs of the document's answer: of alike rows of attributes. -/
import Derived.Test.YtgdmaikjaopddaaGreatDoorJ28
namespace Go.Proofs.YtgdmaikjaopddaaGreatDoor
open Go.RowKit

section
variable {W w : World} {rs : List Res}
set_option maxRecDepth 100000 in
set_option maxHeartbeats 1000000 in
theorem sameAttrs_at {a1 a2 : Option Addr} (c1 c2 : Nat) (l : List Attr) (w : World) (h1 : AttrsAt w a1 l) (h2 : AttrsAt w a2 l) :
    Calls Tryz.prog 54 #[.slice a1 l.length c1, .slice a2 l.length c2] w fun e w' => e = .returned (.bool true) ∧ Below w.heap.size w w' := by
  have e1 : ((l.length : Int) != l.length) = false := by simp
  have hl := h1.1
  have H1 := Lib.hid h1
  have H2 := Lib.hid h2
  clear h1 h2
  go_enter Tryz.func54, Tryz.ntmps54
  go_wp2_with fail
  go_loopw [5] (fun v wr => (∃ i : Nat, v = int i ∧ i ≤ l.length) ∧ Below w.heap.size w wr) (fun v _ => l.length - (intOf v).toNat)
  case atStart => exact ⟨⟨0, rfl, Nat.zero_le _⟩, Below.refl _ _⟩
  case round =>
    obtain ⟨⟨i, rfl, hi⟩, hb⟩ := hrel
    have HQ := Lib.hid hb
    by_cases hil : i < l.length
    · have t1 : decide ((i : Int) < l.length) = true := by simp; omega
      obtain ⟨b1, o1, rfl, u1, u2⟩ := (H1.out.keep hb).2 i hil
      obtain ⟨b2, o2, rfl, v1, v2⟩ := (H2.out.keep hb).2 i hil
      obtain ⟨x, hx⟩ : ∃ x, x = l[i].1 := ⟨_, rfl⟩
      obtain ⟨y, hy⟩ : ∃ y, y = l[i].2 := ⟨_, rfl⟩
      rw [← hx] at u1 v1
      rw [← hy] at u2 v2
      clear hx hy
      have s1 : (x.toList == x.toList) = true := by simp
      have s2 : (y.toList == y.toList) = true := by simp
      clear hb
      go_wp2_with fail
      go_quiet (fail)
      go_wp2_with fail
      go_roundw
      case rel => exact ⟨⟨i + 1, by go_num, hil⟩, Below.drewsN HQ.out _⟩
      case measure => simp [intOf]; omega
    · clear hb
      obtain rfl : i = l.length := by omega
      have t1 : decide ((l.length : Int) < l.length) = false := by simp
      go_wp2
      go_ret
      exact ⟨rfl, HQ.out⟩
theorem sameAttrs_any {v1 v2 : Value} {l : List Attr} (h : Sep W w (arow v1 l :: arow v2 l :: rs)) (hl : l.length ≤ 9223372036854775807) :
    Calls Tryz.prog 54 #[v1, v2] w fun e w' => e = .returned (.bool true) ∧ Sep W w' (arow v1 l :: arow v2 l :: rs) := by
  obtain ⟨a1, c1, rfl⟩ := Sep.arow_form h
  obtain ⟨a2, c2, rfl⟩ := Sep.arow_form h.tail
  obtain ⟨G1, g1⟩ := h.head
  obtain ⟨G2, g2⟩ := h.tail.head
  refine (sameAttrs_at c1 c2 l w (rowHolds.attrsAt g1 hl rfl) (rowHolds.attrsAt g2 hl rfl)).mono ?_
  rintro e w' ⟨he, hb⟩
  exact ⟨he, h.belowed hb⟩
end
end Go.Proofs.YtgdmaikjaopddaaGreatDoor
