/- tree.Sound of one element with attributes. -/
import Derived.Test.YtehjhigaebpfkaaDoorRightA
namespace Go.Proofs.YtehjhigaebpfkaaDoor
open Go.RowKit

set_option maxRecDepth 100000 in
theorem sound_elem (g k' c : Nat) (nm da : ByteArray) (A : Option Addr) (l : List Attr) (w : World) (hT : Laid w) (hi : ItemAt w g 1 nm da A l.length c) (hl : AttrsAt w A l) (hlc : l.length ≤ c) :
    Calls Tryd.prog 48 #[.slice (some ⟨g, 0, none⟩) 1 k'] w fun e w' => e = .returned (.bool (elemB nm da l)) ∧ Below w.heap.size w w' := by
  obtain ⟨c0, c1, c2, c3, c4⟩ := hi.parts
  have HT := Lib.hid hT
  have HL := Lib.hid hl
  have HLC := Lib.hid hlc
  have HI := Lib.hid (show ItemAt (w.alloc (.cells #[int 0, .int .u8 1, .string nm, .string da, .slice A l.length c] 88)) w.heap.size 1 nm da A l.length c from fun j _ => cell_alloc_new _ _ _ _)
  have HB0 := Lib.hid (alloc_drewN w (.cells #[int 0, .int .u8 1, .string nm, .string da, .slice A l.length c] 88) 0)
  clear hT hl hlc hi
  cases hr : elemB nm da l
  · have HR := Lib.hid hr
    clear hr
    go_enter Tryd.func48, Tryd.ntmps48
    go_wp2
    refine wp_loop_rounds 2 ?_
    rw [rounds_succ]
    go_wp2_with fail
    refine (right_attrs A c nm da l _ (HL.out.keep HB0.out) HLC.out).mono ?_
    rintro e w1 ⟨rfl, hb1⟩
    rw [HR.out]
    have HB := Lib.hid (HB0.out.trans (hb1.mono HB0.out.size))
    clear hb1
    go_wp2
    go_ret
    exact ⟨rfl, HB.out⟩
  · cases hv : voidB nm
    all_goals
      have HVo := Lib.hid hv
      have HR := Lib.hid hr
      clear hr hv
      go_enter Tryd.func48, Tryd.ntmps48
      go_wp2
      refine wp_loop_rounds 2 ?_
      rw [rounds_succ]
      go_wp2_with fail
      refine (right_attrs A c nm da l _ (HL.out.keep HB0.out) HLC.out).mono ?_
      rintro e w1 ⟨rfl, hb1⟩
      rw [HR.out]
      have HB := Lib.hid (HB0.out.trans (hb1.mono HB0.out.size))
      obtain ⟨d0, d1, d2, d3, d4⟩ := (HI.out.keep hb1).parts
      clear hb1
      go_wp2_with fail
      refine (Void_any nm w1 (HT.out.below HB.out)).mono ?_
      rintro e w2 ⟨rfl, hb3⟩
      rw [HVo.out]
      have HB3 := Lib.hid (HB.out.trans (hb3.mono HB.out.size))
      clear hb3
      go_wp2
      rw [rounds_succ]
      go_wp2
      go_ret
      exact ⟨rfl, HB3.out⟩
end Go.Proofs.YtehjhigaebpfkaaDoor
