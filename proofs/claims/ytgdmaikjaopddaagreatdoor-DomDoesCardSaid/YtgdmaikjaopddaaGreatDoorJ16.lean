/- tree.right of an element with attributes. -/
import Derived.Test.YtgdmaikjaopddaaGreatDoorJ14
import Derived.Test.YtgdmaikjaopddaaGreatDoorJ15
import Derived.Test.YtgdmaikjaopddaaGreatDoorJ13
namespace Go.Proofs.YtgdmaikjaopddaaGreatDoor
open Go.RowKit

/-- the first so many attributes may be written, each name once -/
def attrsB (l : List Attr) (n : Nat) : Bool := (List.range n).all fun i => match l[i]? with | some x => writB x.1 x.2 && !hasB (l.take i) x.1 | none => true
theorem attrsB_succ {l : List Attr} {k : Nat} (h : k < l.length) : attrsB l (k + 1) = (attrsB l k && (writB l[k].1 l[k].2 && !hasB (l.take k) l[k].1)) := by
  unfold attrsB
  rw [List.range_succ, List.all_append]
  simp [h]
theorem attrsB_le {l : List Attr} {k n : Nat} (h : k ≤ n) (hf : attrsB l k = false) : attrsB l n = false := by
  unfold attrsB at hf ⊢
  rw [List.all_eq_false] at hf ⊢
  obtain ⟨x, hx, hx'⟩ := hf
  exact ⟨x, by rw [List.mem_range] at hx ⊢; omega, hx'⟩

theorem keep3 {w1 w2 : World} {g ga : Nat} {a b d : Value} (h : w1.cell? ⟨ga, 0, none⟩ = some a ∧ w1.cell? ⟨ga, 1, none⟩ = some b ∧ w1.cell? ⟨g, 4, none⟩ = some d) (hb : Below w1.heap.size w1 w2) : w2.cell? ⟨ga, 0, none⟩ = some a ∧ w2.cell? ⟨ga, 1, none⟩ = some b ∧ w2.cell? ⟨g, 4, none⟩ = some d :=
  have l1 := World.block_lt_of_cell? w1 ⟨ga, 0, none⟩ h.1
  have l2 := World.block_lt_of_cell? w1 ⟨g, 4, none⟩ h.2.2
  ⟨(hb.cell (p := ⟨ga, 0, none⟩) l1).trans h.1, (hb.cell (p := ⟨ga, 1, none⟩) l1).trans h.2.1, (hb.cell (p := ⟨g, 4, none⟩) l2).trans h.2.2⟩

/-- an item in its box -/
def ItemAt (w : World) (g : Nat) (k : Int) (nm da : ByteArray) (A : Option Addr) (n c : Nat) : Prop := ∀ j, j < 5 → w.cell? ⟨g, j, none⟩ = (#[int 0, .int .u8 k, .string nm, .string da, .slice A n c] : Array Value)[j]?
theorem ItemAt.keep {w w' : World} {g : Nat} {k : Int} {nm da : ByteArray} {A : Option Addr} {n c : Nat} (h : ItemAt w g k nm da A n c) (hb : Below w.heap.size w w') : ItemAt w' g k nm da A n c := fun j hj => by
  have l := World.block_lt_of_cell? w ⟨g, 0, none⟩ (h 0 (by omega))
  rw [hb.cell (p := ⟨g, j, none⟩) l]; exact h j hj
theorem ItemAt.parts {w : World} {g : Nat} {k : Int} {nm da : ByteArray} {A : Option Addr} {n c : Nat} (h : ItemAt w g k nm da A n c) : w.cell? ⟨g, 0, none⟩ = some (int 0) ∧ w.cell? ⟨g, 1, none⟩ = some (.int .u8 k) ∧ w.cell? ⟨g, 2, none⟩ = some (.string nm) ∧ w.cell? ⟨g, 3, none⟩ = some (.string da) ∧ w.cell? ⟨g, 4, none⟩ = some (.slice A n c) :=
  ⟨h 0 (by omega), h 1 (by omega), h 2 (by omega), h 3 (by omega), h 4 (by omega)⟩

def elemB (nm da : ByteArray) (l : List Attr) : Bool := attrsB l l.length && (validB nm && (da.toList.isEmpty && decide (l.length ≤ 50)))

set_option maxRecDepth 100000 in
set_option maxHeartbeats 2000000 in
theorem right_attrs (A : Option Addr) (c : Nat) (nm da : ByteArray) (l : List Attr) (w : World) (hl : AttrsAt w A l) (hlc : l.length ≤ c) :
    Calls Tryz.prog 85 #[itemVal 1 nm da A l.length c, .bool true] w fun e w' => e = .returned (.bool (elemB nm da l)) ∧ Below w.heap.size w w' := by
  have hn := hl.1
  have HL := Lib.hid hl
  have HI := Lib.hid (show ItemAt (w.alloc (.cells #[int 0, .int .u8 1, .string nm, .string da, .slice A l.length c] 107)) w.heap.size 1 nm da A l.length c from fun j _ => cell_alloc_new _ _ _ _)
  have HB0 := Lib.hid (alloc_drewN w (.cells #[int 0, .int .u8 1, .string nm, .string da, .slice A l.length c] 107) 0)
  clear hl
  unfold itemVal
  go_enter Tryz.func85, Tryz.ntmps85
  go_wp2
  go_loopw [19] (fun v wr => ∃ k : Nat, v = int k ∧ k ≤ l.length ∧ attrsB l k = true ∧ Below w.heap.size w wr ∧ ItemAt wr w.heap.size 1 nm da A l.length c) (fun v _ => l.length - (intOf v).toNat)
  case atStart => exact ⟨0, rfl, Nat.zero_le _, rfl, HB0.out, HI.out⟩
  case round =>
    obtain ⟨k, rfl, hk, hA, hB, hI⟩ := hrel
    have HA := Lib.hid hA
    have HB := Lib.hid hB
    have HJ := Lib.hid hI
    clear hA hB HI HB0
    by_cases hlt : k < l.length
    · obtain ⟨b, o, rfl, hbw, hc⟩ := (HL.out.keep HB.out).at (by omega)
      have f0 := (hc k hlt).1
      have f1 := (hc k hlt).2
      obtain ⟨wa, hwa⟩ : ∃ wa, wa = (wr.alloc (.cells #[.string l[k].1, .string l[k].2] 67)) := ⟨_, rfl⟩
      have hBA : Below wr.heap.size wr wa := hwa ▸ alloc_drewN wr _ 0
      have s0 : ∀ p : Later wa, p.w.cell? ⟨wr.heap.size, 0, none⟩ = some (.string l[k].1) := fun p => p.cell (hwa ▸ World.cell?_alloc_at _ _ _ _ (by simp))
      have s1 : ∀ p : Later wa, p.w.cell? ⟨wr.heap.size, 1, none⟩ = some (.string l[k].2) := fun p => p.cell (hwa ▸ World.cell?_alloc_at _ _ _ _ (by simp))
      have s4 : ∀ p : Later wa, p.w.cell? ⟨w.heap.size, 4, none⟩ = some (.slice (some ⟨b, o, none⟩) l.length c) := fun p => p.cell (hI.keep hBA).parts.2.2.2.2
      have HBA := Lib.hid (HB.out.trans (hBA.mono HB.out.size))
      have HJA := Lib.hid (HJ.out.keep hBA)
      have HK2 := Lib.hid (show (l.take k).length = k by rw [List.length_take]; omega)
      have HT := Lib.hid (show ∀ w', Below wa.heap.size wa w' → Calls Tryz.prog 96 #[.slice (some ⟨b, o, none⟩) k c, .string l[k].1] w' fun e w'' => e = .returned (.bool (hasB (l.take k) l[k].1)) ∧ Below w'.heap.size w' w'' from fun w' hb' => by
        have C := twice_any (some ⟨b, o, none⟩) c l[k].1 (l.take k) w' ((HL.out.keep (HBA.out.trans (hb'.mono HBA.out.size))).take k)
        rwa [HK2.out] at C)
      have hkc : k ≤ c := by omega
      have HWA := Lib.hid hwa
      clear hI hc hbw HJ hBA hwa
      cases hw : writB l[k].1 l[k].2
      · have HF := Lib.hid (show elemB nm da l = false by
          unfold elemB
          rw [attrsB_le (show k + 1 ≤ l.length from hlt) (by rw [attrsB_succ hlt, hw]; simp)]; rfl)
        have HW := Lib.hid hw
        clear hw
        go_wp2_with fail
        rw [← HWA.out]
        refine wp_region_later (by kernel_rfl) (by kernel_rfl) ?_
        repeat (go_big_quiet_step ((go_at_call 95; exact Calls.later fun w hb => HW.out ▸ writable_any l[k].1 l[k].2 w)))
        refine wpQuiet_nil ?_
        rintro w1 ⟨⟨_, hb1⟩, rfl⟩
        clear s0 s1 s4
        go_wp2
        go_ret
        exact ⟨by rw [HF.out]; rfl, HBA.out.trans (hb1.mono HBA.out.size)⟩
      · have HW := Lib.hid hw
        cases ht : hasB (l.take k) l[k].1
        · have HS := Lib.hid (show attrsB l (k + 1) = true by rw [attrsB_succ hlt, HA.out, hw, ht]; rfl)
          rw [ht] at HT
          clear hw ht
          go_wp2_with fail
          rw [← HWA.out]
          refine wp_region_later (by kernel_rfl) (by kernel_rfl) ?_
          repeat (go_big_quiet_step ((first
            | (go_at_call 95; exact Calls.later fun w hb => HW.out ▸ writable_any l[k].1 l[k].2 w)
            | (go_at_call 96; exact Calls.later HT.out))))
          refine wpQuiet_nil ?_
          rintro w1 ⟨⟨_, hb1⟩, rfl⟩
          clear s0 s1 s4
          have HB2 := Lib.hid (HBA.out.trans (hb1.mono HBA.out.size))
          have HJ2 := Lib.hid (HJA.out.keep hb1)
          clear hb1
          go_wp2
          go_roundw
          case rel => exact ⟨k + 1, by go_num, hlt, HS.out, HB2.out, HJ2.out⟩
          case measure => simp [intOf]; omega
        · have HF := Lib.hid (show elemB nm da l = false by
            unfold elemB
            rw [attrsB_le (show k + 1 ≤ l.length from hlt) (by rw [attrsB_succ hlt, ht]; simp)]; rfl)
          rw [ht] at HT
          clear hw ht
          go_wp2_with fail
          rw [← HWA.out]
          refine wp_region_later (by kernel_rfl) (by kernel_rfl) ?_
          repeat (go_big_quiet_step ((first
            | (go_at_call 95; exact Calls.later fun w hb => HW.out ▸ writable_any l[k].1 l[k].2 w)
            | (go_at_call 96; exact Calls.later HT.out))))
          refine wpQuiet_nil ?_
          rintro w1 ⟨⟨_, hb1⟩, rfl⟩
          clear s0 s1 s4
          go_wp2
          go_ret
          exact ⟨by rw [HF.out]; rfl, HBA.out.trans (hb1.mono HBA.out.size)⟩
    · obtain rfl : k = l.length := by omega
      obtain ⟨c0, c1, c2, c3, c4⟩ := hI.parts
      have HE := Lib.hid (show elemB nm da l = (validB nm && (da.toList.isEmpty && decide (l.length ≤ 50))) by unfold elemB; rw [HA.out]; rfl)
      clear hI
      cases hv : validB nm
      · have HV := Lib.hid hv
        clear hv
        go_wp2_with fail
        refine (Valid_all _ _).mono ?_
        rintro e w1 ⟨rfl, hb1⟩
        rw [HV.out]
        have HB1 := Lib.hid (HB.out.trans (hb1.mono HB.out.size))
        clear hb1
        go_wp2
        go_ret
        exact ⟨by rw [HE.out, HV.out]; rfl, HB1.out⟩
      · cases hd : da.toList.isEmpty
        · have HV := Lib.hid hv
          clear hv
          go_wp2_with fail
          refine (Valid_all _ _).mono ?_
          rintro e w1 ⟨rfl, hb1⟩
          rw [HV.out]
          have HB1 := Lib.hid (HB.out.trans (hb1.mono HB.out.size))
          obtain ⟨c0, c1, c2, c3, c4⟩ := (HJ.out.keep hb1).parts
          clear hb1
          go_wp2
          go_ret
          exact ⟨by rw [HE.out, HV.out, hd]; rfl, HB1.out⟩
        · have HV := Lib.hid hv
          clear hv
          go_wp2_with fail
          refine (Valid_all _ _).mono ?_
          rintro e w1 ⟨rfl, hb1⟩
          rw [HV.out]
          have HB1 := Lib.hid (HB.out.trans (hb1.mono HB.out.size))
          obtain ⟨c0, c1, c2, c3, c4⟩ := (HJ.out.keep hb1).parts
          clear hb1
          go_wp2_with fail
          refine (many_any 1 nm da A l.length c _).mono ?_
          rintro e w2 ⟨rfl, hb2⟩
          have HB2 := Lib.hid (HB1.out.trans (hb2.mono HB1.out.size))
          clear hb2
          go_wp2
          go_ret
          refine ⟨?_, HB2.out⟩
          rw [HE.out, HV.out, hd]
          have : (!decide ((l.length : Int) > 50)) = decide (l.length ≤ 50) := by rw [Bool.eq_iff_iff]; simp; omega
          simp [this]
end Go.Proofs.YtgdmaikjaopddaaGreatDoor

/- tree.Sound of one element with attributes. -/
namespace Go.Proofs.YtgdmaikjaopddaaGreatDoor
open Go.RowKit

set_option maxRecDepth 100000 in
theorem sound_elem (g k' c : Nat) (nm da : ByteArray) (A : Option Addr) (l : List Attr) (w : World) (hT : Laid w) (hi : ItemAt w g 1 nm da A l.length c) (hl : AttrsAt w A l) (hlc : l.length ≤ c) :
    Calls Tryz.prog 63 #[.slice (some ⟨g, 0, none⟩) 1 k'] w fun e w' => e = .returned (.bool (elemB nm da l)) ∧ Below w.heap.size w w' := by
  obtain ⟨c0, c1, c2, c3, c4⟩ := hi.parts
  have HT := Lib.hid hT
  have HL := Lib.hid hl
  have HLC := Lib.hid hlc
  have HI := Lib.hid (show ItemAt (w.alloc (.cells #[int 0, .int .u8 1, .string nm, .string da, .slice A l.length c] 107)) w.heap.size 1 nm da A l.length c from fun j _ => cell_alloc_new _ _ _ _)
  have HB0 := Lib.hid (alloc_drewN w (.cells #[int 0, .int .u8 1, .string nm, .string da, .slice A l.length c] 107) 0)
  clear hT hl hlc hi
  cases hr : elemB nm da l
  · have HR := Lib.hid hr
    clear hr
    go_enter Tryz.func63, Tryz.ntmps63
    go_wp2
    refine wp_loop_rounds 2 ?_
    rw [rounds_succ]
    go_wp2_with fail
    refine (right_attrs A c nm da l _ (HL.out.keep HB0.out) HLC.out).mono ?_
    rintro e w1 ⟨rfl, hb1⟩
    rw [HR.out]
    have HB := Lib.hid (HB0.out.trans (hb1.mono HB0.out.size))
    clear hb1
    go_wp2
    go_ret
    exact ⟨rfl, HB.out⟩
  · cases hv : voidB nm
    all_goals
      have HVo := Lib.hid hv
      have HR := Lib.hid hr
      clear hr hv
      go_enter Tryz.func63, Tryz.ntmps63
      go_wp2
      refine wp_loop_rounds 2 ?_
      rw [rounds_succ]
      go_wp2_with fail
      refine (right_attrs A c nm da l _ (HL.out.keep HB0.out) HLC.out).mono ?_
      rintro e w1 ⟨rfl, hb1⟩
      rw [HR.out]
      have HB := Lib.hid (HB0.out.trans (hb1.mono HB0.out.size))
      obtain ⟨d0, d1, d2, d3, d4⟩ := (HI.out.keep hb1).parts
      clear hb1
      go_wp2_with fail
      refine (Void_any nm w1 (HT.out.below HB.out)).mono ?_
      rintro e w2 ⟨rfl, hb3⟩
      rw [HVo.out]
      have HB3 := Lib.hid (HB.out.trans (hb3.mono HB.out.size))
      clear hb3
      go_wp2
      rw [rounds_succ]
      go_wp2
      go_ret
      exact ⟨rfl, HB3.out⟩
end Go.Proofs.YtgdmaikjaopddaaGreatDoor
