/- The law's own function Does: Give. -/
import Derived.Test.YtgdmaikjaopddaaGreatDoorJ35
namespace Go.Proofs.YtgdmaikjaopddaaGreatDoor
open Go.RowKit

section
variable {W w : World} {rs : List Res} {p q : Nat} {A : Doc}
set_option maxRecDepth 100000 in
set_option maxHeartbeats 4000000 in
theorem does_give14 (h : Sep W w (docA p A :: refA q A :: rs)) (hw : WF A) (hT : Laid W) (o : OpV) (A1 : Option Addr) (c1 : Nat) (A2 : Option Addr) (c2 : Nat) (hok : OpOk W o A1 c1 A2 c2) (hk : o.kind % 16 = 14) :
    Calls Tryz.prog 19 #[ptr p, ptr q, .agg (o.cells A1 c1 A2 c2)] w fun e w' => e = .returned (int 1) ∧ Sep W w' (docA p (A.giveD (o.within A.n).a (o.within A.n).l) :: refA q (A.giveD (o.within A.n).a (o.within A.n).l) :: rs) := by
  have hn := hw.n_le
  have hlm := hw.lim
  have hle := hw.le
  have hpos := hw.pos
  have hn5 : A.n ≤ 5000 := by omega
  obtain ⟨w1, hw1⟩ : ∃ w1, w1 = w.alloc (.cells (o.cells A1 c1 A2 c2) TOp) := ⟨_, rfl⟩
  have hb := h.blk_new (o.cells A1 c1 A2 c2) TOp
  rw [← hw1] at hb
  obtain ⟨g, hg⟩ : ∃ g, g = w.heap.size := ⟨_, rfl⟩
  rw [← hg] at hb
  have f0 : w1.cell? ⟨g, 0, none⟩ = some (.int .u8 o.kind) := hb.blk_cell 0
  have f1 : w1.cell? ⟨g, 1, none⟩ = some (int o.a) := hb.blk_cell 1
  have f2 : w1.cell? ⟨g, 2, none⟩ = some (int o.b) := hb.blk_cell 2
  have f3 : w1.cell? ⟨g, 3, none⟩ = some (int o.c) := hb.blk_cell 3
  have f4 : w1.cell? ⟨g, 4, none⟩ = some (.bool o.inn) := hb.blk_cell 4
  have f5 : w1.cell? ⟨g, 5, none⟩ = some (.int .u8 o.nk) := hb.blk_cell 5
  have f6 : w1.cell? ⟨g, 6, none⟩ = some (.string o.nm) := hb.blk_cell 6
  have f7 : w1.cell? ⟨g, 7, none⟩ = some (.string o.da) := hb.blk_cell 7
  have f8 : w1.cell? ⟨g, 8, none⟩ = some (.slice A1 o.na.length c1) := hb.blk_cell 8
  have f9 : w1.cell? ⟨g, 9, none⟩ = some (.string o.s) := hb.blk_cell 9
  have f10 : w1.cell? ⟨g, 10, none⟩ = some (.string o.t) := hb.blk_cell 10
  have f11 : w1.cell? ⟨g, 11, none⟩ = some (.slice A2 o.l.length c2) := hb.blk_cell 11
  have f12 : w1.cell? ⟨g, 12, none⟩ = some (.bool o.f.closed) := hb.blk_cell 12
  have f13 : w1.cell? ⟨g, 13, none⟩ = some (.bool o.f.manual) := hb.blk_cell 13
  have f14 : w1.cell? ⟨g, 14, none⟩ = some (.bool o.f.delegates) := hb.blk_cell 14
  have f15 : w1.cell? ⟨g, 15, none⟩ = some (.bool o.f.serial) := hb.blk_cell 15
  have f16 : w1.cell? ⟨g, 16, none⟩ = some (.bool o.f.clonable) := hb.blk_cell 16
  have HW1 := Lib.hid (show w.alloc (.cells #[.int .u8 o.kind, int o.a, int o.b, int o.c, .bool o.inn, .int .u8 o.nk, .string o.nm, .string o.da, .slice A1 o.na.length c1, .string o.s, .string o.t, .slice A2 o.l.length c2, .bool o.f.closed, .bool o.f.manual, .bool o.f.delegates, .bool o.f.serial, .bool o.f.clonable] TOp) = w1 from hw1.symm)
  have HG := Lib.hid hg
  have HB := Lib.hid hb.drew
  have HLen := Lib.hid (rlen hb.drew.third hw)
  have HX := Lib.hid (opWithin_any hb.drew o A1 c1 A2 c2 hok A.n hpos hn5)
  have Hw := Lib.hid hw
  have HT := Lib.hid hT
  obtain ⟨hxk, hx1, hx2, hx3, hx4, hx5, hx6, hx7, hx8, _⟩ := opWithin_same o A.n
  obtain ⟨x, hx⟩ : ∃ x, x = o.within A.n := ⟨_, rfl⟩
  rw [← hx] at hxk hx1 hx2 hx3 hx4 hx5 hx6 hx7 hx8
  rw [hx.symm] at HX
  have hkb0 : 0 ≤ x.kind := by rw [hxk]; exact hok.kind0
  have hkb1 : x.kind < 256 := by rw [hxk]; exact hok.kind1
  have HXX := Lib.hid hx
  have HOK := Lib.hid hok
  rw [hx.symm]
  have q5 : (x.kind % 16 == 5) = false := by rw [hxk, hk]; rfl
  have q6 : (x.kind % 16 == 6) = false := by rw [hxk, hk]; rfl
  have q7 : (x.kind % 16 == 7) = false := by rw [hxk, hk]; rfl
  have q8 : (x.kind % 16 == 8) = false := by rw [hxk, hk]; rfl
  have q9 : (x.kind % 16 == 9) = false := by rw [hxk, hk]; rfl
  have q10 : (x.kind % 16 == 10) = false := by rw [hxk, hk]; rfl
  have q11 : (x.kind % 16 == 11) = false := by rw [hxk, hk]; rfl
  have q12 : (x.kind % 16 == 12) = false := by rw [hxk, hk]; rfl
  have q13 : (x.kind % 16 == 13) = false := by rw [hxk, hk]; rfl
  have q14 : (x.kind % 16 == 14) = true := by rw [hxk, hk]; rfl
  have q15 : (x.kind % 16 == 15) = false := by rw [hxk, hk]; rfl
  have HXK := Lib.hid hxk
  have HXS := Lib.hid (show x.s.size ≤ 9223372036854775807 by rw [hx6]; exact hok.s)
  have HX1 := Lib.hid hx1
  have HX2 := Lib.hid hx2
  have HX3 := Lib.hid hx3
  have HX4 := Lib.hid hx4
  have HX5 := Lib.hid hx5
  have HX6 := Lib.hid hx6
  have HX7 := Lib.hid hx7
  have HX8 := Lib.hid hx8
  clear hxk hx1 hx2 hx3 hx4 hx5 hx6 hx7 hx8 hk
  clear hw1 hg hb hx h hw hT hok
  go_enter Tryz.func19, Tryz.ntmps19
  go_wp2_with fail
  rw [HW1.out, ← HG.out]
  go_wp2_with fail
  refine wp_region_still_tail 3 (by kernel_rfl) (by kernel_rfl) ?_
  simp only [List.take_succ_cons, List.take_zero, List.drop_succ_cons, List.drop_zero]
  still_step
  still_step
  still_call (HLen.out.mono (fun e w' h => ⟨h.1, h.2.symm⟩))
  refine wpStill_nil ?_
  change wpList _ _ _ _ _ w1.drew
  go_wp2_with fail
  refine HX.out.mono ?_
  rintro e w2 ⟨A3, c3, v3, l3, rfl, h2, hL, hc3⟩
  have h2' := h2.swap
  have HL := Lib.hid hL
  have HLB := Lib.hid (show x.l.length ≤ 9223372036854775807 by omega)
  clear hL hc3
  clear f0 f1 f2 f3 f4 f5 f6 f7 f8 f9 f10 f11 f12 f13 f14 f15 f16 HB HLen HX
  go_wp2_with (refine wpList_store_blk rfl TOp _ _ rfl h2' (cells := x.cells A1 c1 A3 c3) rfl rfl op_info rfl (op_ones _ _ _ _ _) ?_; intro w3 h3; refine halt ?_)
  clear h2 h2'
  have e0 : w3.cell? ⟨g, 0, none⟩ = some (.int .u8 x.kind) := h3.blk_cell 0
  have e1 : w3.cell? ⟨g, 1, none⟩ = some (int x.a) := h3.blk_cell 1
  have e2 : w3.cell? ⟨g, 2, none⟩ = some (int x.b) := h3.blk_cell 2
  have e3 : w3.cell? ⟨g, 3, none⟩ = some (int x.c) := h3.blk_cell 3
  have e4 : w3.cell? ⟨g, 4, none⟩ = some (.bool x.inn) := h3.blk_cell 4
  have e5 : w3.cell? ⟨g, 5, none⟩ = some (.int .u8 x.nk) := h3.blk_cell 5
  have e6 : w3.cell? ⟨g, 6, none⟩ = some (.string x.nm) := h3.blk_cell 6
  have e7 : w3.cell? ⟨g, 7, none⟩ = some (.string x.da) := h3.blk_cell 7
  have e8 : w3.cell? ⟨g, 8, none⟩ = some (.slice A1 x.na.length c1) := h3.blk_cell 8
  have e9 : w3.cell? ⟨g, 9, none⟩ = some (.string x.s) := h3.blk_cell 9
  have e10 : w3.cell? ⟨g, 10, none⟩ = some (.string x.t) := h3.blk_cell 10
  have e11 : w3.cell? ⟨g, 11, none⟩ = some (.slice A3 x.l.length c3) := h3.blk_cell 11
  have e12 : w3.cell? ⟨g, 12, none⟩ = some (.bool x.f.closed) := h3.blk_cell 12
  have e13 : w3.cell? ⟨g, 13, none⟩ = some (.bool x.f.manual) := h3.blk_cell 13
  have e14 : w3.cell? ⟨g, 14, none⟩ = some (.bool x.f.delegates) := h3.blk_cell 14
  have e15 : w3.cell? ⟨g, 15, none⟩ = some (.bool x.f.serial) := h3.blk_cell 15
  have e16 : w3.cell? ⟨g, 16, none⟩ = some (.bool x.f.clonable) := h3.blk_cell 16
  have H3 := Lib.hid h3
  clear h3
  refine Halt.go ?_
  go_wp2_with fail
  have HS0 := Lib.hid (show w3.drew.cell? ⟨g, 1, none⟩ = some (int x.a) ∧ w3.drew.cell? ⟨g, 9, none⟩ = some (.string x.s) ∧ w3.drew.cell? ⟨g, 10, none⟩ = some (.string x.t) ∧ w3.drew.cell? ⟨g, 11, none⟩ = some (.slice A3 x.l.length c3) from ⟨e1, e9, e10, e11⟩)
  have H4 := Lib.hid H3.out.drew.third
  have hE := wrap_eq (givesE_bd A x.a x.l).1 (givesE_bd A x.a x.l).2
  clear e0 e1 e2 e3 e4 e5 e6 e7 e8 e9 e10 e11 e12 e13 e14 e15 e16
  go_region_held3 (fun w' => w'.cell? ⟨g, 1, none⟩ = some (int x.a) ∧ w'.cell? ⟨g, 9, none⟩ = some (.string x.s) ∧ w'.cell? ⟨g, 10, none⟩ = some (.string x.t) ∧ w'.cell? ⟨g, 11, none⟩ = some (.slice A3 x.l.length c3))
    (first | with_reducible exact HS0.out | with_reducible exact opS2 HB5.out | with_reducible exact opS2 HB6.out)
    ((first
      | (go_at_call 29; refine (give_any H4.out (c := c3) (fun h => HL.out.at h (by simp) HLB.out) x.a).mono ?_; rintro e w5 ⟨rfl, h5⟩; have HB5 := Lib.hid h5.swap; have H5 := Lib.hid h5.fourth; clear h5)
      | (go_at_call 47; refine (rgive H5.out Hw.out (c := c3) (fun _ _ h => HL.out.at h (by simp) HLB.out) x.a).mono ?_; rintro e w6 ⟨rfl, h6⟩; have HB6 := Lib.hid h6.third; have H6 := Lib.hid h6; clear h6)))
  go_wp2
  go_ret
  exact ⟨rfl, fin4 H6.out⟩
end
end Go.Proofs.YtgdmaikjaopddaaGreatDoor
