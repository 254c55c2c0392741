/- The law's own function Within, where numbers are made to be those of nodes. -/
import Derived.Test.YtgdmaikjaopddaaGreatDoorJ33
namespace Go.Proofs.YtgdmaikjaopddaaGreatDoor
open Go.RowKit

section
variable {W w : World} {rs : List Res}
def opz : Array Value := #[.int .u8 0, int 0, int 0, int 0, .bool false, .int .u8 0, .string ⟨#[]⟩, .string ⟨#[]⟩, .slice none 0 0, .string ⟨#[]⟩, .string ⟨#[]⟩, .slice none 0 0, .bool false, .bool false, .bool false, .bool false, .bool false]
set_option maxRecDepth 100000 in
set_option maxHeartbeats 4000000 in
theorem within_yes (h : Sep W w rs) (o : OpV) (A1 : Option Addr) (c1 : Nat) (A2 : Option Addr) (c2 : Nat) (hA : IntsAt W A2 o.l) (hlb : o.l.length ≤ 17592186043904) (n : Nat) (hn : 0 < n) (hn' : n ≤ 5000) (hi : o.inn = true) (C : Int) (hC : C = if 0 ≤ o.c then insideI o.c n else -1) :
    Calls Tryz.prog 22 #[.agg (o.cells A1 c1 A2 c2), int n] w fun e w' => ∃ A2' c2', e = .returned (.agg (OpV.cells ⟨o.kind, insideI o.a n, insideI o.b n, C, true, o.nk, o.nm, o.da, o.na, o.s, o.t, o.l.map fun x => insideI x n, o.f⟩ A1 c1 A2' c2')) ∧ Sep W w' (irow (.slice A2' (o.l.map fun x => insideI x n).length c2') (o.l.map fun x => insideI x n) :: rs) := by
  obtain ⟨kind, a, b, c, inn, nk, nm, da, na, s, t, l, f⟩ := o
  obtain rfl : inn = true := hi
  obtain ⟨i0, hi, hz0, hz1, hz2⟩ := info_parts infoInt
  simp only at hA hlb hC ⊢
  obtain ⟨wa, hwa⟩ : ∃ wa, wa = w.alloc (.cells (OpV.cells ⟨kind, a, b, c, true, nk, nm, da, na, s, t, l, f⟩ A1 c1 A2 c2) TOp) := ⟨_, rfl⟩
  obtain ⟨wb, hwb⟩ : ∃ wb, wb = wa.alloc (.cells opz TOp) := ⟨_, rfl⟩
  have ea : wa.heap.size = w.heap.size + 1 := by rw [hwa]; exact Array.size_push _
  have h1 := h.blk_new (OpV.cells ⟨kind, a, b, c, true, nk, nm, da, na, s, t, l, f⟩ A1 c1 A2 c2) TOp
  rw [← hwa] at h1
  have h2 := h1.blk_new opz TOp
  rw [← hwb, ea] at h2
  have hww : (w.alloc (.cells #[.int .u8 kind, int a, int b, int c, .bool true, .int .u8 nk, .string nm, .string da, .slice A1 na.length c1, .string s, .string t, .slice A2 l.length c2, .bool f.closed, .bool f.manual, .bool f.delegates, .bool f.serial, .bool f.clonable] TOp)).alloc (.cells #[.int .u8 0, int 0, int 0, int 0, .bool false, .int .u8 0, .string ⟨#[]⟩, .string ⟨#[]⟩, .slice none 0 0, .string ⟨#[]⟩, .string ⟨#[]⟩, .slice none 0 0, .bool false, .bool false, .bool false, .bool false, .bool false] TOp) = wb := by rw [hwb, hwa]; rfl
  obtain ⟨g, hg⟩ : ∃ g, g = w.heap.size := ⟨_, rfl⟩
  rw [← hg] at h2
  have h0 : Sep W wb (blk g TOp #[.int .u8 kind, int a, int b, int c, .bool true, .int .u8 nk, .string nm, .string da, .slice A1 na.length c1, .string s, .string t, .slice A2 l.length c2, .bool f.closed, .bool f.manual, .bool f.delegates, .bool f.serial, .bool f.clonable] :: blk (g + 1) TOp opz :: rs) := h2.swap
  have HWW := Lib.hid hww
  have HG := Lib.hid hg
  have f4 : wb.cell? ⟨g, 4, none⟩ = some (.bool true) := h0.blk_cell 4
  have f1 : wb.cell? ⟨g, 1, none⟩ = some (int a) := h0.blk_cell 1
  have z1 : wb.frozen? ⟨g, 1, none⟩ = false := h0.blk_frozen 1
  have hA1 := h0.blk_set 1 (int (insideI a n))
  have f2 : (wb.setCell ⟨g, 1, none⟩ (int (insideI a n))).cell? ⟨g, 2, none⟩ = some (int b) := hA1.blk_cell 2
  have z2 : (wb.setCell ⟨g, 1, none⟩ (int (insideI a n))).frozen? ⟨g, 2, none⟩ = false := hA1.blk_frozen 2
  have hA2 := hA1.blk_set 2 (int (insideI b n))
  have f3 : ((wb.setCell ⟨g, 1, none⟩ (int (insideI a n))).setCell ⟨g, 2, none⟩ (int (insideI b n))).cell? ⟨g, 3, none⟩ = some (int c) := hA2.blk_cell 3
  have z3 : ((wb.setCell ⟨g, 1, none⟩ (int (insideI a n))).setCell ⟨g, 2, none⟩ (int (insideI b n))).frozen? ⟨g, 3, none⟩ = false := hA2.blk_frozen 3
  have hA3 := hA2.blk_set 3 (int C)
  obtain ⟨wc, hwc⟩ : ∃ wc, wc = ((wb.setCell ⟨g, 1, none⟩ (int (insideI a n))).setCell ⟨g, 2, none⟩ (int (insideI b n))).setCell ⟨g, 3, none⟩ (int C) := ⟨_, rfl⟩
  rw [← hwc] at hA3
  have h3 : Sep W wc (blk g TOp #[.int .u8 kind, int (insideI a n), int (insideI b n), int C, .bool true, .int .u8 nk, .string nm, .string da, .slice A1 na.length c1, .string s, .string t, .slice A2 l.length c2, .bool f.closed, .bool f.manual, .bool f.delegates, .bool f.serial, .bool f.clonable] :: blk (g + 1) TOp opz :: rs) := hA3
  have H3 := Lib.hid (h3.nilRow TInt 1 none)
  have HC := Lib.hid hwc.symm
  have HA := Lib.hid hA
  have HI := Lib.hid (fun (k : Int) (w : World) => inside_any w k n hn hn')
  clear hwa hwb ea h1 h2 hww hg h0 hA1 hA2 hA3 hwc h3 hA h
  have key : ∃ t : Bool, (decide (c ≥ 0) = t ∧ decide (0 ≤ c) = t) ∧ C = if t = true then insideI c n else -1 := ⟨decide (0 ≤ c), ⟨rfl, rfl⟩, by simpa using hC⟩
  obtain ⟨tc, ⟨t1, t2⟩, hC2⟩ := key
  clear hC
  cases tc
  all_goals
    simp only [if_true, if_false, Bool.false_eq_true] at hC2
    subst hC2
    go_enter Tryz.func22, Tryz.ntmps22
    go_wp2_with fail
    rw [HWW.out, ← HG.out]
    go_wp2_with ((go_at_call 13); refine (HI.out _ _).mono ?_; rintro e w' ⟨rfl, rfl⟩)
    rw [HC.out]
    clear f4 f1 z1 f2 z2 f3 z3 HWW HC
    go_loopw [5, 6] (fun ov iv wr => ∃ i : Nat, iv = int i ∧ i ≤ l.length ∧ Sep W wr (irow ov ((l.take i).map fun x => insideI x n) :: blk g TOp _ :: blk (g + 1) TOp opz :: rs)) (fun _ iv _ => l.length - (intOf iv).toNat)
    case atStart => exact ⟨0, rfl, Nat.zero_le _, H3.out⟩
    case round =>
      obtain ⟨i, rfl, hi, hS⟩ := hrel
      have c11 := hS.tail.blk_cell 11
      have c11' : wr.cell? ⟨g, 11, none⟩ = some (.slice A2 l.length c2) := c11
      have HS := Lib.hid hS
      clear H3 c11
      by_cases hil : i < l.length
      · have t0 : decide ((i : Int) < l.length) = true := by simp; omega
        obtain ⟨b1, o1, rfl, cl⟩ := (HA.out.keep hS.below).2 i hil
        obtain ⟨a1, k1, hv⟩ := hS.irow_form
        obtain ⟨L, hL⟩ : ∃ L, L = (l.take i).map fun x => insideI x n := ⟨_, rfl⟩
        have hLl : L.length ≤ i := by rw [hL, List.length_map, List.length_take]; omega
        have htk : (l.take (i + 1)).map (fun x => insideI x n) = L ++ [insideI l[i] n] := by
          rw [List.take_succ_eq_append_getElem hil, List.map_append, hL]; rfl
        have HTk := Lib.hid htk
        rw [← hL] at hv HS
        subst hv
        have hb1 : L.length + 1 ≤ maxLen := by unfold maxLen; omega
        have hb2 : (L.length + 1) * 8 ≤ 140737488355328 := by omega
        have HSX := Lib.hid (show Sep W wr (row TInt 1 (.slice a1 L.length k1) L.length (icells L) :: _) from HS.out)
        obtain ⟨y, hy⟩ : ∃ y, y = l[i] := ⟨_, rfl⟩
        rw [← hy] at cl HTk
        clear hS htk hy hL HS
        go_wp2_with (first
          | ((go_at_call 13); refine (HI.out _ _).mono ?_; rintro e w' ⟨rfl, rfl⟩)
          | (at_builtin; refine wpList_app rfl _ _ 31 rfl Tryz.underlying31 ‹_› hz0 hz1 hz2 rfl (by decide) rfl (HSX.out.alloc _) _ _ _ [int (insideI y n)] rfl (src_new _ _ _) (by intro u hu; rw [List.mem_singleton.1 hu]; rfl) hb1 hb2 ?_; intro v' w7 h7; have H7 := Lib.hid h7; clear h7))
        go_roundw
        case rel => exact ⟨i + 1, by go_num, hil, by rw [HTk.out]; have := H7.out; unfold irow; rw [List.length_append]; simpa [icells] using this⟩
        case measure => simp [intOf]; omega
      · obtain rfl : i = l.length := by omega
        have t0 : decide ((l.length : Int) < l.length) = false := by simp
        rw [List.take_length] at HS
        clear hS
        obtain ⟨a1, k1, hv⟩ := HS.out.irow_form
        subst hv
        have z11 : wr.frozen? ⟨g, 11, none⟩ = false := HS.out.tail.blk_frozen 11
        obtain ⟨R, hR⟩ : ∃ R, R = l.map fun x => insideI x n := ⟨_, rfl⟩
        rw [← hR] at HS ⊢
        have h5 := HS.out.back2.blk_set 11 (.slice a1 R.length k1)
        have e0 : (wr.setCell ⟨g, 11, none⟩ (.slice a1 R.length k1)).cell? ⟨g, 0, none⟩ = some (.int .u8 kind) := h5.blk_cell 0
        have e1 : (wr.setCell ⟨g, 11, none⟩ (.slice a1 R.length k1)).cell? ⟨g, 1, none⟩ = some (int (insideI a n)) := h5.blk_cell 1
        have e2 : (wr.setCell ⟨g, 11, none⟩ (.slice a1 R.length k1)).cell? ⟨g, 2, none⟩ = some (int (insideI b n)) := h5.blk_cell 2
        have e3 : (wr.setCell ⟨g, 11, none⟩ (.slice a1 R.length k1)).cell? ⟨g, 3, none⟩ = some (_) := h5.blk_cell 3
        have e4 : (wr.setCell ⟨g, 11, none⟩ (.slice a1 R.length k1)).cell? ⟨g, 4, none⟩ = some (.bool true) := h5.blk_cell 4
        have e5 : (wr.setCell ⟨g, 11, none⟩ (.slice a1 R.length k1)).cell? ⟨g, 5, none⟩ = some (.int .u8 nk) := h5.blk_cell 5
        have e6 : (wr.setCell ⟨g, 11, none⟩ (.slice a1 R.length k1)).cell? ⟨g, 6, none⟩ = some (.string nm) := h5.blk_cell 6
        have e7 : (wr.setCell ⟨g, 11, none⟩ (.slice a1 R.length k1)).cell? ⟨g, 7, none⟩ = some (.string da) := h5.blk_cell 7
        have e8 : (wr.setCell ⟨g, 11, none⟩ (.slice a1 R.length k1)).cell? ⟨g, 8, none⟩ = some (.slice A1 na.length c1) := h5.blk_cell 8
        have e9 : (wr.setCell ⟨g, 11, none⟩ (.slice a1 R.length k1)).cell? ⟨g, 9, none⟩ = some (.string s) := h5.blk_cell 9
        have e10 : (wr.setCell ⟨g, 11, none⟩ (.slice a1 R.length k1)).cell? ⟨g, 10, none⟩ = some (.string t) := h5.blk_cell 10
        have e11 : (wr.setCell ⟨g, 11, none⟩ (.slice a1 R.length k1)).cell? ⟨g, 11, none⟩ = some (.slice a1 R.length k1) := h5.blk_cell 11
        have e12 : (wr.setCell ⟨g, 11, none⟩ (.slice a1 R.length k1)).cell? ⟨g, 12, none⟩ = some (.bool f.closed) := h5.blk_cell 12
        have e13 : (wr.setCell ⟨g, 11, none⟩ (.slice a1 R.length k1)).cell? ⟨g, 13, none⟩ = some (.bool f.manual) := h5.blk_cell 13
        have e14 : (wr.setCell ⟨g, 11, none⟩ (.slice a1 R.length k1)).cell? ⟨g, 14, none⟩ = some (.bool f.delegates) := h5.blk_cell 14
        have e15 : (wr.setCell ⟨g, 11, none⟩ (.slice a1 R.length k1)).cell? ⟨g, 15, none⟩ = some (.bool f.serial) := h5.blk_cell 15
        have e16 : (wr.setCell ⟨g, 11, none⟩ (.slice a1 R.length k1)).cell? ⟨g, 16, none⟩ = some (.bool f.clonable) := h5.blk_cell 16
        have H5 := Lib.hid h5.swap
        have HR := Lib.hid hR
        clear h5 hR
        go_wp2_with (refine wpList_store_blk rfl TOp _ _ rfl H5.out (cells := OpV.cells ⟨kind, insideI a n, insideI b n, _, true, nk, nm, da, na, s, t, R, f⟩ A1 c1 a1 k1) rfl rfl op_info rfl (op_ones _ _ _ _ _) ?_; intro w9 h9; have H9 := Lib.hid h9; clear h9)
        refine bodyPost_ret (v := .agg (OpV.cells ⟨kind, insideI a n, insideI b n, _, true, nk, nm, da, na, s, t, R, f⟩ A1 c1 a1 k1)) (results_cell_row Tryz.results22 _ _ (g + 1) TOp (OpV.cells ⟨kind, insideI a n, insideI b n, _, true, nk, nm, da, na, s, t, R, f⟩ A1 c1 a1 k1) (0, 0) _ rfl H9.out.blk_heap Tryz.underlying52 rfl op_info) rfl ⟨a1, k1, by rw [← HR.out]; first | done | rfl, ?_⟩
        rw [← HR.out]
        exact H9.out.tail.tail
end
end Go.Proofs.YtgdmaikjaopddaaGreatDoor
