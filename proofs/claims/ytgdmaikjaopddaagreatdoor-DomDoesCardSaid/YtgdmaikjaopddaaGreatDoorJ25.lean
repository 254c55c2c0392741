/- The document's own answer: add. -/
import Derived.Test.YtgdmaikjaopddaaGreatDoorJ24
namespace Go.Proofs.YtgdmaikjaopddaaGreatDoor
open Go.RowKit

theorem infoNd : (Tryz.prog.info? TNd).map (fun i => (i.zero, i.size, i.bytes)) = some (some (.agg nd0), 14, 128) := by kernel_rfl
theorem infoInts : (Tryz.prog.info? TInts).map (fun i => (i.zero, i.size, i.bytes)) = some (some (.slice none 0 0), 1, 24) := by kernel_rfl

section
variable {W w : World} {rs : List Res} {q : Nat} {A : Doc}
theorem keep_alloc {w : World} {o : Obj} {b k : Nat} {x : Value} (hc : w.cell? ⟨b, k, none⟩ = some x) : (w.alloc o).cell? ⟨b, k, none⟩ = some x := (World.cell?_alloc_lt _ _ _ (World.block_lt_of_cell? w ⟨b, k, none⟩ hc)).trans hc
set_option maxRecDepth 100000 in
/-- what two appends make of the answer's memory: one more node -/
theorem ref_more (x : Nd) {a0 : Option Addr} {n0 c0 : Nat} (h : Sep W w (arow (.slice a0 n0 c0) x.attrs :: refA q A :: rs)) (hk : x.kids = []) (hg : x.given = []) (hn : A.n < 5000) :
    ∃ (aN : Option Addr) (mN cN : Nat) (aG : Option Addr) (mG cG : Nat) (a1 : Option Addr) (c1 : Nat) (wB : World) (a2 : Option Addr) (m2 c2 : Nat) (wC : World),
    (w.cell? ⟨q, 1, none⟩ = some (.slice aN mN cN) ∧ (w.alloc (.cells (ndCells x (.slice a0 n0 c0) (.slice none 0 0)) TNd)).cell? ⟨q, 1, none⟩ = some (.slice aN mN cN)) ∧
    (Builtin.append_ #[82, 82] 82 #[.slice aN mN cN, .slice (some ⟨w.heap.size, 0, none⟩) 1 1]).run Tryz.prog (w.alloc (.cells (ndCells x (.slice a0 n0 c0) (.slice none 0 0)) TNd)).drew = .ok (.slice a1 (A.n + 1) c1) wB ∧
    wB.cell? ⟨q, 1, none⟩ = some (.slice aN mN cN) ∧ (∀ o, wB.frozen? ⟨q, o, none⟩ = false) ∧
    ((wB.setCell ⟨q, 1, none⟩ (.slice a1 (A.n + 1) c1)).cell? ⟨q, 2, none⟩ = some (.slice aG mG cG) ∧ ((wB.setCell ⟨q, 1, none⟩ (.slice a1 (A.n + 1) c1)).alloc (.cells #[.slice none 0 0] TInts)).cell? ⟨q, 2, none⟩ = some (.slice aG mG cG)) ∧
    (Builtin.append_ #[83, 83] 83 #[.slice aG mG cG, .slice (some ⟨(wB.setCell ⟨q, 1, none⟩ (.slice a1 (A.n + 1) c1)).heap.size, 0, none⟩) 1 1]).run Tryz.prog ((wB.setCell ⟨q, 1, none⟩ (.slice a1 (A.n + 1) c1)).alloc (.cells #[.slice none 0 0] TInts)) = .ok (.slice a2 m2 c2) wC ∧
    wC.cell? ⟨q, 2, none⟩ = some (.slice aG mG cG) ∧ wC.cell? ⟨q, 1, none⟩ = some (.slice a1 (A.n + 1) c1) ∧ (∀ o, wC.frozen? ⟨q, o, none⟩ = false) ∧
    Sep W (wC.setCell ⟨q, 2, none⟩ (.slice a2 m2 c2)) (refA q (A.add x) :: rs) := by
  obtain ⟨vN, vG, av, kv, gv, hS⟩ := ref_open h.swap
  obtain ⟨R, hR⟩ : ∃ R, R = rowsL A.n (rowsOf A av kv gv) ++ (arow (.slice a0 n0 c0) x.attrs :: rs) := ⟨_, rfl⟩
  have h1 : Sep W w (nrow vN A.n (fun i => ndCells (A.nd i) (av i) (kv i)) :: blk q TRDoc #[int A.lim, vN, vG] :: vrow TInts vG A.n gv :: R) := Sep.swap (hR ▸ hS)
  -- the first append
  have h1a := (h1.alloc (.cells (ndCells x (.slice a0 n0 c0) (.slice none 0 0)) TNd)).drew
  obtain ⟨G, ⟨xs, hr, hx⟩, _, hst⟩ := h1a.step
  obtain ⟨i0, hi0, hz0, hz1, hz2⟩ := info_parts infoNd
  obtain ⟨aN, cN, hvN, _, _⟩ := rowHolds.form hr
  obtain ⟨v', wB, F', hrun, hrB, hoB, hfB⟩ := rowHolds_append (P := Tryz.prog) (t := 82) (ty := 82) Tryz.underlying82 hi0 hz0 hz1 hz2 rfl (by decide)
    hr (some ⟨w.heap.size, 0, none⟩) 1 1 (ndCells x (.slice a0 n0 c0) (.slice none 0 0)).toList (Src.drew (src_block (heap_alloc_new w (.cells (ndCells x (.slice a0 n0 c0) (.slice none 0 0)) TNd)) rfl)) (by
      intro u hu
      exact (Array.all_eq_true_iff_forall_mem.1 (nd_ones x a0 n0 c0 none 0 0)) u (by simpa using hu)) (by unfold maxLen; omega) (by omega)
  obtain ⟨av', hav'⟩ : ∃ av', av' = updV av A.n (.slice a0 n0 c0) := ⟨_, rfl⟩
  obtain ⟨kv', hkv'⟩ : ∃ kv', kv' = updV kv A.n (.slice none 0 0) := ⟨_, rfl⟩
  obtain ⟨gv', hgv'⟩ : ∃ gv', gv' = updV gv A.n (.slice none 0 0) := ⟨_, rfl⟩
  have hold : ∀ j : Nat, j < A.n → (A.add x).nd j = A.nd j ∧ av' j = av j ∧ kv' j = kv j ∧ gv' j = gv j := fun j hj => by
    subst hav' hkv' hgv'
    refine ⟨add_nd_old ⟨by omega, by omega⟩, ?_, ?_, ?_⟩ <;> (unfold updV; rw [if_neg (by omega)])
  have hnew : (A.add x).nd A.n = x ∧ av' A.n = .slice a0 n0 c0 ∧ kv' A.n = .slice none 0 0 ∧ gv' A.n = .slice none 0 0 := by
    subst hav' hkv' hgv'
    refine ⟨add_nd_new x, ?_, ?_, ?_⟩ <;> (unfold updV; rw [if_pos rfl])
  have hB := hst wB F' (nrow v' (A.n + 1) fun i => ndCells ((A.add x).nd i) (av' i) (kv' i)) hoB ⟨_, hrB, fun i hi k hk => by
    have hxl : xs.length = A.n * 14 := hr.1
    by_cases e : i = A.n
    · subst e
      obtain ⟨e1, e2, e3, _⟩ := hnew
      show _ = (ndCells ((A.add x).nd A.n) (av' A.n) (kv' A.n))[k]?
      rw [e1, e2, e3, List.getElem?_append_right (by omega), hxl, show A.n * 14 + k - A.n * 14 = k by omega, Array.getElem?_toList]
    · obtain ⟨e1, e2, e3, _⟩ := hold i (by omega)
      show _ = (ndCells ((A.add x).nd i) (av' i) (kv' i))[k]?
      rw [e1, e2, e3, List.getElem?_append_left (by omega)]
      exact hx i (by omega) k hk⟩ hfB
  obtain ⟨G1, ⟨_, hrB', _⟩⟩ := hB.head
  obtain ⟨a1, c1, hv', _, _⟩ := rowHolds.form hrB'
  subst hv'
  have hBq := hB.swap
  have b1 := hBq.blk_cell 1
  have bf := hBq.blk_frozen
  have h2 : Sep W (wB.setCell ⟨q, 1, none⟩ (.slice a1 (A.n + 1) c1)) (blk q TRDoc #[int A.lim, .slice a1 (A.n + 1) c1, vG] :: nrow (.slice a1 (A.n + 1) c1) (A.n + 1) (fun i => ndCells ((A.add x).nd i) (av' i) (kv' i)) :: vrow TInts vG A.n gv :: R) := hBq.blk_set 1 (.slice a1 (A.n + 1) c1)
  obtain ⟨w2, hw2⟩ : ∃ w2, w2 = wB.setCell ⟨q, 1, none⟩ (.slice a1 (A.n + 1) c1) := ⟨_, rfl⟩
  rw [← hw2] at h2
  have d2 := h2.blk_cell 2
  -- the second
  have h3 := h2.third.alloc (.cells #[.slice none 0 0] TInts)
  obtain ⟨G2, hrG, _, hstG⟩ := h3.step
  obtain ⟨j0, hj0, hy0, hy1, hy2⟩ := info_parts infoInts
  obtain ⟨aG, cG, hvG, _, _⟩ := rowHolds.form hrG
  obtain ⟨v2, wC, F2, hrunG, hrC, hoC, hfC⟩ := rowHolds_append (P := Tryz.prog) (t := 83) (ty := 83) Tryz.underlying83 hj0 hy0 hy1 hy2 rfl (by decide)
    hrG (some ⟨w2.heap.size, 0, none⟩) 1 1 [.slice none 0 0] (src_block (heap_alloc_new w2 (.cells #[.slice none 0 0] TInts)) rfl) (by
      intro u hu; rw [List.mem_singleton.1 hu]; rfl) (by unfold maxLen; omega) (by omega)
  have hC := hstG wC F2 (vrow TInts v2 (A.n + 1) gv') hoC (by
    have e : (List.range (A.n + 1)).map gv' = (List.range A.n).map gv ++ [.slice none 0 0] := by
      rw [List.range_succ, List.map_append, List.map_singleton, hnew.2.2.2]
      congr 1
      exact List.map_congr_left fun j hj => (hold j (List.mem_range.1 hj)).2.2.2
    show rowHolds TInts 1 v2 (A.n + 1) ((List.range (A.n + 1)).map gv') wC F2
    rw [e]; exact hrC) hfC
  obtain ⟨G3, hrC'⟩ := hC.head
  obtain ⟨a2, c2, hv2, _, _⟩ := rowHolds.form hrC'
  subst hv2
  have hCq := hC.swap
  have e1 := hCq.blk_cell 1
  have e2 := hCq.blk_cell 2
  have ef := hCq.blk_frozen
  have h4 : Sep W (wC.setCell ⟨q, 2, none⟩ (.slice a2 (A.n + 1) c2)) (blk q TRDoc #[int A.lim, .slice a1 (A.n + 1) c1, .slice a2 (A.n + 1) c2] :: vrow TInts (.slice a2 (A.n + 1) c2) (A.n + 1) gv' :: nrow (.slice a1 (A.n + 1) c1) (A.n + 1) (fun i => ndCells ((A.add x).nd i) (av' i) (kv' i)) :: R) := hCq.blk_set 2 (.slice a2 (A.n + 1) c2)
  refine ⟨aN, A.n, cN, aG, A.n, cG, a1, c1, wB, a2, A.n + 1, c2, wC, ?_, ?_, ?_, bf, ?_, ?_, ?_, ?_, ef, ?_⟩
  · have := h1.swap.blk_cell 1
    rw [hvN] at this
    exact ⟨this, keep_alloc this⟩
  · rw [← hvN]; exact hrun
  · rw [b1, ← hvN]; rfl
  · rw [hvG] at d2
    rw [← hw2]; exact ⟨d2, keep_alloc d2⟩
  · rw [← hw2, ← hvG]; exact hrunG
  · rw [e2, ← hvG]; rfl
  · rw [e1]; rfl
  · refine ref_close (vN := .slice a1 (A.n + 1) c1) (vG := .slice a2 (A.n + 1) c2) (av := av') (kv := kv') (gv := gv') ?_
    have h5 := (h4.nilRow TInt 1 none).nilRow TInt 1 none
    have er : rowsL (A.n + 1) (rowsOf (A.add x) av' kv' gv') = rowsL A.n (rowsOf A av kv gv) ++ [arow (.slice a0 n0 c0) x.attrs, irow (.slice none 0 0) [], irow (.slice none 0 0) []] := by
      rw [rowsL_succ]
      congr 1
      · refine rowsL_congr fun j hj => ?_
        obtain ⟨e1, e2, e3, e4⟩ := hold j hj
        unfold rowsOf; rw [e1, e2, e3, e4]
      · obtain ⟨e1, e2, e3, e4⟩ := hnew
        unfold rowsOf; rw [e1, e2, e3, e4, hk, hg]
    show Sep W _ (blk q TRDoc #[int A.lim, .slice a1 (A.n + 1) c1, .slice a2 (A.n + 1) c2] :: nrow (.slice a1 (A.n + 1) c1) (A.n + 1) (fun i => ndCells ((A.add x).nd i) (av' i) (kv' i)) :: vrow TInts (.slice a2 (A.n + 1) c2) (A.n + 1) gv' :: (rowsL (A.n + 1) (rowsOf (A.add x) av' kv' gv') ++ rs))
    rw [er]
    rw [hR] at h5
    refine h5.perm ?_
    generalize blk q TRDoc #[int A.lim, .slice a1 (A.n + 1) c1, .slice a2 (A.n + 1) c2] = r1
    generalize vrow TInts (.slice a2 (A.n + 1) c2) (A.n + 1) gv' = r2
    generalize nrow (.slice a1 (A.n + 1) c1) (A.n + 1) (fun i => ndCells ((A.add x).nd i) (av' i) (kv' i)) = r3
    generalize arow (.slice a0 n0 c0) x.attrs = r4
    generalize rowsL A.n (rowsOf A av kv gv) = Q
    show (irow (.slice none 0 0) [] :: irow (.slice none 0 0) [] :: r1 :: r2 :: r3 :: (Q ++ (r4 :: rs))).Perm (r1 :: r3 :: r2 :: (Q ++ [r4, irow (.slice none 0 0) [], irow (.slice none 0 0) []] ++ rs))
    generalize irow (.slice none 0 0) [] = z
    have e1 : Q ++ [r4, z, z] ++ rs = (Q ++ [r4]) ++ z :: z :: rs := by simp
    have e2 : Q ++ (r4 :: rs) = (Q ++ [r4]) ++ rs := by simp
    rw [e1, e2]
    generalize Q ++ [r4] = Q'
    have p1 : (Q' ++ z :: z :: rs).Perm (z :: z :: (Q' ++ rs)) := List.perm_middle.trans (List.Perm.cons z List.perm_middle)
    have p2 : ([z, z] ++ [r1, r2, r3] ++ (Q' ++ rs)).Perm ([r1, r2, r3] ++ [z, z] ++ (Q' ++ rs)) := (List.perm_append_comm).append_right _
    refine p2.trans ?_
    show (r1 :: r2 :: r3 :: z :: z :: (Q' ++ rs)).Perm (r1 :: r3 :: r2 :: (Q' ++ z :: z :: rs))
    exact List.Perm.cons _ ((List.Perm.swap _ _ _).trans (List.Perm.cons _ (List.Perm.cons _ p1.symm)))

def addCells (k : Int) (nm da : ByteArray) (va : Value) (ho : Int) (fl : Fl) : Array Value :=
  #[.int .u8 k, .string nm, .string da, va, .int .i64 0, .slice none 0 0, .int .i64 0, .int .i64 ho, .int .i64 0, .bool fl.closed, .bool fl.manual, .bool fl.delegates, .bool fl.serial, .bool fl.clonable]
attribute [local go_sem ↓] wp_can in
set_option maxRecDepth 100000 in
set_option maxHeartbeats 2000000 in
theorem radd_any (k : Int) (nm da : ByteArray) (l : List Attr) (a : Option Addr) (m c : Nat) (ho : Int) (fl : Fl) (h7 : Int) (x : Nd) (hx : x = (newNd k nm da l fl).setHost h7) (h5 : (k != 5) = false ∧ h7 = ho ∨ (k != 5) = true ∧ h7 = -1) (h : Sep W w (arow (.slice a m c) l :: refA q A :: rs)) (hn : A.n < 5000) :
    Calls Tryz.prog 39 #[ptr q, .agg (addCells k nm da (.slice a m c) ho fl)] w fun e w' => e = .returned (int A.n) ∧ Sep W w' (refA q (A.add x) :: rs) := by
  obtain ⟨w1, hw1⟩ : ∃ w1, w1 = w.alloc (.cells (ndCells x (.slice a m c) (.slice none 0 0)) TNd) := ⟨_, rfl⟩
  have hb1 : Below w.heap.size w w1 := hw1 ▸ alloc_drewN w _ 0
  have hl : x.attrs = l := by rw [hx]; rfl
  have h1 := h.belowed hb1
  rw [← hl] at h1
  have hbl := h.blk_new (ndCells x (.slice a m c) (.slice none 0 0)) TNd
  rw [← hw1] at hbl
  obtain ⟨g, hg⟩ : ∃ g, g = w.heap.size := ⟨_, rfl⟩
  rw [← hg] at hbl
  obtain ⟨aN, mN, cN, aG, mG, cG, a1, c1, wB, a2, m2, c2, wC, ⟨p1, p1'⟩, hrun, p3, p4, ⟨p5, p5'⟩, hrunG, p6, p7, p8, p9⟩ := ref_more x h1 (by rw [hx]; rfl) (by rw [hx]; rfl) hn
  have HF := Lib.hid p9
  have HG := Lib.hid hg
  subst hx
  have HW1 := Lib.hid (show w.alloc (.cells #[.int .u8 k, .string nm, .string da, .slice a m c, .int .i64 (-1), .slice none 0 0, .int .i64 (-1), .int .i64 h7, .int .i64 (-1), .bool fl.closed, .bool fl.manual, .bool fl.delegates, .bool fl.serial, .bool fl.clonable] TNd) = w1 from hw1.symm)
  have f0 : w1.cell? ⟨g, 0, none⟩ = some (.int .u8 k) := hbl.blk_cell 0
  have f1 : w1.cell? ⟨g, 1, none⟩ = some (.string nm) := hbl.blk_cell 1
  have f2 : w1.cell? ⟨g, 2, none⟩ = some (.string da) := hbl.blk_cell 2
  have f3 : w1.cell? ⟨g, 3, none⟩ = some (.slice a m c) := hbl.blk_cell 3
  have f4 : w1.cell? ⟨g, 4, none⟩ = some (int (-1)) := hbl.blk_cell 4
  have f5 : w1.cell? ⟨g, 5, none⟩ = some (.slice none 0 0) := hbl.blk_cell 5
  have f6 : w1.cell? ⟨g, 6, none⟩ = some (int (-1)) := hbl.blk_cell 6
  have f7 : w1.cell? ⟨g, 7, none⟩ = some (int h7) := hbl.blk_cell 7
  have f8 : w1.cell? ⟨g, 8, none⟩ = some (int (-1)) := hbl.blk_cell 8
  have f9 : w1.cell? ⟨g, 9, none⟩ = some (.bool fl.closed) := hbl.blk_cell 9
  have f10 : w1.cell? ⟨g, 10, none⟩ = some (.bool fl.manual) := hbl.blk_cell 10
  have f11 : w1.cell? ⟨g, 11, none⟩ = some (.bool fl.delegates) := hbl.blk_cell 11
  have f12 : w1.cell? ⟨g, 12, none⟩ = some (.bool fl.serial) := hbl.blk_cell 12
  have f13 : w1.cell? ⟨g, 13, none⟩ = some (.bool fl.clonable) := hbl.blk_cell 13
  obtain ⟨k1, k2, k3⟩ := can_of hrun
  rw [show (wB.setCell ⟨q, 1, none⟩ (.slice a1 (A.n + 1) c1)).heap.size = wB.heap.size by simp] at hrunG
  obtain ⟨l1, l2, l3⟩ := can_of hrunG
  simp only [ndCells, newNd, Nd.setHost] at k1 k2 k3 p1'
  clear h h1 hbl hb1 hw1 hg hl p9 hrun hrunG
  unfold addCells
  rcases h5 with ⟨h5, rfl⟩ | ⟨h5, rfl⟩
  all_goals
    go_enter Tryz.func39, Tryz.ntmps39
    go_wp2_with fail
    rw [HW1.out, ← HG.out]
    go_region
    go_wp2
    go_ret
    exact ⟨by go_num, HF.out⟩
end
end Go.Proofs.YtgdmaikjaopddaaGreatDoor
