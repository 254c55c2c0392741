/- The document's own answer: Sound of one item; right. -/
import Derived.Test.YtgdmaikjaopddaaGreatDoorJ22
namespace Go.Proofs.YtgdmaikjaopddaaGreatDoor
open Go.RowKit

set_option maxRecDepth 100000 in
set_option maxHeartbeats 1000000 in
theorem rsound (g k' c : Nat) (k : Int) (nm da : ByteArray) (A : Option Addr) (l : List Attr) (w : World) (hi : ItemAt w g k nm da A l.length c) (hl : AttrsAt w A l) (hlc : l.length ≤ c) (hz : Sized l) (hnm : nm.size ≤ 9223372036854775807) :
    Calls Tryz.prog 94 #[.slice (some ⟨g, 0, none⟩) 1 k'] w fun e w' => e = .returned (.bool (rightA k nm da l)) ∧ Below w.heap.size w w' := by
  obtain ⟨c0, c1, c2, c3, c4⟩ := hi.parts
  have HI := Lib.hid hi
  have HC := Lib.hid (rmay k A c nm da l w hl hlc hz hnm)
  clear hi hl hz hnm
  unfold itemVal at *
  cases hr : rightA k nm da l
  · have HR := Lib.hid hr
    clear hr
    go_enter Tryz.func94, Tryz.ntmps94
    go_wp2
    refine wp_loop_rounds 2 ?_
    rw [rounds_succ]
    go_wp2_with fail
    refine HC.out.mono ?_
    rintro e w1 ⟨rfl, hb1⟩
    rw [HR.out]
    have HB := Lib.hid hb1
    clear hb1
    go_wp2
    go_ret
    exact ⟨rfl, HB.out⟩
  · by_cases h1 : k = 1
    · subst h1
      cases hv : voidB nm
      all_goals
        have HVo := Lib.hid hv
        have HR := Lib.hid hr
        clear hr hv
        go_enter Tryz.func94, Tryz.ntmps94
        go_wp2
        refine wp_loop_rounds 2 ?_
        rw [rounds_succ]
        go_wp2_with fail
        refine HC.out.mono ?_
        rintro e w1 ⟨rfl, hb1⟩
        rw [HR.out]
        have HB := Lib.hid hb1
        obtain ⟨d0, d1, d2, d3, d4⟩ := (HI.out.keep hb1).parts
        clear hb1
        go_wp2_with fail
        refine (rvoid nm w1).mono ?_
        rintro e w2 ⟨rfl, rfl⟩
        rw [HVo.out]
        go_wp2
        rw [rounds_succ]
        go_wp2
        go_ret
        exact ⟨rfl, HB.out⟩
    · have e1 : (k == 1) = false := by simpa using h1
      have HR := Lib.hid hr
      clear hr h1
      go_enter Tryz.func94, Tryz.ntmps94
      go_wp2
      refine wp_loop_rounds 2 ?_
      rw [rounds_succ]
      go_wp2_with fail
      refine HC.out.mono ?_
      rintro e w1 ⟨rfl, hb1⟩
      rw [HR.out]
      have HB := Lib.hid hb1
      obtain ⟨d0, d1, d2, d3, d4⟩ := (HI.out.keep hb1).parts
      clear hb1
      go_wp2
      rw [rounds_succ]
      go_wp2
      go_ret
      exact ⟨rfl, HB.out⟩

set_option maxRecDepth 100000 in
set_option maxHeartbeats 1000000 in
theorem rright (x : Arg) (A : Option Addr) (c : Nat) (l : List Attr) (w : World) (hl : AttrsAt w A l) (hlc : l.length ≤ c) (hz : Sized l) (hnm : x.name.size ≤ 9223372036854775807) :
    Calls Tryz.prog 82 #[.agg (x.cells A l.length c)] w fun e w' => e = .returned (.bool (mayA x.kind x.name x.data l)) ∧ Below w.heap.size w w' := by
  obtain ⟨k, nm, da, up, KA, KN, KC, sh, ho, ow, fl⟩ := x
  simp only at hnm ⊢
  unfold Arg.cells
  have HL := Lib.hid hl
  have HLC := Lib.hid hlc
  have HZ := Lib.hid hz
  have HNM := Lib.hid hnm
  have hn := hl.1
  clear hl hlc hz hnm
  obtain ⟨b, hb⟩ : ∃ b, b = ((l.length : Int) == 0) := ⟨_, rfl⟩
  have hb' := hb.symm
  by_cases h2 : k = 2
  · subst h2
    have HR := Lib.hid (show mayA 2 nm da l = (nm.toList.isEmpty && b) by rw [hb]; rfl)
    clear hb
    cases hn : nm.toList.isEmpty
    all_goals
      go_enter Tryz.func82, Tryz.ntmps82
      go_wp2
      go_ret
      exact ⟨by rw [HR.out, hn]; cases b <;> rfl, (Below.refl _ _).alloc (Nat.le_refl _) _⟩
  · have e2 : (k == 2) = false := by simpa using h2
    by_cases h4 : k = 4
    · subst h4
      have HR := Lib.hid (show mayA 4 nm da l = (nm.toList.isEmpty && b && da.toList.isEmpty) by rw [hb]; rfl)
      clear hb
      cases hn : nm.toList.isEmpty <;> cases hd : da.toList.isEmpty
      all_goals
        go_enter Tryz.func82, Tryz.ntmps82
        go_wp2
        go_ret
        exact ⟨by rw [HR.out, hn, hd]; cases b <;> rfl, (Below.refl _ _).alloc (Nat.le_refl _) _⟩
    · have e4 : (k == 4) = false := by simpa using h4
      have HR := Lib.hid (show mayA k nm da l = rightA k nm da l by unfold mayA; rw [if_neg h2, if_neg h4])
      clear h2 h4 hb
      go_enter Tryz.func82, Tryz.ntmps82
      go_wp2_with fail
      refine (rsound _ _ c k nm da A l _ ?_ ?_ HLC.out HZ.out HNM.out).mono ?_
      · exact fun j _ => cell_of_row _ _ _ _ _ _ (heap_alloc2_new w _ _)
      · exact HL.out.keep (((Below.refl _ _).alloc (Nat.le_refl _) _).alloc (by simp) _)
      rintro e w1 ⟨rfl, hb1⟩
      have hb2 : Below w.heap.size w w1 := (((Below.refl _ _).alloc (Nat.le_refl _) _).alloc (by simp) _).trans (hb1.mono (by simp; omega))
      have HB := Lib.hid hb2
      clear hb1 hb2
      go_wp2
      go_ret
      exact ⟨by rw [HR.out]; rfl, HB.out⟩

/-! copies of rows that lie somewhere -/
theorem IntsAt.src {w : World} {A0 : Option Addr} {l : List Int} (h : IntsAt w A0 l) : Src w 1 A0 l.length (icells l) := by
  refine ⟨by simp [icells], fun hp => ?_⟩
  obtain ⟨b, o, rfl, hc⟩ := h.at hp
  refine ⟨_, rfl, fun j u hu => ?_⟩
  have e : (⟨b, o, none⟩ : Addr).add j = ⟨b, o + j, none⟩ := by unfold Addr.add; split <;> simp_all
  rw [e]
  have hj : j < l.length := by have := (List.getElem?_eq_some_iff.1 hu).1; simpa [icells] using this
  rw [hc j hj, ← hu]
  simp [icells, hj]
set_option maxRecDepth 100000 in
theorem rints (A0 : Option Addr) (c : Nat) (l : List Int) (w : World) (h : IntsAt w A0 l) (hl : l.length ≤ 1000000) :
    Calls Tryz.prog 67 #[.slice A0 l.length c] w fun e w' => ∃ v', e = .returned v' ∧ Fresh w w' [irow v' l] := by
  have hs : Sep w w [] := Sep.start w
  obtain ⟨i0, hi, hz0, hz1, hz2⟩ := info_parts infoInt
  have hones : ∀ u ∈ icells l, u.oneCell' = true := by intro u hu; obtain ⟨x, _, rfl⟩ := List.mem_map.1 hu; rfl
  have H := Lib.hid h
  have hb1 : 0 + l.length ≤ maxLen := by unfold maxLen; omega
  have hb2 : (0 + l.length) * 8 ≤ 140737488355328 := by omega
  clear h
  go_enter Tryz.func67, Tryz.ntmps67
  go_wp2_with (at_builtin; refine wpList_app rfl _ _ 31 rfl Tryz.underlying31 hi hz0 hz1 hz2 rfl (by decide) rfl (hs.nilRow _ _ _) _ _ _ (icells l) rfl H.out.src hones hb1 hb2 ?_; intro v' w' h')
  go_ret
  refine ⟨_, rfl, ?_⟩
  show Sep w w' [irow v' l]
  simpa [irow] using h'
set_option maxRecDepth 100000 in
theorem rattrs (A0 : Option Addr) (c : Nat) (l : List Attr) (w : World) (h : AttrsAt w A0 l) (hl : l.length ≤ 1000000) :
    Calls Tryz.prog 79 #[.slice A0 l.length c] w fun e w' => ∃ v', e = .returned v' ∧ Fresh w w' [arow v' l] := by
  have hs : Sep w w [] := Sep.start w
  obtain ⟨i0, hi, hz0, hz1, hz2⟩ := info_parts infoAttr
  have hones : ∀ u ∈ acells l, u.oneCell' = true := by intro u hu; obtain ⟨x, _, hx⟩ := List.mem_flatMap.1 hu; simp at hx; rcases hx with rfl | rfl <;> rfl
  have H := Lib.hid h
  have hb1 : 0 + l.length ≤ maxLen := by unfold maxLen; omega
  have hb2 : (0 + l.length) * 32 ≤ 140737488355328 := by omega
  clear h
  go_enter Tryz.func79, Tryz.ntmps79
  go_wp2_with (at_builtin; refine wpList_app rfl _ _ 30 rfl Tryz.underlying30 hi hz0 hz1 hz2 rfl (by decide) rfl (hs.nilRow _ _ _) _ _ _ (acells l) rfl H.out.src hones hb1 hb2 ?_; intro v' w' h')
  go_ret
  refine ⟨_, rfl, ?_⟩
  show Sep w w' [arow v' l]
  simpa [arow] using h'
theorem erase_filter : ∀ {l : List Int} (x : Int), l.Nodup → l.filter (fun y => y != x) = l.erase x
  | [], _, _ => rfl
  | y :: t, x, h => by
    obtain ⟨h1, h2⟩ := List.nodup_cons.1 h
    by_cases e : y = x
    · subst e
      rw [List.filter_cons, if_neg (by simp), List.erase_cons_head]
      exact List.filter_eq_self.2 fun z hz => by simp; rintro rfl; exact h1 hz
    · rw [List.filter_cons, if_pos (by simpa using e), List.erase_cons_tail (by simpa using e), erase_filter x h2]
set_option maxRecDepth 100000 in
set_option maxHeartbeats 1000000 in
theorem rwithout (A0 : Option Addr) (c : Nat) (l : List Int) (x : Int) (w : World) (h : IntsAt w A0 l) (hl : l.length ≤ 1000000) :
    Calls Tryz.prog 81 #[.slice A0 l.length c, int x] w fun e w' => ∃ v', e = .returned v' ∧ Fresh w w' [irow v' (l.filter fun y => y != x)] := by
  have hs : Sep w w [] := Sep.start w
  obtain ⟨i0, hi, hz0, hz1, hz2⟩ := info_parts infoInt
  have H := Lib.hid h
  have H0 := Lib.hid (hs.nilRow TInt 1 none)
  clear h hs
  go_enter Tryz.func81, Tryz.ntmps81
  go_wp2
  go_loopw [5, 6] (fun ov iv wr => ∃ i : Nat, iv = int i ∧ i ≤ l.length ∧ Sep w wr [irow ov ((l.take i).filter fun y => y != x)]) (fun _ iv _ => l.length - (intOf iv).toNat)
  case atStart => exact ⟨0, rfl, Nat.zero_le _, H0.out⟩
  case round =>
    obtain ⟨i, rfl, hi, hS⟩ := hrel
    have HS := Lib.hid hS
    clear H0
    by_cases hil : i < l.length
    · obtain ⟨b, o, rfl, hc⟩ := (H.out.keep hS.below).at (by omega)
      have cl := hc i hil
      obtain ⟨y, hy⟩ : ∃ y, y = l[i] := ⟨_, rfl⟩
      rw [← hy] at cl
      have htk : (l.take (i + 1)).filter (fun y => y != x) = (l.take i).filter (fun y => y != x) ++ if y = x then [] else [y] := by
        rw [List.take_succ_eq_append_getElem hil, List.filter_append, ← hy]
        by_cases e : y = x <;> simp [e]
      have HTk := Lib.hid htk
      obtain ⟨a1, c1, hv⟩ := hS.irow_form
      obtain ⟨L, hL⟩ : ∃ L, L = (l.take i).filter (fun y => y != x) := ⟨_, rfl⟩
      have hLl : L.length ≤ i := by rw [hL]; exact Nat.le_trans (List.length_filter_le _ _) (by rw [List.length_take]; omega)
      rw [← hL] at hv HS HTk
      subst hv
      clear hS hc htk hy hL
      by_cases hyx : y = x
      · have t1 : (y != x) = false := by simpa using hyx
        have HE := Lib.hid (show (l.take (i + 1)).filter (fun y => y != x) = L by rw [HTk.out, if_pos hyx]; simp)
        clear hyx
        go_wp2
        go_roundw
        case rel => exact ⟨i + 1, by go_num, hil, by rw [HE.out]; exact HS.out⟩
        case measure => simp [intOf]; omega
      · have t1 : (y != x) = true := by simpa using hyx
        have HE := Lib.hid (show (l.take (i + 1)).filter (fun y => y != x) = L ++ [y] by rw [HTk.out, if_neg hyx])
        have hb1 : L.length + 1 ≤ maxLen := by unfold maxLen; omega
        have hb2 : (L.length + 1) * 8 ≤ 140737488355328 := by omega
        have HSX := Lib.hid (show Sep w wr [row TInt 1 (.slice a1 L.length c1) L.length (icells L)] from HS.out)
        clear hyx HS
        go_wp2_with (at_builtin; refine wpList_app rfl _ _ 31 rfl Tryz.underlying31 ‹_› hz0 hz1 hz2 rfl (by decide) rfl (HSX.out.alloc _) _ _ _ [int y] rfl (src_new _ _ _) (by intro u hu; rw [List.mem_singleton.1 hu]; rfl) hb1 hb2 ?_; intro v' w7 h7; have H7 := Lib.hid h7; clear h7)
        go_roundw
        case rel => exact ⟨i + 1, by go_num, hil, by rw [HE.out]; have := H7.out; unfold irow; rw [List.length_append]; simpa [icells] using this⟩
        case measure => simp [intOf]; omega
    · obtain rfl : i = l.length := by omega
      rw [List.take_length] at HS
      clear hS
      go_wp2
      go_ret
      exact ⟨_, rfl, HS.out⟩
end Go.Proofs.YtgdmaikjaopddaaGreatDoor

/- What a store makes of the document's own answer in memory: a field of a node, a row of its own. -/
namespace Go.Proofs.YtgdmaikjaopddaaGreatDoor
open Go.RowKit

/-- a cell of a row is written -/
theorem rowHolds.put {e size n : Nat} {v : Value} {xs : List Value} {w : World} {F : Nat → Prop} (h : rowHolds e size v n xs w F) {j : Nat} (hj : j < n * size) (u : Value) {g c : Nat} (hv : v = .slice (some ⟨g, 0, none⟩) n c) :
    rowHolds e size v n (xs.set j u) (w.setCell ⟨g, j, none⟩ u) F ∧ F g := by
  have hn : 0 < n := by
    rcases Nat.eq_zero_or_pos n with rfl | h
    · simp at hj
    · exact h
  obtain ⟨g', cap, cur, hv', hg, h1, h2, h3, h4, h5⟩ := rowHolds.parts h hn
  rw [hv] at hv'
  injection hv' with e1 _ e2
  injection e1 with e1
  injection e1 with e1
  subst e1; subst e2
  refine ⟨⟨by simpa using h.1, .inr ⟨g, c, cur.setIfInBounds j u, hv, by simp [World.setCell, Array.getElem?_modify, hg], h1, h2, by simpa using h3, ?_, h5⟩⟩, (h5 g).2 rfl⟩
  rw [← h4, Array.toList_setIfInBounds, List.take_set]

section
variable {W w w' : World} {rs : List Res} {q : Nat} {A : Doc} {vN vG : Value} {av kv gv : Nat → Value} {bN cN bG cG : Nat}

theorem Sep.frozen_row {e size n : Nat} {v : Value} {xs : List Value} {G : Nat → Prop} (h : rowHolds e size v n xs w G) (hn : 0 < n) {g c : Nat} (hv : v = .slice (some ⟨g, 0, none⟩) n c) (o : Nat) : w.frozen? ⟨g, o, none⟩ = false := by
  obtain ⟨g', cap, cur, hv', hg, _⟩ := rowHolds.parts h hn
  rw [hv] at hv'
  injection hv' with e1 _ _
  injection e1 with e1
  injection e1 with e1
  subst e1
  simp [World.frozen?, hg]
/-- its three blocks may be written -/
theorem ref_frozen (h : Sep W w (refL q A vN vG av kv gv ++ rs)) (hw : WF A) (eN : vN = .slice (some ⟨bN, 0, none⟩) A.n cN) (eG : vG = .slice (some ⟨bG, 0, none⟩) A.n cG) : (∀ o, w.frozen? ⟨q, o, none⟩ = false) ∧ (∀ o, w.frozen? ⟨bN, o, none⟩ = false) ∧ ∀ o, w.frozen? ⟨bG, o, none⟩ = false := by
  obtain ⟨G1, hq, _⟩ := h.mem (r := blk q TRDoc #[int A.lim, vN, vG]) (by simp [refL])
  obtain ⟨G2, xs, hNr, hx⟩ := h.mem (r := nrow vN A.n (fun i => ndCells (A.nd i) (av i) (kv i))) (by simp [refL])
  obtain ⟨G3, hGr⟩ := h.mem (r := vrow TInts vG A.n gv) (by simp [refL])
  exact ⟨fun o => by simp [World.frozen?, hq], fun o => Sep.frozen_row hNr hw.pos eN o, fun o => Sep.frozen_row hGr hw.pos eG o⟩

/-- a node's cell, and the cells of the head, whatever the document is -/
theorem ref_nd (h : Sep W w (refL q A vN vG av kv gv ++ rs)) (hp : 0 < A.n) (eN : vN = .slice (some ⟨bN, 0, none⟩) A.n cN) : (∀ {i k : Nat} {u : Value}, i < A.n → k < 14 → (ndCells (A.nd i) (av i) (kv i))[k]? = some u → w.cell? ⟨bN, i * 14 + k, none⟩ = some u) ∧
    w.cell? ⟨q, 0, none⟩ = some (int A.lim) ∧ w.cell? ⟨q, 1, none⟩ = some vN ∧ w.cell? ⟨q, 2, none⟩ = some vG ∧ ∀ o, w.frozen? ⟨bN, o, none⟩ = false := by
  obtain ⟨G1, hq, _⟩ := h.mem (r := blk q TRDoc #[int A.lim, vN, vG]) (by simp [refL])
  obtain ⟨G2, xs, hNr, hx⟩ := h.mem (r := nrow vN A.n (fun i => ndCells (A.nd i) (av i) (kv i))) (by simp [refL])
  refine ⟨fun {i k u} hi hk hu => ?_, by rw [cell_of_row w q 0 _ _ _ hq]; rfl, by rw [cell_of_row w q 1 _ _ _ hq]; rfl, by rw [cell_of_row w q 2 _ _ _ hq]; rfl, fun o => Sep.frozen_row hNr hp eN o⟩
  obtain ⟨b, c, hv, _, _, _, hc⟩ := rowHolds.cells hNr hp
  rw [eN] at hv
  injection hv with e1 _ _
  injection e1 with e1
  injection e1 with e1
  subst e1
  exact hc _ _ (by rw [hx i hi k hk]; exact hu)
theorem refL_app : refL q A vN vG av kv gv ++ rs = blk q TRDoc #[int A.lim, vN, vG] :: nrow vN A.n (fun i => ndCells (A.nd i) (av i) (kv i)) :: vrow TInts vG A.n gv :: (rowsL A.n (rowsOf A av kv gv) ++ rs) := rfl

/-- the cells of the nodes turn; the rows of the nodes stay, or one of them is another one: put anew together -/
theorem ref_write (h : Sep W w (refL q A vN vG av kv gv ++ rs)) (eN : vN = .slice (some ⟨bN, 0, none⟩) A.n cN) {i k : Nat} (hi : i < A.n) (hk : k < 14) (u : Value) {f' : Nat → Array Value}
    (hf : ∀ j, j < A.n → ∀ m, m < 14 → (f' j)[m]? = if j = i ∧ m = k then some u else (ndCells (A.nd j) (av j) (kv j))[m]?) :
    Sep W (w.setCell ⟨bN, i * 14 + k, none⟩ u) (blk q TRDoc #[int A.lim, vN, vG] :: nrow vN A.n f' :: vrow TInts vG A.n gv :: (rowsL A.n (rowsOf A av kv gv) ++ rs)) := by
  have h2 : Sep W w (nrow vN A.n (fun i => ndCells (A.nd i) (av i) (kv i)) :: blk q TRDoc #[int A.lim, vN, vG] :: vrow TInts vG A.n gv :: (rowsL A.n (rowsOf A av kv gv) ++ rs)) := (show Sep W w (blk q TRDoc #[int A.lim, vN, vG] :: nrow vN A.n (fun i => ndCells (A.nd i) (av i) (kv i)) :: vrow TInts vG A.n gv :: (rowsL A.n (rowsOf A av kv gv) ++ rs)) from h).swap
  obtain ⟨G, ⟨xs, hr, hx⟩, _, hs⟩ := h2.step
  have hj : i * 14 + k < A.n * 14 := by have : (i + 1) * 14 ≤ A.n * 14 := Nat.mul_le_mul_right 14 (by omega); omega
  obtain ⟨hr2, hg⟩ := hr.put hj u eN
  refine (hs (w.setCell ⟨bN, i * 14 + k, none⟩ u) G (nrow vN A.n f') ((Only.refl _ _).setCell (p := ⟨bN, i * 14 + k, none⟩) (.inl hg) _) ⟨_, hr2, fun j hjn m hm => ?_⟩ fun _ hk => .inl hk).swap
  rw [hf j hjn m hm, List.getElem?_set]
  have hlen : xs.length = A.n * 14 := hr.1
  by_cases hjm : j = i ∧ m = k
  · obtain ⟨rfl, rfl⟩ := hjm
    have : j * 14 + m < xs.length := by rw [hlen]; exact hj
    simp [this]
  · rw [if_neg hjm, if_neg (fun e => hjm (by omega))]
    exact hx j hjn m hm

theorem rowsOf_congr {A A' : Doc} {av kv gv : Nat → Value} {j : Nat} (h1 : (A'.nd j).attrs = (A.nd j).attrs) (h2 : (A'.nd j).kids = (A.nd j).kids) (h3 : (A'.nd j).given = (A.nd j).given) : rowsOf A' av kv gv j = rowsOf A av kv gv j := by
  unfold rowsOf; rw [h1, h2, h3]
theorem ndCells_set (x : Nd) (a k : Value) (j : Nat) (u : Value) (m : Nat) (hm : m < 14) : ((ndCells x a k).setIfInBounds j u)[m]? = if j = m then some u else (ndCells x a k)[m]? := by
  rw [Array.getElem?_setIfInBounds]
  by_cases h : j = m
  · rw [if_pos h, if_pos h, if_pos (by rw [h]; exact hm)]
  · rw [if_neg h, if_neg h]

/-- a field that is no row -/
theorem ref_set (h : Sep W w (refL q A vN vG av kv gv ++ rs)) (eN : vN = .slice (some ⟨bN, 0, none⟩) A.n cN) {i k : Nat} (hi : i < A.n) (hk : k < 14) (u : Value) (f : Nd → Nd)
    (hf : ∀ x a k', ndCells (f x) a k' = (ndCells x a k').setIfInBounds k u) (hr : ∀ x, (f x).attrs = x.attrs ∧ (f x).kids = x.kids ∧ (f x).given = x.given) :
    Sep W (w.setCell ⟨bN, i * 14 + k, none⟩ u) (refL q (A.set i f) vN vG av kv gv ++ rs) := by
  have h1 := ref_write h eN hi hk u (f' := fun j => ndCells ((A.set i f).nd j) (av j) (kv j)) fun j hj m hm => by
    rw [Doc.set_nd]
    by_cases hji : j = i
    · subst hji
      rw [if_pos rfl, hf, ndCells_set _ _ _ _ _ _ hm]
      by_cases hmk : k = m
      · rw [if_pos hmk, if_pos ⟨rfl, hmk.symm⟩]
      · rw [if_neg hmk, if_neg (fun e => hmk e.2.symm)]
    · rw [if_neg (by omega), if_neg (fun e => hji e.1)]
  have e : rowsL A.n (rowsOf (A.set i f) av kv gv) = rowsL A.n (rowsOf A av kv gv) := rowsL_congr fun j _ => by
    have hn : ∀ {α : Type} (g : Nd → α), (∀ x, g (f x) = g x) → g ((A.set i f).nd j) = g (A.nd j) := fun g hg => by
      rw [Doc.set_nd]; split
      · exact hg _
      · rfl
    exact rowsOf_congr (hn _ fun x => (hr x).1) (hn _ fun x => (hr x).2.1) (hn _ fun x => (hr x).2.2)
  show Sep W _ (blk q TRDoc #[int A.lim, vN, vG] :: nrow vN A.n _ :: vrow TInts vG A.n gv :: (rowsL A.n (rowsOf (A.set i f) av kv gv) ++ rs))
  rw [e]; exact h1

/-- one row of a node is another one -/
theorem rows_swap {n i : Nat} {f f' : Nat → List Res} {pre : List Res} {r r' : Res} (hi : i < n) (hf : ∀ j, j < n → j ≠ i → f' j = f j) {l1 l2 : List Res} (h1 : f i = l1 ++ r :: l2) (h2 : f' i = l1 ++ r' :: l2) {rs : List Res} (h : Sep W w (pre ++ (rowsL n f ++ (r' :: rs)))) :
    Sep W w (pre ++ (rowsL n f' ++ rs)) := by
  obtain ⟨rest, p1, p2⟩ := rowsL_split hi hf
  rw [h1] at p1
  rw [h2] at p2
  have e1 : (rowsL n f ++ (r' :: rs)).Perm (r :: (l1 ++ r' :: l2 ++ rest ++ rs)) := by
    refine (p1.append_right _).trans ?_
    have s1 : (l1 ++ r :: l2).Perm (r :: (l1 ++ l2)) := List.perm_middle
    have s2 : (l1 ++ r' :: l2).Perm (r' :: (l1 ++ l2)) := List.perm_middle
    refine ((s1.append_right rest).append_right (r' :: rs)).trans ?_
    refine List.Perm.trans ?_ (List.Perm.cons r ((s2.symm.append_right rest).append_right rs))
    simp only [List.cons_append]
    exact List.Perm.cons r List.perm_middle
  have q1 : (pre ++ (rowsL n f ++ (r' :: rs))).Perm (r :: (pre ++ (l1 ++ r' :: l2 ++ rest ++ rs))) := (e1.append_left pre).trans List.perm_middle
  exact ((h.perm q1).tail).perm ((p2.symm.append_right rs).append_left pre)

/-- what is told to a row's cell, and the row that it leads to -/
theorem ref_attrs {l' : List Attr} {v' : Value} (h : Sep W w (refL q A vN vG av kv gv ++ (arow v' l' :: rs))) (eN : vN = .slice (some ⟨bN, 0, none⟩) A.n cN) {i : Nat} (hi : i < A.n) :
    Sep W (w.setCell ⟨bN, i * 14 + 3, none⟩ v') (refL q (A.set i (.setAttrs l')) vN vG (updV av i v') kv gv ++ rs) := by
  have h1 := ref_write h eN hi (k := 3) (by omega) v' (f' := fun j => ndCells ((A.set i (.setAttrs l')).nd j) (updV av i v' j) (kv j)) fun j hj m hm => by
    rw [Doc.set_nd]
    unfold updV
    by_cases hji : j = i
    · subst hji
      rw [if_pos rfl, if_pos rfl, show ndCells (Nd.setAttrs l' (A.nd j)) v' (kv j) = (ndCells (A.nd j) (av j) (kv j)).setIfInBounds 3 v' from rfl, ndCells_set _ _ _ _ _ _ hm]
      by_cases hmk : 3 = m
      · rw [if_pos hmk, if_pos ⟨rfl, hmk.symm⟩]
      · rw [if_neg hmk, if_neg (fun e => hmk e.2.symm)]
    · rw [if_neg (by omega), if_neg hji, if_neg (fun e => hji e.1)]
  exact rows_swap (W := W) (f := rowsOf A av kv gv) (f' := rowsOf (A.set i (.setAttrs l')) (updV av i v') kv gv) (pre := [blk q TRDoc #[int A.lim, vN, vG], nrow vN A.n fun j => ndCells ((A.set i (.setAttrs l')).nd j) (updV av i v' j) (kv j), vrow TInts vG A.n gv]) (l1 := []) (l2 := [irow (kv i) (A.nd i).kids, irow (gv i) (A.nd i).given])
    (r := arow (av i) (A.nd i).attrs) (r' := arow v' l') hi (fun j hj hji => by
      unfold rowsOf updV
      rw [Doc.set_nd, if_neg hji, if_neg (by omega)]) rfl (by
      unfold rowsOf updV
      rw [Doc.set_nd, if_pos rfl, if_pos rfl]; rfl) h1
theorem ref_kids {l' : List Int} {v' : Value} (h : Sep W w (refL q A vN vG av kv gv ++ (irow v' l' :: rs))) (eN : vN = .slice (some ⟨bN, 0, none⟩) A.n cN) {i : Nat} (hi : i < A.n) :
    Sep W (w.setCell ⟨bN, i * 14 + 5, none⟩ v') (refL q (A.set i (.setKids l')) vN vG av (updV kv i v') gv ++ rs) := by
  have h1 := ref_write h eN hi (k := 5) (by omega) v' (f' := fun j => ndCells ((A.set i (.setKids l')).nd j) (av j) (updV kv i v' j)) fun j hj m hm => by
    rw [Doc.set_nd]
    unfold updV
    by_cases hji : j = i
    · subst hji
      rw [if_pos rfl, if_pos rfl, show ndCells (Nd.setKids l' (A.nd j)) (av j) v' = (ndCells (A.nd j) (av j) (kv j)).setIfInBounds 5 v' from rfl, ndCells_set _ _ _ _ _ _ hm]
      by_cases hmk : 5 = m
      · rw [if_pos hmk, if_pos ⟨rfl, hmk.symm⟩]
      · rw [if_neg hmk, if_neg (fun e => hmk e.2.symm)]
    · rw [if_neg (by omega), if_neg hji, if_neg (fun e => hji e.1)]
  exact rows_swap (W := W) (f := rowsOf A av kv gv) (f' := rowsOf (A.set i (.setKids l')) av (updV kv i v') gv) (pre := [blk q TRDoc #[int A.lim, vN, vG], nrow vN A.n fun j => ndCells ((A.set i (.setKids l')).nd j) (av j) (updV kv i v' j), vrow TInts vG A.n gv]) (l1 := [arow (av i) (A.nd i).attrs]) (l2 := [irow (gv i) (A.nd i).given])
    (r := irow (kv i) (A.nd i).kids) (r' := irow v' l') hi (fun j hj hji => by
      unfold rowsOf updV
      rw [Doc.set_nd, if_neg hji, if_neg (by omega)]) rfl (by
      unfold rowsOf updV
      rw [Doc.set_nd, if_pos rfl, if_pos rfl]; rfl) h1

theorem range_set {n i : Nat} (g : Nat → Value) (v : Value) (hi : i < n) : ((List.range n).map g).set i v = (List.range n).map (updV g i v) := by
  apply List.ext_getElem
  · simp
  · intro j h1 h2
    have hj : j < n := by simpa using h2
    rw [List.getElem_set, List.getElem_map, List.getElem_map, List.getElem_range]
    unfold updV
    by_cases e : i = j
    · subst e; simp
    · rw [if_neg e, if_neg (fun h => e h.symm)]
theorem ref_given {l' : List Int} {v' : Value} (h : Sep W w (refL q A vN vG av kv gv ++ (irow v' l' :: rs))) (eG : vG = .slice (some ⟨bG, 0, none⟩) A.n cG) {i : Nat} (hi : i < A.n) :
    Sep W (w.setCell ⟨bG, i, none⟩ v') (refL q (A.set i (.setGiven l')) vN vG av kv (updV gv i v') ++ rs) := by
  have h2 : Sep W w (vrow TInts vG A.n gv :: blk q TRDoc #[int A.lim, vN, vG] :: nrow vN A.n (fun i => ndCells (A.nd i) (av i) (kv i)) :: (rowsL A.n (rowsOf A av kv gv) ++ (irow v' l' :: rs))) := Sep.third (show Sep W w (blk q TRDoc #[int A.lim, vN, vG] :: nrow vN A.n (fun i => ndCells (A.nd i) (av i) (kv i)) :: vrow TInts vG A.n gv :: (rowsL A.n (rowsOf A av kv gv) ++ (irow v' l' :: rs))) from h)
  obtain ⟨G, hr, _, hs⟩ := h2.step
  obtain ⟨hr2, hg⟩ := rowHolds.put (j := i) hr (by omega) v' eG
  rw [range_set gv v' hi] at hr2
  have h3 := (hs (w.setCell ⟨bG, i, none⟩ v') G (vrow TInts vG A.n (updV gv i v')) ((Only.refl _ _).setCell (p := ⟨bG, i, none⟩) (.inl hg) _) hr2 fun _ hk => .inl hk).back2
  have h4 := rows_swap (W := W) (f := rowsOf A av kv gv) (f' := rowsOf (A.set i (.setGiven l')) av kv (updV gv i v')) (pre := [blk q TRDoc #[int A.lim, vN, vG], nrow vN A.n fun j => ndCells (A.nd j) (av j) (kv j), vrow TInts vG A.n (updV gv i v')]) (l1 := [arow (av i) (A.nd i).attrs, irow (kv i) (A.nd i).kids]) (l2 := [])
    (r := irow (gv i) (A.nd i).given) (r' := irow v' l') hi (fun j hj hji => by
      unfold rowsOf updV
      rw [Doc.set_nd, if_neg hji, if_neg (by omega)]) rfl (by
      unfold rowsOf updV
      rw [Doc.set_nd, if_pos rfl, if_pos rfl]; rfl) (h3.perm (List.Perm.cons _ (List.Perm.refl _)))
  have e : (fun j : Nat => ndCells ((A.set i (.setGiven l')).nd (j : Int)) (av j) (kv j)) = fun j : Nat => ndCells (A.nd (j : Int)) (av j) (kv j) := by
    funext j
    rw [Doc.set_nd]; split <;> rfl
  show Sep W _ (blk q TRDoc #[int A.lim, vN, vG] :: nrow vN A.n (fun j : Nat => ndCells ((A.set i (.setGiven l')).nd j) (av j) (kv j)) :: _)
  rw [e]; exact h4
end
end Go.Proofs.YtgdmaikjaopddaaGreatDoor

/- The document's own answer: taking out, putting in; Remove, Write. -/
namespace Go.Proofs.YtgdmaikjaopddaaGreatDoor
open Go.RowKit

section
variable {W w : World} {rs : List Res} {q : Nat} {A : Doc}
theorem Doc.set_same {A : Doc} {i : Int} {f : Nd → Nd} (h : f (A.nd i) = A.nd i) : A.set i f = A := by
  unfold Doc.set
  have : (fun j => if j = i then f (A.nd j) else A.nd j) = A.nd := by
    funext j; split
    · rename_i e; subst e; exact h
    · rfl
  rw [this]
/-- opened, with all that a walk asks for -/
theorem ref_at (h : Sep W w (refA q A :: rs)) (hw : WF A) : ∃ bN cN bG cG av kv gv, RefV w q A bN cN bG cG av kv gv ∧ Sep W w (refL q A (.slice (some ⟨bN, 0, none⟩) A.n cN) (.slice (some ⟨bG, 0, none⟩) A.n cG) av kv gv ++ rs) ∧
    (∀ o, w.frozen? ⟨q, o, none⟩ = false) ∧ (∀ o, w.frozen? ⟨bN, o, none⟩ = false) ∧ ∀ o, w.frozen? ⟨bG, o, none⟩ = false := by
  obtain ⟨vN, vG, av, kv, gv, hs⟩ := ref_open h
  obtain ⟨bN, cN, bG, cG, e1, e2, hv⟩ := ref_view' hs hw
  subst e1; subst e2
  exact ⟨bN, cN, bG, cG, av, kv, gv, hv, hs, ref_frozen hs hw rfl rfl⟩
theorem ndCells_up (v : Int) (x : Nd) (a k : Value) : ndCells (x.setUp v) a k = (ndCells x a k).setIfInBounds 4 (int v) := rfl
theorem ndCells_data (v : ByteArray) (x : Nd) (a k : Value) : ndCells (x.setData v) a k = (ndCells x a k).setIfInBounds 2 (.string v) := rfl
/-- a row that is new, ahead -/
theorem Sep.front {ys : List Res} {r : Res} (h : Sep W w (r :: (ys ++ rs))) : Sep W w (ys ++ (r :: rs)) := h.perm (List.perm_middle.symm)

set_option maxRecDepth 100000 in
set_option maxHeartbeats 1000000 in
theorem rout (h : Sep W w (refA q A :: rs)) (hw : WF A) (i : Nat) (hi : i < A.n) :
    Calls Tryz.prog 75 #[ptr q, int i] w fun e w' => e = .returned (.tuple #[]) ∧ Sep W w' (refA q (A.take i) :: rs) := by
  obtain ⟨bN, cN, bG, cG, av, kv, gv, V, hS, fq, fN, fG⟩ := ref_at h hw
  have c1 := V.N
  have u4 := V.c4 hi
  have hin : A.In i := ⟨by omega, by omega⟩
  have hU := hw.up i hin
  have hn := hw.n_le
  have HS := Lib.hid hS
  have HV := Lib.hid V
  by_cases hu : (A.nd i).up = -1
  · have t1 : decide ((A.nd i).up ≥ 0) = false := by rw [hu]; rfl
    have HT := Lib.hid (show A.take i = A.set i (.setUp (-1)) by unfold Doc.take; rw [if_pos hu, Doc.set_same (by show Nd.setUp (-1) (A.nd i) = A.nd i; unfold Nd.setUp; rw [← hu])])
    clear h hw V hS hU hu fq fG
    go_enter Tryz.func75, Tryz.ntmps75
    go_wp2
    go_end0
    refine ⟨rfl, ?_⟩
    rw [HT.out]
    exact ref_close (ref_set HS.out rfl hi (k := 4) (by omega) (int (-1)) (.setUp (-1)) (fun _ _ _ => rfl) (fun _ => ⟨rfl, rfl, rfl⟩))
  · obtain ⟨u, hue, hun⟩ := icast (hU.resolve_left hu).1 (hU.resolve_left hu).2
    have hu4 := u4
    rw [hue] at u4
    have t1 : decide ((u : Int) ≥ 0) = true := by simp
    have hT : A.take i = (A.set u (.setKids ((A.nd u).kids.filter fun y => y != (i : Int)))).set i (.setUp (-1)) := by
      unfold Doc.take
      rw [if_neg hu, hue]
      rw [erase_filter _ (hw.nod u ⟨by omega, by omega⟩)]
      congr 1
      unfold Doc.set
      congr 1
      funext j
      split
      · rename_i e; subst e; rfl
      · rfl
    have HT := Lib.hid hT
    have u5 := V.c5 hun
    obtain ⟨ak, ck, hkv, _, _, hints⟩ := V.k u hun
    rw [hkv] at u5
    have hkl := hw.kids_len (i := (u : Int)) ⟨by omega, by omega⟩
    have i0 : (0 : Int) ≤ u := by omega
    have i1 : (u : Int) < A.n := by omega
    have HI := Lib.hid (show IntsAt w.drew ak (A.nd u).kids from hints)
    obtain ⟨KL, hKL⟩ : ∃ KL, KL = (A.nd u).kids := ⟨_, rfl⟩
    rw [← hKL] at HI u5 hkl HT
    have hkl2 : KL.length ≤ 1000000 := by omega
    clear h V hS hU hu hT hkv hints hue hu4 fq fG hKL
    have Hw := Lib.hid hw
    clear hw
    go_enter Tryz.func75, Tryz.ntmps75
    go_wp2_with fail
    refine wp_region_held_drew (S := fun w' => w'.cell? ⟨q, 1, none⟩ = some (.slice (some ⟨bN, 0, none⟩) A.n cN)) (by kernel_rfl) c1 (fun hHeld => ?_)
    refine wpAnyH_take (i := 0) (oi := _) (v := ?_) rfl (by kernel_rfl) (by kernel_rfl) (by kernel_rfl) (fun _ _ _ h => h) (Or.inl ⟨by rfl, ?_⟩) (by assumption) ?_
    rotate_left
    · intro w hSw; (try dsimp only at hSw); (try (obtain ⟨hSa, hSb⟩ := hSw)); go_simp; try with_reducible rfl
    try simp only [Act.put, List.setIfInBounds_toArray, List.set_cons_zero, List.set_cons_succ]
    refine wpAnyH_take (i := 1) (oi := _) (v := ?_) rfl (by kernel_rfl) (by kernel_rfl) (by kernel_rfl) (fun _ _ _ h => h) (Or.inl ⟨by rfl, ?_⟩) (by assumption) ?_
    rotate_left
    · intro w hSw; (try dsimp only at hSw); (try (obtain ⟨hSa, hSb⟩ := hSw)); go_simp; try with_reducible rfl
    try simp only [Act.put, List.setIfInBounds_toArray, List.set_cons_zero, List.set_cons_succ]
    refine wpAnyH_take (i := 2) (oi := _) (v := ?_) rfl (by kernel_rfl) (by kernel_rfl) (by kernel_rfl) (fun _ _ _ h => h) (Or.inl ⟨by rfl, ?_⟩) (by assumption) ?_
    rotate_left
    · intro w hSw; (try dsimp only at hSw); (try (obtain ⟨hSa, hSb⟩ := hSw)); go_simp; try with_reducible rfl
    try simp only [Act.put, List.setIfInBounds_toArray, List.set_cons_zero, List.set_cons_succ]
    refine wpAnyH_take (i := 3) (oi := _) (v := ?_) rfl (by kernel_rfl) (by kernel_rfl) (by kernel_rfl) (fun _ _ _ h => h) (Or.inl ⟨by rfl, ?_⟩) (by assumption) ?_
    rotate_left
    · intro w hSw; (try dsimp only at hSw); (try (obtain ⟨hSa, hSb⟩ := hSw)); go_simp; try with_reducible rfl
    try simp only [Act.put, List.setIfInBounds_toArray, List.set_cons_zero, List.set_cons_succ]
    refine wpAnyH_take (i := 4) (oi := _) (v := ?_) rfl (by kernel_rfl) (by kernel_rfl) (by kernel_rfl) (fun _ _ _ h => h) (Or.inl ⟨by rfl, ?_⟩) (by assumption) ?_
    rotate_left
    · intro w hSw; (try dsimp only at hSw); (try (obtain ⟨hSa, hSb⟩ := hSw)); go_simp; try with_reducible rfl
    try simp only [Act.put, List.setIfInBounds_toArray, List.set_cons_zero, List.set_cons_succ]
    refine wpAnyH_take (i := 5) (oi := _) (v := ?_) rfl (by kernel_rfl) (by kernel_rfl) (by kernel_rfl) (fun _ _ _ h => h) (Or.inl ⟨by rfl, ?_⟩) (by assumption) ?_
    rotate_left
    · intro w hSw; (try dsimp only at hSw); (try (obtain ⟨hSa, hSb⟩ := hSw)); go_simp; try with_reducible rfl
    try simp only [Act.put, List.setIfInBounds_toArray, List.set_cons_zero, List.set_cons_succ]
    refine wpAnyH_take (i := 6) (oi := _) (v := ?_) rfl (by kernel_rfl) (by kernel_rfl) (by kernel_rfl) (fun _ _ _ h => h) (Or.inl ⟨by rfl, ?_⟩) (by assumption) ?_
    rotate_left
    · intro w hSw; (try dsimp only at hSw); (try (obtain ⟨hSa, hSb⟩ := hSw)); go_simp; try with_reducible rfl
    try simp only [Act.put, List.setIfInBounds_toArray, List.set_cons_zero, List.set_cons_succ]
    refine wpAnyH_take (i := 7) (oi := _) (v := ?_) rfl (by kernel_rfl) (by kernel_rfl) (by kernel_rfl) (fun _ _ _ h => h) (Or.inl ⟨by rfl, ?_⟩) (by assumption) ?_
    rotate_left
    · intro w hSw; (try dsimp only at hSw); (try (obtain ⟨hSa, hSb⟩ := hSw)); go_simp; try with_reducible rfl
    try simp only [Act.put, List.setIfInBounds_toArray, List.set_cons_zero, List.set_cons_succ]
    refine wpAnyH_take (i := 8) (oi := _) (v := ?_) rfl (by kernel_rfl) (by kernel_rfl) (by kernel_rfl) (fun _ _ _ h => h) (Or.inl ⟨by rfl, ?_⟩) (by assumption) ?_
    rotate_left
    · intro w hSw; (try dsimp only at hSw); (try (obtain ⟨hSa, hSb⟩ := hSw)); go_simp; try with_reducible rfl
    try simp only [Act.put, List.setIfInBounds_toArray, List.set_cons_zero, List.set_cons_succ]
    refine wpAnyH_take (i := 9) (oi := _) (v := ?_) rfl (by kernel_rfl) (by kernel_rfl) (by kernel_rfl) (fun _ _ _ h => h) (Or.inl ⟨by rfl, ?_⟩) (by assumption) ?_
    rotate_left
    · intro w hSw; (try dsimp only at hSw); (try (obtain ⟨hSa, hSb⟩ := hSw)); go_simp; try with_reducible rfl
    try simp only [Act.put, List.setIfInBounds_toArray, List.set_cons_zero, List.set_cons_succ]
    refine wpAnyH_take (i := 10) (oi := _) (v := ?_) rfl (by kernel_rfl) (by kernel_rfl) (by kernel_rfl) (fun _ _ _ h => h) (Or.inl ⟨by rfl, ?_⟩) (by assumption) ?_
    rotate_left
    · intro w hSw; (try dsimp only at hSw); (try (obtain ⟨hSa, hSb⟩ := hSw)); go_simp; try with_reducible rfl
    try simp only [Act.put, List.setIfInBounds_toArray, List.set_cons_zero, List.set_cons_succ]
    refine wpAnyH_take (i := 11) (oi := _) (v := ?_) rfl (by kernel_rfl) (by kernel_rfl) (by kernel_rfl) (fun _ _ _ h => h) (Or.inl ⟨by rfl, ?_⟩) (by assumption) ?_
    rotate_left
    · intro w hSw; (try dsimp only at hSw); (try (obtain ⟨hSa, hSb⟩ := hSw)); go_simp; try with_reducible rfl
    try simp only [Act.put, List.setIfInBounds_toArray, List.set_cons_zero, List.set_cons_succ]
    refine wpAnyH_take (i := 13) (oi := _) (v := ?_) rfl (by kernel_rfl) (by kernel_rfl) (by kernel_rfl) (fun _ _ _ h => h) (Or.inl ⟨by rfl, ?_⟩) (by assumption) ?_
    rotate_left
    · intro w hSw; (try dsimp only at hSw); (try (obtain ⟨hSa, hSb⟩ := hSw)); go_simp; try with_reducible rfl
    try simp only [Act.put, List.setIfInBounds_toArray, List.set_cons_zero, List.set_cons_succ]
    refine wpAnyH_ready (rs := [12]) (by kernel_rfl) (by simp) (AllReadyH.cons (o := _) rfl (fun K hK => ?_) AllReadyH.nil)
    go_simp
    refine hK.out _ _ hHeld (fun hHeld => ?_)
    clear hK K
    try simp only [Act.put, List.setIfInBounds_toArray, List.set_cons_zero, List.set_cons_succ]
    refine wpAnyH_ready (rs := [14]) (by kernel_rfl) (by simp) (AllReadyH.cons (o := _) rfl (fun K hK => ?_) AllReadyH.nil)
    go_wp2_with fail
    (refine (rwithout _ ck KL i _ HI.out hkl2).mono ?_; rintro e w3 ⟨v', rfl, hf⟩; have h3 := HS.out.drew.fresh hf; have V3 := HV.out.keep ((Below.refl w.heap.size w).drew.trans hf.1); obtain ⟨a3, c3, hv3⟩ := h3.irow_form; subst hv3; have d1 := V3.N; have d5 := V3.c5 hun; have e3 := fun o => (ref_frozen (Sep.tail h3) Hw.out rfl rfl).2.1 o; have H3 := Lib.hid h3; clear h3 hf V3)
    try go_wp2_with fail
    refine hK.out _ _ d1 (fun hHeld => ?_)
    clear hK K
    try simp only [Act.put, List.setIfInBounds_toArray, List.set_cons_zero, List.set_cons_succ]
    have h4 := ref_kids (Sep.front H3.out) rfl hun
    obtain ⟨w4, hw4⟩ : ∃ w4, w4 = w3.setCell ⟨bN, u * 14 + 5, none⟩ (.slice a3 (KL.filter fun y => y != (i : Int)).length c3) := ⟨_, rfl⟩
    rw [← hw4] at h4
    obtain ⟨n4, _, q4, _, f4⟩ := ref_nd h4 (by show 0 < A.n; omega) rfl
    have m4 : w4.cell? ⟨bN, i * 14 + 4, none⟩ = some (int ((A.set u (.setKids (KL.filter fun y => y != (i : Int)))).nd i).up) := n4 (k := 4) hi (by omega) rfl
    have HW4 := Lib.hid hw4
    have H4 := Lib.hid h4
    refine wpAnyH_take (i := 15) (oi := _) (v := ?_) rfl (by kernel_rfl) (by kernel_rfl) (by kernel_rfl) (fun _ _ _ h => h) (Or.inl ⟨by rfl, ?_⟩) (by assumption) ?_
    rotate_left
    · intro w hSw; (try dsimp only at hSw); (try (obtain ⟨hSa, hSb⟩ := hSw)); go_simp; try with_reducible rfl
    try simp only [Act.put, List.setIfInBounds_toArray, List.set_cons_zero, List.set_cons_succ]
    refine wpAnyH_take (i := 16) (oi := _) (v := ?_) rfl (by kernel_rfl) (by kernel_rfl) (by kernel_rfl) (fun _ _ _ h => h) (Or.inl ⟨by rfl, ?_⟩) (by assumption) ?_
    rotate_left
    · intro w hSw; (try dsimp only at hSw); (try (obtain ⟨hSa, hSb⟩ := hSw)); go_simp; try with_reducible rfl
    try simp only [Act.put, List.setIfInBounds_toArray, List.set_cons_zero, List.set_cons_succ]
    refine wpAnyH_ready (rs := [17]) (by kernel_rfl) (by simp) (AllReadyH.cons (o := _) rfl (fun K hK => ?_) AllReadyH.nil)
    go_simp
    refine hK.out _ _ (HW4.out ▸ q4) (fun hHeld => ?_)
    clear hK K
    try simp only [Act.put, List.setIfInBounds_toArray, List.set_cons_zero, List.set_cons_succ]
    refine wpAnyH_done (by kernel_rfl) ?_ _
    rw [← HW4.out]
    clear h4 hw4 d1 d5 e3 hHeld n4
    go_wp2
    go_end0
    refine ⟨rfl, ?_⟩
    rw [HT.out]
    exact ref_close (ref_set H4.out rfl hi (k := 4) (by omega) (int (-1)) (.setUp (-1)) (fun _ _ _ => rfl) (fun _ => ⟨rfl, rfl, rfl⟩))

def insOne (b i : Int) (y : Int) : List Int := if y = b then [i, y] else [y]
theorem ins_take {l : List Int} {j : Nat} (h : j < l.length) (b i : Int) : (l.take (j + 1)).flatMap (insOne b i) = (l.take j).flatMap (insOne b i) ++ insOne b i l[j] := by
  rw [List.take_succ_eq_append_getElem h, List.flatMap_append]; simp
theorem ins_len (b i : Int) : ∀ l : List Int, (l.flatMap (insOne b i)).length ≤ 2 * l.length
  | [] => by simp
  | y :: t => by
    have := ins_len b i t
    have h1 : (insOne b i y).length ≤ 2 := by unfold insOne; split <;> simp
    rw [List.flatMap_cons, List.length_append, List.length_cons]
    omega
theorem ins_none {b : Int} (i : Int) {l : List Int} (h : b ∉ l) : l.flatMap (insOne b i) = l := by
  induction l with
  | nil => rfl
  | cons y t ih =>
    rw [List.flatMap_cons, ih (fun hm => h (by simp [hm]))]
    unfold insOne
    rw [if_neg (fun e => h (by simp [e]))]; rfl

set_option maxRecDepth 100000 in
set_option maxHeartbeats 2000000 in
theorem rput (h : Sep W w (refA q A :: rs)) (hw : WF A) (up i : Nat) (hu : up < A.n) (hi : i < A.n) (b : Int) (hb : b = -1 ∨ A.In b) :
    Calls Tryz.prog 73 #[ptr q, int up, int i, int b] w fun e w' => e = .returned (.tuple #[]) ∧ Sep W w' (refA q (A.put up i b) :: rs) := by
  have hin : A.In i := ⟨by omega, by omega⟩
  have hBw := hw.take hin
  have hOut := Lib.hid (rout h hw i hi)
  obtain ⟨B, hB⟩ : ∃ B, B = A.take i := ⟨_, rfl⟩
  have hBn : B.n = A.n := by rw [hB, take_n]
  rw [← hB] at hBw hOut
  have HBW := Lib.hid hBw
  have hub : up < B.n := by omega
  have hib : i < B.n := by omega
  have hubI : B.In up := ⟨by omega, by omega⟩
  obtain ⟨l, hl⟩ : ∃ l, l = (B.nd up).kids := ⟨_, rfl⟩
  have hll : l.length ≤ 5000 := by rw [hl]; have := hBw.kids_len hubI; have := hBw.n_le; omega
  have hn5 := hBw.n_le
  have hpos : ∀ x ∈ l, 0 ≤ x := fun x hx => (hBw.kin up hubI x (hl ▸ hx)).1.1
  have hP : A.put up i b = (B.set up (.setKids (if b = -1 then l.flatMap (insOne b i) ++ [(i : Int)] else l.flatMap (insOne b i)))).set i (.setUp up) := by
    unfold Doc.put
    rw [← hB]
    congr 1
    unfold Doc.set
    congr 1
    funext j
    split
    · rename_i e; subst e
      show Nd.setKids (Doc.ahead b i (B.nd up).kids) _ = _
      rw [← hl]
      congr 1
      unfold Doc.ahead
      by_cases hb1 : b = -1
      · rw [if_pos hb1, if_pos hb1, ins_none]
        rw [hb1]; intro hm; have := hpos _ hm; omega
      · rw [if_neg hb1, if_neg hb1]; rfl
    · rfl
  have HP := Lib.hid hP
  obtain ⟨i0, hi0, hz0, hz1, hz2⟩ := info_parts infoInt
  clear h hw hBw hP hpos hin
  have Hl := Lib.hid hl
  have HB := Lib.hid hB
  clear hl hB
  go_enter Tryz.func73, Tryz.ntmps73
  go_wp2_with fail
  refine hOut.out.mono ?_
  rintro e w1 ⟨rfl, h1⟩
  obtain ⟨bN, cN, bG, cG, av, kv, gv, V, hS, fq, fN, fG⟩ := ref_at h1 HBW.out
  have c1 := V.N
  have u5 := V.c5 hub
  obtain ⟨ak, ck, hkv, _, _, hints⟩ := V.k up hub
  rw [hkv, ← Hl.out] at u5
  rw [← Hl.out] at hkv
  have HKI := Lib.hid (show ∀ (w' : World) (r : Res), Sep W w' (r :: (refL q B (.slice (some ⟨bN, 0, none⟩) B.n cN) (.slice (some ⟨bG, 0, none⟩) B.n cG) av kv gv ++ rs)) → IntsAt w' ak l from fun w' r hS' => by
    obtain ⟨G, hG⟩ := hS'.mem (r := irow (kv up) (B.nd up).kids) (List.mem_cons_of_mem _ (List.mem_append_left _ (by unfold refL; exact List.mem_cons_of_mem _ (List.mem_cons_of_mem _ (List.mem_cons_of_mem _ (mem_rowsL hub (by simp [rowsOf])))))))
    rw [← Hl.out] at hG
    exact rowHolds.intsAt hG (by omega) hkv)
  have H1 := Lib.hid (hS.nilRow TInt 1 none)
  clear h1 V hS hkv hints fq fN fG hOut
  go_wp2_with fail
  go_loopw [8, 10] (fun ov jv wr => ∃ j : Nat, jv = int j ∧ j ≤ l.length ∧ Sep W wr (irow ov ((l.take j).flatMap (insOne b i)) :: (refL q B (.slice (some ⟨bN, 0, none⟩) B.n cN) (.slice (some ⟨bG, 0, none⟩) B.n cG) av kv gv ++ rs))) (fun _ jv _ => l.length - (intOf jv).toNat)
  case atStart => exact ⟨0, rfl, Nat.zero_le _, H1.out⟩
  case round =>
    obtain ⟨j, rfl, hj, hS⟩ := hrel
    have HS := Lib.hid hS
    clear H1 c1 u5
    obtain ⟨a1, c1, hv⟩ := hS.irow_form
    subst hv
    obtain ⟨L, hL⟩ : ∃ L, L = (l.take j).flatMap (insOne b i) := ⟨_, rfl⟩
    have hLl : L.length ≤ 10000 := by
      rw [hL]; have := ins_len b i (l.take j); rw [List.length_take] at this; omega
    have HLd := Lib.hid hL
    rw [← hL] at HS ⊢
    clear hL
    have hI := HKI.out _ _ hS
    by_cases hjl : j < l.length
    · obtain ⟨bl, ol, rfl, hc⟩ := hI.at (by omega)
      have cl := hc j hjl
      have HIN := Lib.hid (ins_take hjl b i)
      have t0 : decide ((j : Int) < l.length) = true := by simp; omega
      have HCL := Lib.hid (show ∀ (w' : World) (r : Res), Sep W w' (r :: (refL q B (.slice (some ⟨bN, 0, none⟩) B.n cN) (.slice (some ⟨bG, 0, none⟩) B.n cG) av kv gv ++ rs)) → w'.cell? ⟨bl, ol + j, none⟩ = some (int l[j]) from fun w' r hS' => by
        obtain ⟨bl', ol', x3, hc'⟩ := (HKI.out _ _ hS').at (by omega)
        injection x3 with x3
        injection x3 with x3 x4
        subst x3; subst x4
        exact hc' j hjl)
      obtain ⟨y, hy⟩ : ∃ y, y = l[j] := ⟨_, rfl⟩
      rw [← hy] at cl HIN HCL
      have hb1 : L.length + 1 ≤ maxLen := by unfold maxLen; omega
      have hb2 : (L.length + 1) * 8 ≤ 140737488355328 := by omega
      have HSX := Lib.hid (show Sep W wr (row TInt 1 (.slice a1 L.length c1) L.length (icells L) :: _) from HS.out)
      clear hS hc hI hy
      by_cases hyb : y = b
      · have t1 : (y == b) = true := by simpa using hyb
        have HE := Lib.hid (show (l.take (j + 1)).flatMap (insOne b i) = L ++ [(i : Int), y] by rw [HIN.out, ← HLd.out]; unfold insOne; rw [if_pos hyb])
        have hb3 : L.length + 1 + 1 ≤ maxLen := by unfold maxLen; omega
        have hb4 : (L.length + 1 + 1) * 8 ≤ 140737488355328 := by omega
        clear hyb
        go_wp2_with (first
          | (at_builtin; refine wpList_app rfl (.tmp 34) (.tmp 36) 31 rfl Tryz.underlying31 hi0 hz0 hz1 hz2 rfl (by decide) rfl (HSX.out.alloc _) _ _ _ [int i] rfl (src_new _ _ _) (by intro u hu; rw [List.mem_singleton.1 hu]; rfl) hb1 hb2 ?_; intro v7 w7 hv7; have H7 := Lib.hid hv7; have cl7 := HCL.out _ _ hv7; obtain ⟨a7, c7, rfl⟩ := row_form hv7; clear hv7 cl)
          | (at_builtin; refine wpList_app rfl (.tmp 38) (.tmp 43) 31 rfl Tryz.underlying31 hi0 hz0 hz1 hz2 rfl (by decide) rfl (H7.out.alloc _) _ _ _ [int y] rfl (src_new _ _ _) (by intro u hu; rw [List.mem_singleton.1 hu]; rfl) hb3 hb4 ?_; intro v8 w8 hv8; have H8 := Lib.hid hv8; clear hv8 cl7))
        go_roundw
        case rel => exact ⟨j + 1, by go_num, hjl, by rw [HE.out]; have := H8.out; unfold irow; simpa [icells] using this⟩
        case measure => simp [intOf]; omega
      · have t1 : (y == b) = false := by simpa using hyb
        have HE := Lib.hid (show (l.take (j + 1)).flatMap (insOne b i) = L ++ [y] by rw [HIN.out, ← HLd.out]; unfold insOne; rw [if_neg hyb])
        clear hyb
        go_wp2_with (at_builtin; refine wpList_app rfl (.tmp 38) (.tmp 43) 31 rfl Tryz.underlying31 hi0 hz0 hz1 hz2 rfl (by decide) rfl (HSX.out.alloc _) _ _ _ [int y] rfl (src_new _ _ _) (by intro u hu; rw [List.mem_singleton.1 hu]; rfl) hb1 hb2 ?_; intro v8 w8 hv8; have H8 := Lib.hid hv8; clear hv8 cl)
        go_roundw
        case rel => exact ⟨j + 1, by go_num, hjl, by rw [HE.out]; have := H8.out; unfold irow; rw [List.length_append]; simpa [icells] using this⟩
        case measure => simp [intOf]; omega
    · obtain rfl : j = l.length := by omega
      have t0 : decide ((l.length : Int) < l.length) = false := by simp
      rw [List.take_length] at HLd
      clear hS hI
      have fin : ∀ (M : List Int) (wf : World) (a2 : Option Addr) (c2 : Nat), (if b = -1 then L ++ [(i : Int)] else L) = M → Sep W wf (irow (.slice a2 M.length c2) M :: (refL q B (.slice (some ⟨bN, 0, none⟩) B.n cN) (.slice (some ⟨bG, 0, none⟩) B.n cG) av kv gv ++ rs)) →
          Sep W ((wf.setCell ⟨bN, up * 14 + 5, none⟩ (.slice a2 M.length c2)).setCell ⟨bN, i * 14 + 4, none⟩ (int up)) (refA q (A.put up i b) :: rs) ∧ wf.cell? ⟨q, 1, none⟩ = some (.slice (some ⟨bN, 0, none⟩) B.n cN) ∧ (∀ o, wf.frozen? ⟨bN, o, none⟩ = false) ∧ wf.cell? ⟨bN, up * 14 + 5, none⟩ = some (kv up) ∧
          (wf.setCell ⟨bN, up * 14 + 5, none⟩ (.slice a2 M.length c2)).cell? ⟨bN, i * 14 + 4, none⟩ = some (int ((B.set up (.setKids M)).nd i).up) ∧ (wf.setCell ⟨bN, up * 14 + 5, none⟩ (.slice a2 M.length c2)).cell? ⟨q, 1, none⟩ = some (.slice (some ⟨bN, 0, none⟩) B.n cN) := fun M wf a2 c2 hM hS => by
        have h4 := ref_kids (Sep.front hS) rfl hub
        obtain ⟨n3, _, q3, _, f3⟩ := ref_nd hS.tail (by omega) rfl
        obtain ⟨n4, _, q4, _, f4⟩ := ref_nd h4 (by show 0 < B.n; omega) rfl
        refine ⟨?_, q3, f3, n3 (k := 5) hub (by omega) rfl, n4 (k := 4) hib (by omega) rfl, q4⟩
        rw [HP.out, ← HLd.out, hM]
        exact ref_close (ref_set h4 rfl hib (k := 4) (by omega) (int up) (.setUp up) (fun _ _ _ => rfl) (fun _ => ⟨rfl, rfl, rfl⟩))
      have FIN := Lib.hid fin
      clear fin
      by_cases hb1 : b = -1
      · have t1 : decide (b < 0) = true := by rw [hb1]; rfl
        have hbb1 : L.length + 1 ≤ maxLen := by unfold maxLen; omega
        have hbb2 : (L.length + 1) * 8 ≤ 140737488355328 := by omega
        have HSX := Lib.hid (show Sep W wr (row TInt 1 (.slice a1 L.length c1) L.length (icells L) :: _) from HS.out)
        have HF2 := Lib.hid (fun wf a2 c2 => FIN.out (L ++ [(i : Int)]) wf a2 c2 (by rw [if_pos hb1]))
        clear hb1 FIN
        go_wp2_with (at_builtin; refine wpList_app rfl (.tmp 47) (.tmp 49) 31 rfl Tryz.underlying31 hi0 hz0 hz1 hz2 rfl (by decide) rfl (HSX.out.alloc _) _ _ _ [int i] rfl (src_new _ _ _) (by intro u hu; rw [List.mem_singleton.1 hu]; rfl) hbb1 hbb2 ?_; intro v8 w8 hv8; have H8 := Lib.hid hv8; obtain ⟨a8, c8, rfl⟩ := row_form hv8; obtain ⟨F1, F2, F3, F4, F5, F6⟩ := HF2.out w8 a8 c8 (by unfold irow; rw [List.length_append]; simpa [icells] using hv8); simp only [List.length_append, List.length_singleton] at F1 F5 F6; have HF := Lib.hid F1; clear hv8 F1)
        go_end0
        exact ⟨rfl, HF.out⟩
      · have t1 : decide (b < 0) = false := by
          have := (hb.resolve_left hb1).1
          exact decide_eq_false (by omega)
        obtain ⟨F1, F2, F3, F4, F5, F6⟩ := FIN.out L wr a1 c1 (by rw [if_neg hb1]) HS.out
        have HF := Lib.hid F1
        clear F1 hb1 FIN hb
        go_wp2
        go_end0
        exact ⟨rfl, HF.out⟩
end
end Go.Proofs.YtgdmaikjaopddaaGreatDoor

/- The document's own answer: Node, Given, next, fits, Remove, Write, Set. -/
namespace Go.Proofs.YtgdmaikjaopddaaGreatDoor
open Go.RowKit

section
variable {W w : World} {rs : List Res} {q : Nat} {A : Doc}
set_option maxRecDepth 100000 in
theorem rgiven (h : Sep W w (refA q A :: rs)) (hw : WF A) (i : Int) : Calls Tryz.prog 55 #[ptr q, int i] w fun e w' => ∃ v, e = .returned v ∧ Sep W w' (irow v (A.givenOf i) :: refA q A :: rs) := by
  have HT := Lib.hid (rthere h hw i)
  have H := Lib.hid h
  by_cases hi : A.In i
  · obtain ⟨bN, cN, bG, cG, av, kv, gv, V, _⟩ := ref_at h hw
    obtain ⟨j, rfl, hj⟩ := icast hi.1 hi.2
    have HE := Lib.hid (show A.givenOf j = (A.nd j).given from if_pos hi)
    have TD := Lib.hid (show decide (A.In j) = true from decide_eq_true hi)
    have c2 := V.G
    have u := V.g j hj
    obtain ⟨a, c, hgv, _, _, hI⟩ := V.gi j hj
    rw [hgv] at u
    have hgl := hw.given_len hi
    have hn := hw.n_le
    have HI := Lib.hid hI
    obtain ⟨l, hl⟩ : ∃ l, l = (A.nd j).given := ⟨_, rfl⟩
    rw [← hl] at u HI hgl HE
    have hgl2 : l.length ≤ 1000000 := by omega
    have i0 : (0 : Int) ≤ j := by omega
    have hG := V.hG
    clear h V hgv hI hl hi hw
    go_enter Tryz.func55, Tryz.ntmps55
    go_wp2_with fail
    refine HT.out.mono ?_
    rintro e w' ⟨rfl, rfl⟩
    rw [TD.out]
    go_wp2_with fail
    refine (rints a c l w HI.out hgl2).mono ?_
    rintro e w2 ⟨v, rfl, hf⟩
    have H2 := Lib.hid (H.out.fresh hf)
    clear hf
    go_wp2
    go_ret
    exact ⟨_, rfl, by rw [HE.out]; exact H2.out⟩
  · have TD := Lib.hid (show decide (A.In i) = false from decide_eq_false hi)
    have HE := Lib.hid (show A.givenOf i = [] from if_neg hi)
    clear h hi hw
    go_enter Tryz.func55, Tryz.ntmps55
    go_wp2_with fail
    refine HT.out.mono ?_
    rintro e w' ⟨rfl, rfl⟩
    rw [TD.out]
    go_wp2
    go_ret
    exact ⟨_, rfl, by rw [HE.out]; exact H.out.nilRow _ _ _⟩

theorem nextIn_at : ∀ {l : List Int} {i : Int} {j : Nat} (h : j + 1 < l.length), l.Nodup → l[j] = i → nextIn l i = l[j + 1]
  | [], _, _, h, _, _ => absurd h (by simp)
  | x :: t, i, j, h, hd, he => by
    obtain ⟨l1, l2, e1, h1, h2⟩ := mem_split (l := x :: t) (i := i) (he ▸ List.getElem_mem (by omega)) hd
    have hl : l1.length = j := by
      have q : (x :: t)[l1.length]? = some i := by rw [e1]; simp
      have q2 : (x :: t)[j]? = some i := by rw [List.getElem?_eq_getElem (by omega)]; exact congrArg some he
      exact (List.getElem?_inj (by rw [e1]; simp) hd).1 (q.trans q2.symm)
    have hnx : nextIn (x :: t) i = l2.headD (-1) := by rw [e1]; exact nextIn_mid h1
    rw [hnx]
    have q3 : (x :: t)[j + 1]? = l2.head? := by rw [e1, ← hl, List.getElem?_append_right (by omega)]; simp [List.head?_eq_getElem?]
    rw [List.getElem?_eq_getElem h] at q3
    cases l2 with
    | nil => simp at q3
    | cons z l3 => simpa using q3.symm
theorem nextIn_last {l : List Int} {i : Int} (hd : l.Nodup) (hm : i ∈ l) (h : ∀ j (hj : j + 1 < l.length), l[j] ≠ i) : nextIn l i = -1 := by
  obtain ⟨l1, l2, e1, h1, h2⟩ := mem_split hm hd
  rw [e1, nextIn_mid h1]
  cases l2 with
  | nil => rfl
  | cons z l3 =>
    exfalso
    exact h l1.length (by rw [e1]; simp) (by simp [e1])

set_option maxRecDepth 100000 in
set_option maxHeartbeats 1000000 in
theorem rnext (h : Sep W w (refA q A :: rs)) (hw : WF A) (i : Nat) (hi : i < A.n) (hup : (A.nd i).up ≠ -1) : Calls Tryz.prog 74 #[ptr q, int i] w fun e w' => e = .returned (int (nextIn (A.nd (A.nd i).up).kids i)) ∧ ∃ m, w.drewN m = w' := by
  have hin : A.In i := ⟨by omega, by omega⟩
  obtain ⟨bN, cN, bG, cG, av, kv, gv, V, _⟩ := ref_at h hw
  obtain ⟨u, hue, hun⟩ := icast ((hw.up i hin).resolve_left hup).1 ((hw.up i hin).resolve_left hup).2
  have hm := hw.upk i hin hup
  have hd := hw.nod u ⟨by omega, by omega⟩
  have hkl := hw.kids_len (i := (u : Int)) ⟨by omega, by omega⟩
  have hn := hw.n_le
  have c1 := V.N
  have u4 := V.c4 hi
  rw [hue] at u4 hm ⊢
  have u5 := V.c5 hun
  obtain ⟨a, c, hkv, _, _, hI⟩ := V.k u hun
  rw [hkv] at u5
  obtain ⟨l, hl⟩ : ∃ l, l = (A.nd u).kids := ⟨_, rfl⟩
  rw [← hl] at u5 hI hkl hm hd ⊢
  have HI := Lib.hid hI
  have HM := Lib.hid hm
  have HD := Lib.hid hd
  have i0 : (0 : Int) ≤ i := by omega
  have i1 : (i : Int) < A.n := by omega
  have i2 : (0 : Int) ≤ u := by omega
  have i3 : (u : Int) < A.n := by omega
  clear h V hI hm hd hkv hl hue hup hw hin
  go_enter Tryz.func74, Tryz.ntmps74
  go_wp2_with fail
  go_quiet (fail)
  go_wp2_with fail
  go_loop [6] (fun t => ∃ j : Nat, t = int j ∧ j ≤ l.length ∧ ∀ k (hk : k < j) (hk2 : k + 1 < l.length), l[k] ≠ (i : Int)) (fun t => l.length - (intOf t).toNat)
  case atStart => exact ⟨0, rfl, Nat.zero_le _, fun k hk => absurd hk (Nat.not_lt_zero k)⟩
  case round =>
    obtain ⟨j, rfl, hj, hno⟩ := hrel
    have HN := Lib.hid hno
    clear hno
    by_cases hjl : j + 1 < l.length
    · obtain ⟨b, o, rfl, hc⟩ := HI.out.at (by omega)
      have f0 := hc j (by omega)
      have f1 := hc (j + 1) hjl
      have f2 := hc (j + 1) hjl
      have f3 := hc (j + 1) hjl
      have t0 : (j : Int) + 1 < l.length := by omega
      have HX := Lib.hid (fun e : l[j] = (i : Int) => nextIn_at hjl HD.out e)
      obtain ⟨y, hy⟩ : ∃ y, y = l[j] := ⟨_, rfl⟩
      have HY := Lib.hid hy
      rw [← hy] at f0 HX
      rw [show o + (j + 1) = o + j + 1 by omega] at f1
      rw [show o + (j + 1) = o + 1 + j by omega] at f3
      clear hc hy
      by_cases hyi : y = i
      · have t1 : (y == (i : Int)) = true := by simpa using hyi
        have HE := Lib.hid (HX.out hyi)
        clear hyi
        go_wp2
        go_ret
        exact ⟨by rw [HE.out]; rfl, _, rfl⟩
      · have t1 : (y == (i : Int)) = false := by simpa using hyi
        have HNE := Lib.hid hyi
        clear hyi
        go_wp2
        go_round
        case rel => exact ⟨j + 1, by go_num, by omega, fun k hk hk2 => by
          by_cases e : k = j
          · subst e; rw [← HY.out]; exact HNE.out
          · exact HN.out k (by omega) hk2⟩
        case measure => simp [intOf]; omega
    · have HE := Lib.hid (nextIn_last HD.out HM.out (fun k hk => HN.out k (by omega) hk))
      have t0 : ¬ (j : Int) + 1 < l.length := by omega
      go_wp2
      go_ret
      exact ⟨by rw [HE.out]; rfl, _, rfl⟩

set_option maxRecDepth 100000 in
theorem rwrite (h : Sep W w (refA q A :: rs)) (hw : WF A) (i : Int) (da : ByteArray) : Calls Tryz.prog 46 #[ptr q, int i, .string da] w fun e w' => e = .returned (int (A.writeE i)) ∧ Sep W w' (refA q (A.writeA i da) :: rs) := by
  have HT := Lib.hid (rthere h hw i)
  have H := Lib.hid h
  by_cases hi : A.In i
  · obtain ⟨bN, cN, bG, cG, av, kv, gv, V, hS, fq, fN, fG⟩ := ref_at h hw
    obtain ⟨j, rfl, hj⟩ := icast hi.1 hi.2
    have TD := Lib.hid (show decide (A.In j) = true from decide_eq_true hi)
    have c1 := V.N
    have u0 := V.c0 hj
    have u2 := V.c2 hj
    have hn := hw.n_le
    have HS := Lib.hid hS
    by_cases hk : (A.nd j).kind = 2 ∨ (A.nd j).kind = 3
    · have hE : A.writeE j = 0 := by unfold Doc.writeE; rw [if_pos hi, if_pos hk]
      have HE := Lib.hid hE
      have HA := Lib.hid (show A.writeA j da = A.set j (.setData da) by unfold Doc.writeA; rw [if_pos hE])
      have FIN := Lib.hid (ref_close (ref_set HS.out rfl hj (k := 2) (by omega) (.string da) (.setData da) (fun _ _ _ => rfl) (fun _ => ⟨rfl, rfl, rfl⟩)))
      clear h V hS hE hw hi fq fG
      rcases hk with hk | hk
      · have t1 : ((A.nd j).kind != 2) = false := by simp [hk]
        clear hk
        go_enter Tryz.func46, Tryz.ntmps46
        go_wp2_with fail
        refine HT.out.mono ?_
        rintro e w' ⟨rfl, rfl⟩
        rw [TD.out]
        go_wp2
        go_ret
        exact ⟨by rw [HE.out]; rfl, by rw [HA.out]; exact FIN.out⟩
      · have t1 : ((A.nd j).kind != 2) = true := by simp [hk]
        have t2 : ((A.nd j).kind != 3) = false := by simp [hk]
        clear hk
        go_enter Tryz.func46, Tryz.ntmps46
        go_wp2_with fail
        refine HT.out.mono ?_
        rintro e w' ⟨rfl, rfl⟩
        rw [TD.out]
        go_wp2
        go_ret
        exact ⟨by rw [HE.out]; rfl, by rw [HA.out]; exact FIN.out⟩
    · have hE : A.writeE j = 81 := by unfold Doc.writeE; rw [if_pos hi, if_neg hk]
      have HE := Lib.hid hE
      have HA := Lib.hid (show A.writeA j da = A by unfold Doc.writeA; rw [if_neg (by rw [hE]; decide)])
      have t1 : ((A.nd j).kind != 2) = true := by simp; exact fun e => hk (.inl e)
      have t2 : ((A.nd j).kind != 3) = true := by simp; exact fun e => hk (.inr e)
      clear h V hS hE hw hi fq fG hk
      go_enter Tryz.func46, Tryz.ntmps46
      go_wp2_with fail
      refine HT.out.mono ?_
      rintro e w' ⟨rfl, rfl⟩
      rw [TD.out]
      go_wp2
      go_ret
      exact ⟨by rw [HE.out]; rfl, by rw [HA.out]; exact H.out⟩
  · have hE : A.writeE i = 80 := by unfold Doc.writeE; rw [if_neg hi]
    have HE := Lib.hid hE
    have HA := Lib.hid (show A.writeA i da = A by unfold Doc.writeA; rw [if_neg (by rw [hE]; decide)])
    have TD := Lib.hid (show decide (A.In i) = false from decide_eq_false hi)
    clear h hE hw hi
    go_enter Tryz.func46, Tryz.ntmps46
    go_wp2_with fail
    refine HT.out.mono ?_
    rintro e w' ⟨rfl, rfl⟩
    rw [TD.out]
    go_wp2
    go_ret
    exact ⟨by rw [HE.out]; rfl, by rw [HA.out]; exact H.out⟩

set_option maxRecDepth 100000 in
theorem rremove (h : Sep W w (refA q A :: rs)) (hw : WF A) (i : Int) : Calls Tryz.prog 41 #[ptr q, int i] w fun e w' => e = .returned (int (A.removeE i)) ∧ Sep W w' (refA q (A.removeA i) :: rs) := by
  have HT := Lib.hid (rthere h hw i)
  have H := Lib.hid h
  by_cases hi : A.In i
  · obtain ⟨bN, cN, bG, cG, av, kv, gv, V, _⟩ := ref_at h hw
    obtain ⟨j, rfl, hj⟩ := icast hi.1 hi.2
    have TD := Lib.hid (show decide (A.In j) = true from decide_eq_true hi)
    have c1 := V.N
    have u4 := V.c4 hj
    have hn := hw.n_le
    have HO := Lib.hid (rout h hw j hj)
    by_cases hu : (A.nd j).up = -1
    · have hE : A.removeE j = 81 := by unfold Doc.removeE; rw [if_pos hi, if_pos hu]
      have HE := Lib.hid hE
      have HA := Lib.hid (show A.removeA j = A by unfold Doc.removeA; rw [if_neg (by rw [hE]; decide)])
      have t1 : decide ((A.nd j).up < 0) = true := by rw [hu]; rfl
      clear h V hE hw hi hu
      go_enter Tryz.func41, Tryz.ntmps41
      go_wp2_with fail
      refine HT.out.mono ?_
      rintro e w' ⟨rfl, rfl⟩
      rw [TD.out]
      go_wp2
      go_ret
      exact ⟨by rw [HE.out]; rfl, by rw [HA.out]; exact H.out⟩
    · have hE : A.removeE j = 0 := by unfold Doc.removeE; rw [if_pos hi, if_neg hu]
      have HE := Lib.hid hE
      have HA := Lib.hid (show A.removeA j = A.take j by unfold Doc.removeA; rw [if_pos hE])
      have t1 : decide ((A.nd j).up < 0) = false := decide_eq_false (by have := ((hw.up j hi).resolve_left hu).1; omega)
      clear h V hE hw hi hu
      go_enter Tryz.func41, Tryz.ntmps41
      go_wp2_with fail
      refine HT.out.mono ?_
      rintro e w' ⟨rfl, rfl⟩
      rw [TD.out]
      go_wp2_with fail
      refine HO.out.mono ?_
      rintro e w2 ⟨rfl, h2⟩
      have H2 := Lib.hid h2
      clear h2
      go_wp2
      go_ret
      exact ⟨by rw [HE.out]; rfl, by rw [HA.out]; exact H2.out⟩
  · have hE : A.removeE i = 80 := by unfold Doc.removeE; rw [if_neg hi]
    have HE := Lib.hid hE
    have HA := Lib.hid (show A.removeA i = A by unfold Doc.removeA; rw [if_neg (by rw [hE]; decide)])
    have TD := Lib.hid (show decide (A.In i) = false from decide_eq_false hi)
    clear h hE hw hi
    go_enter Tryz.func41, Tryz.ntmps41
    go_wp2_with fail
    refine HT.out.mono ?_
    rintro e w' ⟨rfl, rfl⟩
    rw [TD.out]
    go_wp2
    go_ret
    exact ⟨by rw [HE.out]; rfl, by rw [HA.out]; exact H.out⟩
end
end Go.Proofs.YtgdmaikjaopddaaGreatDoor

/- The document's own answer: fits, Insert. -/
namespace Go.Proofs.YtgdmaikjaopddaaGreatDoor
open Go.RowKit

section
variable {W w : World} {rs : List Res} {q : Nat} {A : Doc}
set_option maxRecDepth 100000 in
set_option maxHeartbeats 1000000 in
theorem rfits (h : Sep W w (refA q A :: rs)) (hw : WF A) (up i : Nat) (hu : up < A.n) (hi : i < A.n) :
    Calls Tryz.prog 72 #[ptr q, int up, int i] w fun e w' => e = .returned (.bool (A.fitsB up i)) ∧ w = w' := by
  obtain ⟨bN, cN, bG, cG, av, kv, gv, V⟩ := ref_view h hw
  have c1 := V.N
  have u0 := V.c0 hu
  have u1 := V.c1 hu
  have v7 := V.c7 hi
  have hn := hw.n_le
  have hE : A.fitsB up i = (takesB (A.nd up).kind (A.nd up).name && ((i : Int) != 0 && (A.nd i).host == -1 && !climbB A.par up i)) := rfl
  have hH := hw.host i ⟨by omega, by omega⟩
  cases ht : takesB (A.nd up).kind (A.nd up).name
  · have HE := Lib.hid (show A.fitsB up i = false by rw [hE, ht]; rfl)
    by_cases hk : (A.nd up).kind = 1
    · have hv : voidB (A.nd up).name = true := by
        rw [hk] at ht; unfold takesB at ht; simpa using ht
      have HV := Lib.hid hv
      rw [hk] at u0
      clear h hw V hE hH ht hk hv v7
      go_enter Tryz.func72, Tryz.ntmps72
      go_wp2_with fail
      refine (rvoid _ _).mono ?_
      rintro e w' ⟨rfl, rfl⟩
      rw [HV.out]
      go_wp2
      go_ret
      exact ⟨by rw [HE.out]; rfl, rfl⟩
    · have t1 : ((A.nd up).kind == 1) = false := by simpa using hk
      have t4 : ((A.nd up).kind == 4) = false := by
        by_cases e : (A.nd up).kind = 4
        · rw [e] at ht; exact absurd ht (by simp [takesB])
        · simpa using e
      have t5 : ((A.nd up).kind == 5) = false := by
        by_cases e : (A.nd up).kind = 5
        · rw [e] at ht; exact absurd ht (by simp [takesB])
        · simpa using e
      have s1 : ((A.nd up).kind != 1) = true := by simpa using t1
      have s4 : ((A.nd up).kind != 4) = true := by simpa using t4
      have s5 : ((A.nd up).kind != 5) = true := by simpa using t5
      clear h hw V hE hH ht hk v7
      go_enter Tryz.func72, Tryz.ntmps72
      go_wp2
      go_ret
      exact ⟨by rw [HE.out]; rfl, rfl⟩
  · have hk : (A.nd up).kind = 4 ∨ (A.nd up).kind = 5 ∨ (A.nd up).kind = 1 ∧ voidB (A.nd up).name = false := by
      unfold takesB at ht
      simpa [or_assoc] using ht
    rw [ht] at hE
    have HW := Lib.hid (fun hj => rwithin h hw up i ⟨by omega, by omega⟩ hj)
    by_cases hz : (i : Int) = 0
    · have z1 : ((i : Int) != 0) = false := by simpa using hz
      have HE := Lib.hid (show A.fitsB up i = false by rw [hE, z1]; rfl)
      clear h hw V hE hH ht hz v7
      rcases hk with hk | hk | ⟨hk, hv⟩
      all_goals
        rw [hk] at u0
        go_enter Tryz.func72, Tryz.ntmps72
        go_wp2_with fail
        try (refine (rvoid _ _).mono ?_; rintro e w' ⟨rfl, rfl⟩; rw [hv]; go_wp2)
        go_ret
        exact ⟨by rw [HE.out]; rfl, rfl⟩
    · have z1 : ((i : Int) != 0) = true := by simpa using hz
      by_cases hh : (A.nd i).host = -1
      · have HE := Lib.hid (show A.fitsB up i = !climbB A.par up i by rw [hE, z1, hh]; rfl)
        have h1 : decide ((A.nd i).host < 0) = true := by rw [hh]; rfl
        have HZ := Lib.hid (show (i : Int) ≠ -1 by omega)
        clear h hw V hE hH ht hz hh
        rcases hk with hk | hk | ⟨hk, hv⟩
        all_goals
          rw [hk] at u0
          go_enter Tryz.func72, Tryz.ntmps72
          go_wp2_with fail
          try (refine (rvoid _ _).mono ?_; rintro e w' ⟨rfl, rfl⟩; rw [hv]; go_wp2_with fail)
          refine (HW.out HZ.out).mono ?_
          rintro e w' ⟨rfl, rfl⟩
          go_wp2
          go_ret
          exact ⟨by rw [HE.out]; rfl, rfl⟩
      · have HE := Lib.hid (show A.fitsB up i = false by
          have : ((A.nd i).host == -1) = false := by simpa using hh
          rw [hE, z1, this]; rfl)
        have h1 : decide ((A.nd i).host < 0) = false := decide_eq_false (by have := (hH.resolve_left hh).1; omega)
        clear h hw V hE hH ht hz hh
        rcases hk with hk | hk | ⟨hk, hv⟩
        all_goals
          rw [hk] at u0
          go_enter Tryz.func72, Tryz.ntmps72
          go_wp2_with fail
          try (refine (rvoid _ _).mono ?_; rintro e w' ⟨rfl, rfl⟩; rw [hv]; go_wp2)
          go_ret
          exact ⟨by rw [HE.out]; rfl, rfl⟩

theorem putAll_snoc (up b : Int) : ∀ (l : List Int) (k : Int) (A : Doc), putAll up b (l ++ [k]) A = (putAll up b l A).put up k b
  | [], _, _ => rfl
  | _ :: t, k, A => putAll_snoc up b t k _
theorem putAll_wf {up b : Int} : ∀ (l : List Int) {A : Doc}, WF A → A.In up → (b = -1 ∨ A.In b ∧ (A.nd b).up = up ∧ b ∉ l) → (∀ k ∈ l, A.In k ∧ (A.nd k).host = -1 ∧ ¬ Climb A.par up k) → WF (putAll up b l A) ∧ (putAll up b l A).n = A.n
  | [], _, hw, _, _, _ => ⟨hw, rfl⟩
  | k :: t, A, hw, hu, hb, hk => by
    obtain ⟨hk0, hk1, hk2⟩ := hk k (by simp)
    have hB : Before A up k b := hb.imp id fun h => ⟨h.1, h.2.1, fun e => h.2.2 (by simp [e])⟩
    have hw1 := hw.put hu hk0 hk1 hk2 hB
    have hu0 : up ≠ -1 := neg_of_in hu
    have hup : (A.nd b).up = up → ((A.put up k b).nd b).up = up := fun h => by
      rw [put_up]; split
      · rfl
      · exact h
    have := putAll_wf t hw1 (put_in.2 hu) (hb.imp id fun h => ⟨put_in.2 h.1, hup h.2.1, fun e => h.2.2 (by simp [e])⟩) fun x hx => by
      obtain ⟨h0, h1, h2⟩ := hk x (by simp [hx])
      refine ⟨put_in.2 h0, by rw [put_host]; exact h1, fun hc => h2 ?_⟩
      refine climb_congr (S := fun x => Climb A.par up x) (fun y hy => ?_) (fun y hy hp => ?_) (.here up) hc
      · have : y ≠ k := fun e => hk2 (e ▸ hy)
        rw [put_par hu0, if_neg this]
      · have : y ≠ k := fun e => hk2 (e ▸ hy)
        rw [put_par hu0, if_neg this] at hp ⊢
        exact hy.trans (.up hp (.here _))
    exact ⟨this.1, this.2.trans put_n⟩

set_option maxRecDepth 100000 in
set_option maxHeartbeats 1000000 in
theorem rinsert_no (h : Sep W w (refA q A :: rs)) (hw : WF A) (up i b : Int) (h0 : A.insertE up i b ≠ 0) :
    Calls Tryz.prog 40 #[ptr q, int up, int i, int b] w fun e w' => e = .returned (int (A.insertE up i b)) ∧ w = w' := by
  have HT := Lib.hid (fun j => rthere h hw j)
  by_cases hu : A.In up
  · have TU := Lib.hid (show decide (A.In up) = true from decide_eq_true hu)
    by_cases hi : A.In i
    · have TI := Lib.hid (show decide (A.In i) = true from decide_eq_true hi)
      by_cases hb : b = -1
      · have tb : (b != -1) = false := by simpa using hb
        have hE : A.insertE up i b = if A.fitsB up i = true ∧ (b = -1 ∨ (A.nd b).up = up) then 0 else 81 := by unfold Doc.insertE; rw [if_pos ⟨hu, hi, .inl hb⟩]
        have hf : A.fitsB up i = false := by
          cases hf : A.fitsB up i
          · rfl
          · exact absurd (by rw [hE, if_pos ⟨hf, .inl hb⟩]) h0
        have HE := Lib.hid (show A.insertE up i b = 81 by rw [hE, if_neg (by rw [hf]; simp)])
        obtain ⟨u, rfl, hu'⟩ := icast hu.1 hu.2
        obtain ⟨j, rfl, hj'⟩ := icast hi.1 hi.2
        have HF := Lib.hid (rfits h hw u j hu' hj')
        have FF := Lib.hid hf
        clear h hw h0 hu hi hE hf
        subst hb
        go_enter Tryz.func40, Tryz.ntmps40
        go_wp2_with fail
        refine (HT.out _).mono ?_
        rintro e w' ⟨rfl, rfl⟩
        rw [TU.out]
        go_wp2_with fail
        refine (HT.out _).mono ?_
        rintro e w' ⟨rfl, rfl⟩
        rw [TI.out]
        go_wp2_with fail
        refine HF.out.mono ?_
        rintro e w' ⟨rfl, rfl⟩
        rw [FF.out]
        go_wp2
        go_ret
        exact ⟨by rw [HE.out]; rfl, rfl⟩
      · have tb : (b != -1) = true := by simpa using hb
        by_cases hbi : A.In b
        · have TB := Lib.hid (show decide (A.In b) = true from decide_eq_true hbi)
          have hE : A.insertE up i b = if A.fitsB up i = true ∧ (b = -1 ∨ (A.nd b).up = up) then 0 else 81 := by unfold Doc.insertE; rw [if_pos ⟨hu, hi, .inr hbi⟩]
          obtain ⟨bN, cN, bG, cG, av, kv, gv, V⟩ := ref_view h hw
          have c1 := V.N
          obtain ⟨u, rfl, hu'⟩ := icast hu.1 hu.2
          obtain ⟨j, rfl, hj'⟩ := icast hi.1 hi.2
          obtain ⟨c, rfl, hc'⟩ := icast hbi.1 hbi.2
          have v4 := V.c4 hc'
          have hn := hw.n_le
          have HF := Lib.hid (rfits h hw u j hu' hj')
          cases hf : A.fitsB u j
          · have HE := Lib.hid (show A.insertE u j c = 81 by rw [hE, if_neg (by rw [hf]; simp)])
            have FF := Lib.hid hf
            clear h hw h0 hu hi hE hf hbi V hb
            go_enter Tryz.func40, Tryz.ntmps40
            go_wp2_with fail
            refine (HT.out _).mono ?_
            rintro e w' ⟨rfl, rfl⟩
            rw [TU.out]
            go_wp2_with fail
            refine (HT.out _).mono ?_
            rintro e w' ⟨rfl, rfl⟩
            rw [TI.out]
            go_wp2_with fail
            refine (HT.out _).mono ?_
            rintro e w' ⟨rfl, rfl⟩
            rw [TB.out]
            go_wp2_with fail
            refine HF.out.mono ?_
            rintro e w' ⟨rfl, rfl⟩
            rw [FF.out]
            go_wp2
            go_ret
            exact ⟨by rw [HE.out]; rfl, rfl⟩
          · have hup : (A.nd c).up ≠ u := fun e => absurd (by rw [hE, if_pos ⟨hf, .inr e⟩]) h0
            have tu : ((A.nd c).up != (u : Int)) = true := by simpa using hup
            have HE := Lib.hid (show A.insertE u j c = 81 by rw [hE, if_neg (fun e => hup (e.2.resolve_left hb))])
            have FF := Lib.hid hf
            clear h hw h0 hu hi hE hf hbi V hup hb
            go_enter Tryz.func40, Tryz.ntmps40
            go_wp2_with fail
            refine (HT.out _).mono ?_
            rintro e w' ⟨rfl, rfl⟩
            rw [TU.out]
            go_wp2_with fail
            refine (HT.out _).mono ?_
            rintro e w' ⟨rfl, rfl⟩
            rw [TI.out]
            go_wp2_with fail
            refine (HT.out _).mono ?_
            rintro e w' ⟨rfl, rfl⟩
            rw [TB.out]
            go_wp2_with fail
            refine HF.out.mono ?_
            rintro e w' ⟨rfl, rfl⟩
            rw [FF.out]
            go_wp2
            go_ret
            exact ⟨by rw [HE.out]; rfl, rfl⟩
        · have TB := Lib.hid (show decide (A.In b) = false from decide_eq_false hbi)
          have HE := Lib.hid (show A.insertE up i b = 80 by unfold Doc.insertE; rw [if_neg (fun e => e.2.2.elim hb hbi)])
          clear h hw h0 hu hi hbi hb
          go_enter Tryz.func40, Tryz.ntmps40
          go_wp2_with fail
          refine (HT.out _).mono ?_
          rintro e w' ⟨rfl, rfl⟩
          rw [TU.out]
          go_wp2_with fail
          refine (HT.out _).mono ?_
          rintro e w' ⟨rfl, rfl⟩
          rw [TI.out]
          go_wp2_with fail
          refine (HT.out _).mono ?_
          rintro e w' ⟨rfl, rfl⟩
          rw [TB.out]
          go_wp2
          go_ret
          exact ⟨by rw [HE.out]; rfl, rfl⟩
    · have TI := Lib.hid (show decide (A.In i) = false from decide_eq_false hi)
      have HE := Lib.hid (show A.insertE up i b = 80 by unfold Doc.insertE; rw [if_neg (fun e => hi e.2.1)])
      clear h hw h0 hu hi
      go_enter Tryz.func40, Tryz.ntmps40
      go_wp2_with fail
      refine (HT.out _).mono ?_
      rintro e w' ⟨rfl, rfl⟩
      rw [TU.out]
      go_wp2_with fail
      refine (HT.out _).mono ?_
      rintro e w' ⟨rfl, rfl⟩
      rw [TI.out]
      go_wp2
      go_ret
      exact ⟨by rw [HE.out]; rfl, rfl⟩
  · have TU := Lib.hid (show decide (A.In up) = false from decide_eq_false hu)
    have HE := Lib.hid (show A.insertE up i b = 80 by unfold Doc.insertE; rw [if_neg (fun e => hu e.1)])
    clear h hw h0 hu
    go_enter Tryz.func40, Tryz.ntmps40
    go_wp2_with fail
    refine (HT.out _).mono ?_
    rintro e w' ⟨rfl, rfl⟩
    rw [TU.out]
    go_wp2
    go_ret
    exact ⟨by rw [HE.out]; rfl, rfl⟩

set_option maxRecDepth 100000 in
set_option maxHeartbeats 2000000 in
theorem rinsert_yes (h : Sep W w (refA q A :: rs)) (hw : WF A) (up i b : Int) (h0 : A.insertE up i b = 0) :
    Calls Tryz.prog 40 #[ptr q, int up, int i, int b] w fun e w' => e = .returned (int 0) ∧ Sep W w' (refA q (A.insertA up i b) :: rs) := by
  have HT := Lib.hid (fun j => rthere h hw j)
  obtain ⟨hu, hi, hb, hf, hbu⟩ := Doc.insert_ok h0
  have hA : A.insertA up i b = if (A.nd i).kind = 4 then putAll up b (A.nd i).kids A else A.put up i (if b = i then nextIn (A.nd up).kids i else b) := by unfold Doc.insertA; rw [if_pos h0]
  have hbb : b = -1 ∨ A.In b ∧ (A.nd b).up = up := by
    rcases hb with h | h
    · exact .inl h
    · exact hbu.imp id fun h' => ⟨h, h'⟩
  have hKF := kids_fit hw hu hi hf hbb
  obtain ⟨bN, cN, bG, cG, av, kv, gv, V⟩ := ref_view h hw
  have c1 := V.N
  obtain ⟨u, rfl, hu'⟩ := icast hu.1 hu.2
  obtain ⟨j, rfl, hj'⟩ := icast hi.1 hi.2
  have v0 := V.c0 hj'
  have v5 := V.c5 hj'
  obtain ⟨ak, ck, hkv, _, _, hints⟩ := V.k j hj'
  rw [hkv] at v5
  have hn := hw.n_le
  have hkl := hw.kids_len hi
  have HF := Lib.hid (rfits h hw u j hu' hj')
  have TU := Lib.hid (show decide (A.In u) = true from decide_eq_true hu)
  have TI := Lib.hid (show decide (A.In j) = true from decide_eq_true hi)
  have FF := Lib.hid hf
  have H := Lib.hid h
  have Hw := Lib.hid hw
  have HI := Lib.hid hints
  have HBI := Lib.hid (show b = -1 ∨ A.In b from hb)
  have HHU := Lib.hid hu
  have hB4 : b = -1 ∨ ∃ c : Nat, b = c ∧ c < A.n ∧ (A.nd c).up = u := hbb.imp id fun hh => (let ⟨c, e, hc⟩ := icast hh.1.1 hh.1.2; ⟨c, e, hc, e ▸ hh.2⟩)
  obtain ⟨l, hl⟩ : ∃ l, l = (A.nd j).kids := ⟨_, rfl⟩
  rw [← hl] at v5 HI hkl hKF
  have hll : l.length ≤ 1000000 := by omega
  have HL := Lib.hid hl
  have HWF := Lib.hid (fun k => putAll_wf (l.take k) hw hu (hKF.1.imp id fun hh => ⟨hh.1, hh.2.1, fun hm => hh.2.2 (List.mem_of_mem_take hm)⟩) fun x hx => hKF.2 x (List.mem_of_mem_take hx))
  have HRP := Lib.hid (fun (w1 : World) (rs1 : List Res) (k y : Nat) (hS : Sep W w1 (refA q (putAll u b (l.take k) A) :: rs1)) (hy : y < A.n) => rput hS (HWF.out k).1 u y (by rw [(HWF.out k).2]; exact hu') (by rw [(HWF.out k).2]; exact hy) b (HBI.out.imp id fun hh => (by rw [Doc.In, (HWF.out k).2]; exact hh)))
  have HKIn := Lib.hid (fun x hx => (hKF.2 x hx).1)
  have HV := Lib.hid V
  clear hl hKF hints hf hw h hkv V
  by_cases hk : (A.nd j).kind = 4
  · rw [hk] at v0
    rw [if_pos hk, ← HL.out] at hA
    have HA := Lib.hid hA
    clear hA h0 hu hi hb hbb hbu hk
    rcases hB4 with rfl | ⟨c, rfl, hc, hcu⟩
    all_goals
      try
        have v4 := HV.out.c4 hc
        rw [hcu] at v4
        have TB := Lib.hid (show decide (A.In c) = true from decide_eq_true ⟨by omega, by omega⟩)
        have tb : ((c : Int) != -1) = true := by simp
      go_enter Tryz.func40, Tryz.ntmps40
      go_wp2_with fail
      refine (HT.out _).mono ?_
      rintro e w' ⟨rfl, rfl⟩
      rw [TU.out]
      go_wp2_with fail
      refine (HT.out _).mono ?_
      rintro e w' ⟨rfl, rfl⟩
      rw [TI.out]
      go_wp2_with fail
      try
        refine (HT.out _).mono ?_
        rintro e w' ⟨rfl, rfl⟩
        rw [TB.out]
        go_wp2_with fail
      refine HF.out.mono ?_
      rintro e w' ⟨rfl, rfl⟩
      rw [FF.out]
      go_wp2_with fail
      refine (rints ak ck l w HI.out hll).mono ?_
      rintro e w2 ⟨v, rfl, hfr⟩
      have H2 := H.out.fresh hfr
      obtain ⟨a2, c2, rfl⟩ := Sep.irow_form H2
      have HS2 := Lib.hid H2
      clear H2 hfr
      clear c1 v0 v5
      try clear v4
      go_wp2_with fail
      go_loopw [10] (fun t wr => ∃ k : Nat, t = int k ∧ k ≤ l.length ∧ Sep W wr (irow (.slice a2 l.length c2) l :: refA q (putAll u _ (l.take k) A) :: rs)) (fun t _ => l.length - (intOf t).toNat)
      case atStart => exact ⟨0, rfl, Nat.zero_le _, HS2.out⟩
      case round =>
        obtain ⟨k, rfl, hk, hS⟩ := hrel
        obtain ⟨G, hG⟩ := hS.head
        have hIk := rowHolds.intsAt hG hll rfl
        have HS := Lib.hid hS
        clear hS hG
        by_cases hkl : k < l.length
        · obtain ⟨b0, o0, rfl, hcc⟩ := hIk.at (by omega)
          have cl := hcc k hkl
          have t0 : decide ((k : Int) < l.length) = true := by simp; omega
          have hk0 := HKIn.out l[k] (List.getElem_mem hkl)
          have HN := Lib.hid (show l.take (k + 1) = l.take k ++ [l[k]] from List.take_succ_eq_append_getElem hkl)
          obtain ⟨y, hy⟩ : ∃ y, y = l[k] := ⟨_, rfl⟩
          rw [← hy] at cl hk0 HN
          obtain ⟨y, rfl, hyn⟩ := icast hk0.1 hk0.2
          have HP := Lib.hid (HRP.out _ _ _ _ HS.out.swap hyn)
          clear hIk hcc hk0 hy
          go_wp2_with fail
          refine HP.out.mono ?_
          rintro e w3 ⟨rfl, h3⟩
          have H3 := Lib.hid h3
          clear h3 cl
          go_wp2
          go_roundw
          case rel => exact ⟨k + 1, by go_num, hkl, by rw [HN.out, putAll_snoc]; exact H3.out.swap⟩
          case measure => simp [intOf]; omega
        · obtain rfl : k = l.length := by omega
          have t0 : decide ((l.length : Int) < l.length) = false := by simp
          clear hIk
          go_wp2
          go_ret
          refine ⟨rfl, ?_⟩
          rw [HA.out]
          have := HS.out.tail
          rwa [List.take_length] at this
  · have t4 : ((A.nd j).kind == 4) = false := by simpa using hk
    rw [if_neg hk] at hA
    have HA := Lib.hid hA
    rcases hB4 with rfl | ⟨c, rfl, hc, hcu⟩
    · have HP := Lib.hid (rput H.out Hw.out u j hu' hj' (-1) (.inl rfl))
      have HA2 := Lib.hid (show A.insertA u j (-1) = A.put u j (-1) by rw [hA, if_neg (by omega)])
      have tj : ((-1 : Int) == (j : Int)) = false := beq_eq_false_iff_ne.2 (show (-1 : Int) ≠ j by omega)
      clear hA h0 hu hi hb hbb hbu hk
      go_enter Tryz.func40, Tryz.ntmps40
      go_wp2_with fail
      refine (HT.out _).mono ?_
      rintro e w' ⟨rfl, rfl⟩
      rw [TU.out]
      go_wp2_with fail
      refine (HT.out _).mono ?_
      rintro e w' ⟨rfl, rfl⟩
      rw [TI.out]
      go_wp2_with fail
      refine HF.out.mono ?_
      rintro e w' ⟨rfl, rfl⟩
      rw [FF.out]
      go_wp2_with fail
      refine HP.out.mono ?_
      rintro e w3 ⟨rfl, h3⟩
      have H3 := Lib.hid h3
      clear h3
      go_wp2
      go_ret
      exact ⟨rfl, by rw [HA2.out]; exact H3.out⟩
    · have v4 := HV.out.c4 hc
      rw [hcu] at v4
      have TB := Lib.hid (show decide (A.In c) = true from decide_eq_true ⟨by omega, by omega⟩)
      have tb : ((c : Int) != -1) = true := by simp
      by_cases hcj : (c : Int) = j
      · obtain rfl : c = j := by omega
        have HA2 := Lib.hid (show A.insertA u c c = A.put u c (nextIn (A.nd u).kids c) by rw [hA, if_pos rfl])
        have hup : (A.nd c).up ≠ -1 := by rw [hcu]; omega
        have HX := Lib.hid (rnext H.out Hw.out c hc hup)
        have HCU := Lib.hid hcu
        have HO := Lib.hid (show nextIn (A.nd u).kids c = -1 ∨ A.In (nextIn (A.nd u).kids c) from (Before.next Hw.out hi hu hcu).imp id (·.1))
        clear hA h0 hu hi hb hbb hbu hk hup hcj v5 hcu
        go_enter Tryz.func40, Tryz.ntmps40
        go_wp2_with fail
        refine (HT.out _).mono ?_
        rintro e w' ⟨rfl, rfl⟩
        rw [TU.out]
        go_wp2_with fail
        refine (HT.out _).mono ?_
        rintro e w' ⟨rfl, rfl⟩
        rw [TI.out]
        go_wp2_with fail
        refine (HT.out _).mono ?_
        rintro e w' ⟨rfl, rfl⟩
        rw [TB.out]
        go_wp2_with fail
        refine HF.out.mono ?_
        rintro e w' ⟨rfl, rfl⟩
        rw [FF.out]
        go_wp2_with fail
        refine HX.out.mono ?_
        rintro e w2 ⟨rfl, m, rfl⟩
        rw [HCU.out]
        go_wp2_with fail
        refine (rput (H.out.drewN m) Hw.out u c hu' hc _ HO.out).mono ?_
        rintro e w3 ⟨rfl, h3⟩
        have H3 := Lib.hid h3
        clear h3
        go_wp2
        go_ret
        exact ⟨rfl, by rw [HA2.out]; exact H3.out⟩
      · have tj : ((c : Int) == (j : Int)) = false := by simpa using hcj
        have HP := Lib.hid (rput H.out Hw.out u j hu' hj' c HBI.out)
        have HA2 := Lib.hid (show A.insertA u j c = A.put u j c by rw [hA, if_neg hcj])
        clear hA h0 hu hi hb hbb hbu hk hcj
        go_enter Tryz.func40, Tryz.ntmps40
        go_wp2_with fail
        refine (HT.out _).mono ?_
        rintro e w' ⟨rfl, rfl⟩
        rw [TU.out]
        go_wp2_with fail
        refine (HT.out _).mono ?_
        rintro e w' ⟨rfl, rfl⟩
        rw [TI.out]
        go_wp2_with fail
        refine (HT.out _).mono ?_
        rintro e w' ⟨rfl, rfl⟩
        rw [TB.out]
        go_wp2_with fail
        refine HF.out.mono ?_
        rintro e w' ⟨rfl, rfl⟩
        rw [FF.out]
        go_wp2_with fail
        refine HP.out.mono ?_
        rintro e w3 ⟨rfl, h3⟩
        have H3 := Lib.hid h3
        clear h3
        go_wp2
        go_ret
        exact ⟨rfl, by rw [HA2.out]; exact H3.out⟩

/-- Insert of the answer, whatever the numbers -/
theorem rinsert (h : Sep W w (refA q A :: rs)) (hw : WF A) (up i b : Int) :
    Calls Tryz.prog 40 #[ptr q, int up, int i, int b] w fun e w' => e = .returned (int (A.insertE up i b)) ∧ Sep W w' (refA q (A.insertA up i b) :: rs) := by
  by_cases h0 : A.insertE up i b = 0
  · rw [h0]
    exact rinsert_yes h hw up i b h0
  · have : A.insertA up i b = A := by unfold Doc.insertA; rw [if_neg h0]
    rw [this]
    exact (rinsert_no h hw up i b h0).mono fun e w' ⟨he, e2⟩ => ⟨he, e2 ▸ h⟩
end
end Go.Proofs.YtgdmaikjaopddaaGreatDoor
