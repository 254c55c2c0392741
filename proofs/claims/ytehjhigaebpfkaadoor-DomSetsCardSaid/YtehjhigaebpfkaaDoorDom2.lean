/- Copies of lists, and what a node is: calls that change nothing and hand back what is new. -/
import Derived.Test.YtehjhigaebpfkaaDoorDom1
namespace Go.Proofs.YtehjhigaebpfkaaDoor
open Go.RowKit

theorem infoAttr : (Tryd.prog.info? TAttr).map (fun i => (i.zero, i.size, i.bytes)) = some (some (.agg #[.string .empty, .string .empty]), 2, 32) := by kernel_rfl
theorem infoInt : (Tryd.prog.info? TInt).map (fun i => (i.zero, i.size, i.bytes)) = some (some (.int .i64 0), 1, 8) := by kernel_rfl

set_option maxRecDepth 100000 in
set_option maxHeartbeats 1000000 in
theorem cloneInts (v : Value) (l : List Int) (w : World) (F : Nat → Prop) (h : (irow v l).holds w F) (hl : l.length * 8 ≤ 140737488355328) :
    Calls Tryd.prog 52 #[v] w fun e w' => ∃ v', e = .returned v' ∧ Fresh w w' [irow v' l] := by
  have h' : rowHolds TInt 1 v l.length (icells l) w F := h
  obtain ⟨a, cap, rfl, hc, hm⟩ := h'.form
  have H := Lib.hid h'
  clear h h'
  have hs : Sep w w [] := Sep.start w
  have e1 := fun (w : World) (a : Option Addr) (n c : Nat) => Lib.run_eql_slice_nil (P := Tryd.prog) w 29 TInt a n c 0 0 Tryd.underlying29
  obtain ⟨i0, hi, hz0, hz1, hz2⟩ := info_parts infoInt
  have hones : ∀ u ∈ icells l, u.oneCell' = true := by intro u hu; obtain ⟨x, _, rfl⟩ := List.mem_map.1 hu; rfl
  cases a with
  | none =>
    have hl0 : l = [] := by
      rcases H.out.2 with ⟨h, _⟩ | ⟨g, _, _, h, _⟩
      · exact List.length_eq_zero_iff.1 h
      · cases h
    subst hl0
    go_enter Tryd.func52, Tryd.ntmps52
    go_wp2
    go_ret
    exact ⟨_, rfl, hs.nilRow _ _ _⟩
  | some a =>
    have hb1 : 0 + l.length ≤ maxLen := by rw [Nat.zero_add]; exact Nat.le_trans hc hm
    have hb2 : (0 + l.length) * 8 ≤ 140737488355328 := by rw [Nat.zero_add]; exact hl
    go_enter Tryd.func52, Tryd.ntmps52
    go_wp2_with (at_builtin; go_loud (refine wpList_app rfl _ _ 29 rfl Tryd.underlying29 hi hz0 hz1 hz2 rfl (by decide) rfl ((hs.alloc _).nilRow _ _ _) _ _ _ (icells l) rfl (rowHolds.src (Res.alloc (r := irow _ l) H.out _)) hones hb1 hb2 ?_; intro v' w' h'))
    go_ret
    refine ⟨_, rfl, ?_⟩
    show Sep w w' [irow v' l]
    simpa [irow] using h'
set_option maxRecDepth 100000 in
set_option maxHeartbeats 1000000 in
theorem cloneAttrs (v : Value) (l : List Attr) (w : World) (F : Nat → Prop) (h : (arow v l).holds w F) (hl : l.length * 32 ≤ 140737488355328) :
    Calls Tryd.prog 40 #[v] w fun e w' => ∃ v', e = .returned v' ∧ Fresh w w' [arow v' l] := by
  have h' : rowHolds TAttr 2 v l.length (acells l) w F := h
  obtain ⟨a, cap, rfl, hc, hm⟩ := h'.form
  have H := Lib.hid h'
  clear h h'
  have hs : Sep w w [] := Sep.start w
  have e1 := fun (w : World) (a : Option Addr) (n c : Nat) => Lib.run_eql_slice_nil (P := Tryd.prog) w 28 TAttr a n c 0 0 Tryd.underlying28
  obtain ⟨i0, hi, hz0, hz1, hz2⟩ := info_parts infoAttr
  have hones : ∀ u ∈ acells l, u.oneCell' = true := by intro u hu; obtain ⟨x, _, hx⟩ := List.mem_flatMap.1 hu; simp at hx; rcases hx with rfl | rfl <;> rfl
  cases a with
  | none =>
    have hl0 : l = [] := by
      rcases H.out.2 with ⟨h, _⟩ | ⟨g, _, _, h, _⟩
      · exact List.length_eq_zero_iff.1 h
      · cases h
    subst hl0
    go_enter Tryd.func40, Tryd.ntmps40
    go_wp2
    go_ret
    exact ⟨_, rfl, hs.nilRow _ _ _⟩
  | some a =>
    have hb1 : 0 + l.length ≤ maxLen := by rw [Nat.zero_add]; exact Nat.le_trans hc hm
    have hb2 : (0 + l.length) * 32 ≤ 140737488355328 := by rw [Nat.zero_add]; exact hl
    go_enter Tryd.func40, Tryd.ntmps40
    go_wp2_with (at_builtin; go_loud (refine wpList_app rfl _ _ 28 rfl Tryd.underlying28 hi hz0 hz1 hz2 rfl (by decide) rfl ((hs.alloc _).nilRow _ _ _) _ _ _ (acells l) rfl (rowHolds.src (Res.alloc (r := arow _ l) H.out _)) hones hb1 hb2 ?_; intro v' w' h'))
    go_ret
    refine ⟨_, rfl, ?_⟩
    show Sep w w' [arow v' l]
    simpa [arow] using h'

def lenOf : Value → Nat
  | .slice _ n _ => n
  | _ => 0
theorem src_new (w : World) (u : Value) (e : Nat) : Src (w.alloc (.cells #[u] e)) 1 (some ⟨w.heap.size, 0, none⟩) 1 [u] :=
  ⟨rfl, fun _ => ⟨_, rfl, World.news_of_block (cs := #[u]) (t := e) (fr := (0, 0)) (heap_alloc_new w _)⟩⟩
theorem irow_len {W w : World} {v : Value} {l : List Int} {rs : List Res} (h : Sep W w (irow v l :: rs)) : lenOf v = l.length := by
  obtain ⟨G, hG⟩ := h.head
  obtain ⟨a, cap, rfl, _⟩ := rowHolds.form hG
  rfl
theorem icells_snoc (l : List Int) (x : Int) : icells (l ++ [x]) = icells l ++ [int x] := by simp [icells, int]

set_option maxRecDepth 100000 in
set_option maxHeartbeats 1000000 in
theorem kids_any {p B cap n : Nat} {lim : Int} {R : Int → RNd} {av gv : Nat → Value} {Fa Fg : Nat → Nat → Prop} {w : World} (hC : DocC p B cap n lim R av gv Fa Fg w) (i : Int) (hi : 0 ≤ i) (hi' : i < n) (l : List Int)
    (hf : From n R (R i).first l) (hl : l.length ≤ 1000000) :
    Calls Tryd.prog 43 #[ptr p, int i] w fun e w' => ∃ v, e = .returned v ∧ Fresh w w' [irow v l] := by
  obtain ⟨i, rfl⟩ := Int.eq_ofNat_of_zero_le hi
  replace hi' : i < n := by omega
  have h0 := hC.cell0
  have u13 := hC.cell hi' (k := 13) (by omega) rfl
  have hpw : p < w.heap.size := (docR p B n lim R).lt ⟨cap, av, gv, Fa, Fg, hC, fun _ => Iff.rfl⟩ (.inl rfl)
  have hBw : B < w.heap.size := (docR p B n lim R).lt ⟨cap, av, gv, Fa, Fg, hC, fun _ => Iff.rfl⟩ (.inr (.inl rfl))
  have HF := Lib.hid hf
  obtain ⟨i0, hi0, hz0, hz1, hz2⟩ := info_parts infoInt
  clear hf
  go_enter Tryd.func43, Tryd.ntmps43
  go_wp2
  go_loopw [5, 6] (fun v k wr => ∃ done rest, done ++ rest = l ∧ (∃ x, k = int x ∧ From n R x rest) ∧ Sep w wr [irow v done])
    (fun v _ _ => l.length - lenOf v)
  case atStart => exact ⟨[], l, rfl, ⟨_, rfl, HF.out⟩, (Sep.start w).nilRow _ _ _⟩
  case round =>
    obtain ⟨done, rest, hdr, ⟨x, rfl, hfr⟩, hS⟩ := hrel
    have HS := Lib.hid hS
    have HD := Lib.hid hdr
    have hb := hS.below
    cases rest with
    | nil =>
      obtain rfl : x = -1 := hfr
      clear hS hdr
      go_wp2
      go_ret
      rw [List.append_nil] at HD
      rw [HD.out] at HS
      exact ⟨_, rfl, HS.out⟩
    | cons k t =>
      obtain ⟨rfl, hk0, hk1, hft⟩ := hfr
      obtain ⟨k, rfl, hk⟩ := icast hk0 hk1
      have u15 := hC.cell hk (k := 15) (by omega) rfl
      have ek : ((k : Int) != -1) = true := by simp
      have hl1 : done.length + 1 ≤ l.length := by rw [← hdr]; simp
      have hb1 : done.length + 1 ≤ maxLen := by unfold maxLen; omega
      have hb2 : (done.length + 1) * 8 ≤ 140737488355328 := by omega
      have hn1 : ∀ u ∈ [int (k : Int)], u.oneCell' = true := by intro u hu; rw [List.mem_singleton.1 hu]; rfl
      have hlen := irow_len hS
      have HL := Lib.hid hlen
      have HFT := Lib.hid hft
      clear hS hdr hft hC hlen
      go_wp2_with (at_builtin; refine wpList_app rfl _ _ 29 rfl Tryd.underlying29 hi0 hz0 hz1 hz2 rfl (by decide) rfl (HS.out.alloc _) _ _ _ [int k] rfl (src_new _ _ _) hn1 hb1 hb2 ?_; intro v' w' h'; have hb' := h'.below; have c0 := (hb'.cell (p := ⟨p, 0, none⟩) hpw).trans h0; have c15 := (hb'.cell (p := ⟨B, k * 19 + 15, none⟩) hBw).trans u15; have H' := Lib.hid h'; clear h')
      go_roundw
      case rel => exact ⟨done ++ [(k : Int)], t, by rw [← HD.out]; simp, ⟨_, rfl, HFT.out⟩, by simpa [irow, icells_snoc] using H'.out⟩
      case measure =>
        have := irow_len (l := done ++ [(k : Int)]) (by simpa [irow, icells_snoc] using H'.out)
        rw [HL.out, this]; simp; omega
end Go.Proofs.YtehjhigaebpfkaaDoor
