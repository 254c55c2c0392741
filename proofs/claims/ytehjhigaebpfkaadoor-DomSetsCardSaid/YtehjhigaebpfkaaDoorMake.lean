/- Making nodes: dom's right, room, add. -/
import Derived.Test.YtehjhigaebpfkaaDoorRight
import Derived.Test.YtehjhigaebpfkaaDoorDom3
import Derived.Test.YtehjhigaebpfkaaDoorOps
import Derived.BigRegion
namespace Go.Proofs.YtehjhigaebpfkaaDoor
open Go.RowKit

/-- an api.Node as it comes in -/
structure Arg where
  kind : Int
  name : ByteArray
  data : ByteArray
  up : Int
  KA : Option Addr
  KN : Nat
  KC : Nat
  shadow : Int
  host : Int
  own : Int
  fl : Fl
def Arg.cells (x : Arg) (A : Option Addr) (n c : Nat) : Array Value :=
  #[.int .u8 x.kind, .string x.name, .string x.data, .slice A n c, .int .i64 x.up, .slice x.KA x.KN x.KC, .int .i64 x.shadow, .int .i64 x.host, .int .i64 x.own, .bool x.fl.closed, .bool x.fl.manual, .bool x.fl.delegates, .bool x.fl.serial, .bool x.fl.clonable]

/-- may a node without attributes be made -/
def mayB (k : Int) (nm da : ByteArray) : Bool := if k = 2 then nm.toList.isEmpty else if k = 4 then nm.toList.isEmpty && da.toList.isEmpty else rightB k nm da

set_option maxRecDepth 100000 in
theorem dright_bare (x : Arg) (A : Option Addr) (c : Nat) (w : World) (hT : Laid w) (hs : x.name.size ≤ 1000000) :
    Calls Tryd.prog 37 #[.agg (x.cells A 0 c)] w fun e w' => e = .returned (.bool (mayB x.kind x.name x.data)) ∧ Below w.heap.size w w' := by
  obtain ⟨k, nm, da, up, KA, KN, KC, sh, ho, ow, fl⟩ := x
  simp only at hs ⊢
  unfold Arg.cells
  have HT := Lib.hid hT
  clear hT
  by_cases h2 : k = 2
  · subst h2
    have hr : mayB 2 nm da = nm.toList.isEmpty := by simp [mayB]
    have HR := Lib.hid hr
    clear hr
    cases hn : nm.toList.isEmpty
    all_goals
      go_enter Tryd.func37, Tryd.ntmps37
      go_wp2
      go_ret
      exact ⟨by rw [HR.out, hn]; rfl, (Below.refl _ _).alloc (Nat.le_refl _) _⟩
  · have e2 : (k == 2) = false := by simpa using h2
    by_cases h4 : k = 4
    · subst h4
      have hr : mayB 4 nm da = (nm.toList.isEmpty && da.toList.isEmpty) := by simp [mayB]
      have HR := Lib.hid hr
      clear hr
      cases hn : nm.toList.isEmpty
      all_goals
        cases hd : da.toList.isEmpty
        all_goals
          go_enter Tryd.func37, Tryd.ntmps37
          go_wp2
          go_ret
          exact ⟨by rw [HR.out, hn, hd]; rfl, (Below.refl _ _).alloc (Nat.le_refl _) _⟩
    · have e4 : (k == 4) = false := by simpa using h4
      have hr : mayB k nm da = rightB k nm da := by simp [mayB, h2, h4]
      have HR := Lib.hid hr
      clear hr h2 h4
      cases hn : nm.toList.isEmpty
      all_goals
        go_enter Tryd.func37, Tryd.ntmps37
        go_wp2_with fail
        refine (sound_bare _ _ k nm da A c _ ?_ hs ?_).mono ?_
        · exact HT.out.below (((Below.refl _ _).alloc (Nat.le_refl _) _).alloc (by simp) _)
        · exact fun j _ => cell_of_row _ _ _ _ _ _ (heap_alloc2_new w _ _)
        rintro e w1 ⟨rfl, hb1⟩
        have hb2 : Below w.heap.size w w1 := (((Below.refl _ _).alloc (Nat.le_refl _) _).alloc (by simp) _).trans (hb1.mono (by simp; omega))
        have HB := Lib.hid hb2
        clear hb1 hb2
        go_wp2
        go_ret
        exact ⟨by rw [HR.out]; rfl, HB.out⟩

section
variable {W w : World} {rs : List Res} {p B cap n : Nat} {lim : Int} {R : Int → RNd} {av gv : Nat → Value} {Fa Fg : Nat → Nat → Prop}

set_option maxRecDepth 100000 in
theorem room_any (hC : DocC p B cap n lim R av gv Fa Fg w) (k : Int) (hk : 0 ≤ k) (hk' : k ≤ 10) (hn : n ≤ 1000000) :
    Calls Tryd.prog 38 #[ptr p, int k] w fun e w' => e = .returned (.bool (decide ((n : Int) + k ≤ lim))) ∧ ∃ m, w.drewN m = w' := by
  have h0 := hC.cell0
  have h1 := hC.cell1
  clear hC
  have hn' : (n : Int) ≤ 1000000 := by omega
  go_enter Tryd.func38, Tryd.ntmps38
  go_wp2
  go_quiet (fail)
  go_wp2
  go_ret
  exact ⟨rfl, _, rfl⟩

theorem infoNode : (Tryd.prog.info? TNode).map (fun i => (i.zero, i.size, i.bytes)) = some (some (.agg #[.int .u8 0, .string .empty, .string .empty, .slice none 0 0, .bool false, .bool false, .bool false, .bool false, .bool false, .int .i64 0, .int .i64 0, .int .i64 0, .int .i64 0, .int .i64 0, .int .i64 0, .int .i64 0, .int .i64 0, .int .i64 0, .slice none 0 0]), 19, 168) := by kernel_rfl


theorem DocC.row (h : DocC p B cap n lim R av gv Fa Fg w) : ∃ xs, rowHolds TNode 19 (.slice (some ⟨B, 0, none⟩) n cap) n xs w (fun k => k = B) ∧ ∀ i, i < n → ∀ k, k < 19 → xs[i * 19 + k]? = (ncell (R i) (av i) (gv i))[k]? := by
  obtain ⟨cur, hc, h1, h2⟩ := h.nodes
  have hle : n * 19 ≤ cap * 19 := Nat.mul_le_mul_right 19 h.hn
  refine ⟨cur.toList.take (n * 19), ⟨by simp; omega, .inr ⟨B, cap, cur, rfl, hc, h.hn, h.hcap, h1, rfl, fun _ => Iff.rfl⟩⟩, fun i hi k hk => ?_⟩
  have : (i + 1) * 19 ≤ n * 19 := Nat.mul_le_mul_right 19 hi
  rw [List.getElem?_take, if_pos (by omega), ← h2 i hi k hk]
  simp

theorem add_fin {wF : World} {av' : Value} {l : List Attr} {Fn F' : Nat → Prop} {xs : List Value} {g' cap' : Nat} {k : Int} {nm da : ByteArray} {fl : Fl}
    (hC : DocC p B cap n lim R av gv Fa Fg w) (hA : (arow av' l).holds w Fn) (hdis : ∀ k, Fn k → ¬ Foot p B n Fa Fg k)
    (hxl : xs.length = n * 19) (hxs : ∀ i, i < n → ∀ k, k < 19 → xs[i * 19 + k]? = (ncell (R i) (av i) (gv i))[k]?) (ho : Only (fun k => k = B ∨ k = p) w wF)
    (hp : wF.heap[p]? = some (.cells #[.slice (some ⟨g', 0, none⟩) (n + 1) cap', .int .i64 lim] TDoc (0, 0)))
    (hr : rowHolds TNode 19 (.slice (some ⟨g', 0, none⟩) (n + 1) cap') (n + 1) (xs ++ ncell (newR k nm da l fl) av' (.slice none 0 0)) wF F') :
    DocC p g' cap' (n + 1) lim (addR R n (newR k nm da l fl)) (fun i => if i = n then av' else av i) (fun i => if i = n then .slice none 0 0 else gv i) (fun i => if i = n then Fn else Fa i) (fun i => if i = n then fun _ => False else Fg i) wF := by
  have hold : ∀ k, k < w.heap.size → k ≠ B → k ≠ p → wF.heap[k]? = w.heap[k]? := fun k hk h1 h2 => ho.block k hk (by rintro (h | h); exact h1 h; exact h2 h)
  have hat : ∀ i : Nat, i < n → addR R n (newR k nm da l fl) i = R i := fun i hi => by unfold addR; rw [if_neg (by omega)]
  have han : addR R n (newR k nm da l fl) n = newR k nm da l fl := by unfold addR; rw [if_pos rfl]
  rcases hr.2 with ⟨h0, _⟩ | ⟨g, c, cur, hv, hg, h1, h2, h3, h4, _⟩
  · omega
  injection hv with hv1 hv2 hv3
  injection hv1 with hv1
  injection hv1 with hv1
  subst hv1; subst hv3
  have hcell : ∀ j, j < (n + 1) * 19 → cur[j]? = (xs ++ ncell (newR k nm da l fl) av' (.slice none 0 0))[j]? := fun j hj => by
    rw [← h4, List.getElem?_take, if_pos hj]; simp
  refine ⟨hp, ⟨cur, hg, h3, fun i hi k' hk' => ?_⟩, h1, h2, fun i hi => ?_, fun i hi => ?_, fun i hi j hj hij k' => ?_, fun i hi j hj hij k' => ?_⟩
  · have : (i + 1) * 19 ≤ (n + 1) * 19 := Nat.mul_le_mul_right 19 hi
    rw [hcell _ (by omega)]
    by_cases e : i = n
    · subst e
      rw [List.getElem?_append_right (by omega), hxl, han, if_pos rfl, if_pos rfl]
      congr 1; omega
    · have : (i + 1) * 19 ≤ n * 19 := Nat.mul_le_mul_right 19 (by omega)
      rw [List.getElem?_append_left (by omega), hat i (by omega), if_neg e, if_neg e]
      exact hxs i (by omega) k' hk'
  · by_cases e : i = n
    · subst e
      simp only [if_true, han]
      exact (arow _ _).loc hA fun k' hk' => hold k' ((arow _ _).lt hA hk') (fun h => hdis k' hk' (.inr (.inl h))) (fun h => hdis k' hk' (.inl h))
    · simp only [if_neg e, hat i (by omega)]
      have hi' : i < n := by omega
      exact (arow _ _).loc (hC.attrs i hi') fun k' hk' => hold k' (hC.lt (.inr (.inr (.inl ⟨i, hi', hk'⟩)))) (hC.pa hi' hk').2 (hC.pa hi' hk').1
  · by_cases e : i = n
    · subst e
      simp only [if_true, han]
      exact rowHolds_nil _ _ _ _
    · simp only [if_neg e, hat i (by omega)]
      have hi' : i < n := by omega
      exact (irow _ _).loc (hC.given i hi') fun k' hk' => hold k' (hC.lt (.inr (.inr (.inr ⟨i, hi', hk'⟩)))) (hC.pg hi' hk').2 (hC.pg hi' hk').1
  · by_cases ei : i = n <;> by_cases ej : j = n
    · omega
    · simp only [if_pos ei, if_neg ej]
      exact fun h1 h2 => hdis k' h1 (.inr (.inr (.inl ⟨j, by omega, h2⟩)))
    · simp only [if_pos ej, if_neg ei]
      exact fun h1 h2 => hdis k' h2 (.inr (.inr (.inl ⟨i, by omega, h1⟩)))
    · simp only [if_neg ei, if_neg ej]
      exact hC.da i (by omega) j (by omega) hij k'
  · by_cases ei : i = n <;> by_cases ej : j = n
    · omega
    · simp only [if_pos ei]; exact fun h => h.elim
    · simp only [if_pos ej, if_neg ei]; exact fun _ h => h.elim
    · simp only [if_neg ei, if_neg ej]
      exact hC.dg i (by omega) j (by omega) hij k'

attribute [local go_sem ↓] wp_can wp_load_can wp_build_can in
set_option maxRecDepth 100000 in
set_option maxHeartbeats 1000000 in
theorem add_core {a0 : Option Addr} {c0 : Nat} {xs : List Value} {F0 : Nat → Prop} (hd : w.heap[p]? = some (.cells #[.slice a0 n c0, .int .i64 lim] TDoc (0, 0))) (hrow : rowHolds TNode 19 (.slice a0 n c0) n xs w F0) (hpF : ¬ F0 p)
    (k : Int) (nm da : ByteArray) (A : Option Addr) (an ac : Nat) (fl : Fl) (u1 u2 u3 u4 u5 u6 u7 u8 u9 : Int) (hn : n ≤ 1000000) :
    Calls Tryd.prog 39 #[ptr p, .agg #[.int .u8 k, .string nm, .string da, .slice A an ac, .bool fl.closed, .bool fl.manual, .bool fl.delegates, .bool fl.serial, .bool fl.clonable, int u1, int u2, int u3, int u4, int u5, int u6, int u7, int u8, int u9, .slice none 0 0]] w fun e w' =>
      e = .returned (int n) ∧ ∃ g' cap' F', w'.heap[p]? = some (.cells #[.slice (some ⟨g', 0, none⟩) (n + 1) cap', .int .i64 lim] TDoc (0, 0)) ∧
        rowHolds TNode 19 (.slice (some ⟨g', 0, none⟩) (n + 1) cap') (n + 1) (xs ++ ncell (newR k nm da [] fl) (.slice A an ac) (.slice none 0 0)) w' F' ∧ Only (fun k => F0 k ∨ k = p) w w' ∧ (∀ k, F' k → F0 k ∨ w.heap.size ≤ k) ∧ F' g' := by
  have hpw : p < w.heap.size := (Array.getElem?_eq_some_iff.1 hd).1
  have HD := Lib.hid hd
  have HR := Lib.hid hrow
  have HpF := Lib.hid hpF
  clear hd hrow hpF
  obtain ⟨i0, hi0, hz0, hz2, hz3⟩ := info_parts infoNode
  have hb1 : n + 1 ≤ maxLen := by unfold maxLen; omega
  have hb2 : (n + 1) * 168 ≤ 140737488355328 := by omega
  have hn' : (n : Int) ≤ 1000000 := by omega
  go_enter Tryd.func39, Tryd.ntmps39
  go_wp2
  generalize hw0 : w.alloc (.cells #[.int .u8 k, .string nm, .string da, .slice A an ac, .bool fl.closed, .bool fl.manual, .bool fl.delegates, .bool fl.serial, .bool fl.clonable, .int .i64 (-1), .int .i64 (-1), .int .i64 (-1), .int .i64 (-1), .int .i64 (-1), .int .i64 (-1), .int .i64 (-1), .int .i64 (-1), .int .i64 (-1), .slice none 0 0] TNode) = w0
  have hg := heap_alloc_new w (.cells #[.int .u8 k, .string nm, .string da, .slice A an ac, .bool fl.closed, .bool fl.manual, .bool fl.delegates, .bool fl.serial, .bool fl.clonable, .int .i64 (-1), .int .i64 (-1), .int .i64 (-1), .int .i64 (-1), .int .i64 (-1), .int .i64 (-1), .int .i64 (-1), .int .i64 (-1), .int .i64 (-1), .slice none 0 0] TNode)
  have hbw : Below w.heap.size w (w.alloc (.cells #[.int .u8 k, .string nm, .string da, .slice A an ac, .bool fl.closed, .bool fl.manual, .bool fl.delegates, .bool fl.serial, .bool fl.clonable, .int .i64 (-1), .int .i64 (-1), .int .i64 (-1), .int .i64 (-1), .int .i64 (-1), .int .i64 (-1), .int .i64 (-1), .int .i64 (-1), .int .i64 (-1), .slice none 0 0] TNode)) := (Below.refl _ _).alloc (Nat.le_refl _) _
  rw [hw0] at hg hbw
  have hgl : w.heap.size < w0.heap.size := (Array.getElem?_eq_some_iff.1 hg).1
  clear hw0
  have hrow : rowHolds TNode 19 (.slice a0 n c0) n xs w0 F0 := Res.below (r := row TNode 19 _ n xs) HR.out hbw
  have hd : w0.heap[p]? = some (.cells #[.slice a0 n c0, .int .i64 lim] TDoc (0, 0)) := (hbw.block p hpw).trans HD.out
  have hpw0 : p < w0.heap.size := (Array.getElem?_eq_some_iff.1 hd).1
  generalize hG : w.heap.size = g at hg hgl hbw hpw ⊢
  have HG := Lib.hid hG
  clear hG
  have hld := run_loadAt_row (P := Tryd.prog) w0.drew g TNode TNode _ _ _ hg Tryd.underlying74 (by rfl) (by kernel_rfl)
  have hbd : (Instr.buildSlice 75 1 #[(0, .agg #[.int .u8 k, .string nm, .string da, .slice A an ac, .bool fl.closed, .bool fl.manual, .bool fl.delegates, .bool fl.serial, .bool fl.clonable, .int .i64 (-1), .int .i64 (-1), .int .i64 (-1), .int .i64 (-1), .int .i64 (-1), .int .i64 (-1), .int .i64 (-1), .int .i64 (-1), .int .i64 (-1), .slice none 0 0])]).run Tryd.prog w0.drew = .ok (.slice (some ⟨w0.heap.size, 0, none⟩) 1 1) ((w0.alloc (.cells #[.int .u8 k, .string nm, .string da, .slice A an ac, .bool fl.closed, .bool fl.manual, .bool fl.delegates, .bool fl.serial, .bool fl.clonable, .int .i64 (-1), .int .i64 (-1), .int .i64 (-1), .int .i64 (-1), .int .i64 (-1), .int .i64 (-1), .int .i64 (-1), .int .i64 (-1), .int .i64 (-1), .slice none 0 0] TNode)).drew) :=
    run_buildSlice w0.drew _ TNode 1 _ #[.int .u8 k, .string nm, .string da, .slice A an ac, .bool fl.closed, .bool fl.manual, .bool fl.delegates, .bool fl.serial, .bool fl.clonable, .int .i64 (-1), .int .i64 (-1), .int .i64 (-1), .int .i64 (-1), .int .i64 (-1), .int .i64 (-1), .int .i64 (-1), .int .i64 (-1), .int .i64 (-1), .slice none 0 0] i0 _ Tryd.underlying75 hi0 hz0 (by rw [hz2]; decide) (by rw [hz2]; decide) (by rw [hz2]; kernel_rfl)
  have hd2 : (w0.alloc (.cells #[.int .u8 k, .string nm, .string da, .slice A an ac, .bool fl.closed, .bool fl.manual, .bool fl.delegates, .bool fl.serial, .bool fl.clonable, .int .i64 (-1), .int .i64 (-1), .int .i64 (-1), .int .i64 (-1), .int .i64 (-1), .int .i64 (-1), .int .i64 (-1), .int .i64 (-1), .int .i64 (-1), .slice none 0 0] TNode)).drew.heap[p]? = some (.cells #[.slice a0 n c0, .int .i64 lim] TDoc (0, 0)) := (Below.heap_alloc w0 _ p hpw0).trans hd
  have hp2 : p < (w0.alloc (.cells #[.int .u8 k, .string nm, .string da, .slice A an ac, .bool fl.closed, .bool fl.manual, .bool fl.delegates, .bool fl.serial, .bool fl.clonable, .int .i64 (-1), .int .i64 (-1), .int .i64 (-1), .int .i64 (-1), .int .i64 (-1), .int .i64 (-1), .int .i64 (-1), .int .i64 (-1), .int .i64 (-1), .slice none 0 0] TNode)).drew.heap.size := (Array.getElem?_eq_some_iff.1 hd2).1
  obtain ⟨v', w', F', hrun, hr', ho', hf'⟩ := rowHolds_append (P := Tryd.prog) (t := 75) (ty := 75) Tryd.underlying75 hi0 hz0 hz2 hz3 (by rfl) (by omega)
    (Res.drew (r := row TNode 19 _ n xs) (Res.alloc (r := row TNode 19 _ n xs) hrow (.cells #[.int .u8 k, .string nm, .string da, .slice A an ac, .bool fl.closed, .bool fl.manual, .bool fl.delegates, .bool fl.serial, .bool fl.clonable, .int .i64 (-1), .int .i64 (-1), .int .i64 (-1), .int .i64 (-1), .int .i64 (-1), .int .i64 (-1), .int .i64 (-1), .int .i64 (-1), .int .i64 (-1), .slice none 0 0] TNode)))
    (some ⟨w0.heap.size, 0, none⟩) 1 1 _ (src_block (heap_alloc_new w0 _) (by rfl)) (by simp [Value.oneCell']) hb1 hb2
  have h1c : (w0.alloc (.cells #[.int .u8 k, .string nm, .string da, .slice A an ac, .bool fl.closed, .bool fl.manual, .bool fl.delegates, .bool fl.serial, .bool fl.clonable, .int .i64 (-1), .int .i64 (-1), .int .i64 (-1), .int .i64 (-1), .int .i64 (-1), .int .i64 (-1), .int .i64 (-1), .int .i64 (-1), .int .i64 (-1), .slice none 0 0] TNode)).drew.cell? ⟨p, 0, none⟩ = some (.slice a0 n c0) := cell_of_row _ _ _ _ _ _ hd2
  obtain ⟨g', cap', rfl, hgc, hFg, _⟩ := hr'.cells (by omega)
  have hdoc' := (ho'.block p hp2 HpF.out).trans hd2
  obtain ⟨k1, k2, k3⟩ := can_of hrun
  obtain ⟨l1, l2⟩ := load_of hld
  obtain ⟨q1, q2, q3⟩ := build_of hbd
  have Hbw1 := Lib.hid (show Below w0.heap.size w0 (w0.alloc (.cells #[.int .u8 k, .string nm, .string da, .slice A an ac, .bool fl.closed, .bool fl.manual, .bool fl.delegates, .bool fl.serial, .bool fl.clonable, .int .i64 (-1), .int .i64 (-1), .int .i64 (-1), .int .i64 (-1), .int .i64 (-1), .int .i64 (-1), .int .i64 (-1), .int .i64 (-1), .int .i64 (-1), .slice none 0 0] TNode)).drew from ((Below.refl _ _).alloc (Nat.le_refl _) _).drew)
  generalize hw1 : (w0.alloc (.cells #[.int .u8 k, .string nm, .string da, .slice A an ac, .bool fl.closed, .bool fl.manual, .bool fl.delegates, .bool fl.serial, .bool fl.clonable, .int .i64 (-1), .int .i64 (-1), .int .i64 (-1), .int .i64 (-1), .int .i64 (-1), .int .i64 (-1), .int .i64 (-1), .int .i64 (-1), .int .i64 (-1), .slice none 0 0] TNode)).drew = w1 at *
  generalize hX : (#[.int .u8 k, .string nm, .string da, .slice A an ac, .bool fl.closed, .bool fl.manual, .bool fl.delegates, .bool fl.serial, .bool fl.clonable, .int .i64 (-1), .int .i64 (-1), .int .i64 (-1), .int .i64 (-1), .int .i64 (-1), .int .i64 (-1), .int .i64 (-1), .int .i64 (-1), .int .i64 (-1), .slice none 0 0] : Array Value) = X at *
  have HX := Lib.hid hX
  clear hX hw1 hbd hld hd2 hp2
  have h0 : w0.cell? ⟨p, 0, none⟩ = some (.slice a0 n c0) := cell_of_row _ _ _ _ _ _ hd
  have f0 : ∀ o, w0.frozen? ⟨p, o, none⟩ = false := fun o => frozen_of_row _ _ _ _ _ hd
  have c0' : w'.cell? ⟨p, 0, none⟩ = some (.slice a0 n c0) := cell_of_row _ _ _ _ _ _ hdoc'
  have f0' : w'.frozen? ⟨p, 0, none⟩ = false := frozen_of_row _ _ _ _ _ hdoc'
  have Hr' := Lib.hid hr'
  have Ho' := Lib.hid ho'
  have Hf' := Lib.hid hf'
  have Hd' := Lib.hid hdoc'
  have HF' := Lib.hid hFg
  have Hbw := Lib.hid hbw
  clear hrow hd hr' ho' hf' hdoc' hFg hrun hg hbw hz2 hz3 hi0 hz0
  go_region
  go_wp2
  go_ret
  refine ⟨rfl, ?_⟩
  have hb1 : Below w.heap.size w w1 := (HG.out ▸ Hbw.out : Below w.heap.size w w0).trans (Hbw1.out.mono (HG.out ▸ Nat.le_of_lt hgl))
  have hon : Only (fun k => F0 k ∨ k = p) w w' := (Only.below hb1).trans (Ho'.out.mono fun k _ h => .inl h)
  have hF : ∀ k, F' k → F0 k ∨ w.heap.size ≤ k := fun k hk => (Hf'.out k hk).imp id fun h => Nat.le_trans hb1.size h
  have hpF : ¬ F' p := fun h => (hF p h).elim HpF.out (by rw [HG.out]; omega)
  refine ⟨g', cap', F', ?_, ?_, hon.setCell (.inl (.inr rfl)) _, hF, HF'.out⟩
  · rw [heap_setCell_same _ _ _ _ _ _ Hd'.out]; rfl
  · have h := (row TNode 19 _ (n + 1) _).loc (w' := w'.setCell ⟨p, 0, none⟩ (.slice (some ⟨g', 0, none⟩) (n + 1) cap')) Hr'.out fun k hk => Below.heap_setCell _ _ _ _ (fun e => by subst e; exact hpF hk)
    rw [← HX.out] at h
    exact h

theorem add_raw (hC : DocC p B cap n lim R av gv Fa Fg w) (k : Int) (nm da : ByteArray) (A : Option Addr) (an ac : Nat) (fl : Fl) (u1 u2 u3 u4 u5 u6 u7 u8 u9 : Int) (hn : n ≤ 1000000)
    (l : List Attr) (Fn : Nat → Prop) (hA : (arow (.slice A an ac) l).holds w Fn) (hdis : ∀ k, Fn k → ¬ Foot p B n Fa Fg k) :
    Calls Tryd.prog 39 #[ptr p, .agg #[.int .u8 k, .string nm, .string da, .slice A an ac, .bool fl.closed, .bool fl.manual, .bool fl.delegates, .bool fl.serial, .bool fl.clonable, int u1, int u2, int u3, int u4, int u5, int u6, int u7, int u8, int u9, .slice none 0 0]] w fun e w' =>
      e = .returned (int n) ∧ ∃ g' cap' av' gv' Fa' Fg', DocC p g' cap' (n + 1) lim (addR R n (newR k nm da l fl)) av' gv' Fa' Fg' w' ∧ Only (fun k => k = B ∨ k = p) w w' ∧ (∀ k, Foot p g' (n + 1) Fa' Fg' k → Foot p B n Fa Fg k ∨ Fn k ∨ w.heap.size ≤ k) := by
  obtain ⟨xs, hrow, hxs⟩ := hC.row
  refine (add_core hC.doc hrow hC.pb k nm da A an ac fl u1 u2 u3 u4 u5 u6 u7 u8 u9 hn).mono ?_
  rintro e w' ⟨rfl, g', cap', F', hd, hr, hon, hF, hg'F⟩
  refine ⟨rfl, g', cap', _, _, _, _, add_fin hC hA hdis hrow.1 hxs hon hd hr, hon, ?_⟩
  rintro x (rfl | rfl | ⟨i, hi, hx⟩ | ⟨i, hi, hx⟩)
  · exact .inl (.inl rfl)
  · rcases hF _ hg'F with h | h
    · exact .inl (.inr (.inl h))
    · exact .inr (.inr h)
  · by_cases e : i = n
    · simp only [if_pos e] at hx; exact .inr (.inl hx)
    · simp only [if_neg e] at hx; exact .inl (.inr (.inr (.inl ⟨i, by omega, hx⟩)))
  · by_cases e : i = n
    · simp only [if_pos e] at hx
    · simp only [if_neg e] at hx; exact .inl (.inr (.inr (.inr ⟨i, by omega, hx⟩)))
end
end Go.Proofs.YtehjhigaebpfkaaDoor
