/- Making nodes: dom's right, room, add. -/
import Derived.Test.YtgdmaikjaopddaaGreatDoorJ04
import Derived.Test.YtgdmaikjaopddaaGreatDoorJ05
import Derived.Test.YtgdmaikjaopddaaGreatDoorJ06
import Derived.BigRegion
namespace Go.Proofs.YtgdmaikjaopddaaGreatDoor
open Go.RowKit

/-- an api.Node as it comes in -/
structure Arg where
  kind : Int
  name : ByteArray
  data : ByteArray
  up : Int
  KA : Option Addr
  KN : Nat
  KC : Nat
  shadow : Int
  host : Int
  own : Int
  fl : Fl
def Arg.cells (x : Arg) (A : Option Addr) (n c : Nat) : Array Value :=
  #[.int .u8 x.kind, .string x.name, .string x.data, .slice A n c, .int .i64 x.up, .slice x.KA x.KN x.KC, .int .i64 x.shadow, .int .i64 x.host, .int .i64 x.own, .bool x.fl.closed, .bool x.fl.manual, .bool x.fl.delegates, .bool x.fl.serial, .bool x.fl.clonable]

/-- may a node without attributes be made -/
def mayB (k : Int) (nm da : ByteArray) : Bool := if k = 2 then nm.toList.isEmpty else if k = 4 then nm.toList.isEmpty && da.toList.isEmpty else rightB k nm da

set_option maxRecDepth 100000 in
theorem dright_bare (x : Arg) (A : Option Addr) (c : Nat) (w : World) (hT : Laid w) (hs : x.name.size ≤ 1000000) :
    Calls Tryz.prog 58 #[.agg (x.cells A 0 c)] w fun e w' => e = .returned (.bool (mayB x.kind x.name x.data)) ∧ Below w.heap.size w w' := by
  obtain ⟨k, nm, da, up, KA, KN, KC, sh, ho, ow, fl⟩ := x
  simp only at hs ⊢
  unfold Arg.cells
  have HT := Lib.hid hT
  clear hT
  by_cases h2 : k = 2
  · subst h2
    have hr : mayB 2 nm da = nm.toList.isEmpty := by simp [mayB]
    have HR := Lib.hid hr
    clear hr
    cases hn : nm.toList.isEmpty
    all_goals
      go_enter Tryz.func58, Tryz.ntmps58
      go_wp2
      go_ret
      exact ⟨by rw [HR.out, hn]; rfl, (Below.refl _ _).alloc (Nat.le_refl _) _⟩
  · have e2 : (k == 2) = false := by simpa using h2
    by_cases h4 : k = 4
    · subst h4
      have hr : mayB 4 nm da = (nm.toList.isEmpty && da.toList.isEmpty) := by simp [mayB]
      have HR := Lib.hid hr
      clear hr
      cases hn : nm.toList.isEmpty
      all_goals
        cases hd : da.toList.isEmpty
        all_goals
          go_enter Tryz.func58, Tryz.ntmps58
          go_wp2
          go_ret
          exact ⟨by rw [HR.out, hn, hd]; rfl, (Below.refl _ _).alloc (Nat.le_refl _) _⟩
    · have e4 : (k == 4) = false := by simpa using h4
      have hr : mayB k nm da = rightB k nm da := by simp [mayB, h2, h4]
      have HR := Lib.hid hr
      clear hr h2 h4
      cases hn : nm.toList.isEmpty
      all_goals
        go_enter Tryz.func58, Tryz.ntmps58
        go_wp2_with fail
        refine (sound_bare _ _ k nm da A c _ ?_ hs ?_).mono ?_
        · exact HT.out.below (((Below.refl _ _).alloc (Nat.le_refl _) _).alloc (by simp) _)
        · exact fun j _ => cell_of_row _ _ _ _ _ _ (heap_alloc2_new w _ _)
        rintro e w1 ⟨rfl, hb1⟩
        have hb2 : Below w.heap.size w w1 := (((Below.refl _ _).alloc (Nat.le_refl _) _).alloc (by simp) _).trans (hb1.mono (by simp; omega))
        have HB := Lib.hid hb2
        clear hb1 hb2
        go_wp2
        go_ret
        exact ⟨by rw [HR.out]; rfl, HB.out⟩

section
variable {W w : World} {rs : List Res} {p B cap n : Nat} {lim : Int} {R : Int → RNd} {av gv : Nat → Value} {Fa Fg : Nat → Nat → Prop}

set_option maxRecDepth 100000 in
theorem room_any (hC : DocC p B cap n lim R av gv Fa Fg w) (k : Int) (hk : 0 ≤ k) (hk' : k ≤ 10) (hn : n ≤ 1000000) :
    Calls Tryz.prog 59 #[ptr p, int k] w fun e w' => e = .returned (.bool (decide ((n : Int) + k ≤ lim))) ∧ ∃ m, w.drewN m = w' := by
  have h0 := hC.cell0
  have h1 := hC.cell1
  clear hC
  have hn' : (n : Int) ≤ 1000000 := by omega
  go_enter Tryz.func59, Tryz.ntmps59
  go_wp2
  go_quiet (fail)
  go_wp2
  go_ret
  exact ⟨rfl, _, rfl⟩

theorem infoNode : (Tryz.prog.info? TNode).map (fun i => (i.zero, i.size, i.bytes)) = some (some (.agg #[.int .u8 0, .string .empty, .string .empty, .slice none 0 0, .bool false, .bool false, .bool false, .bool false, .bool false, .int .i64 0, .int .i64 0, .int .i64 0, .int .i64 0, .int .i64 0, .int .i64 0, .int .i64 0, .int .i64 0, .int .i64 0, .slice none 0 0]), 19, 168) := by kernel_rfl


theorem DocC.row (h : DocC p B cap n lim R av gv Fa Fg w) : ∃ xs, rowHolds TNode 19 (.slice (some ⟨B, 0, none⟩) n cap) n xs w (fun k => k = B) ∧ ∀ i, i < n → ∀ k, k < 19 → xs[i * 19 + k]? = (ncell (R i) (av i) (gv i))[k]? := by
  obtain ⟨cur, hc, h1, h2⟩ := h.nodes
  have hle : n * 19 ≤ cap * 19 := Nat.mul_le_mul_right 19 h.hn
  refine ⟨cur.toList.take (n * 19), ⟨by simp; omega, .inr ⟨B, cap, cur, rfl, hc, h.hn, h.hcap, h1, rfl, fun _ => Iff.rfl⟩⟩, fun i hi k hk => ?_⟩
  have : (i + 1) * 19 ≤ n * 19 := Nat.mul_le_mul_right 19 hi
  rw [List.getElem?_take, if_pos (by omega), ← h2 i hi k hk]
  simp

theorem add_fin {wF : World} {av' : Value} {l : List Attr} {Fn F' : Nat → Prop} {xs : List Value} {g' cap' : Nat} {k : Int} {nm da : ByteArray} {fl : Fl}
    (hC : DocC p B cap n lim R av gv Fa Fg w) (hA : (arow av' l).holds w Fn) (hdis : ∀ k, Fn k → ¬ Foot p B n Fa Fg k)
    (hxl : xs.length = n * 19) (hxs : ∀ i, i < n → ∀ k, k < 19 → xs[i * 19 + k]? = (ncell (R i) (av i) (gv i))[k]?) (ho : Only (fun k => k = B ∨ k = p) w wF)
    (hp : wF.heap[p]? = some (.cells #[.slice (some ⟨g', 0, none⟩) (n + 1) cap', .int .i64 lim] TDoc (0, 0)))
    (hr : rowHolds TNode 19 (.slice (some ⟨g', 0, none⟩) (n + 1) cap') (n + 1) (xs ++ ncell (newR k nm da l fl) av' (.slice none 0 0)) wF F') :
    DocC p g' cap' (n + 1) lim (addR R n (newR k nm da l fl)) (fun i => if i = n then av' else av i) (fun i => if i = n then .slice none 0 0 else gv i) (fun i => if i = n then Fn else Fa i) (fun i => if i = n then fun _ => False else Fg i) wF := by
  have hold : ∀ k, k < w.heap.size → k ≠ B → k ≠ p → wF.heap[k]? = w.heap[k]? := fun k hk h1 h2 => ho.block k hk (by rintro (h | h); exact h1 h; exact h2 h)
  have hat : ∀ i : Nat, i < n → addR R n (newR k nm da l fl) i = R i := fun i hi => by unfold addR; rw [if_neg (by omega)]
  have han : addR R n (newR k nm da l fl) n = newR k nm da l fl := by unfold addR; rw [if_pos rfl]
  rcases hr.2 with ⟨h0, _⟩ | ⟨g, c, cur, hv, hg, h1, h2, h3, h4, _⟩
  · omega
  injection hv with hv1 hv2 hv3
  injection hv1 with hv1
  injection hv1 with hv1
  subst hv1; subst hv3
  have hcell : ∀ j, j < (n + 1) * 19 → cur[j]? = (xs ++ ncell (newR k nm da l fl) av' (.slice none 0 0))[j]? := fun j hj => by
    rw [← h4, List.getElem?_take, if_pos hj]; simp
  refine ⟨hp, ⟨cur, hg, h3, fun i hi k' hk' => ?_⟩, h1, h2, fun i hi => ?_, fun i hi => ?_, fun i hi j hj hij k' => ?_, fun i hi j hj hij k' => ?_⟩
  · have : (i + 1) * 19 ≤ (n + 1) * 19 := Nat.mul_le_mul_right 19 hi
    rw [hcell _ (by omega)]
    by_cases e : i = n
    · subst e
      rw [List.getElem?_append_right (by omega), hxl, han, if_pos rfl, if_pos rfl]
      congr 1; omega
    · have : (i + 1) * 19 ≤ n * 19 := Nat.mul_le_mul_right 19 (by omega)
      rw [List.getElem?_append_left (by omega), hat i (by omega), if_neg e, if_neg e]
      exact hxs i (by omega) k' hk'
  · by_cases e : i = n
    · subst e
      simp only [if_true, han]
      exact (arow _ _).loc hA fun k' hk' => hold k' ((arow _ _).lt hA hk') (fun h => hdis k' hk' (.inr (.inl h))) (fun h => hdis k' hk' (.inl h))
    · simp only [if_neg e, hat i (by omega)]
      have hi' : i < n := by omega
      exact (arow _ _).loc (hC.attrs i hi') fun k' hk' => hold k' (hC.lt (.inr (.inr (.inl ⟨i, hi', hk'⟩)))) (hC.pa hi' hk').2 (hC.pa hi' hk').1
  · by_cases e : i = n
    · subst e
      simp only [if_true, han]
      exact rowHolds_nil _ _ _ _
    · simp only [if_neg e, hat i (by omega)]
      have hi' : i < n := by omega
      exact (irow _ _).loc (hC.given i hi') fun k' hk' => hold k' (hC.lt (.inr (.inr (.inr ⟨i, hi', hk'⟩)))) (hC.pg hi' hk').2 (hC.pg hi' hk').1
  · by_cases ei : i = n <;> by_cases ej : j = n
    · omega
    · simp only [if_pos ei, if_neg ej]
      exact fun h1 h2 => hdis k' h1 (.inr (.inr (.inl ⟨j, by omega, h2⟩)))
    · simp only [if_pos ej, if_neg ei]
      exact fun h1 h2 => hdis k' h2 (.inr (.inr (.inl ⟨i, by omega, h1⟩)))
    · simp only [if_neg ei, if_neg ej]
      exact hC.da i (by omega) j (by omega) hij k'
  · by_cases ei : i = n <;> by_cases ej : j = n
    · omega
    · simp only [if_pos ei]; exact fun h => h.elim
    · simp only [if_pos ej, if_neg ei]; exact fun _ h => h.elim
    · simp only [if_neg ei, if_neg ej]
      exact hC.dg i (by omega) j (by omega) hij k'

attribute [local go_sem ↓] wp_can wp_load_can wp_build_can in
set_option maxRecDepth 100000 in
set_option maxHeartbeats 1000000 in
theorem add_core {a0 : Option Addr} {c0 : Nat} {xs : List Value} {F0 : Nat → Prop} (hd : w.heap[p]? = some (.cells #[.slice a0 n c0, .int .i64 lim] TDoc (0, 0))) (hrow : rowHolds TNode 19 (.slice a0 n c0) n xs w F0) (hpF : ¬ F0 p)
    (k : Int) (nm da : ByteArray) (A : Option Addr) (an ac : Nat) (fl : Fl) (u1 u2 u3 u4 u5 u6 u7 u8 u9 : Int) (hn : n ≤ 1000000) :
    Calls Tryz.prog 38 #[ptr p, .agg #[.int .u8 k, .string nm, .string da, .slice A an ac, .bool fl.closed, .bool fl.manual, .bool fl.delegates, .bool fl.serial, .bool fl.clonable, int u1, int u2, int u3, int u4, int u5, int u6, int u7, int u8, int u9, .slice none 0 0]] w fun e w' =>
      e = .returned (int n) ∧ ∃ g' cap' F', w'.heap[p]? = some (.cells #[.slice (some ⟨g', 0, none⟩) (n + 1) cap', .int .i64 lim] TDoc (0, 0)) ∧
        rowHolds TNode 19 (.slice (some ⟨g', 0, none⟩) (n + 1) cap') (n + 1) (xs ++ ncell (newR k nm da [] fl) (.slice A an ac) (.slice none 0 0)) w' F' ∧ Only (fun k => F0 k ∨ k = p) w w' ∧ (∀ k, F' k → F0 k ∨ w.heap.size ≤ k) ∧ F' g' := by
  have hpw : p < w.heap.size := (Array.getElem?_eq_some_iff.1 hd).1
  have HD := Lib.hid hd
  have HR := Lib.hid hrow
  have HpF := Lib.hid hpF
  clear hd hrow hpF
  obtain ⟨i0, hi0, hz0, hz2, hz3⟩ := info_parts infoNode
  have hb1 : n + 1 ≤ maxLen := by unfold maxLen; omega
  have hb2 : (n + 1) * 168 ≤ 140737488355328 := by omega
  have hn' : (n : Int) ≤ 1000000 := by omega
  go_enter Tryz.func38, Tryz.ntmps38
  go_wp2
  generalize hw0 : w.alloc (.cells #[.int .u8 k, .string nm, .string da, .slice A an ac, .bool fl.closed, .bool fl.manual, .bool fl.delegates, .bool fl.serial, .bool fl.clonable, .int .i64 (-1), .int .i64 (-1), .int .i64 (-1), .int .i64 (-1), .int .i64 (-1), .int .i64 (-1), .int .i64 (-1), .int .i64 (-1), .int .i64 (-1), .slice none 0 0] TNode) = w0
  have hg := heap_alloc_new w (.cells #[.int .u8 k, .string nm, .string da, .slice A an ac, .bool fl.closed, .bool fl.manual, .bool fl.delegates, .bool fl.serial, .bool fl.clonable, .int .i64 (-1), .int .i64 (-1), .int .i64 (-1), .int .i64 (-1), .int .i64 (-1), .int .i64 (-1), .int .i64 (-1), .int .i64 (-1), .int .i64 (-1), .slice none 0 0] TNode)
  have hbw : Below w.heap.size w (w.alloc (.cells #[.int .u8 k, .string nm, .string da, .slice A an ac, .bool fl.closed, .bool fl.manual, .bool fl.delegates, .bool fl.serial, .bool fl.clonable, .int .i64 (-1), .int .i64 (-1), .int .i64 (-1), .int .i64 (-1), .int .i64 (-1), .int .i64 (-1), .int .i64 (-1), .int .i64 (-1), .int .i64 (-1), .slice none 0 0] TNode)) := (Below.refl _ _).alloc (Nat.le_refl _) _
  rw [hw0] at hg hbw
  have hgl : w.heap.size < w0.heap.size := (Array.getElem?_eq_some_iff.1 hg).1
  clear hw0
  have hrow : rowHolds TNode 19 (.slice a0 n c0) n xs w0 F0 := Res.below (r := row TNode 19 _ n xs) HR.out hbw
  have hd : w0.heap[p]? = some (.cells #[.slice a0 n c0, .int .i64 lim] TDoc (0, 0)) := (hbw.block p hpw).trans HD.out
  have hpw0 : p < w0.heap.size := (Array.getElem?_eq_some_iff.1 hd).1
  generalize hG : w.heap.size = g at hg hgl hbw hpw ⊢
  have HG := Lib.hid hG
  clear hG
  have hld := run_loadAt_row (P := Tryz.prog) w0.drew g TNode TNode _ _ _ hg Tryz.underlying76 (by rfl) (by kernel_rfl)
  have hbd : (Instr.buildSlice 70 1 #[(0, .agg #[.int .u8 k, .string nm, .string da, .slice A an ac, .bool fl.closed, .bool fl.manual, .bool fl.delegates, .bool fl.serial, .bool fl.clonable, .int .i64 (-1), .int .i64 (-1), .int .i64 (-1), .int .i64 (-1), .int .i64 (-1), .int .i64 (-1), .int .i64 (-1), .int .i64 (-1), .int .i64 (-1), .slice none 0 0])]).run Tryz.prog w0.drew = .ok (.slice (some ⟨w0.heap.size, 0, none⟩) 1 1) ((w0.alloc (.cells #[.int .u8 k, .string nm, .string da, .slice A an ac, .bool fl.closed, .bool fl.manual, .bool fl.delegates, .bool fl.serial, .bool fl.clonable, .int .i64 (-1), .int .i64 (-1), .int .i64 (-1), .int .i64 (-1), .int .i64 (-1), .int .i64 (-1), .int .i64 (-1), .int .i64 (-1), .int .i64 (-1), .slice none 0 0] TNode)).drew) :=
    run_buildSlice w0.drew _ TNode 1 _ #[.int .u8 k, .string nm, .string da, .slice A an ac, .bool fl.closed, .bool fl.manual, .bool fl.delegates, .bool fl.serial, .bool fl.clonable, .int .i64 (-1), .int .i64 (-1), .int .i64 (-1), .int .i64 (-1), .int .i64 (-1), .int .i64 (-1), .int .i64 (-1), .int .i64 (-1), .int .i64 (-1), .slice none 0 0] i0 _ Tryz.underlying70 hi0 hz0 (by rw [hz2]; decide) (by rw [hz2]; decide) (by rw [hz2]; kernel_rfl)
  have hd2 : (w0.alloc (.cells #[.int .u8 k, .string nm, .string da, .slice A an ac, .bool fl.closed, .bool fl.manual, .bool fl.delegates, .bool fl.serial, .bool fl.clonable, .int .i64 (-1), .int .i64 (-1), .int .i64 (-1), .int .i64 (-1), .int .i64 (-1), .int .i64 (-1), .int .i64 (-1), .int .i64 (-1), .int .i64 (-1), .slice none 0 0] TNode)).drew.heap[p]? = some (.cells #[.slice a0 n c0, .int .i64 lim] TDoc (0, 0)) := (Below.heap_alloc w0 _ p hpw0).trans hd
  have hp2 : p < (w0.alloc (.cells #[.int .u8 k, .string nm, .string da, .slice A an ac, .bool fl.closed, .bool fl.manual, .bool fl.delegates, .bool fl.serial, .bool fl.clonable, .int .i64 (-1), .int .i64 (-1), .int .i64 (-1), .int .i64 (-1), .int .i64 (-1), .int .i64 (-1), .int .i64 (-1), .int .i64 (-1), .int .i64 (-1), .slice none 0 0] TNode)).drew.heap.size := (Array.getElem?_eq_some_iff.1 hd2).1
  obtain ⟨v', w', F', hrun, hr', ho', hf'⟩ := rowHolds_append (P := Tryz.prog) (t := 70) (ty := 70) Tryz.underlying70 hi0 hz0 hz2 hz3 (by rfl) (by omega)
    (Res.drew (r := row TNode 19 _ n xs) (Res.alloc (r := row TNode 19 _ n xs) hrow (.cells #[.int .u8 k, .string nm, .string da, .slice A an ac, .bool fl.closed, .bool fl.manual, .bool fl.delegates, .bool fl.serial, .bool fl.clonable, .int .i64 (-1), .int .i64 (-1), .int .i64 (-1), .int .i64 (-1), .int .i64 (-1), .int .i64 (-1), .int .i64 (-1), .int .i64 (-1), .int .i64 (-1), .slice none 0 0] TNode)))
    (some ⟨w0.heap.size, 0, none⟩) 1 1 _ (src_block (heap_alloc_new w0 _) (by rfl)) (by simp [Value.oneCell']) hb1 hb2
  have h1c : (w0.alloc (.cells #[.int .u8 k, .string nm, .string da, .slice A an ac, .bool fl.closed, .bool fl.manual, .bool fl.delegates, .bool fl.serial, .bool fl.clonable, .int .i64 (-1), .int .i64 (-1), .int .i64 (-1), .int .i64 (-1), .int .i64 (-1), .int .i64 (-1), .int .i64 (-1), .int .i64 (-1), .int .i64 (-1), .slice none 0 0] TNode)).drew.cell? ⟨p, 0, none⟩ = some (.slice a0 n c0) := cell_of_row _ _ _ _ _ _ hd2
  obtain ⟨g', cap', rfl, hgc, hFg, _⟩ := hr'.cells (by omega)
  have hdoc' := (ho'.block p hp2 HpF.out).trans hd2
  obtain ⟨k1, k2, k3⟩ := can_of hrun
  obtain ⟨l1, l2⟩ := load_of hld
  obtain ⟨q1, q2, q3⟩ := build_of hbd
  have Hbw1 := Lib.hid (show Below w0.heap.size w0 (w0.alloc (.cells #[.int .u8 k, .string nm, .string da, .slice A an ac, .bool fl.closed, .bool fl.manual, .bool fl.delegates, .bool fl.serial, .bool fl.clonable, .int .i64 (-1), .int .i64 (-1), .int .i64 (-1), .int .i64 (-1), .int .i64 (-1), .int .i64 (-1), .int .i64 (-1), .int .i64 (-1), .int .i64 (-1), .slice none 0 0] TNode)).drew from ((Below.refl _ _).alloc (Nat.le_refl _) _).drew)
  generalize hw1 : (w0.alloc (.cells #[.int .u8 k, .string nm, .string da, .slice A an ac, .bool fl.closed, .bool fl.manual, .bool fl.delegates, .bool fl.serial, .bool fl.clonable, .int .i64 (-1), .int .i64 (-1), .int .i64 (-1), .int .i64 (-1), .int .i64 (-1), .int .i64 (-1), .int .i64 (-1), .int .i64 (-1), .int .i64 (-1), .slice none 0 0] TNode)).drew = w1 at *
  generalize hX : (#[.int .u8 k, .string nm, .string da, .slice A an ac, .bool fl.closed, .bool fl.manual, .bool fl.delegates, .bool fl.serial, .bool fl.clonable, .int .i64 (-1), .int .i64 (-1), .int .i64 (-1), .int .i64 (-1), .int .i64 (-1), .int .i64 (-1), .int .i64 (-1), .int .i64 (-1), .int .i64 (-1), .slice none 0 0] : Array Value) = X at *
  have HX := Lib.hid hX
  clear hX hw1 hbd hld hd2 hp2
  have h0 : w0.cell? ⟨p, 0, none⟩ = some (.slice a0 n c0) := cell_of_row _ _ _ _ _ _ hd
  have f0 : ∀ o, w0.frozen? ⟨p, o, none⟩ = false := fun o => frozen_of_row _ _ _ _ _ hd
  have c0' : w'.cell? ⟨p, 0, none⟩ = some (.slice a0 n c0) := cell_of_row _ _ _ _ _ _ hdoc'
  have f0' : w'.frozen? ⟨p, 0, none⟩ = false := frozen_of_row _ _ _ _ _ hdoc'
  have Hr' := Lib.hid hr'
  have Ho' := Lib.hid ho'
  have Hf' := Lib.hid hf'
  have Hd' := Lib.hid hdoc'
  have HF' := Lib.hid hFg
  have Hbw := Lib.hid hbw
  clear hrow hd hr' ho' hf' hdoc' hFg hrun hg hbw hz2 hz3 hi0 hz0
  go_region
  go_wp2
  go_ret
  refine ⟨rfl, ?_⟩
  have hb1 : Below w.heap.size w w1 := (HG.out ▸ Hbw.out : Below w.heap.size w w0).trans (Hbw1.out.mono (HG.out ▸ Nat.le_of_lt hgl))
  have hon : Only (fun k => F0 k ∨ k = p) w w' := (Only.below hb1).trans (Ho'.out.mono fun k _ h => .inl h)
  have hF : ∀ k, F' k → F0 k ∨ w.heap.size ≤ k := fun k hk => (Hf'.out k hk).imp id fun h => Nat.le_trans hb1.size h
  have hpF : ¬ F' p := fun h => (hF p h).elim HpF.out (by rw [HG.out]; omega)
  refine ⟨g', cap', F', ?_, ?_, hon.setCell (.inl (.inr rfl)) _, hF, HF'.out⟩
  · rw [heap_setCell_same _ _ _ _ _ _ Hd'.out]; rfl
  · have h := (row TNode 19 _ (n + 1) _).loc (w' := w'.setCell ⟨p, 0, none⟩ (.slice (some ⟨g', 0, none⟩) (n + 1) cap')) Hr'.out fun k hk => Below.heap_setCell _ _ _ _ (fun e => by subst e; exact hpF hk)
    rw [← HX.out] at h
    exact h

theorem add_raw (hC : DocC p B cap n lim R av gv Fa Fg w) (k : Int) (nm da : ByteArray) (A : Option Addr) (an ac : Nat) (fl : Fl) (u1 u2 u3 u4 u5 u6 u7 u8 u9 : Int) (hn : n ≤ 1000000)
    (l : List Attr) (Fn : Nat → Prop) (hA : (arow (.slice A an ac) l).holds w Fn) (hdis : ∀ k, Fn k → ¬ Foot p B n Fa Fg k) :
    Calls Tryz.prog 38 #[ptr p, .agg #[.int .u8 k, .string nm, .string da, .slice A an ac, .bool fl.closed, .bool fl.manual, .bool fl.delegates, .bool fl.serial, .bool fl.clonable, int u1, int u2, int u3, int u4, int u5, int u6, int u7, int u8, int u9, .slice none 0 0]] w fun e w' =>
      e = .returned (int n) ∧ ∃ g' cap' av' gv' Fa' Fg', DocC p g' cap' (n + 1) lim (addR R n (newR k nm da l fl)) av' gv' Fa' Fg' w' ∧ Only (fun k => k = B ∨ k = p) w w' ∧ (∀ k, Foot p g' (n + 1) Fa' Fg' k → Foot p B n Fa Fg k ∨ Fn k ∨ w.heap.size ≤ k) := by
  obtain ⟨xs, hrow, hxs⟩ := hC.row
  refine (add_core hC.doc hrow hC.pb k nm da A an ac fl u1 u2 u3 u4 u5 u6 u7 u8 u9 hn).mono ?_
  rintro e w' ⟨rfl, g', cap', F', hd, hr, hon, hF, hg'F⟩
  refine ⟨rfl, g', cap', _, _, _, _, add_fin hC hA hdis hrow.1 hxs hon hd hr, hon, ?_⟩
  rintro x (rfl | rfl | ⟨i, hi, hx⟩ | ⟨i, hi, hx⟩)
  · exact .inl (.inl rfl)
  · rcases hF _ hg'F with h | h
    · exact .inl (.inr (.inl h))
    · exact .inr (.inr h)
  · by_cases e : i = n
    · simp only [if_pos e] at hx; exact .inr (.inl hx)
    · simp only [if_neg e] at hx; exact .inl (.inr (.inr (.inl ⟨i, by omega, hx⟩)))
  · by_cases e : i = n
    · simp only [if_pos e] at hx
    · simp only [if_neg e] at hx; exact .inl (.inr (.inr (.inr ⟨i, by omega, hx⟩)))
end
end Go.Proofs.YtgdmaikjaopddaaGreatDoor

/- A document in memory as its chapter tells it; New. -/
namespace Go.Proofs.YtgdmaikjaopddaaGreatDoor
open Go.RowKit

def docA (p : Nat) (A : Doc) : Res where
  holds := fun w F => WF A ∧ ∃ B R, Link A R ∧ (docR p B A.n A.lim R).holds w F
  loc := by rintro w w' F ⟨hw, B, R, hl, h⟩ hk; exact ⟨hw, B, R, hl, (docR p B A.n A.lim R).loc h hk⟩
  lt := by rintro w F k ⟨hw, B, R, hl, h⟩ hk; exact (docR p B A.n A.lim R).lt h hk

section
variable {W w : World} {rs : List Res} {p B : Nat} {A : Doc} {R : Int → RNd}
theorem docA_open (h : Sep W w (docA p A :: rs)) : WF A ∧ ∃ B R, Link A R ∧ Sep W w (docR p B A.n A.lim R :: rs) := by
  obtain ⟨hb, F, ⟨G, H, ⟨hw, B, R, hl, hG⟩, hH, hd, hF⟩, hk⟩ := h
  exact ⟨hw, B, R, hl, hb, F, ⟨G, H, hG, hH, hd, hF⟩, hk⟩
theorem docA_close (hw : WF A) (hl : Link A R) (h : Sep W w (docR p B A.n A.lim R :: rs)) : Sep W w (docA p A :: rs) := by
  obtain ⟨hb, F, ⟨G, H, hG, hH, hd, hF⟩, hk⟩ := h
  exact ⟨hb, F, ⟨G, H, ⟨hw, B, R, hl, hG⟩, hH, hd, hF⟩, hk⟩

/-- the links lead to nodes -/
theorem Link.rng (hl : Link A R) (hw : WF A) : Rng A.n R := by
  intro i h0 h1
  have hi : A.In i := ⟨h0, h1⟩
  have s := hl.same i hi
  have hk := hl.kin i hi
  have hin : ∀ {k : Int} {l : List Int}, (∀ x ∈ l, A.In x) → k ∈ l → Ok A.n k := fun h hk => .inr (h _ hk)
  have hkids : ∀ x ∈ (A.nd i).kids, A.In x := fun x hx => (hw.kin i hi x hx).1
  have hd : Ok A.n ((A.nd i).kids.headD (-1)) := by
    cases e : (A.nd i).kids with
    | nil => exact .none
    | cons k t => rw [e] at hkids; exact hin hkids (by simp)
  have hlst : Ok A.n ((A.nd i).kids.getLastD (-1)) := by
    by_cases e : (A.nd i).kids = []
    · rw [e]; exact .none
    · exact hin hkids (getLastD_mem e _)
  have hnp : Ok A.n (R i).next ∧ Ok A.n (R i).prev := by
    by_cases hu : (A.nd i).up = -1
    · have := hl.free i hi hu
      rw [this.1, this.2]; exact ⟨.none, .none⟩
    · have hui := in_of_ok (hw.up i hi) hu
      obtain ⟨l1, l2, he, _, _⟩ := mem_split (hw.upk i hi hu) (hw.nod _ hui)
      have hK := (hl.kin _ hui).seg
      have hks : ∀ x ∈ (A.nd (A.nd i).up).kids, A.In x := fun x hx => (hw.kin _ hui x hx).1
      rw [he] at hK hks
      obtain ⟨_, hp, hn, _⟩ := (Seg.append _ _ _ _).1 hK
      rw [hp, hn]
      constructor
      · cases l2 with
        | nil => exact .none
        | cons k t => exact hin hks (by simp)
      · by_cases e : l1 = []
        · rw [e]; exact .none
        · exact hin hks (List.mem_append_left _ (getLastD_mem e _))
  exact ⟨s.up ▸ hw.up i hi, s.shadow ▸ hw.shadow i hi, s.host ▸ hw.host i hi, s.own ▸ hw.own i hi, hk.first ▸ hd, hk.last ▸ hlst, hnp.1, hnp.2, s.slot ▸ hw.slot i hi⟩

/-- no list of nodes, each once, is longer than there are nodes -/
theorem length_le_of_nodup : ∀ (n : Nat) (l : List Int), l.Nodup → (∀ x ∈ l, 0 ≤ x ∧ x < n) → l.length ≤ n
  | 0, l, _, h => by
    cases l with
    | nil => simp
    | cons x t => have := h x (by simp); omega
  | n + 1, l, hd, h => by
    have h1 := length_le_of_nodup n (l.erase n) (hd.erase _) (fun x hx => by
      have hx' := (List.Nodup.mem_erase_iff hd).1 hx
      have := h x hx'.2
      have hne : x ≠ n := hx'.1
      exact ⟨this.1, by omega⟩)
    have h2 : l.length ≤ (l.erase (n : Int)).length + 1 := by rw [List.length_erase]; split <;> omega
    omega
theorem WF.kids_len (hw : WF A) {i : Int} (hi : A.In i) : (A.nd i).kids.length ≤ A.n := length_le_of_nodup _ _ (hw.nod i hi) fun x hx => (hw.kin i hi x hx).1
theorem WF.n_le (hw : WF A) : A.n ≤ 5000 := by have := hw.le; have := hw.lim; omega
theorem Seg.from {n : Nat} : ∀ {l : List Int} {p : Int}, Seg R p l (-1) → (∀ x ∈ l, 0 ≤ x ∧ x < n) → From n R (l.headD (-1)) l
  | [], _, _, _ => rfl
  | k :: t, p, ⟨_, h2, h3⟩, h => ⟨rfl, (h k (by simp)).1, (h k (by simp)).2, by rw [h2]; exact Seg.from h3 fun x hx => h x (by simp [hx])⟩
theorem Link.from (hl : Link A R) (hw : WF A) {i : Int} (hi : A.In i) : From A.n R (R i).first (A.nd i).kids := by
  have hk := hl.kin i hi
  rw [hk.first]
  exact hk.seg.from fun x hx => (hw.kin i hi x hx).1

set_option maxRecDepth 100000 in
theorem New_no (lim : Int) (h : lim < 1 ∨ 5000 < lim) (w : World) : Calls Tryz.prog 17 #[int lim] w fun e w' => e = .returned (.pointer none) ∧ w = w' := by
  rcases h with h | h
  · have t1 : decide (lim < 1) = true := by simpa using h
    go_enter Tryz.func17, Tryz.ntmps17
    go_wp2
    go_ret
    exact ⟨rfl, rfl⟩
  · have t1 : decide (lim < 1) = false := by simp; omega
    have t2 : decide (lim > 5000) = true := by simpa using h
    go_enter Tryz.func17, Tryz.ntmps17
    go_wp2
    go_ret
    exact ⟨rfl, rfl⟩

set_option maxRecDepth 100000 in
theorem New_yes (h : Sep W w rs) (lim : Int) (h1 : 1 ≤ lim) (h2 : lim ≤ 5000) : Calls Tryz.prog 17 #[int lim] w fun e w' => ∃ p, e = .returned (ptr p) ∧ Sep W w' (docA p (Doc.new lim) :: rs) := by
  have t1 : decide (lim < 1) = false := by simp; omega
  have t2 : decide (lim > 5000) = false := by simp; omega
  have H := Lib.hid h
  clear h
  go_enter Tryz.func17, Tryz.ntmps17
  go_wp2_with fail
  refine (add_core (p := w.heap.size) (n := 0) (lim := lim) (heap_alloc_new w _) (rowHolds_nil _ TNode 19 none) (fun h => h) 4 .empty .empty none 0 0 noFl 0 0 0 0 0 0 0 0 0 (by omega)).mono ?_
  rintro e w1 ⟨rfl, g', cap', F', hd, hr, hon, hF, hg'⟩
  have hb : Below w.heap.size w w1 := by
    have h1 : Below w.heap.size w (w.alloc (.cells #[.slice none 0 0, .int .i64 lim] TDoc)) := (Below.refl _ _).alloc (Nat.le_refl _) _
    refine h1.trans ⟨hon.os, hon.tape, hon.output, hon.size, fun k hk => hon.block k (by simp; omega) ?_⟩
    rintro (h | h)
    · exact h
    · omega
  have hgs : w.heap.size + 1 ≤ g' := by rcases hF g' hg' with h | h; exact h.elim; simpa using h
  have hnew : Sep W w1 (docA w.heap.size (Doc.new lim) :: rs) := by
    refine H.out.new (G' := Foot w.heap.size g' 1 (fun _ _ => False) (fun _ _ => False)) (Only.below hb) ⟨WF.new h1 h2, g', addR (fun _ => newR 4 .empty .empty [] noFl) 0 (newR 4 .empty .empty [] noFl), Link.new rfl, cap', fun _ => .slice none 0 0, fun _ => .slice none 0 0, fun _ _ => False, fun _ _ => False, ?_, fun _ => Iff.rfl⟩ ?_
    · rcases hr.2 with ⟨h0, _⟩ | ⟨g, c, cur, hv, hg, k1, k2, k3, k4, _⟩
      · omega
      injection hv with hv1 hv2 hv3
      injection hv1 with hv1
      injection hv1 with hv1
      subst hv1; subst hv3
      refine ⟨hd, ⟨cur, hg, k3, fun i hi k hk => ?_⟩, k1, k2, fun i hi => ?_, fun i hi => ?_, fun i hi j hj hij k hk => hk.elim, fun i hi j hj hij k hk => hk.elim⟩
      · have : i = 0 := by have : i < 1 := hi; omega
        subst this
        have hc : cur[0 * 19 + k]? = (cur.toList.take ((0 + 1) * 19))[0 * 19 + k]? := by rw [List.getElem?_take, if_pos (by omega)]; simp
        rw [hc, k4, List.nil_append]
        have hz : 0 * 19 + k = k := by omega
        rw [hz]; rfl
      · have : i = 0 := by have : i < 1 := hi; omega
        subst this; exact rowHolds_nil _ _ _ _
      · have : i = 0 := by have : i < 1 := hi; omega
        subst this; exact rowHolds_nil _ _ _ _
    · rintro k (rfl | rfl | ⟨_, _, h⟩ | ⟨_, _, h⟩)
      · exact Nat.le_refl _
      · omega
      · exact h.elim
      · exact h.elim
  have HN := Lib.hid hnew
  clear hb hnew hd hr hon hF hg' hgs
  go_wp2
  go_ret
  exact ⟨_, rfl, HN.out⟩

theorem add_sep {n : Nat} {lim : Int} {Aa : Option Addr} {an ac : Nat} {l : List Attr} (h : Sep W w (arow (.slice Aa an ac) l :: docR p B n lim R :: rs)) (k : Int) (nm da : ByteArray) (fl : Fl) (u1 u2 u3 u4 u5 u6 u7 u8 u9 : Int) (hn : n ≤ 1000000) :
    Calls Tryz.prog 38 #[ptr p, .agg #[.int .u8 k, .string nm, .string da, .slice Aa an ac, .bool fl.closed, .bool fl.manual, .bool fl.delegates, .bool fl.serial, .bool fl.clonable, int u1, int u2, int u3, int u4, int u5, int u6, int u7, int u8, int u9, .slice none 0 0]] w fun e w' =>
      e = .returned (int n) ∧ (∃ B', Sep W w' (docR p B' (n + 1) lim (addR R n (newR k nm da l fl)) :: rs)) ∧ Only (fun k => k = B ∨ k = p) w w' := by
  obtain ⟨G, ⟨G1, H1, hA, ⟨G2, H2, ⟨cap, av, gv, Fa, Fg, hC, hFt⟩, hnil, _, hF2⟩, hdis, hF⟩, hlt, hs⟩ := Sep.stepL (xs := [arow (.slice Aa an ac) l, docR p B n lim R]) h
  have hd : ∀ k, G1 k → ¬ Foot p B n Fa Fg k := fun k h1 h2 => hdis k h1 ((hF2 k).2 (.inl ((hFt k).2 h2)))
  have hin : ∀ k, Foot p B n Fa Fg k → G k := fun k hk => (hF k).2 (.inr ((hF2 k).2 (.inl ((hFt k).2 hk))))
  refine (add_raw hC k nm da Aa an ac fl u1 u2 u3 u4 u5 u6 u7 u8 u9 hn l G1 hA hd).mono ?_
  rintro e w' ⟨rfl, g', cap', av', gv', Fa', Fg', hC', hon, hsub⟩
  refine ⟨rfl, ⟨g', hs w' (Foot p g' (n + 1) Fa' Fg') [docR p g' (n + 1) lim (addR R n (newR k nm da l fl))] (hon.mono fun k _ hk => ?_) (.one ⟨cap', av', gv', Fa', Fg', hC', fun _ => Iff.rfl⟩) fun k hk => ?_⟩, hon⟩
  · rcases hk with rfl | rfl
    · exact hin _ (.inr (.inl rfl))
    · exact hin _ (.inl rfl)
  · rcases hsub k hk with h | h | h
    · exact .inl (hin k h)
    · exact .inl ((hF k).2 (.inl h))
    · exact .inr h
end
end Go.Proofs.YtgdmaikjaopddaaGreatDoor

/- Putting in and taking out: within, fits, Insert, Remove. -/
namespace Go.Proofs.YtgdmaikjaopddaaGreatDoor
open Go.RowKit

section
variable {W w : World} {rs : List Res} {p B cap n : Nat} {lim : Int} {A : Doc} {R : Int → RNd} {av gv : Nat → Value} {Fa Fg : Nat → Nat → Prop}

def parR (R : Int → RNd) (i : Int) : Int := if (R i).up ≠ -1 then (R i).up else (R i).host
def ms (rk : Int → Nat) (t : Value) : Nat := if intOf t = -1 then 0 else rk (intOf t) + 1
theorem ms_lt {rk : Int → Nat} {x y : Int} (hx : x ≠ -1) (h : y ≠ -1 → rk y < rk x) : ms rk (.int .i64 y) < ms rk (.int .i64 x) := by
  unfold ms
  show (if y = -1 then 0 else rk y + 1) < if x = -1 then 0 else rk x + 1
  rw [if_neg hx]
  split
  · omega
  · rename_i h1; have := h h1; omega

set_option maxRecDepth 100000 in
theorem within_any (hC : DocC p B cap n lim R av gv Fa Fg w) (hr : Rng n R) (rk : Int → Nat) (hrk : ∀ i : Int, 0 ≤ i → i < n → parR R i ≠ -1 → rk (parR R i) < rk i) (i j : Int) (hi : 0 ≤ i) (hi' : i < n) (hj : j ≠ -1) :
    Calls Tryz.prog 69 #[ptr p, int i, int j] w fun e w' => e = .returned (.bool (climbB (parR R) i j)) ∧ w = w' := by
  have h0 := hC.cell0
  have HC := Lib.hid hC
  have HR := Lib.hid hr
  have Hrk := Lib.hid hrk
  clear hC hr hrk
  go_enter Tryz.func69, Tryz.ntmps69
  go_wp2
  go_step3
  go_wp2
  go_step3
  go_wp2
  go_loop [1] (fun t => ∃ x : Int, t = int x ∧ Ok n x ∧ (Climb (parR R) i j ↔ x ≠ -1 ∧ Climb (parR R) x j)) (fun t => ms rk t)
  case atStart => exact ⟨i, rfl, .inr ⟨hi, hi'⟩, by constructor <;> simp_all; omega⟩
  case round =>
    obtain ⟨x, rfl, hx, hcl⟩ := hrel
    have HCl := Lib.hid hcl
    clear hcl
    rcases hx with rfl | ⟨hx0, hx1⟩
    · have hb : climbB (parR R) i j = false := by
        rw [climbB_not, HCl.out]
        exact fun h => h.1 rfl
      have HB := Lib.hid hb
      clear hb
      go_wp2
      go_ret
      exact ⟨by rw [HB.out]; rfl, rfl⟩
    · obtain ⟨x, rfl, hx'⟩ := icast hx0 hx1
      have ex : ((x : Int) != -1) = true := by simp
      have u5 := HC.out.cell hx' (k := 9) (by omega) rfl
      have u7 := HC.out.cell hx' (k := 11) (by omega) rfl
      have hne : (x : Int) ≠ -1 := by omega
      have hrx := HR.out x hx0 hx1
      by_cases hxj : (x : Int) = j
      · have hb : climbB (parR R) i j = true := by
          rw [climbB_iff, HCl.out, hxj]
          exact ⟨hj, .here _⟩
        have HB := Lib.hid hb
        have exj : ((x : Int) == j) = true := by simpa using hxj
        clear hb hxj hrx hne
        go_wp2
        go_ret
        exact ⟨by rw [HB.out]; rfl, rfl⟩
      · have exj : ((x : Int) == j) = false := by simpa using hxj
        have hst := climb_step (f := parR R) hxj
        by_cases hup : (R x).up = -1
        · have eup : ((R x).up != -1) = false := by simpa using hup
          have hpar : parR R x = (R x).host := by unfold parR; rw [if_neg (by simpa using hup)]
          have HP := Lib.hid hpar
          have HSt := Lib.hid hst
          have HRx := Lib.hid hrx
          clear hpar hup hst hrx hxj hne
          go_wp2
          go_round
          case rel => exact ⟨_, rfl, HRx.out.host, HCl.out.trans ⟨fun h => HP.out ▸ (HSt.out.1 h.2), fun h => ⟨by omega, HSt.out.2 (HP.out ▸ h)⟩⟩⟩
          case measure =>
            exact ms_lt (by omega) (HP.out ▸ Hrk.out x hx0 hx1)
        · have eup : ((R x).up != -1) = true := by simpa using hup
          have hpar : parR R x = (R x).up := by unfold parR; rw [if_pos hup]
          have HP := Lib.hid hpar
          have HSt := Lib.hid hst
          have HRx := Lib.hid hrx
          have Hup := Lib.hid hup
          clear hpar hst hrx hxj hne hup
          go_wp2
          go_round
          case rel => exact ⟨_, rfl, HRx.out.up, HCl.out.trans ⟨fun h => HP.out ▸ (HSt.out.1 h.2), fun h => ⟨by omega, HSt.out.2 (HP.out ▸ h)⟩⟩⟩
          case measure =>
            exact ms_lt (by omega) (HP.out ▸ Hrk.out x hx0 hx1)

/-- may things be put into a node -/
def takesB (k : Int) (nm : ByteArray) : Bool := k == 4 || k == 5 || (k == 1 && !voidB nm)
noncomputable def fitsB (R : Int → RNd) (up i : Int) : Bool := takesB (R up).kind (R up).name && (i != 0 && (R i).host == -1 && !climbB (parR R) up i)

set_option maxRecDepth 100000 in
theorem fits_4z (hC : DocC p B cap n lim R av gv Fa Fg w) (hT : Laid w) (hr : Rng n R) (rk : Int → Nat) (hrk : ∀ i : Int, 0 ≤ i → i < n → parR R i ≠ -1 → rk (parR R i) < rk i) (up i : Nat) (hu : up < n) (_hi : i < n) (hk : (R up).kind = 4) (hz : (i : Int) = 0) :
    Calls Tryz.prog 35 #[ptr p, int up, int i] w fun e w' => e = .returned (.bool (false)) ∧ Below w.heap.size w w' := by
  have h0 := hC.cell0
  have u0 : w.cell? ⟨B, up * 19, none⟩ = _ := hC.cell hu (k := 0) (by omega) rfl
  rw [hk] at u0
  clear hk
  have hz' : ((i : Int) != 0) = false := by simpa using hz
  clear hz
  have HC := Lib.hid hC
  have HR := Lib.hid hr
  have Hrk := Lib.hid hrk
  have HT := Lib.hid hT
  clear hC hr hrk hT
  go_enter Tryz.func35, Tryz.ntmps35
  go_wp2
  go_ret
  exact ⟨rfl, Below.refl _ _⟩
set_option maxRecDepth 100000 in
theorem fits_4h (hC : DocC p B cap n lim R av gv Fa Fg w) (hT : Laid w) (hr : Rng n R) (rk : Int → Nat) (hrk : ∀ i : Int, 0 ≤ i → i < n → parR R i ≠ -1 → rk (parR R i) < rk i) (up i : Nat) (hu : up < n) (hi : i < n) (hk : (R up).kind = 4) (hz : (i : Int) ≠ 0) (hh : ((R i).host == -1) = false) :
    Calls Tryz.prog 35 #[ptr p, int up, int i] w fun e w' => e = .returned (.bool (false)) ∧ Below w.heap.size w w' := by
  have h0 := hC.cell0
  have u0 : w.cell? ⟨B, up * 19, none⟩ = _ := hC.cell hu (k := 0) (by omega) rfl
  rw [hk] at u0
  clear hk
  have v7 := hC.cell hi (k := 11) (by omega) rfl
  have hz' : ((i : Int) != 0) = true := by simpa using hz
  have hz2 : (i : Int) ≠ -1 := by omega
  clear hz
  have HC := Lib.hid hC
  have HR := Lib.hid hr
  have Hrk := Lib.hid hrk
  have HT := Lib.hid hT
  have Hz2 := Lib.hid hz2
  clear hz2
  clear hC hr hrk hT
  go_enter Tryz.func35, Tryz.ntmps35
  go_wp2
  go_ret
  exact ⟨rfl, Below.refl _ _⟩
set_option maxRecDepth 100000 in
theorem fits_4c (hC : DocC p B cap n lim R av gv Fa Fg w) (hT : Laid w) (hr : Rng n R) (rk : Int → Nat) (hrk : ∀ i : Int, 0 ≤ i → i < n → parR R i ≠ -1 → rk (parR R i) < rk i) (up i : Nat) (hu : up < n) (hi : i < n) (hk : (R up).kind = 4) (hz : (i : Int) ≠ 0) (hh : (R i).host = -1) :
    Calls Tryz.prog 35 #[ptr p, int up, int i] w fun e w' => e = .returned (.bool (!climbB (parR R) up i)) ∧ Below w.heap.size w w' := by
  have h0 := hC.cell0
  have u0 : w.cell? ⟨B, up * 19, none⟩ = _ := hC.cell hu (k := 0) (by omega) rfl
  rw [hk] at u0
  clear hk
  have v7 := hC.cell hi (k := 11) (by omega) rfl
  have hz' : ((i : Int) != 0) = true := by simpa using hz
  rw [hh] at v7
  clear hh
  have hz2 : (i : Int) ≠ -1 := by omega
  clear hz
  have HC := Lib.hid hC
  have HR := Lib.hid hr
  have Hrk := Lib.hid hrk
  have HT := Lib.hid hT
  have Hz2 := Lib.hid hz2
  clear hz2
  clear hC hr hrk hT
  go_enter Tryz.func35, Tryz.ntmps35
  go_wp2_with fail
  refine (within_any HC.out HR.out rk Hrk.out up i (by omega) (by omega) Hz2.out).mono ?_
  rintro e w2 ⟨rfl, rfl⟩
  generalize hcb : climbB (parR R) up i = cb
  have HCB := Lib.hid hcb
  clear hcb
  go_wp2
  go_ret
  exact ⟨by rw [HCB.out]; rfl, Below.refl _ _⟩
set_option maxRecDepth 100000 in
theorem fits_5z (hC : DocC p B cap n lim R av gv Fa Fg w) (hT : Laid w) (hr : Rng n R) (rk : Int → Nat) (hrk : ∀ i : Int, 0 ≤ i → i < n → parR R i ≠ -1 → rk (parR R i) < rk i) (up i : Nat) (hu : up < n) (_hi : i < n) (hk : (R up).kind = 5) (hz : (i : Int) = 0) :
    Calls Tryz.prog 35 #[ptr p, int up, int i] w fun e w' => e = .returned (.bool (false)) ∧ Below w.heap.size w w' := by
  have h0 := hC.cell0
  have u0 : w.cell? ⟨B, up * 19, none⟩ = _ := hC.cell hu (k := 0) (by omega) rfl
  rw [hk] at u0
  clear hk
  have hz' : ((i : Int) != 0) = false := by simpa using hz
  clear hz
  have HC := Lib.hid hC
  have HR := Lib.hid hr
  have Hrk := Lib.hid hrk
  have HT := Lib.hid hT
  clear hC hr hrk hT
  go_enter Tryz.func35, Tryz.ntmps35
  go_wp2
  go_ret
  exact ⟨rfl, Below.refl _ _⟩
set_option maxRecDepth 100000 in
theorem fits_5h (hC : DocC p B cap n lim R av gv Fa Fg w) (hT : Laid w) (hr : Rng n R) (rk : Int → Nat) (hrk : ∀ i : Int, 0 ≤ i → i < n → parR R i ≠ -1 → rk (parR R i) < rk i) (up i : Nat) (hu : up < n) (hi : i < n) (hk : (R up).kind = 5) (hz : (i : Int) ≠ 0) (hh : ((R i).host == -1) = false) :
    Calls Tryz.prog 35 #[ptr p, int up, int i] w fun e w' => e = .returned (.bool (false)) ∧ Below w.heap.size w w' := by
  have h0 := hC.cell0
  have u0 : w.cell? ⟨B, up * 19, none⟩ = _ := hC.cell hu (k := 0) (by omega) rfl
  rw [hk] at u0
  clear hk
  have v7 := hC.cell hi (k := 11) (by omega) rfl
  have hz' : ((i : Int) != 0) = true := by simpa using hz
  have hz2 : (i : Int) ≠ -1 := by omega
  clear hz
  have HC := Lib.hid hC
  have HR := Lib.hid hr
  have Hrk := Lib.hid hrk
  have HT := Lib.hid hT
  have Hz2 := Lib.hid hz2
  clear hz2
  clear hC hr hrk hT
  go_enter Tryz.func35, Tryz.ntmps35
  go_wp2
  go_ret
  exact ⟨rfl, Below.refl _ _⟩
set_option maxRecDepth 100000 in
theorem fits_5c (hC : DocC p B cap n lim R av gv Fa Fg w) (hT : Laid w) (hr : Rng n R) (rk : Int → Nat) (hrk : ∀ i : Int, 0 ≤ i → i < n → parR R i ≠ -1 → rk (parR R i) < rk i) (up i : Nat) (hu : up < n) (hi : i < n) (hk : (R up).kind = 5) (hz : (i : Int) ≠ 0) (hh : (R i).host = -1) :
    Calls Tryz.prog 35 #[ptr p, int up, int i] w fun e w' => e = .returned (.bool (!climbB (parR R) up i)) ∧ Below w.heap.size w w' := by
  have h0 := hC.cell0
  have u0 : w.cell? ⟨B, up * 19, none⟩ = _ := hC.cell hu (k := 0) (by omega) rfl
  rw [hk] at u0
  clear hk
  have v7 := hC.cell hi (k := 11) (by omega) rfl
  have hz' : ((i : Int) != 0) = true := by simpa using hz
  rw [hh] at v7
  clear hh
  have hz2 : (i : Int) ≠ -1 := by omega
  clear hz
  have HC := Lib.hid hC
  have HR := Lib.hid hr
  have Hrk := Lib.hid hrk
  have HT := Lib.hid hT
  have Hz2 := Lib.hid hz2
  clear hz2
  clear hC hr hrk hT
  go_enter Tryz.func35, Tryz.ntmps35
  go_wp2_with fail
  refine (within_any HC.out HR.out rk Hrk.out up i (by omega) (by omega) Hz2.out).mono ?_
  rintro e w2 ⟨rfl, rfl⟩
  generalize hcb : climbB (parR R) up i = cb
  have HCB := Lib.hid hcb
  clear hcb
  go_wp2
  go_ret
  exact ⟨by rw [HCB.out]; rfl, Below.refl _ _⟩
set_option maxRecDepth 100000 in
theorem fits_1z (hC : DocC p B cap n lim R av gv Fa Fg w) (hT : Laid w) (hr : Rng n R) (rk : Int → Nat) (hrk : ∀ i : Int, 0 ≤ i → i < n → parR R i ≠ -1 → rk (parR R i) < rk i) (up i : Nat) (hu : up < n) (_hi : i < n) (hk : (R up).kind = 1) (hv : voidB (R up).name = false) (hz : (i : Int) = 0) :
    Calls Tryz.prog 35 #[ptr p, int up, int i] w fun e w' => e = .returned (.bool (false)) ∧ Below w.heap.size w w' := by
  have h0 := hC.cell0
  have u0 : w.cell? ⟨B, up * 19, none⟩ = _ := hC.cell hu (k := 0) (by omega) rfl
  rw [hk] at u0
  have u1 := hC.cell hu (k := 1) (by omega) rfl
  have HV := Lib.hid hv
  clear hv
  clear hk
  have hz' : ((i : Int) != 0) = false := by simpa using hz
  clear hz
  have HC := Lib.hid hC
  have HR := Lib.hid hr
  have Hrk := Lib.hid hrk
  have HT := Lib.hid hT
  clear hC hr hrk hT
  go_enter Tryz.func35, Tryz.ntmps35
  go_wp2_with fail
  refine (Void_any _ _ HT.out).mono ?_
  rintro e w1 ⟨rfl, hb⟩
  rw [HV.out]
  have hC1 := HC.out.below hb
  have g0 := hC1.cell0
  have HB := Lib.hid hb
  have HC1 := Lib.hid hC1
  clear hb hC1
  go_wp2
  go_ret
  exact ⟨rfl, HB.out⟩
set_option maxRecDepth 100000 in
theorem fits_1h (hC : DocC p B cap n lim R av gv Fa Fg w) (hT : Laid w) (hr : Rng n R) (rk : Int → Nat) (hrk : ∀ i : Int, 0 ≤ i → i < n → parR R i ≠ -1 → rk (parR R i) < rk i) (up i : Nat) (hu : up < n) (hi : i < n) (hk : (R up).kind = 1) (hv : voidB (R up).name = false) (hz : (i : Int) ≠ 0) (hh : ((R i).host == -1) = false) :
    Calls Tryz.prog 35 #[ptr p, int up, int i] w fun e w' => e = .returned (.bool (false)) ∧ Below w.heap.size w w' := by
  have h0 := hC.cell0
  have u0 : w.cell? ⟨B, up * 19, none⟩ = _ := hC.cell hu (k := 0) (by omega) rfl
  rw [hk] at u0
  have u1 := hC.cell hu (k := 1) (by omega) rfl
  have HV := Lib.hid hv
  clear hv
  clear hk
  have v7 := hC.cell hi (k := 11) (by omega) rfl
  have hz' : ((i : Int) != 0) = true := by simpa using hz
  have hz2 : (i : Int) ≠ -1 := by omega
  clear hz
  have HC := Lib.hid hC
  have HR := Lib.hid hr
  have Hrk := Lib.hid hrk
  have HT := Lib.hid hT
  have Hz2 := Lib.hid hz2
  clear hz2
  clear hC hr hrk hT
  go_enter Tryz.func35, Tryz.ntmps35
  go_wp2_with fail
  refine (Void_any _ _ HT.out).mono ?_
  rintro e w1 ⟨rfl, hb⟩
  rw [HV.out]
  have hC1 := HC.out.below hb
  have g0 := hC1.cell0
  have g7 := hC1.cell hi (k := 11) (by omega) rfl
  have HB := Lib.hid hb
  have HC1 := Lib.hid hC1
  clear hb hC1
  go_wp2
  go_ret
  exact ⟨rfl, HB.out⟩
set_option maxRecDepth 100000 in
theorem fits_1c (hC : DocC p B cap n lim R av gv Fa Fg w) (hT : Laid w) (hr : Rng n R) (rk : Int → Nat) (hrk : ∀ i : Int, 0 ≤ i → i < n → parR R i ≠ -1 → rk (parR R i) < rk i) (up i : Nat) (hu : up < n) (hi : i < n) (hk : (R up).kind = 1) (hv : voidB (R up).name = false) (hz : (i : Int) ≠ 0) (hh : (R i).host = -1) :
    Calls Tryz.prog 35 #[ptr p, int up, int i] w fun e w' => e = .returned (.bool (!climbB (parR R) up i)) ∧ Below w.heap.size w w' := by
  have h0 := hC.cell0
  have u0 : w.cell? ⟨B, up * 19, none⟩ = _ := hC.cell hu (k := 0) (by omega) rfl
  rw [hk] at u0
  have u1 := hC.cell hu (k := 1) (by omega) rfl
  have HV := Lib.hid hv
  clear hv
  clear hk
  have v7 := hC.cell hi (k := 11) (by omega) rfl
  have hz' : ((i : Int) != 0) = true := by simpa using hz
  rw [hh] at v7
  clear hh
  have hz2 : (i : Int) ≠ -1 := by omega
  clear hz
  have HC := Lib.hid hC
  have HR := Lib.hid hr
  have Hrk := Lib.hid hrk
  have HT := Lib.hid hT
  have Hz2 := Lib.hid hz2
  clear hz2
  clear hC hr hrk hT
  go_enter Tryz.func35, Tryz.ntmps35
  go_wp2_with fail
  refine (Void_any _ _ HT.out).mono ?_
  rintro e w1 ⟨rfl, hb⟩
  rw [HV.out]
  have hC1 := HC.out.below hb
  have g0 := hC1.cell0
  have g7 := hC1.cell hi (k := 11) (by omega) rfl
  have g8 := hb.cell (p := ⟨B, i * 19 + 11, none⟩) HC.out.Bw
  rw [v7] at g8
  clear g7
  have HB := Lib.hid hb
  have HC1 := Lib.hid hC1
  clear hb hC1
  go_wp2_with fail
  refine (within_any HC1.out HR.out rk Hrk.out up i (by omega) (by omega) Hz2.out).mono ?_
  rintro e w2 ⟨rfl, rfl⟩
  generalize hcb : climbB (parR R) up i = cb
  have HCB := Lib.hid hcb
  clear hcb
  go_wp2
  go_ret
  exact ⟨by rw [HCB.out]; rfl, HB.out⟩
set_option maxRecDepth 100000 in
theorem fits_V (hC : DocC p B cap n lim R av gv Fa Fg w) (hT : Laid w) (hr : Rng n R) (rk : Int → Nat) (hrk : ∀ i : Int, 0 ≤ i → i < n → parR R i ≠ -1 → rk (parR R i) < rk i) (up i : Nat) (hu : up < n) (_hi : i < n) (hk : (R up).kind = 1) (hv : voidB (R up).name = true)  :
    Calls Tryz.prog 35 #[ptr p, int up, int i] w fun e w' => e = .returned (.bool (false)) ∧ Below w.heap.size w w' := by
  have h0 := hC.cell0
  have u0 : w.cell? ⟨B, up * 19, none⟩ = _ := hC.cell hu (k := 0) (by omega) rfl
  rw [hk] at u0
  have u1 := hC.cell hu (k := 1) (by omega) rfl
  have HV := Lib.hid hv
  clear hv
  clear hk
  have HC := Lib.hid hC
  have HR := Lib.hid hr
  have Hrk := Lib.hid hrk
  have HT := Lib.hid hT
  clear hC hr hrk hT
  go_enter Tryz.func35, Tryz.ntmps35
  go_wp2_with fail
  refine (Void_any _ _ HT.out).mono ?_
  rintro e w1 ⟨rfl, hb⟩
  rw [HV.out]
  have hC1 := HC.out.below hb
  have g0 := hC1.cell0
  have HB := Lib.hid hb
  have HC1 := Lib.hid hC1
  clear hb hC1
  go_wp2
  go_ret
  exact ⟨rfl, HB.out⟩
set_option maxRecDepth 100000 in
theorem fits_N (hC : DocC p B cap n lim R av gv Fa Fg w) (hT : Laid w) (hr : Rng n R) (rk : Int → Nat) (hrk : ∀ i : Int, 0 ≤ i → i < n → parR R i ≠ -1 → rk (parR R i) < rk i) (up i : Nat) (hu : up < n) (_hi : i < n) (h4 : ((R up).kind == 4) = false) (h5 : ((R up).kind == 5) = false) (h1 : ((R up).kind == 1) = false)  :
    Calls Tryz.prog 35 #[ptr p, int up, int i] w fun e w' => e = .returned (.bool (false)) ∧ Below w.heap.size w w' := by
  have h0 := hC.cell0
  have u0 : w.cell? ⟨B, up * 19, none⟩ = _ := hC.cell hu (k := 0) (by omega) rfl
  have HC := Lib.hid hC
  have HR := Lib.hid hr
  have Hrk := Lib.hid hrk
  have HT := Lib.hid hT
  clear hC hr hrk hT
  go_enter Tryz.func35, Tryz.ntmps35
  go_wp2
  go_ret
  exact ⟨rfl, Below.refl _ _⟩

theorem fits_any (hC : DocC p B cap n lim R av gv Fa Fg w) (hT : Laid w) (hr : Rng n R) (rk : Int → Nat) (hrk : ∀ i : Int, 0 ≤ i → i < n → parR R i ≠ -1 → rk (parR R i) < rk i) (up i : Nat) (hu : up < n) (hi : i < n) : Calls Tryz.prog 35 #[ptr p, int up, int i] w fun e w' => e = .returned (.bool (fitsB R up i)) ∧ Below w.heap.size w w' := by
  have fin : ∀ {b : Bool}, fitsB R up i = b → Calls Tryz.prog 35 #[ptr p, int up, int i] w (fun e w' => e = .returned (.bool b) ∧ Below w.heap.size w w') → Calls Tryz.prog 35 #[ptr p, int up, int i] w fun e w' => e = .returned (.bool (fitsB R up i)) ∧ Below w.heap.size w w' := fun h c => h ▸ c
  by_cases h4 : (R up).kind = 4
  · by_cases hz : (i : Int) = 0
    · exact fin (by simp [fitsB, takesB, h4, hz]) (fits_4z hC hT hr rk hrk up i hu hi h4 hz)
    · cases hh : ((R i).host == -1)
      · exact fin (by simp [fitsB, takesB, h4, hh]) (fits_4h hC hT hr rk hrk up i hu hi h4 hz hh)
      · have hh' : (R i).host = -1 := by simpa using hh
        exact fin (by simp [fitsB, takesB, h4, hh']; intro _; exact fun h => hz (by simpa using h)) (fits_4c hC hT hr rk hrk up i hu hi h4 hz hh')
  · by_cases h5 : (R up).kind = 5
    · by_cases hz : (i : Int) = 0
      · exact fin (by simp [fitsB, takesB, h5, hz]) (fits_5z hC hT hr rk hrk up i hu hi h5 hz)
      · cases hh : ((R i).host == -1)
        · exact fin (by simp [fitsB, takesB, h5, hh]) (fits_5h hC hT hr rk hrk up i hu hi h5 hz hh)
        · have hh' : (R i).host = -1 := by simpa using hh
          exact fin (by simp [fitsB, takesB, h5, hh']; intro _; exact fun h => hz (by simpa using h)) (fits_5c hC hT hr rk hrk up i hu hi h5 hz hh')
    · by_cases h1 : (R up).kind = 1
      · cases hv : voidB (R up).name
        · by_cases hz : (i : Int) = 0
          · exact fin (by simp [fitsB, takesB, h1, hv, hz]) (fits_1z hC hT hr rk hrk up i hu hi h1 hv hz)
          · cases hh : ((R i).host == -1)
            · exact fin (by simp [fitsB, takesB, h1, hv, hh]) (fits_1h hC hT hr rk hrk up i hu hi h1 hv hz hh)
            · have hh' : (R i).host = -1 := by simpa using hh
              exact fin (by simp [fitsB, takesB, h1, hv, hh']; intro _; exact fun h => hz (by simpa using h)) (fits_1c hC hT hr rk hrk up i hu hi h1 hv hz hh')
        · exact fin (by simp [fitsB, takesB, h1, hv]) (fits_V hC hT hr rk hrk up i hu hi h1 hv)
      · exact fin (by simp [fitsB, takesB, h1, h4, h5]) (fits_N hC hT hr rk hrk up i hu hi (by simpa using h4) (by simpa using h5) (by simpa using h1))

theorem climb_congr {f g : Int → Int} {S : Int → Prop} (hfg : ∀ x, S x → f x = g x) (hS : ∀ x, S x → f x ≠ -1 → S (f x)) {i j : Int} (hi : S i) (h : Climb f i j) : Climb g i j := by
  induction h with
  | here => exact .here _
  | up h1 _ ih =>
    have := ih (hS _ hi h1)
    rw [hfg _ hi] at h1 this
    exact .up h1 this

noncomputable def Doc.fitsB (A : Doc) (up i : Int) : Bool := takesB (A.nd up).kind (A.nd up).name && (i != 0 && (A.nd i).host == -1 && !climbB A.par up i)

theorem Link.par (hl : Link A R) {i : Int} (hi : A.In i) : parR R i = A.par i := by
  have s := hl.same i hi
  unfold parR Doc.par
  rw [s.up, s.host]
theorem WF.par_in (hw : WF A) {i : Int} (hi : A.In i) (h : A.par i ≠ -1) : A.In (A.par i) := by
  unfold Doc.par at h ⊢
  split at h
  · rename_i h1; rw [if_pos h1]; exact in_of_ok (hw.up i hi) h1
  · rename_i h1; rw [if_neg h1]; exact in_of_ok (hw.host i hi) h
theorem Link.climb (hl : Link A R) (hw : WF A) {i j : Int} (hi : A.In i) : climbB (parR R) i j = climbB A.par i j := by
  have e : Climb (parR R) i j ↔ Climb A.par i j :=
    ⟨climb_congr (S := A.In) (fun x hx => hl.par hx) (fun x hx h => by rw [hl.par hx] at h ⊢; exact hw.par_in hx h) hi,
     climb_congr (S := A.In) (fun x hx => (hl.par hx).symm) (fun x hx h => hw.par_in hx h) hi⟩
  rw [Bool.eq_iff_iff, climbB_iff, climbB_iff, e]
theorem Link.fits (hl : Link A R) (hw : WF A) {up i : Int} (hu : A.In up) (hi : A.In i) : fitsB R up i = A.fitsB up i := by
  unfold Proofs.YtgdmaikjaopddaaGreatDoor.fitsB Doc.fitsB
  rw [(hl.same up hu).kind, (hl.same up hu).name, (hl.same i hi).host, hl.climb hw hu]
theorem Link.rank (hl : Link A R) (hw : WF A) : ∃ rk : Int → Nat, ∀ i : Int, 0 ≤ i → i < A.n → parR R i ≠ -1 → rk (parR R i) < rk i := by
  obtain ⟨rk, h⟩ := hw.rank
  exact ⟨rk, fun i h0 h1 hp => by rw [hl.par ⟨h0, h1⟩] at hp ⊢; exact h i ⟨h0, h1⟩ hp⟩

section sepl
variable {n : Nat}
theorem lacks_sep_no (h : Sep W w (docR p B n lim R :: rs)) (i : Int) (hi : 0 ≤ i) (hi' : i < n) : Calls Tryz.prog 32 #[ptr p, int i] w fun e w' => e = .returned (.bool false) ∧ w = w' := by
  obtain ⟨cap, av, gv, Fa, Fg, hC, _⟩ := docR_step h
  exact lacks_no hC i hi hi'
theorem lacks_sep_yes (h : Sep W w (docR p B n lim R :: rs)) (i : Int) (hi : i < 0 ∨ n ≤ i) : Calls Tryz.prog 32 #[ptr p, int i] w fun e w' => e = .returned (.bool true) ∧ w = w' := by
  obtain ⟨cap, av, gv, Fa, Fg, hC, _⟩ := docR_step h
  exact lacks_yes hC i hi
theorem fits_sep (h : Sep W w (docR p B A.n A.lim R :: rs)) (hw : WF A) (hl : Link A R) (hT : Laid W) (up i : Int) (hu : A.In up) (hi : A.In i) :
    Calls Tryz.prog 35 #[ptr p, int up, int i] w fun e w' => e = .returned (.bool (A.fitsB up i)) ∧ Sep W w' (docR p B A.n A.lim R :: rs) := by
  obtain ⟨cap, av, gv, Fa, Fg, hC, _⟩ := docR_step h
  obtain ⟨rk, hrk⟩ := hl.rank hw
  rw [← hl.fits hw hu hi]
  obtain ⟨u, rfl, hu'⟩ := icast hu.1 hu.2
  obtain ⟨j, rfl, hi'⟩ := icast hi.1 hi.2
  exact (fits_any hC (hT.below h.below) (hl.rng hw) rk hrk u j hu' hi').mono fun e w' ⟨he, hb⟩ => ⟨he, h.belowed hb⟩
theorem cell_sep (h : Sep W w (docR p B n lim R :: rs)) : ∃ (cap : Nat) (av gv : Nat → Value), w.cell? ⟨p, 0, none⟩ = some (.slice (some ⟨B, 0, none⟩) n cap) ∧ ∀ i k : Nat, i < n → k < 19 → ∀ u, (ncell (R i) (av i) (gv i))[k]? = some u → w.cell? ⟨B, i * 19 + k, none⟩ = some u := by
  obtain ⟨cap, av, gv, Fa, Fg, hC, _⟩ := docR_step h
  exact ⟨cap, av, gv, hC.cell0, fun i k hi hk u hu => hC.cell hi hk hu⟩
end sepl

set_option maxRecDepth 100000 in
set_option maxHeartbeats 1000000 in
theorem insert_n (h : Sep W w (docR p B A.n A.lim R :: rs)) (hw : WF A) (hl : Link A R) (hT : Laid W) (up i : Nat) (hu : up < A.n) (hi : i < A.n)  (hf : A.fitsB up i = true) (hk : (A.nd i).kind ≠ 4) :
    Calls Tryz.prog 14 #[ptr p, int up, int i, int (-1)] w fun e w' => e = .returned (.int .u16 0) ∧ Sep W w' (docR p B A.n A.lim (putR R up i (-1)) :: rs) := by
  have hIu : A.In up := ⟨by omega, by omega⟩
  have hIi : A.In i := ⟨by omega, by omega⟩
  have H := Lib.hid h
  have HF := Lib.hid hf
  have ek : ((R i).kind == 4) = false := by rw [(hl.same i hIi).kind]; simpa using hk
  have e3 : ((-1 : Int) == i) = false := by simp
  have Hw := Lib.hid hw
  have Hl := Lib.hid hl
  have HT := Lib.hid hT
  clear h hf hk hw hl hT
  go_enter Tryz.func14, Tryz.ntmps14
  go_wp2_with fail
  refine (lacks_sep_no H.out up (by omega) (by omega)).mono ?_
  rintro e w' ⟨rfl, rfl⟩
  go_wp2_with fail
  refine (lacks_sep_no H.out i (by omega) (by omega)).mono ?_
  rintro e w' ⟨rfl, rfl⟩
  go_wp2_with fail
  refine (fits_sep H.out Hw.out Hl.out HT.out up i hIu hIi).mono ?_
  rintro e w1 ⟨rfl, h1⟩
  rw [HF.out]
  have H1 := Lib.hid h1
  obtain ⟨cap, av, gv, c0, hc⟩ := cell_sep h1
  have u0 : w1.cell? ⟨B, i * 19, none⟩ = _ := hc i 0 hi (by omega) _ rfl
  clear h1 hc
  go_wp2_with fail
  refine (put_any H1.out (Hl.out.rng Hw.out) up i (-1) hIu hIi Ok.none).mono ?_
  rintro e w2 ⟨rfl, h2⟩
  have H2 := Lib.hid h2
  clear h2
  go_wp2
  go_ret
  exact ⟨rfl, H2.out⟩

set_option maxRecDepth 100000 in
set_option maxHeartbeats 1000000 in
theorem insert_b (h : Sep W w (docR p B A.n A.lim R :: rs)) (hw : WF A) (hl : Link A R) (hT : Laid W) (up i : Nat) (hu : up < A.n) (hi : i < A.n) (b : Nat) (hb : b < A.n) (hbu : (A.nd b).up = up) (hbi : (b : Int) ≠ i) (hf : A.fitsB up i = true) (hk : (A.nd i).kind ≠ 4) :
    Calls Tryz.prog 14 #[ptr p, int up, int i, int b] w fun e w' => e = .returned (.int .u16 0) ∧ Sep W w' (docR p B A.n A.lim (putR R up i b) :: rs) := by
  have hIu : A.In up := ⟨by omega, by omega⟩
  have hIi : A.In i := ⟨by omega, by omega⟩
  have H := Lib.hid h
  have HF := Lib.hid hf
  have ek : ((R i).kind == 4) = false := by rw [(hl.same i hIi).kind]; simpa using hk
  have eb : ((b : Int) != -1) = true := by simp
  have hRb : (R b).up = up := (hl.same b ⟨by omega, by omega⟩).up.trans hbu
  have e3 : ((b : Int) == i) = false := by simpa using hbi
  have HRb := Lib.hid hRb
  clear hRb hbu hbi
  have Hw := Lib.hid hw
  have Hl := Lib.hid hl
  have HT := Lib.hid hT
  clear h hf hk hw hl hT
  go_enter Tryz.func14, Tryz.ntmps14
  go_wp2_with fail
  refine (lacks_sep_no H.out up (by omega) (by omega)).mono ?_
  rintro e w' ⟨rfl, rfl⟩
  go_wp2_with fail
  refine (lacks_sep_no H.out i (by omega) (by omega)).mono ?_
  rintro e w' ⟨rfl, rfl⟩
  go_wp2_with fail
  refine (lacks_sep_no H.out b (by omega) (by omega)).mono ?_
  rintro e w' ⟨rfl, rfl⟩
  go_wp2_with fail
  refine (fits_sep H.out Hw.out Hl.out HT.out up i hIu hIi).mono ?_
  rintro e w1 ⟨rfl, h1⟩
  rw [HF.out]
  have H1 := Lib.hid h1
  obtain ⟨cap, av, gv, c0, hc⟩ := cell_sep h1
  have u0 : w1.cell? ⟨B, i * 19, none⟩ = _ := hc i 0 hi (by omega) _ rfl
  have ub := hc b 9 hb (by omega) _ rfl
  rw [HRb.out] at ub
  clear h1 hc
  go_wp2_with fail
  refine (put_any H1.out (Hl.out.rng Hw.out) up i b hIu hIi (.inr ⟨by omega, by omega⟩)).mono ?_
  rintro e w2 ⟨rfl, h2⟩
  have H2 := Lib.hid h2
  clear h2
  go_wp2
  go_ret
  exact ⟨rfl, H2.out⟩

set_option maxRecDepth 100000 in
set_option maxHeartbeats 1000000 in
theorem insert_i (h : Sep W w (docR p B A.n A.lim R :: rs)) (hw : WF A) (hl : Link A R) (hT : Laid W) (up i : Nat) (hu : up < A.n) (hi : i < A.n) (hiu : (A.nd i).up = up) (hf : A.fitsB up i = true) (hk : (A.nd i).kind ≠ 4) :
    Calls Tryz.prog 14 #[ptr p, int up, int i, int i] w fun e w' => e = .returned (.int .u16 0) ∧ Sep W w' (docR p B A.n A.lim (putR R up i (nextIn (A.nd up).kids i)) :: rs) := by
  have hIu : A.In up := ⟨by omega, by omega⟩
  have hIi : A.In i := ⟨by omega, by omega⟩
  have H := Lib.hid h
  have HF := Lib.hid hf
  have ek : ((R i).kind == 4) = false := by rw [(hl.same i hIi).kind]; simpa using hk
  have eb : ((i : Int) != -1) = true := by simp
  have hRb : (R i).up = up := (hl.same i hIi).up.trans hiu
  have hnx : (R i).next = nextIn (A.nd up).kids i := by
    have := hl.next hw hIi (by rw [hiu]; omega)
    rw [hiu] at this; exact this
  have HRb := Lib.hid hRb
  have Hnx := Lib.hid hnx
  clear hRb hiu hnx
  have Hw := Lib.hid hw
  have Hl := Lib.hid hl
  have HT := Lib.hid hT
  clear h hf hk hw hl hT
  go_enter Tryz.func14, Tryz.ntmps14
  go_wp2_with fail
  refine (lacks_sep_no H.out up (by omega) (by omega)).mono ?_
  rintro e w' ⟨rfl, rfl⟩
  go_wp2_with fail
  refine (lacks_sep_no H.out i (by omega) (by omega)).mono ?_
  rintro e w' ⟨rfl, rfl⟩
  go_wp2_with fail
  refine (lacks_sep_no H.out i (by omega) (by omega)).mono ?_
  rintro e w' ⟨rfl, rfl⟩
  go_wp2_with fail
  refine (fits_sep H.out Hw.out Hl.out HT.out up i hIu hIi).mono ?_
  rintro e w1 ⟨rfl, h1⟩
  rw [HF.out]
  have H1 := Lib.hid h1
  obtain ⟨cap, av, gv, c0, hc⟩ := cell_sep h1
  have u0 : w1.cell? ⟨B, i * 19, none⟩ = _ := hc i 0 hi (by omega) _ rfl
  have ub := hc i 9 hi (by omega) _ rfl
  rw [HRb.out] at ub
  have un := hc i 15 hi (by omega) _ rfl
  rw [Hnx.out] at un
  clear h1 hc
  go_wp2_with fail
  refine (put_any H1.out (Hl.out.rng Hw.out) up i (nextIn (A.nd up).kids i) hIu hIi (Hnx.out ▸ (Hl.out.rng Hw.out i hIi.1 hIi.2).next)).mono ?_
  rintro e w2 ⟨rfl, h2⟩
  have H2 := Lib.hid h2
  clear h2
  go_wp2
  go_ret
  exact ⟨rfl, H2.out⟩
end
end Go.Proofs.YtgdmaikjaopddaaGreatDoor
