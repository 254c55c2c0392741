/- Copy: the same document, in memory of its own. -/
import Derived.Test.YtgdmaikjaopddaaGreatDoorJ07
namespace Go.Proofs.YtgdmaikjaopddaaGreatDoor
open Go.RowKit

set_option maxRecDepth 100000 in
set_option maxHeartbeats 1000000 in
theorem cloneNodes (a : Addr) (n cap : Nat) (xs : List Value) (w : World) (F : Nat → Prop) (h : rowHolds TNode 19 (.slice (some a) n cap) n xs w F) (hn : n ≤ 1000000) (hones : ∀ u ∈ xs, u.oneCell' = true) :
    Calls Tryz.prog 49 #[.slice (some a) n cap] w fun e w' => ∃ v', e = .returned v' ∧ Fresh w w' [row TNode 19 v' n xs] := by
  have H := Lib.hid h
  have hs : Sep w w [] := Sep.start w
  have e1 := fun (w : World) (a : Option Addr) (n c : Nat) => Lib.run_eql_slice_nil (P := Tryz.prog) w 70 TNode a n c 0 0 Tryz.underlying70
  obtain ⟨i0, hi0, hz0, hz2, hz3⟩ := info_parts infoNode
  have hb1 : 0 + n ≤ maxLen := by unfold maxLen; omega
  have hb2 : (0 + n) * 168 ≤ 140737488355328 := by omega
  have Ho := Lib.hid hones
  clear h hones
  go_enter Tryz.func49, Tryz.ntmps49
  go_wp2_with (at_builtin; refine wpList_app rfl _ _ 70 rfl Tryz.underlying70 hi0 hz0 hz2 hz3 rfl (by decide) rfl ((hs.alloc _).nilRow _ _ _) _ _ _ xs rfl (rowHolds.src (Res.alloc (r := row TNode 19 _ n xs) H.out _)) Ho.out hb1 hb2 ?_; intro v' w' h')
  go_ret
  refine ⟨_, rfl, ?_⟩
  show Sep w w' [row TNode 19 v' n xs]
  simpa using h'

section
variable {W w : World} {rs : List Res} {p B cap n : Nat} {lim : Int} {A : Doc} {R : Int → RNd} {av gv : Nat → Value} {Fa Fg : Nat → Nat → Prop}

theorem DocC.ones (h : DocC p B cap n lim R av gv Fa Fg w) : ∀ i, i < n → ∀ k, k < 19 → ∀ u, (ncell (R i) (av i) (gv i))[k]? = some u → u.oneCell' = true := by
  intro i hi k hk u hu
  obtain ⟨a1, c1, e1, _⟩ := rowHolds.form (h.attrs i hi)
  obtain ⟨a2, c2, e2, _⟩ := rowHolds.form (h.given i hi)
  have hm := List.mem_of_getElem? hu
  rw [e1, e2] at hm
  simp only [ncell, List.mem_cons, List.not_mem_nil, or_false] at hm
  rcases hm with h | h | h | h | h | h | h | h | h | h | h | h | h | h | h | h | h | h | h <;> rw [h] <;> rfl
theorem DocC.row2 (h : DocC p B cap n lim R av gv Fa Fg w) : ∃ xs, rowHolds TNode 19 (.slice (some ⟨B, 0, none⟩) n cap) n xs w (fun k => k = B) ∧ (∀ i, i < n → ∀ k, k < 19 → xs[i * 19 + k]? = (ncell (R i) (av i) (gv i))[k]?) ∧ ∀ u ∈ xs, u.oneCell' = true := by
  obtain ⟨xs, hr, hx⟩ := h.row
  refine ⟨xs, hr, hx, fun u hu => ?_⟩
  obtain ⟨j, hj, rfl⟩ := List.mem_iff_getElem.1 hu
  have hl : j < n * 19 := by rw [hr.1] at hj; exact hj
  have h1 : j / 19 < n := by omega
  have h2 : j % 19 < 19 := Nat.mod_lt _ (by omega)
  have e : j / 19 * 19 + j % 19 = j := by omega
  have := hx (j / 19) h1 (j % 19) h2
  rw [e, List.getElem?_eq_getElem hj] at this
  exact h.ones _ h1 _ h2 _ this.symm

/-- a copy that is made: the attributes of the first ka nodes, and what is given to the first kg, are its own -/
structure PartC (p B cap n : Nat) (lim : Int) (R : Int → RNd) (av gv : Nat → Value) (Fa Fg : Nat → Nat → Prop) (ka kg base : Nat) (w : World) : Prop where
  doc : w.heap[p]? = some (.cells #[.slice (some ⟨B, 0, none⟩) n cap, .int .i64 lim] TDoc (0, 0))
  nodes : ∃ cur, w.heap[B]? = some (.cells cur TNode (0, 0)) ∧ cur.size = cap * 19 ∧ ∀ i, i < n → ∀ k, k < 19 → cur[i * 19 + k]? = (ncell (R i) (av i) (gv i))[k]?
  hn : n ≤ cap
  hcap : cap ≤ maxLen
  hp : base ≤ p
  hB : base ≤ B
  attrs : ∀ i : Nat, i < ka → (arow (av i) (R i).attrs).holds w (Fa i) ∧ ∀ k, Fa i k → base ≤ k
  given : ∀ i : Nat, i < kg → (irow (gv i) (R i).given).holds w (Fg i) ∧ ∀ k, Fg i k → base ≤ k
  da : ∀ i, i < ka → ∀ j, j < ka → i ≠ j → ∀ k, Fa i k → ¬ Fa j k
  dg : ∀ i, i < kg → ∀ j, j < kg → i ≠ j → ∀ k, Fg i k → ¬ Fg j k

def updV (av : Nat → Value) (i : Nat) (v : Value) : Nat → Value := fun j => if j = i then v else av j
def updF (F : Nat → Nat → Prop) (i : Nat) (G : Nat → Prop) : Nat → Nat → Prop := fun j => if j = i then G else F j
theorem lt_of_block {w : World} {k : Nat} {o : Obj} (h : w.heap[k]? = some o) : k < w.heap.size := by
  obtain ⟨hlt, _⟩ := Array.getElem?_eq_some_iff.1 h
  exact hlt
variable {ka kg base : Nat} {w' : World}
theorem PartC.keep (h : PartC p B cap n lim R av gv Fa Fg ka kg base w) (hp : w'.heap[p]? = w.heap[p]?) (hb : w'.heap[B]? = w.heap[B]?) (ha : ∀ i, i < ka → ∀ k, Fa i k → w'.heap[k]? = w.heap[k]?) (hg : ∀ i, i < kg → ∀ k, Fg i k → w'.heap[k]? = w.heap[k]?) :
    PartC p B cap n lim R av gv Fa Fg ka kg base w' := by
  obtain ⟨cur, hc, h1, h2⟩ := h.nodes
  exact ⟨hp.trans h.doc, ⟨cur, hb.trans hc, h1, h2⟩, h.hn, h.hcap, h.hp, h.hB, fun i hi => ⟨(arow _ _).loc (h.attrs i hi).1 (ha i hi), (h.attrs i hi).2⟩, fun i hi => ⟨(irow _ _).loc (h.given i hi).1 (hg i hi), (h.given i hi).2⟩, h.da, h.dg⟩
theorem PartC.pw (h : PartC p B cap n lim R av gv Fa Fg ka kg base w) : p < w.heap.size := lt_of_block h.doc
theorem PartC.Bw (h : PartC p B cap n lim R av gv Fa Fg ka kg base w) : B < w.heap.size := let ⟨_, hc, _⟩ := h.nodes; lt_of_block hc
theorem PartC.below (h : PartC p B cap n lim R av gv Fa Fg ka kg base w) (hb : Below w.heap.size w w') : PartC p B cap n lim R av gv Fa Fg ka kg base w' :=
  h.keep (hb.block _ h.pw) (hb.block _ h.Bw) (fun i hi _ hk => hb.block _ ((arow _ _).lt (h.attrs i hi).1 hk)) (fun i hi _ hk => hb.block _ ((irow _ _).lt (h.given i hi).1 hk))
theorem PartC.pb (h : PartC p B cap n lim R av gv Fa Fg ka kg base w) : p ≠ B := by
  rintro rfl
  obtain ⟨cur, hc, _⟩ := h.nodes
  have := h.doc.symm.trans hc
  injection this with this
  injection this with _ ht
  exact absurd ht (by decide)
theorem PartC.aB (h : PartC p B cap n lim R av gv Fa Fg ka kg base w) {i k : Nat} (hi : i < ka) (hk : Fa i k) : k ≠ B := by
  obtain ⟨cs, hc⟩ := rowHolds.type_of (h.attrs i hi).1 hk
  rintro rfl
  obtain ⟨cur, hd, _⟩ := h.nodes
  have := hc.symm.trans hd
  injection this with this
  injection this with _ ht
  exact absurd ht (by decide)
theorem PartC.gB (h : PartC p B cap n lim R av gv Fa Fg ka kg base w) {i k : Nat} (hi : i < kg) (hk : Fg i k) : k ≠ B := by
  obtain ⟨cs, hc⟩ := rowHolds.type_of (h.given i hi).1 hk
  rintro rfl
  obtain ⟨cur, hd, _⟩ := h.nodes
  have := hc.symm.trans hd
  injection this with this
  injection this with _ ht
  exact absurd ht (by decide)
theorem PartC.cell0 (h : PartC p B cap n lim R av gv Fa Fg ka kg base w) : w.cell? ⟨p, 0, none⟩ = some (.slice (some ⟨B, 0, none⟩) n cap) := by simp [World.cell?, h.doc]
theorem PartC.cell (h : PartC p B cap n lim R av gv Fa Fg ka kg base w) {i k : Nat} (hi : i < n) (hk : k < 19) {u : Value} (hu : (ncell (R i) (av i) (gv i))[k]? = some u) : w.cell? ⟨B, i * 19 + k, none⟩ = some u := by
  obtain ⟨cur, hc, _, hcell⟩ := h.nodes
  rw [cell_of_row w B _ cur _ _ hc, hcell i hi k hk, hu]
theorem PartC.frozenB (h : PartC p B cap n lim R av gv Fa Fg ka kg base w) (o : Nat) : w.frozen? ⟨B, o, none⟩ = false := by
  obtain ⟨cur, hc, _⟩ := h.nodes
  simp [World.frozen?, hc]

theorem PartC.set (h : PartC p B cap n lim R av gv Fa Fg ka kg base w) {i k : Nat} (hi : i < n) (hk : k < 19) (u : Value) (av' gv' : Nat → Value) (Fa' Fg' : Nat → Nat → Prop) {ka' kg' : Nat}
    (hu : ∀ j : Nat, ncell (R j) (av' j) (gv' j) = if j = i then (ncell (R j) (av j) (gv j)).set k u else ncell (R j) (av j) (gv j))
    (ha : ∀ j : Nat, j < ka' → ((arow (av' j) (R j).attrs).holds w (Fa' j) ∧ ∀ k, Fa' j k → base ≤ k) ∧ ∀ k, Fa' j k → k ≠ B)
    (hg : ∀ j : Nat, j < kg' → ((irow (gv' j) (R j).given).holds w (Fg' j) ∧ ∀ k, Fg' j k → base ≤ k) ∧ ∀ k, Fg' j k → k ≠ B)
    (da : ∀ i, i < ka' → ∀ j, j < ka' → i ≠ j → ∀ k, Fa' i k → ¬ Fa' j k) (dg : ∀ i, i < kg' → ∀ j, j < kg' → i ≠ j → ∀ k, Fg' i k → ¬ Fg' j k) :
    PartC p B cap n lim R av' gv' Fa' Fg' ka' kg' base (w.setCell ⟨B, i * 19 + k, none⟩ u) := by
  obtain ⟨cur, hc, h1, h2⟩ := h.nodes
  have hfar : ∀ k', k' ≠ B → (w.setCell ⟨B, i * 19 + k, none⟩ u).heap[k']? = w.heap[k']? := fun k' hk' => Below.heap_setCell _ _ _ _ hk'
  refine ⟨(hfar p h.pb).trans h.doc, ⟨cur.setIfInBounds (i * 19 + k) u, by simp [World.setCell, Array.getElem?_modify, hc], by simpa using h1, fun j hj k' hk' => ?_⟩, h.hn, h.hcap, h.hp, h.hB, fun j hj => ⟨(arow _ _).loc (ha j hj).1.1 fun k hk => hfar k ((ha j hj).2 k hk), (ha j hj).1.2⟩, fun j hj => ⟨(irow _ _).loc (hg j hj).1.1 fun k hk => hfar k ((hg j hj).2 k hk), (hg j hj).1.2⟩, da, dg⟩
  rw [Array.getElem?_setIfInBounds, hu]
  by_cases e : j = i
  · subst e
    rw [if_pos rfl]
    by_cases e2 : k = k'
    · subst e2
      have hl : j * 19 + k < cur.size := by rw [h1]; have := h.hn; have : j + 1 ≤ cap := by omega
                                            omega
      rw [if_pos rfl, if_pos hl, List.getElem?_set, if_pos rfl, if_pos (by simpa [ncell] using hk)]
    · rw [if_neg (by omega), List.getElem?_set, if_neg e2]; exact h2 j hj k' hk'
  · rw [if_neg (by omega), if_neg e]; exact h2 j hj k' hk'

theorem PartC.stepA (h : PartC p B cap n lim R av gv Fa Fg ka kg base w) (hi : ka < n) {va : Value} (hf : Fresh w w' [arow va (R ka).attrs]) :
    ∃ Fa', PartC p B cap n lim R (updV av ka va) gv Fa' Fg (ka + 1) kg base (w'.setCell ⟨B, ka * 19 + 3, none⟩ va) := by
  obtain ⟨hb, G, hG, hGn⟩ := hf
  have hG := SepL.one' hG
  have h' := h.below hb
  have hbase : base ≤ w.heap.size := Nat.le_trans h.hp (Nat.le_of_lt h.pw)
  have hBw := h.Bw
  have hlt : ∀ j, j < ka → ∀ k, Fa j k → k < w.heap.size := fun j hj k hk => (arow _ _).lt (h.attrs j hj).1 hk
  refine ⟨updF Fa ka G, h'.set (k := 3) hi (by omega) va _ _ _ _ (fun j => ?_) (fun j hj => ?_) (fun j hj => ⟨h'.given j hj, fun k hk => h'.gB hj hk⟩) (fun i hi j hj hij k => ?_) h'.dg⟩
  · unfold updV; split
    · rfl
    · rfl
  · unfold updV updF
    by_cases e : j = ka
    · subst e; rw [if_pos rfl, if_pos rfl]
      exact ⟨⟨hG, fun k hk => Nat.le_trans hbase (hGn k hk)⟩, fun k hk => by have := hGn k hk; omega⟩
    · rw [if_neg e, if_neg e]
      have hj' : j < ka := by omega
      exact ⟨h'.attrs j hj', fun k hk => h'.aB hj' hk⟩
  · unfold updF
    by_cases e : i = ka
    · subst e; rw [if_pos rfl, if_neg (fun e => hij e.symm)]
      intro hk hk2
      have := hGn k hk; have := hlt j (by omega) k hk2; omega
    · rw [if_neg e]
      intro hk
      by_cases e2 : j = ka
      · subst e2; rw [if_pos rfl]; intro hk2
        have := hGn k hk2; have := hlt i (by omega) k hk; omega
      · rw [if_neg e2]; exact h.da i (by omega) j (by omega) hij k hk
theorem PartC.stepG (h : PartC p B cap n lim R av gv Fa Fg ka kg base w) (hi : kg < n) {va : Value} (hf : Fresh w w' [irow va (R kg).given]) :
    ∃ Fg', PartC p B cap n lim R av (updV gv kg va) Fa Fg' ka (kg + 1) base (w'.setCell ⟨B, kg * 19 + 18, none⟩ va) := by
  obtain ⟨hb, G, hG, hGn⟩ := hf
  have hG := SepL.one' hG
  have h' := h.below hb
  have hbase : base ≤ w.heap.size := Nat.le_trans h.hp (Nat.le_of_lt h.pw)
  have hBw := h.Bw
  have hlt : ∀ j, j < kg → ∀ k, Fg j k → k < w.heap.size := fun j hj k hk => (irow _ _).lt (h.given j hj).1 hk
  refine ⟨updF Fg kg G, h'.set (k := 18) hi (by omega) va _ _ _ _ (fun j => ?_) (fun j hj => ⟨h'.attrs j hj, fun k hk => h'.aB hj hk⟩) (fun j hj => ?_) h'.da (fun i hi j hj hij k => ?_)⟩
  · unfold updV; split
    · rfl
    · rfl
  · unfold updV updF
    by_cases e : j = kg
    · subst e; rw [if_pos rfl, if_pos rfl]
      exact ⟨⟨hG, fun k hk => Nat.le_trans hbase (hGn k hk)⟩, fun k hk => by have := hGn k hk; omega⟩
    · rw [if_neg e, if_neg e]
      have hj' : j < kg := by omega
      exact ⟨h'.given j hj', fun k hk => h'.gB hj' hk⟩
  · unfold updF
    by_cases e : i = kg
    · subst e; rw [if_pos rfl, if_neg (fun e => hij e.symm)]
      intro hk hk2
      have := hGn k hk; have := hlt j (by omega) k hk2; omega
    · rw [if_neg e]
      intro hk
      by_cases e2 : j = kg
      · subst e2; rw [if_pos rfl]; intro hk2
        have := hGn k hk2; have := hlt i (by omega) k hk; omega
      · rw [if_neg e2]; exact h.dg i (by omega) j (by omega) hij k hk
theorem PartC.done (h : PartC p B cap n lim R av gv Fa Fg n n base w) : (docR p B n lim R).holds w (Foot p B n Fa Fg) ∧ ∀ k, Foot p B n Fa Fg k → base ≤ k := by
  refine ⟨⟨cap, av, gv, Fa, Fg, ⟨h.doc, h.nodes, h.hn, h.hcap, fun i hi => (h.attrs i hi).1, fun i hi => (h.given i hi).1, h.da, h.dg⟩, fun _ => Iff.rfl⟩, ?_⟩
  rintro k (rfl | rfl | ⟨i, hi, hk⟩ | ⟨i, hi, hk⟩)
  · exact h.hp
  · exact h.hB
  · exact (h.attrs i hi).2 k hk
  · exact (h.given i hi).2 k hk

theorem row_form {W w : World} {v : Value} {T k n : Nat} {xs : List Value} {rs : List Res} (h : Sep W w (row T k v n xs :: rs)) : ∃ a c, v = .slice a n c := by
  obtain ⟨G, hG⟩ := h.head
  obtain ⟨a, cap, rfl, _⟩ := rowHolds.form hG
  exact ⟨a, cap, rfl⟩
theorem PartC.start {w0 w2 : World} {xs : List Value} {A1 : Option Addr} {c1 : Nat} (hx : ∀ i, i < n → ∀ k, k < 19 → xs[i * 19 + k]? = (ncell (R i) (av i) (gv i))[k]?) (h0 : 0 < n) (hf : Fresh w0 w2 [row TNode 19 (.slice A1 n c1) n xs]) :
    ∃ B', A1 = some ⟨B', 0, none⟩ ∧ PartC w2.heap.size B' c1 n lim R av gv (fun _ _ => False) (fun _ _ => False) 0 0 w0.heap.size (w2.alloc (.cells #[.slice A1 n c1, .int .i64 lim] TDoc)) := by
  obtain ⟨hb, G, hG, hGn⟩ := hf
  have hG : rowHolds TNode 19 (.slice A1 n c1) n xs w2 G := SepL.one' hG
  rcases hG.2 with ⟨h, _⟩ | ⟨g, c, cur, hv, hg, k1, k2, k3, k4, k5⟩
  · omega
  injection hv with hv1 hv2 hv3
  subst hv1; subst hv3
  refine ⟨g, rfl, heap_alloc_new _ _, ⟨cur, (Below.heap_alloc _ _ _ (lt_of_block hg)).trans hg, k3, fun i hi k hk => ?_⟩, k1, k2, hb.size, hGn _ ((k5 _).2 rfl), fun i hi => absurd hi (by omega), fun i hi => absurd hi (by omega), fun i hi => absurd hi (by omega), fun i hi => absurd hi (by omega)⟩
  have e := hx i hi k hk
  rw [← k4, List.getElem?_take, if_pos (by have : i + 1 ≤ n := hi; omega)] at e
  simpa using e
theorem copyS {w' : World} (h : w'.cell? ⟨p, 0, none⟩ = some (.slice (some ⟨B, 0, none⟩) n cap)) (h1 : w'.cell? ⟨p, 1, none⟩ = some (.int .i64 lim)) :
    w'.cell? ⟨p, 0, none⟩ = some (.slice (some ⟨B, 0, none⟩) n cap) ∧ w'.cell? ⟨p, 1, none⟩ = some (.int .i64 lim) := ⟨h, h1⟩

set_option maxRecDepth 100000 in
set_option maxHeartbeats 4000000 in
theorem Copy_any (h : DocC p B cap n lim R av gv Fa Fg w) (h0 : 0 < n) (hn : n ≤ 1000000) (hat : ∀ i : Nat, i < n → (R i).attrs.length ≤ 1000000) (hgi : ∀ i : Nat, i < n → (R i).given.length ≤ 1000000) :
    Calls Tryz.prog 20 #[ptr p] w fun e w' => ∃ p' B', e = .returned (ptr p') ∧ Fresh w w' [docR p' B' n lim R] := by
  have H := Lib.hid h
  obtain ⟨xs, hr, hx, hones⟩ := h.row2
  have Hr := Lib.hid hr
  have Ho := Lib.hid hones
  have HS0 := Lib.hid (copyS h.drew.cell0 h.drew.cell1)
  have hrd := Lib.hid (Res.drew (r := row TNode 19 (.slice (some ⟨B, 0, none⟩) n cap) n xs) hr)
  clear h hr hones
  go_enter Tryz.func20, Tryz.ntmps20
  go_wp2_with fail
  go_region_held3 (fun w' => w'.cell? ⟨p, 0, none⟩ = some (.slice (some ⟨B, 0, none⟩) n cap) ∧ w'.cell? ⟨p, 1, none⟩ = some (.int .i64 lim))
    (first
      | with_reducible exact HS0.out
      | with_reducible exact copyS (hD.out.cell0) (hD.out.cell1)
      | with_reducible exact copyS (hD.out.alloc _).cell0 (hD.out.alloc _).cell1)
    ((go_at_call 49; refine (cloneNodes _ n cap xs _ _ hrd.out hn Ho.out).mono ?_; rintro e w2 ⟨vn, rfl, hfn⟩; have Hfn := Lib.hid hfn; have hD := Lib.hid (H.out.drew.below hfn.1); obtain ⟨A1, c1, rfl⟩ := row_form hfn; clear hfn))
  go_wp2_with fail
  obtain ⟨B', rfl, hP⟩ := PartC.start (lim := lim) hx h0 Hfn.out
  generalize hp' : w2.heap.size = p' at hP ⊢
  have hb0 : Below w.heap.size w (w2.alloc (.cells #[.slice (some ⟨B', 0, none⟩) n c1, .int .i64 lim] TDoc)) := Below.alloc ((Below.refl _ _).drew.trans (Hfn.out.1)) (by simpa using Hfn.out.1.size) _
  have HP := Lib.hid hP
  have HB := Lib.hid hb0
  clear hP hb0 hx
  go_loopw [21] (fun v wr => ∃ (i : Nat) (av' gv' : Nat → Value) (Fa' Fg' : Nat → Nat → Prop), v = int i ∧ i ≤ n ∧ (∀ j, i ≤ j → av' j = av j ∧ gv' j = gv j) ∧ PartC p' B' c1 n lim R av' gv' Fa' Fg' i i w.heap.size wr ∧ Below w.heap.size w wr)
    (fun v _ => n - (intOf v).toNat)
  case atStart => exact ⟨0, av, gv, _, _, rfl, Nat.zero_le _, fun _ _ => ⟨rfl, rfl⟩, HP.out, HB.out⟩
  case round =>
    obtain ⟨i, av', gv', Fa', Fg', rfl, hi, hold, hP, hB⟩ := hrel
    have HP := Lib.hid hP
    have HBr := Lib.hid hB
    have HO := Lib.hid hold
    clear hP hB hold
    by_cases hin : i < n
    · have t1 : decide ((i : Int) < n) = true := by simp; omega
      have t2 : (0 : Int) ≤ i := by omega
      have t3 : (i : Int) < n := by omega
      have c0 : wr.drew.cell? ⟨p', 0, none⟩ = some (.slice (some ⟨B', 0, none⟩) n c1) := HP.out.cell0
      have c3 : wr.drew.cell? ⟨B', i * 19 + 3, none⟩ = some (av i) := by rw [← (HO.out i (Nat.le_refl i)).1]; exact HP.out.cell hin (k := 3) (by omega) rfl
      have hA := Lib.hid (Res.drew ((H.out.below HBr.out).attrs i hin))
      have hl32 := hat i hin
      have hl32 : (R i).attrs.length * 32 ≤ 140737488355328 := by omega
      have HL := Lib.hid hl32
      clear hl32
      have hl8 := hgi i hin
      have hl8 : (R i).given.length * 8 ≤ 140737488355328 := by omega
      have HL2 := Lib.hid hl8
      clear hl8
      go_wp2_with fail
      refine wp_region_held_drew (S := fun w' => w'.cell? ⟨p', 0, none⟩ = some (.slice (some ⟨B', 0, none⟩) n c1)) (by kernel_rfl) c0 (fun hHeld => ?_)
      refine wpAnyH_take (i := 0) (oi := _) (v := ?_) rfl (by kernel_rfl) (by kernel_rfl) (by kernel_rfl) (fun _ _ _ h => h) (Or.inl ⟨by rfl, ?_⟩) (by assumption) ?_
      rotate_left
      · intro w hSw; go_simp; try with_reducible rfl
      simp only [Act.put, List.setIfInBounds_toArray]
      refine wpAnyH_take (i := 1) (oi := _) (v := ?_) rfl (by kernel_rfl) (by kernel_rfl) (by kernel_rfl) (fun _ _ _ h => h) (Or.inl ⟨by rfl, ?_⟩) (by assumption) ?_
      rotate_left
      · intro w hSw; go_simp; try with_reducible rfl
      simp only [Act.put]
      refine wpAnyH_take (i := 2) (oi := _) (v := ?_) rfl (by kernel_rfl) (by kernel_rfl) (by kernel_rfl) (fun _ _ _ h => h) (Or.inl ⟨by rfl, ?_⟩) (by assumption) ?_
      rotate_left
      · intro w hSw; go_simp; try with_reducible rfl
      simp only [Act.put]
      refine wpAnyH_take (i := 3) (oi := _) (v := ?_) rfl (by kernel_rfl) (by kernel_rfl) (by kernel_rfl) (fun _ _ _ h => h) (Or.inl ⟨by rfl, ?_⟩) (by assumption) ?_
      rotate_left
      · intro w hSw; go_simp; try with_reducible rfl
      simp only [Act.put]
      refine wpAnyH_take (i := 4) (oi := _) (v := ?_) rfl (by kernel_rfl) (by kernel_rfl) (by kernel_rfl) (fun _ _ _ h => h) (Or.inl ⟨by rfl, ?_⟩) (by assumption) ?_
      rotate_left
      · intro w hSw; go_simp; try with_reducible rfl
      simp only [Act.put]
      refine wpAnyH_take (i := 5) (oi := _) (v := ?_) rfl (by kernel_rfl) (by kernel_rfl) (by kernel_rfl) (fun _ _ _ h => h) (Or.inl ⟨by rfl, ?_⟩) (by assumption) ?_
      rotate_left
      · intro w hSw; go_simp; try with_reducible rfl
      simp only [Act.put]
      refine wpAnyH_take (i := 6) (oi := _) (v := ?_) rfl (by kernel_rfl) (by kernel_rfl) (by kernel_rfl) (fun _ _ _ h => h) (Or.inl ⟨by rfl, ?_⟩) (by assumption) ?_
      rotate_left
      · intro w hSw; go_simp; try with_reducible rfl
      simp only [Act.put]
      refine wpAnyH_take (i := 7) (oi := _) (v := ?_) rfl (by kernel_rfl) (by kernel_rfl) (by kernel_rfl) (fun _ _ _ h => h) (Or.inl ⟨by rfl, ?_⟩) (by assumption) ?_
      rotate_left
      · intro w hSw; go_simp; try with_reducible rfl
      simp only [Act.put]
      refine wpAnyH_take (i := 8) (oi := _) (v := ?_) rfl (by kernel_rfl) (by kernel_rfl) (by kernel_rfl) (fun _ _ _ h => h) (Or.inl ⟨by rfl, ?_⟩) (by assumption) ?_
      rotate_left
      · intro w hSw; go_simp; try with_reducible rfl
      simp only [Act.put]
      refine wpAnyH_take (i := 9) (oi := _) (v := ?_) rfl (by kernel_rfl) (by kernel_rfl) (by kernel_rfl) (fun _ _ _ h => h) (Or.inl ⟨by rfl, ?_⟩) (by assumption) ?_
      rotate_left
      · intro w hSw; go_simp; try with_reducible rfl
      simp only [Act.put]
      refine wpAnyH_take (i := 10) (oi := _) (v := ?_) rfl (by kernel_rfl) (by kernel_rfl) (by kernel_rfl) (fun _ _ _ h => h) (Or.inl ⟨by rfl, ?_⟩) (by assumption) ?_
      rotate_left
      · intro w hSw; go_simp; try with_reducible rfl
      simp only [Act.put]
      refine wpAnyH_take (i := 11) (oi := _) (v := ?_) rfl (by kernel_rfl) (by kernel_rfl) (by kernel_rfl) (fun _ _ _ h => h) (Or.inl ⟨by rfl, ?_⟩) (by assumption) ?_
      rotate_left
      · intro w hSw; go_simp; try with_reducible rfl
      simp only [Act.put]
      refine wpAnyH_ready (rs := [12]) (by kernel_rfl) (by simp) (AllReadyH.cons (o := _) rfl (fun K hK => ?_) AllReadyH.nil)
      go_simp
      refine hK.out _ _ c0 (fun hHeld => ?_)
      clear hK K
      try simp only [Act.put, List.setIfInBounds_toArray, List.set_cons_zero, List.set_cons_succ]
      refine wpAnyH_ready (rs := [13]) (by kernel_rfl) (by simp) (AllReadyH.cons (o := _) rfl (fun K hK => ?_) AllReadyH.nil)
      go_wp2_with ((go_at_call 33; refine (cloneAttrs _ _ _ _ hA.out HL.out).mono ?_; rintro e w3 ⟨va, rfl, hfa⟩; obtain ⟨A2, n2, c2, rfl⟩ := arow_form hfa; have d0 := ((HP.out.below (Below.refl _ _).drew).below hfa.1).cell0; have d1 := ((HP.out.below (Below.refl _ _).drew).below hfa.1).frozenB (i * 19 + 3); have d3 := ((HP.out.below (Below.refl _ _).drew).below hfa.1).cell hin (k := 3) (by omega) rfl; have hb2 := (HBr.out.drew).trans (hfa.1.mono (HBr.out.drew).size); obtain ⟨Fa2, hP2⟩ := (HP.out.below (Below.refl _ _).drew).stepA hin hfa; have HP2 := Lib.hid hP2; have HB2 := Lib.hid hb2; clear hfa hb2 hP2))
      refine hK.out _ _ d0 (fun hHeld => ?_)
      clear hK K
      try simp only [Act.put, List.setIfInBounds_toArray, List.set_cons_zero, List.set_cons_succ]
      refine wpAnyH_take (i := 14) (oi := _) (v := ?_) rfl (by kernel_rfl) (by kernel_rfl) (by kernel_rfl) (fun _ _ _ h => h) (Or.inl ⟨by rfl, ?_⟩) (by assumption) ?_
      rotate_left
      · intro w hSw; go_simp; try with_reducible rfl
      simp only [Act.put, List.setIfInBounds_toArray]
      refine wpAnyH_take (i := 15) (oi := _) (v := ?_) rfl (by kernel_rfl) (by kernel_rfl) (by kernel_rfl) (fun _ _ _ h => h) (Or.inl ⟨by rfl, ?_⟩) (by assumption) ?_
      rotate_left
      · intro w hSw; go_simp; try with_reducible rfl
      simp only [Act.put]
      refine wpAnyH_ready (rs := [16]) (by kernel_rfl) (by simp) (AllReadyH.cons (o := _) rfl (fun K hK => ?_) AllReadyH.nil)
      go_simp
      refine hK.out _ _ HP2.out.cell0 (fun hHeld => ?_)
      clear hK K
      try simp only [Act.put, List.setIfInBounds_toArray, List.set_cons_zero, List.set_cons_succ]
      refine wpAnyH_done (by kernel_rfl) ?_ _
      clear c0 c3 d0 d1 d3
      have HB3 := Lib.hid (show Below w.heap.size w (w3.setCell ⟨B', i * 19 + 3, none⟩ (.slice A2 n2 c2)) from HB2.out.trans ⟨rfl, rfl, rfl, by simp, fun k hk => Below.heap_setCell _ _ _ _ (by have := HP2.out.hB; simp; omega)⟩)
      generalize hw4 : w3.setCell ⟨B', i * 19 + 3, none⟩ (.slice A2 n2 c2) = w4 at HP2 HB3 hHeld ⊢
      clear hw4
      have c0 : w4.drew.cell? ⟨p', 0, none⟩ = some (.slice (some ⟨B', 0, none⟩) n c1) := HP2.out.cell0
      have c18 : w4.drew.cell? ⟨B', i * 19 + 18, none⟩ = some (gv i) := by rw [← (HO.out i (Nat.le_refl i)).2]; exact HP2.out.cell hin (k := 18) (by omega) rfl
      have hA2 := Lib.hid (Res.drew ((H.out.below HB3.out).given i hin))
      go_wp2_with fail
      refine wp_region_held_drew (S := fun w' => w'.cell? ⟨p', 0, none⟩ = some (.slice (some ⟨B', 0, none⟩) n c1)) (by kernel_rfl) c0 (fun hHeld => ?_)
      refine wpAnyH_take (i := 0) (oi := _) (v := ?_) rfl (by kernel_rfl) (by kernel_rfl) (by kernel_rfl) (fun _ _ _ h => h) (Or.inl ⟨by rfl, ?_⟩) (by assumption) ?_
      rotate_left
      · intro w hSw; go_simp; try with_reducible rfl
      simp only [Act.put, List.setIfInBounds_toArray]
      refine wpAnyH_take (i := 1) (oi := _) (v := ?_) rfl (by kernel_rfl) (by kernel_rfl) (by kernel_rfl) (fun _ _ _ h => h) (Or.inl ⟨by rfl, ?_⟩) (by assumption) ?_
      rotate_left
      · intro w hSw; go_simp; try with_reducible rfl
      simp only [Act.put]
      refine wpAnyH_take (i := 2) (oi := _) (v := ?_) rfl (by kernel_rfl) (by kernel_rfl) (by kernel_rfl) (fun _ _ _ h => h) (Or.inl ⟨by rfl, ?_⟩) (by assumption) ?_
      rotate_left
      · intro w hSw; go_simp; try with_reducible rfl
      simp only [Act.put]
      refine wpAnyH_take (i := 3) (oi := _) (v := ?_) rfl (by kernel_rfl) (by kernel_rfl) (by kernel_rfl) (fun _ _ _ h => h) (Or.inl ⟨by rfl, ?_⟩) (by assumption) ?_
      rotate_left
      · intro w hSw; go_simp; try with_reducible rfl
      simp only [Act.put]
      refine wpAnyH_take (i := 4) (oi := _) (v := ?_) rfl (by kernel_rfl) (by kernel_rfl) (by kernel_rfl) (fun _ _ _ h => h) (Or.inl ⟨by rfl, ?_⟩) (by assumption) ?_
      rotate_left
      · intro w hSw; go_simp; try with_reducible rfl
      simp only [Act.put]
      refine wpAnyH_take (i := 5) (oi := _) (v := ?_) rfl (by kernel_rfl) (by kernel_rfl) (by kernel_rfl) (fun _ _ _ h => h) (Or.inl ⟨by rfl, ?_⟩) (by assumption) ?_
      rotate_left
      · intro w hSw; go_simp; try with_reducible rfl
      simp only [Act.put]
      refine wpAnyH_take (i := 6) (oi := _) (v := ?_) rfl (by kernel_rfl) (by kernel_rfl) (by kernel_rfl) (fun _ _ _ h => h) (Or.inl ⟨by rfl, ?_⟩) (by assumption) ?_
      rotate_left
      · intro w hSw; go_simp; try with_reducible rfl
      simp only [Act.put]
      refine wpAnyH_take (i := 7) (oi := _) (v := ?_) rfl (by kernel_rfl) (by kernel_rfl) (by kernel_rfl) (fun _ _ _ h => h) (Or.inl ⟨by rfl, ?_⟩) (by assumption) ?_
      rotate_left
      · intro w hSw; go_simp; try with_reducible rfl
      simp only [Act.put]
      refine wpAnyH_take (i := 8) (oi := _) (v := ?_) rfl (by kernel_rfl) (by kernel_rfl) (by kernel_rfl) (fun _ _ _ h => h) (Or.inl ⟨by rfl, ?_⟩) (by assumption) ?_
      rotate_left
      · intro w hSw; go_simp; try with_reducible rfl
      simp only [Act.put]
      refine wpAnyH_take (i := 9) (oi := _) (v := ?_) rfl (by kernel_rfl) (by kernel_rfl) (by kernel_rfl) (fun _ _ _ h => h) (Or.inl ⟨by rfl, ?_⟩) (by assumption) ?_
      rotate_left
      · intro w hSw; go_simp; try with_reducible rfl
      simp only [Act.put]
      refine wpAnyH_take (i := 10) (oi := _) (v := ?_) rfl (by kernel_rfl) (by kernel_rfl) (by kernel_rfl) (fun _ _ _ h => h) (Or.inl ⟨by rfl, ?_⟩) (by assumption) ?_
      rotate_left
      · intro w hSw; go_simp; try with_reducible rfl
      simp only [Act.put]
      refine wpAnyH_take (i := 11) (oi := _) (v := ?_) rfl (by kernel_rfl) (by kernel_rfl) (by kernel_rfl) (fun _ _ _ h => h) (Or.inl ⟨by rfl, ?_⟩) (by assumption) ?_
      rotate_left
      · intro w hSw; go_simp; try with_reducible rfl
      simp only [Act.put]
      refine wpAnyH_ready (rs := [12]) (by kernel_rfl) (by simp) (AllReadyH.cons (o := _) rfl (fun K hK => ?_) AllReadyH.nil)
      go_simp
      refine hK.out _ _ c0 (fun hHeld => ?_)
      clear hK K
      try simp only [Act.put, List.setIfInBounds_toArray, List.set_cons_zero, List.set_cons_succ]
      refine wpAnyH_ready (rs := [13]) (by kernel_rfl) (by simp) (AllReadyH.cons (o := _) rfl (fun K hK => ?_) AllReadyH.nil)
      go_simp
      go_at_call 50
      refine (cloneInts _ _ _ _ hA2.out HL2.out).mono ?_
      rintro e w5 ⟨vg, rfl, hfg⟩
      obtain ⟨A3, n3, c3, rfl⟩ := irow_form hfg
      have f0 := ((HP2.out.below (Below.refl _ _).drew).below hfg.1).cell0
      have f1 := ((HP2.out.below (Below.refl _ _).drew).below hfg.1).frozenB (i * 19 + 18)
      have f3 := ((HP2.out.below (Below.refl _ _).drew).below hfg.1).cell hin (k := 18) (by omega) rfl
      have hb4 := (HB3.out.drew).trans (hfg.1.mono (HB3.out.drew).size)
      obtain ⟨Fg2, hP4⟩ := (HP2.out.below (Below.refl _ _).drew).stepG hin hfg
      have HP4 := Lib.hid hP4
      have HB4 := Lib.hid hb4
      clear hfg hb4 hP4
      go_simp
      refine hK.out _ _ f0 (fun hHeld => ?_)
      clear hK K
      try simp only [Act.put, List.setIfInBounds_toArray, List.set_cons_zero, List.set_cons_succ]
      refine wpAnyH_take (i := 14) (oi := _) (v := ?_) rfl (by kernel_rfl) (by kernel_rfl) (by kernel_rfl) (fun _ _ _ h => h) (Or.inl ⟨by rfl, ?_⟩) (by assumption) ?_
      rotate_left
      · intro w hSw; go_simp; try with_reducible rfl
      simp only [Act.put, List.setIfInBounds_toArray]
      refine wpAnyH_take (i := 15) (oi := _) (v := ?_) rfl (by kernel_rfl) (by kernel_rfl) (by kernel_rfl) (fun _ _ _ h => h) (Or.inl ⟨by rfl, ?_⟩) (by assumption) ?_
      rotate_left
      · intro w hSw; go_simp; try with_reducible rfl
      simp only [Act.put]
      refine wpAnyH_ready (rs := [16]) (by kernel_rfl) (by simp) (AllReadyH.cons (o := _) rfl (fun K hK => ?_) AllReadyH.nil)
      go_simp
      refine hK.out _ _ HP4.out.cell0 (fun hHeld => ?_)
      clear hK K
      try simp only [Act.put, List.setIfInBounds_toArray, List.set_cons_zero, List.set_cons_succ]
      refine wpAnyH_done (by kernel_rfl) ?_ _
      clear c0 c18 f0 f1 f3
      have HB5 := Lib.hid (show Below w.heap.size w (w5.setCell ⟨B', i * 19 + 18, none⟩ (.slice A3 n3 c3)) from HB4.out.trans ⟨rfl, rfl, rfl, by simp, fun k hk => Below.heap_setCell _ _ _ _ (by have := HP4.out.hB; simp; omega)⟩)
      generalize hw6 : w5.setCell ⟨B', i * 19 + 18, none⟩ (.slice A3 n3 c3) = w6 at HP4 HB5 hHeld ⊢
      clear hw6
      have hwr : IntKind.i64.wrap ((i : Int) + 1) = ((i + 1 : Nat) : Int) := by rw [IntKind.wrap_i64]; omega
      go_wp2_with fail
      go_roundw
      case rel => exact ⟨i + 1, _, _, _, _, rfl, hin, fun j hj => ⟨by unfold updV; rw [if_neg (by omega)]; exact (HO.out j (by omega)).1, by unfold updV; rw [if_neg (by omega)]; exact (HO.out j (by omega)).2⟩, HP4.out, HB5.out⟩
      case measure => simp [intOf]; omega
    · obtain rfl : i = n := by omega
      have t1 : decide ((i : Int) < i) = false := by simp
      go_wp2_with fail
      go_ret
      obtain ⟨hh, hn⟩ := HP.out.done
      exact ⟨p', rfl, B', .one HBr.out hh hn⟩
end
end Go.Proofs.YtgdmaikjaopddaaGreatDoor

/- The calls on a document, each for every document: what it answers, and the document behind it. -/
namespace Go.Proofs.YtgdmaikjaopddaaGreatDoor
open Go.RowKit

instance (A : Doc) (i : Int) : Decidable (A.In i) := inferInstanceAs (Decidable (_ ∧ _))

/-- an api.Node, of a node -/
def ndCells (x : Nd) (av kv : Value) : Array Value :=
  #[.int .u8 x.kind, .string x.name, .string x.data, av, int x.up, kv, int x.shadow, int x.host, int x.own, .bool x.fl.closed, .bool x.fl.manual, .bool x.fl.delegates, .bool x.fl.serial, .bool x.fl.clonable]
def ndVal (x : Nd) (av kv : Value) : Value := .agg (ndCells x av kv)
theorem Same.val {x : Nd} {y : RNd} (h : Same x y) (a k : Value) : nodeVal y a k = ndVal x a k := by
  unfold nodeVal ndVal ndCells
  rw [h.kind, h.name, h.data, h.fl, h.up, h.shadow, h.host, h.own]

theorem Climb.trans {f : Int → Int} {i j k : Int} (h : Climb f i j) (g : Climb f j k) : Climb f i k := by
  induction h with
  | here => exact g
  | up h1 _ ih => exact .up h1 (ih g)

/-- nodes are put in, one behind the other -/
def putAll (up b : Int) : List Int → Doc → Doc
  | [], A => A
  | k :: t, A => putAll up b t (A.put up k b)
def putAllR (up b : Int) : List Int → (Int → RNd) → Int → RNd
  | [], R => R
  | k :: t, R => putAllR up b t (putR R up k b)

noncomputable def Doc.insertE (A : Doc) (up i b : Int) : Int :=
  if A.In up ∧ A.In i ∧ (b = -1 ∨ A.In b) then (if A.fitsB up i = true ∧ (b = -1 ∨ (A.nd b).up = up) then 0 else 81) else 80
noncomputable def Doc.insertA (A : Doc) (up i b : Int) : Doc :=
  if A.insertE up i b = 0 then (if (A.nd i).kind = 4 then putAll up b (A.nd i).kids A else A.put up i (if b = i then nextIn (A.nd up).kids i else b)) else A

section
variable {A : Doc} {R : Int → RNd} {up i b : Int}
theorem Doc.fits_parts (h : A.fitsB up i = true) : i ≠ 0 ∧ (A.nd i).host = -1 ∧ ¬ Climb A.par up i := by
  unfold Doc.fitsB at h
  simp only [Bool.and_eq_true, bne_iff_ne, beq_iff_eq, Bool.not_eq_true', ne_eq] at h
  exact ⟨h.2.1.1, h.2.1.2, climbB_not.1 h.2.2⟩
theorem Doc.insert_ok (h : A.insertE up i b = 0) : A.In up ∧ A.In i ∧ (b = -1 ∨ A.In b) ∧ A.fitsB up i = true ∧ (b = -1 ∨ (A.nd b).up = up) := by
  unfold Doc.insertE at h
  split at h
  · rename_i h1
    split at h
    · rename_i h2; exact ⟨h1.1, h1.2.1, h1.2.2, h2⟩
    · exact absurd h (by decide)
  · exact absurd h (by decide)

theorem putAll_ok : ∀ (l : List Int) {A : Doc} {R : Int → RNd}, WF A → Link A R → A.In up → (b = -1 ∨ A.In b ∧ (A.nd b).up = up ∧ b ∉ l) → (∀ k ∈ l, A.In k ∧ (A.nd k).host = -1 ∧ ¬ Climb A.par up k) →
    WF (putAll up b l A) ∧ Link (putAll up b l A) (putAllR up b l R) ∧ (putAll up b l A).n = A.n ∧ (putAll up b l A).lim = A.lim
  | [], _, _, hw, hl, _, _, _ => ⟨hw, hl, rfl, rfl⟩
  | k :: t, A, R, hw, hl, hu, hb, hk => by
    obtain ⟨hk0, hk1, hk2⟩ := hk k (by simp)
    have hB : Before A up k b := hb.imp id fun h => ⟨h.1, h.2.1, fun e => h.2.2 (by simp [e])⟩
    have hne : up ≠ k := fun e => hk2 (e ▸ .here _)
    have hw1 := hw.put hu hk0 hk1 hk2 hB
    have hl1 := hl.put hw.toWFT hu hk0 hne hB
    have hu0 : up ≠ -1 := neg_of_in hu
    have hup : (A.nd b).up = up → ((A.put up k b).nd b).up = up := fun h => by
      rw [put_up]; split
      · rfl
      · exact h
    have := putAll_ok t hw1 hl1 (put_in.2 hu) (hb.imp id fun h => ⟨put_in.2 h.1, hup h.2.1, fun e => h.2.2 (by simp [e])⟩) fun x hx => by
      obtain ⟨h0, h1, h2⟩ := hk x (by simp [hx])
      refine ⟨put_in.2 h0, by rw [put_host]; exact h1, fun hc => h2 ?_⟩
      refine climb_congr (S := fun x => Climb A.par up x) (fun y hy => ?_) (fun y hy hp => ?_) (.here up) hc
      · have : y ≠ k := fun e => hk2 (e ▸ hy)
        rw [put_par hu0, if_neg this]
      · have : y ≠ k := fun e => hk2 (e ▸ hy)
        rw [put_par hu0, if_neg this] at hp ⊢
        exact hy.trans (.up hp (.here _))
    exact ⟨this.1, this.2.1, this.2.2.1.trans put_n, this.2.2.2.trans put_lim⟩

/-- what is in a Fragment may be put in -/
theorem kids_fit (hw : WF A) (_hu : A.In up) (hi : A.In i) (hf : A.fitsB up i = true) (hb : b = -1 ∨ A.In b ∧ (A.nd b).up = up) :
    (b = -1 ∨ A.In b ∧ (A.nd b).up = up ∧ b ∉ (A.nd i).kids) ∧ ∀ k ∈ (A.nd i).kids, A.In k ∧ (A.nd k).host = -1 ∧ ¬ Climb A.par up k := by
  obtain ⟨_, _, hc⟩ := Doc.fits_parts hf
  refine ⟨hb.imp id fun h => ⟨h.1, h.2, fun hm => hc ?_⟩, fun k hk => ?_⟩
  · have := (hw.kin i hi b hm).2
    rw [h.2] at this
    exact this ▸ .here _
  · obtain ⟨h1, h2⟩ := hw.kin i hi k hk
    have hne : (A.nd k).up ≠ -1 := by rw [h2]; exact neg_of_in hi
    refine ⟨h1, Classical.byContradiction fun hh => hne (hw.hup k h1 hh), fun hcl => hc (hcl.trans ?_)⟩
    have hp : A.par k = i := by unfold Doc.par; rw [if_pos hne, h2]
    exact .up (by rw [hp]; exact neg_of_in hi) (by rw [hp]; exact .here _)

theorem WF.given_len (hw : WF A) (hi : A.In i) : (A.nd i).given.length ≤ A.n := length_le_of_nodup _ _ (hw.gnod i hi) fun x hx => (hw.gin i hi x hx).1
theorem not_in (h : ¬ A.In i) : i < 0 ∨ (A.n : Int) ≤ i := by unfold Doc.In at h; omega
end

section
variable {W w : World} {rs : List Res} {p B n : Nat} {lim : Int} {A : Doc} {R : Int → RNd}

theorem copy_doc (h : Sep W w (docA p A :: rs)) : Calls Tryz.prog 20 #[ptr p] w fun e w' => ∃ p', e = .returned (ptr p') ∧ Sep W w' (docA p' A :: docA p A :: rs) := by
  obtain ⟨hw, B, R, hl, hs⟩ := docA_open h
  obtain ⟨cap, av, gv, Fa, Fg, hC, _⟩ := docR_step hs
  have hn := hw.n_le
  have hin : ∀ j : Nat, j < A.n → A.In j := fun j hj => ⟨by omega, by omega⟩
  refine (Copy_any hC hw.pos (by omega) (fun i hi => ?_) (fun i hi => ?_)).mono ?_
  · rw [(hl.same i (hin i hi)).attrs]; have := hw.att i (hin i hi); omega
  · rw [(hl.same i (hin i hi)).given]; have := hw.given_len (hin i hi); omega
  · rintro e w' ⟨p', B', rfl, hf⟩
    exact ⟨p', rfl, docA_close hw hl (h.fresh hf)⟩

theorem node_doc (h : Sep W w (docA p A :: rs)) (i : Int) (hi : A.In i) :
    Calls Tryz.prog 12 #[ptr p, int i] w fun e w' => ∃ a k, e = .returned (.tuple #[ndVal (A.nd i) a k, .int .u16 0]) ∧ Sep W w' (irow k (A.nd i).kids :: arow a (A.nd i).attrs :: docA p A :: rs) := by
  obtain ⟨hw, B, R, hl, hs⟩ := docA_open h
  obtain ⟨cap, av, gv, Fa, Fg, hC, _⟩ := docR_step hs
  have hn := hw.n_le
  have h1 := hw.kids_len hi
  have h2 := hw.att i hi
  have e := (hl.same i hi).attrs
  refine (node_yes hC i hi.1 hi.2 _ (hl.from hw hi) (by omega) (by rw [e]; omega)).mono ?_
  rintro _ w' ⟨a, k, rfl, hf⟩
  rw [e] at hf
  exact ⟨a, k, by rw [(hl.same i hi).val], h.fresh hf⟩

set_option maxRecDepth 100000 in
theorem len_doc (h : Sep W w (docA p A :: rs)) : Calls Tryz.prog 11 #[ptr p] w fun e w' => e = .returned (int A.n) ∧ w = w' := by
  obtain ⟨hw, B, R, hl, hs⟩ := docA_open h
  obtain ⟨cap, av, gv, c0, _⟩ := cell_sep hs
  clear h hs hl hw
  go_enter Tryz.func11, Tryz.ntmps11
  go_wp2
  go_ret
  exact ⟨rfl, rfl⟩

theorem lacks_doc_no (h : Sep W w (docA p A :: rs)) (i : Int) (hi : A.In i) : Calls Tryz.prog 32 #[ptr p, int i] w fun e w' => e = .returned (.bool false) ∧ w = w' := by
  obtain ⟨_, B, R, _, hs⟩ := docA_open h
  exact lacks_sep_no hs i hi.1 hi.2
theorem lacks_doc_yes (h : Sep W w (docA p A :: rs)) (i : Int) (hi : ¬ A.In i) : Calls Tryz.prog 32 #[ptr p, int i] w fun e w' => e = .returned (.bool true) ∧ w = w' := by
  obtain ⟨_, B, R, _, hs⟩ := docA_open h
  exact lacks_sep_yes hs i (not_in hi)
theorem fits_doc (h : Sep W w (docA p A :: rs)) (hT : Laid W) (up i : Int) (hu : A.In up) (hi : A.In i) :
    Calls Tryz.prog 35 #[ptr p, int up, int i] w fun e w' => e = .returned (.bool (A.fitsB up i)) ∧ Sep W w' (docA p A :: rs) := by
  obtain ⟨hw, B, R, hl, hs⟩ := docA_open h
  exact (fits_sep hs hw hl hT up i hu hi).mono fun e w' ⟨he, h'⟩ => ⟨he, docA_close hw hl h'⟩
/-- the cells of a document's nodes -/
theorem cell_doc (h : Sep W w (docA p A :: rs)) : ∃ (B cap : Nat) (R : Int → RNd) (av gv : Nat → Value), Link A R ∧ w.cell? ⟨p, 0, none⟩ = some (.slice (some ⟨B, 0, none⟩) A.n cap) ∧ ∀ i k : Nat, i < A.n → k < 19 → ∀ u, (ncell (R i) (av i) (gv i))[k]? = some u → w.cell? ⟨B, i * 19 + k, none⟩ = some u := by
  obtain ⟨_, B, R, hl, hs⟩ := docA_open h
  obtain ⟨cap, av, gv, hc⟩ := cell_sep hs
  exact ⟨B, cap, R, av, gv, hl, hc⟩

set_option maxRecDepth 100000 in
set_option maxHeartbeats 1000000 in
theorem insert_80a (h : Sep W w (docA p A :: rs)) (up i b : Int) (hu : ¬ A.In up) :
    Calls Tryz.prog 14 #[ptr p, int up, int i, int b] w fun e w' => e = .returned (.int .u16 80) ∧ w = w' := by
  go_enter Tryz.func14, Tryz.ntmps14
  go_wp2_with fail
  refine (lacks_doc_yes h up hu).mono ?_
  rintro e w' ⟨rfl, rfl⟩
  go_wp2
  go_ret
  exact ⟨rfl, rfl⟩
set_option maxRecDepth 100000 in
set_option maxHeartbeats 1000000 in
theorem insert_80b (h : Sep W w (docA p A :: rs)) (up i b : Int) (hu : A.In up) (hi : ¬ A.In i) :
    Calls Tryz.prog 14 #[ptr p, int up, int i, int b] w fun e w' => e = .returned (.int .u16 80) ∧ w = w' := by
  go_enter Tryz.func14, Tryz.ntmps14
  go_wp2_with fail
  refine (lacks_doc_no h up hu).mono ?_
  rintro e w' ⟨rfl, rfl⟩
  go_wp2_with fail
  refine (lacks_doc_yes h i hi).mono ?_
  rintro e w' ⟨rfl, rfl⟩
  go_wp2
  go_ret
  exact ⟨rfl, rfl⟩
set_option maxRecDepth 100000 in
set_option maxHeartbeats 1000000 in
theorem insert_80c (h : Sep W w (docA p A :: rs)) (up i b : Int) (hu : A.In up) (hi : A.In i) (hb1 : b ≠ -1) (hb : ¬ A.In b) :
    Calls Tryz.prog 14 #[ptr p, int up, int i, int b] w fun e w' => e = .returned (.int .u16 80) ∧ w = w' := by
  have e1 : (b != -1) = true := by simpa using hb1
  go_enter Tryz.func14, Tryz.ntmps14
  go_wp2_with fail
  refine (lacks_doc_no h up hu).mono ?_
  rintro e w' ⟨rfl, rfl⟩
  go_wp2_with fail
  refine (lacks_doc_no h i hi).mono ?_
  rintro e w' ⟨rfl, rfl⟩
  go_wp2_with fail
  refine (lacks_doc_yes h b hb).mono ?_
  rintro e w' ⟨rfl, rfl⟩
  go_wp2
  go_ret
  exact ⟨rfl, rfl⟩
set_option maxRecDepth 100000 in
set_option maxHeartbeats 1000000 in
theorem insert_81a (h : Sep W w (docA p A :: rs)) (hT : Laid W) (up i b : Int) (hu : A.In up) (hi : A.In i) (hb : b = -1 ∨ A.In b) (hf : A.fitsB up i = false) :
    Calls Tryz.prog 14 #[ptr p, int up, int i, int b] w fun e w' => e = .returned (.int .u16 81) ∧ Sep W w' (docA p A :: rs) := by
  have H := Lib.hid h
  have HF := Lib.hid hf
  have HT := Lib.hid hT
  clear h hf hT
  rcases hb with rfl | hb
  · go_enter Tryz.func14, Tryz.ntmps14
    go_wp2_with fail
    refine (lacks_doc_no H.out up hu).mono ?_
    rintro e w' ⟨rfl, rfl⟩
    go_wp2_with fail
    refine (lacks_doc_no H.out i hi).mono ?_
    rintro e w' ⟨rfl, rfl⟩
    go_wp2_with fail
    refine (fits_doc H.out HT.out up i hu hi).mono ?_
    rintro e w1 ⟨rfl, h1⟩
    rw [HF.out]
    have H1 := Lib.hid h1
    clear h1
    go_wp2
    go_ret
    exact ⟨rfl, H1.out⟩
  · have e1 : (b != -1) = true := by simpa using neg_of_in hb
    go_enter Tryz.func14, Tryz.ntmps14
    go_wp2_with fail
    refine (lacks_doc_no H.out up hu).mono ?_
    rintro e w' ⟨rfl, rfl⟩
    go_wp2_with fail
    refine (lacks_doc_no H.out i hi).mono ?_
    rintro e w' ⟨rfl, rfl⟩
    go_wp2_with fail
    refine (lacks_doc_no H.out b hb).mono ?_
    rintro e w' ⟨rfl, rfl⟩
    go_wp2_with fail
    refine (fits_doc H.out HT.out up i hu hi).mono ?_
    rintro e w1 ⟨rfl, h1⟩
    rw [HF.out]
    have H1 := Lib.hid h1
    clear h1
    go_wp2
    go_ret
    exact ⟨rfl, H1.out⟩
set_option maxRecDepth 100000 in
set_option maxHeartbeats 1000000 in
theorem insert_81b (h : Sep W w (docA p A :: rs)) (hT : Laid W) (up i : Int) (b : Nat) (hu : A.In up) (hi : A.In i) (hb : b < A.n) (hf : A.fitsB up i = true) (hbu : (A.nd b).up ≠ up) :
    Calls Tryz.prog 14 #[ptr p, int up, int i, int b] w fun e w' => e = .returned (.int .u16 81) ∧ Sep W w' (docA p A :: rs) := by
  have hIb : A.In b := ⟨by omega, by omega⟩
  have e1 : ((b : Int) != -1) = true := by simp
  have H := Lib.hid h
  have HF := Lib.hid hf
  have HT := Lib.hid hT
  clear h hf hT
  go_enter Tryz.func14, Tryz.ntmps14
  go_wp2_with fail
  refine (lacks_doc_no H.out up hu).mono ?_
  rintro e w' ⟨rfl, rfl⟩
  go_wp2_with fail
  refine (lacks_doc_no H.out i hi).mono ?_
  rintro e w' ⟨rfl, rfl⟩
  go_wp2_with fail
  refine (lacks_doc_no H.out b hIb).mono ?_
  rintro e w' ⟨rfl, rfl⟩
  go_wp2_with fail
  refine (fits_doc H.out HT.out up i hu hi).mono ?_
  rintro e w1 ⟨rfl, h1⟩
  rw [HF.out]
  have H1 := Lib.hid h1
  obtain ⟨B, cap, R, av, gv, hl, c0, hc⟩ := cell_doc h1
  have ub := hc b 9 hb (by omega) _ rfl
  rw [(hl.same b hIb).up] at ub
  have e2 : ((A.nd b).up != up) = true := by simpa using hbu
  clear h1 hc hl hbu
  go_wp2
  go_ret
  exact ⟨rfl, H1.out⟩
end
end Go.Proofs.YtgdmaikjaopddaaGreatDoor
