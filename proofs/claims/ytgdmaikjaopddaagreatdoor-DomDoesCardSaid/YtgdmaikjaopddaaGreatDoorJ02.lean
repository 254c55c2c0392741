/- How a document of package dom lies in memory: its nodes, each with its links, its attributes and what is given to it. -/
import Derived.Test.YtgdmaikjaopddaaGreatDoorRows
import Derived.Test.YtgdmaikjaopddaaGreatDoorJ00
import Derived.Test.YtgdmaikjaopddaaGreatDoorJ01
import Derived.WalkKit
import Derived.WalkSpells
import Derived.WalkLawsBesides
import Derived.Lib.Hide
import Derived.StillTailTactics
import Derived.Deep.QuietTactic
import Derived.BigQuiet
import Derived.Deep.RegionHeld3
import Derived.Deep.DeepCutAuto
import Derived.Deep.DeepFit
import Derived.Outline
namespace Go.Proofs.YtgdmaikjaopddaaGreatDoor
open Go.RowKit

abbrev ptr (p : Nat) : Value := .pointer (some ⟨p, 0, none⟩)
abbrev int (i : Int) : Value := .int .i64 i
def acells (l : List Attr) : List Value := l.flatMap fun a => [.string a.1, .string a.2]
def icells (l : List Int) : List Value := l.map (Value.int .i64)
def ncell (r : RNd) (av gv : Value) : List Value :=
  [.int .u8 r.kind, .string r.name, .string r.data, av, .bool r.fl.closed, .bool r.fl.manual, .bool r.fl.delegates, .bool r.fl.serial, .bool r.fl.clonable,
    .int .i64 r.up, .int .i64 r.shadow, .int .i64 r.host, .int .i64 r.own, .int .i64 r.first, .int .i64 r.last, .int .i64 r.next, .int .i64 r.prev, .int .i64 r.slot, gv]

abbrev TDoc : Nat := 72
abbrev TNode : Nat := 76
abbrev TAttr : Nat := 67
abbrev TInt : Nat := 3

def arow (v : Value) (l : List Attr) : Res := row TAttr 2 v l.length (acells l)
def irow (v : Value) (l : List Int) : Res := row TInt 1 v l.length (icells l)

structure DocC (p b cap n : Nat) (lim : Int) (R : Int → RNd) (av gv : Nat → Value) (Fa Fg : Nat → Nat → Prop) (w : World) : Prop where
  doc : w.heap[p]? = some (.cells #[.slice (some ⟨b, 0, none⟩) n cap, .int .i64 lim] TDoc (0, 0))
  nodes : ∃ cur, w.heap[b]? = some (.cells cur TNode (0, 0)) ∧ cur.size = cap * 19 ∧ ∀ i, i < n → ∀ k, k < 19 → cur[i * 19 + k]? = (ncell (R i) (av i) (gv i))[k]?
  hn : n ≤ cap
  hcap : cap ≤ maxLen
  attrs : ∀ i : Nat, i < n → (arow (av i) (R i).attrs).holds w (Fa i)
  given : ∀ i : Nat, i < n → (irow (gv i) (R i).given).holds w (Fg i)
  da : ∀ i, i < n → ∀ j, j < n → i ≠ j → ∀ k, Fa i k → ¬ Fa j k
  dg : ∀ i, i < n → ∀ j, j < n → i ≠ j → ∀ k, Fg i k → ¬ Fg j k

section docc
variable {p b cap n : Nat} {lim : Int} {R : Int → RNd} {av gv : Nat → Value} {Fa Fg : Nat → Nat → Prop} {w w' : World}

theorem rowHolds.type_of {e size : Nat} {v : Value} {n : Nat} {xs : List Value} {F : Nat → Prop} (h : rowHolds e size v n xs w F) {k : Nat} (hk : F k) : ∃ cs, w.heap[k]? = some (.cells cs e (0, 0)) := by
  rcases h.2 with ⟨_, _, hF⟩ | ⟨g, cap, cur, _, hg, _, _, _, _, h5⟩
  · exact absurd hk (hF k)
  · rw [(h5 k).1 hk]; exact ⟨_, hg⟩

theorem DocC.pb (h : DocC p b cap n lim R av gv Fa Fg w) : p ≠ b := by
  rintro rfl
  obtain ⟨cur, hc, _⟩ := h.nodes
  have := h.doc.symm.trans hc
  injection this with this
  injection this with _ ht
  exact absurd ht (by decide)
theorem DocC.pa (h : DocC p b cap n lim R av gv Fa Fg w) {i k : Nat} (hi : i < n) (hk : Fa i k) : k ≠ p ∧ k ≠ b := by
  obtain ⟨cs, hc⟩ := rowHolds.type_of (h.attrs i hi) hk
  constructor
  · rintro rfl
    have := hc.symm.trans h.doc
    injection this with this
    injection this with _ ht
    exact absurd ht (by decide)
  · rintro rfl
    obtain ⟨cur, hb, _⟩ := h.nodes
    have := hc.symm.trans hb
    injection this with this
    injection this with _ ht
    exact absurd ht (by decide)
theorem DocC.pg (h : DocC p b cap n lim R av gv Fa Fg w) {i k : Nat} (hi : i < n) (hk : Fg i k) : k ≠ p ∧ k ≠ b := by
  obtain ⟨cs, hc⟩ := rowHolds.type_of (h.given i hi) hk
  constructor
  · rintro rfl
    have := hc.symm.trans h.doc
    injection this with this
    injection this with _ ht
    exact absurd ht (by decide)
  · rintro rfl
    obtain ⟨cur, hb, _⟩ := h.nodes
    have := hc.symm.trans hb
    injection this with this
    injection this with _ ht
    exact absurd ht (by decide)
theorem DocC.ag (h : DocC p b cap n lim R av gv Fa Fg w) {i j k : Nat} (hi : i < n) (hj : j < n) (hk : Fa i k) : ¬ Fg j k := by
  intro hg
  obtain ⟨cs, hc⟩ := rowHolds.type_of (h.attrs i hi) hk
  obtain ⟨cs', hc'⟩ := rowHolds.type_of (h.given j hj) hg
  have := hc.symm.trans hc'
  injection this with this
  injection this with _ ht
  exact absurd ht (by decide)

theorem DocC.cell0 (h : DocC p b cap n lim R av gv Fa Fg w) : w.cell? ⟨p, 0, none⟩ = some (.slice (some ⟨b, 0, none⟩) n cap) := by simp [World.cell?, h.doc]
theorem DocC.cell1 (h : DocC p b cap n lim R av gv Fa Fg w) : w.cell? ⟨p, 1, none⟩ = some (.int .i64 lim) := by simp [World.cell?, h.doc]
theorem DocC.cell (h : DocC p b cap n lim R av gv Fa Fg w) {i k : Nat} (hi : i < n) (hk : k < 19) {u : Value} (hu : (ncell (R i) (av i) (gv i))[k]? = some u) : w.cell? ⟨b, i * 19 + k, none⟩ = some u := by
  obtain ⟨cur, hc, _, hcell⟩ := h.nodes
  rw [cell_of_row w b _ cur _ _ hc, hcell i hi k hk, hu]
theorem DocC.frozenP (h : DocC p b cap n lim R av gv Fa Fg w) (o : Nat) : w.frozen? ⟨p, o, none⟩ = false := by simp [World.frozen?, h.doc]
theorem DocC.frozenB (h : DocC p b cap n lim R av gv Fa Fg w) (o : Nat) : w.frozen? ⟨b, o, none⟩ = false := by
  obtain ⟨cur, hc, _⟩ := h.nodes
  simp [World.frozen?, hc]

theorem DocC.keep (h : DocC p b cap n lim R av gv Fa Fg w) (hp : w'.heap[p]? = w.heap[p]?) (hb : w'.heap[b]? = w.heap[b]?) (ha : ∀ i, i < n → ∀ k, Fa i k → w'.heap[k]? = w.heap[k]?) (hg : ∀ i, i < n → ∀ k, Fg i k → w'.heap[k]? = w.heap[k]?) :
    DocC p b cap n lim R av gv Fa Fg w' := by
  obtain ⟨cur, hc, h1, h2⟩ := h.nodes
  exact ⟨hp.trans h.doc, ⟨cur, hb.trans hc, h1, h2⟩, h.hn, h.hcap, fun i hi => (arow _ _).loc (h.attrs i hi) (ha i hi), fun i hi => (irow _ _).loc (h.given i hi) (hg i hi), h.da, h.dg⟩

/-- a cell of a node is written: one that is no list -/
theorem DocC.set (h : DocC p b cap n lim R av gv Fa Fg w) {i k : Nat} (hi : i < n) (hk : k < 19) (u : Value) (f : RNd → RNd) (hf : ∀ x a g, ncell (f x) a g = (ncell x a g).set k u)
    (hfa : ∀ x, (f x).attrs = x.attrs) (hfg : ∀ x, (f x).given = x.given) : DocC p b cap n lim (upd R i f) av gv Fa Fg (w.setCell ⟨b, i * 19 + k, none⟩ u) := by
  obtain ⟨cur, hc, h1, h2⟩ := h.nodes
  have hfar : ∀ k', k' ≠ b → (w.setCell ⟨b, i * 19 + k, none⟩ u).heap[k']? = w.heap[k']? := fun k' hk' => Below.heap_setCell _ _ _ _ hk'
  have hat : ∀ j : Nat, (upd R i f j).attrs = (R j).attrs := fun j => by unfold upd; split <;> simp [hfa]
  have hgt : ∀ j : Nat, (upd R i f j).given = (R j).given := fun j => by unfold upd; split <;> simp [hfg]
  refine ⟨(hfar p h.pb).trans h.doc, ⟨cur.setIfInBounds (i * 19 + k) u, by simp [World.setCell, Array.getElem?_modify, hc], by simpa using h1, fun j hj k' hk' => ?_⟩, h.hn, h.hcap,
    fun j hj => ?_, fun j hj => ?_, h.da, h.dg⟩
  · rw [Array.getElem?_setIfInBounds]
    by_cases hji : j = i
    · subst hji
      rw [show upd R j f j = f (R j) by simp [upd], hf]
      by_cases hkk : k' = k
      · subst hkk
        have hlt : j * 19 + k' < cur.size := by
          rw [h1]
          have := h.hn
          have : (j + 1) * 19 ≤ cap * 19 := Nat.mul_le_mul_right 19 (by omega)
          omega
        rw [if_pos rfl, if_pos hlt]
        have : k' < (ncell (R j) (av j) (gv j)).length := by simpa [ncell] using hk'
        simp [this]
      · rw [if_neg (by omega), h2 j hj k' hk', List.getElem?_set_ne (by omega)]
    · have : (upd R i f j) = R j := by unfold upd; rw [if_neg (by omega)]
      rw [this, if_neg (by omega)]
      exact h2 j hj k' hk'
  · rw [hat j]
    exact (arow _ _).loc (h.attrs j hj) fun k' hk' => hfar k' (h.pa hj hk').2
  · rw [hgt j]
    exact (irow _ _).loc (h.given j hj) fun k' hk' => hfar k' (h.pg hj hk').2
end docc

def Foot (p b n : Nat) (Fa Fg : Nat → Nat → Prop) (k : Nat) : Prop := k = p ∨ k = b ∨ (∃ i, i < n ∧ Fa i k) ∨ ∃ i, i < n ∧ Fg i k

/-- a document in memory: where, how many, its limit, its nodes -/
def docR (p b n : Nat) (lim : Int) (R : Int → RNd) : Res where
  holds := fun w F => ∃ cap av gv Fa Fg, DocC p b cap n lim R av gv Fa Fg w ∧ ∀ k, F k ↔ Foot p b n Fa Fg k
  loc := by
    rintro w w' F ⟨cap, av, gv, Fa, Fg, h, hF⟩ hk
    exact ⟨cap, av, gv, Fa, Fg, h.keep (hk p ((hF p).2 (.inl rfl))) (hk b ((hF b).2 (.inr (.inl rfl)))) (fun i hi k hk' => hk k ((hF k).2 (.inr (.inr (.inl ⟨i, hi, hk'⟩)))))
      (fun i hi k hk' => hk k ((hF k).2 (.inr (.inr (.inr ⟨i, hi, hk'⟩))))), hF⟩
  lt := by
    rintro w F k ⟨cap, av, gv, Fa, Fg, h, hF⟩ hk
    rcases (hF k).1 hk with rfl | rfl | ⟨i, hi, hk'⟩ | ⟨i, hi, hk'⟩
    · exact (Array.getElem?_eq_some_iff.1 h.doc).1
    · obtain ⟨cur, hc, _⟩ := h.nodes
      exact (Array.getElem?_eq_some_iff.1 hc).1
    · exact (arow _ _).lt (h.attrs i hi) hk'
    · exact (irow _ _).lt (h.given i hi) hk'

section
variable {p b cap n : Nat} {lim : Int} {R : Int → RNd} {av gv : Nat → Value} {Fa Fg : Nat → Nat → Prop} {w w' : World}
theorem DocC.lt (h : DocC p b cap n lim R av gv Fa Fg w) {k : Nat} (hk : Foot p b n Fa Fg k) : k < w.heap.size := (docR p b n lim R).lt ⟨cap, av, gv, Fa, Fg, h, fun _ => Iff.rfl⟩ hk
theorem DocC.below (h : DocC p b cap n lim R av gv Fa Fg w) (hb : Below w.heap.size w w') : DocC p b cap n lim R av gv Fa Fg w' :=
  h.keep (hb.block _ (h.lt (.inl rfl))) (hb.block _ (h.lt (.inr (.inl rfl)))) (fun i hi _ hk => hb.block _ (h.lt (.inr (.inr (.inl ⟨i, hi, hk⟩))))) (fun i hi _ hk => hb.block _ (h.lt (.inr (.inr (.inr ⟨i, hi, hk⟩)))))
theorem DocC.alloc (h : DocC p b cap n lim R av gv Fa Fg w) (o : Obj) : DocC p b cap n lim R av gv Fa Fg (w.alloc o) := h.below ((Below.refl _ _).alloc (Nat.le_refl _) o)
theorem DocC.drew (h : DocC p b cap n lim R av gv Fa Fg w) : DocC p b cap n lim R av gv Fa Fg w.drew := h.below (Below.refl _ _).drew
theorem DocC.only {G : Nat → Prop} (h : DocC p b cap n lim R av gv Fa Fg w) (ho : Only G w w') (hG : ∀ k, k < w.heap.size → Foot p b n Fa Fg k → ¬ G k) : DocC p b cap n lim R av gv Fa Fg w' :=
  h.keep (ho.block _ (h.lt (.inl rfl)) (hG _ (h.lt (.inl rfl)) (.inl rfl))) (ho.block _ (h.lt (.inr (.inl rfl))) (hG _ (h.lt (.inr (.inl rfl))) (.inr (.inl rfl))))
    (fun i hi k hk => have f := (.inr (.inr (.inl ⟨i, hi, hk⟩)) : Foot p b n Fa Fg k); ho.block _ (h.lt f) (hG _ (h.lt f) f)) (fun i hi k hk => have f := (.inr (.inr (.inr ⟨i, hi, hk⟩)) : Foot p b n Fa Fg k); ho.block _ (h.lt f) (hG _ (h.lt f) f))
theorem DocC.pw (h : DocC p b cap n lim R av gv Fa Fg w) : p < w.heap.size := h.lt (.inl rfl)
theorem DocC.Bw (h : DocC p b cap n lim R av gv Fa Fg w) : b < w.heap.size := h.lt (.inr (.inl rfl))
theorem DocC.sep (h : DocC p b cap n lim R av gv Fa Fg w) : ∃ G : Nat → Prop, (docR p b n lim R).holds w G := ⟨_, cap, av, gv, Fa, Fg, h, fun _ => Iff.rfl⟩
end
end Go.Proofs.YtgdmaikjaopddaaGreatDoor
