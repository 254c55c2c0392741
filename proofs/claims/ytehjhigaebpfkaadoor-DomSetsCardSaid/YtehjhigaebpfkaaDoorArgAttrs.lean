/- A slice of attributes that comes in, as a walk reads it. -/
import Derived.Test.YtehjhigaebpfkaaDoorSetsLaw
import Derived.Test.YtehjhigaebpfkaaDoorArgRows
import Derived.Deep.Slices
namespace Go.Proofs.YtehjhigaebpfkaaDoor
open Go.ChangeShapes Go.WideShapes Go.ChangeAt Go.RowKit

theorem two_of {α : Type} : ∀ {l : List α}, l.length = 2 → ∃ a b, l = [a, b]
  | [a, b], _ => ⟨a, b, rfl⟩
theorem attrUnder : ∃ f0 f1 : Field, Tryd.prog.underlying 45 = some (.struct #[f0, f1]) ∧ f0.type = 9 ∧ f1.type = 9 ∧ f0.offset = 0 ∧ f1.offset = 1 := ⟨_, _, Tryd.underlying45, rfl, rfl, rfl, rfl⟩
theorem attrCells : Tryd.prog.cellsOf 45 = 2 := by kernel_rfl
theorem strCells : Tryd.prog.cellsOf 9 = 1 := by kernel_rfl
section
variable {H : Type} {enc : TypeId × Value → H} {W : World} {spare : Nat → Bool} {held : Bool} {fuel : Nat}
set_option maxRecDepth 100000 in
theorem trod_attr {cs : List Value} {x : DataW H × List MemPlace} (h : DataW.trod enc Tryd.prog W 0 spare held fuel 45 cs = some x) : ∃ a : Attr, cs = [.string a.1, .string a.2] := by
  obtain ⟨f0, f1, hu, t0, t1, o0, o1⟩ := attrUnder
  obtain ⟨xs, n, _, _, hlen, hxl, hf⟩ := DataW.trod_struct hu h
  rw [attrCells] at hlen
  obtain ⟨c0, c1, rfl⟩ := two_of hlen
  have h0 := hf 0 f0 rfl
  have h1 := hf 1 f1 rfl
  rw [o0, t0, strCells] at h0
  rw [o1, t1, strCells] at h1
  obtain ⟨y0, y1, rfl⟩ := two_of hxl
  obtain ⟨s0, e0, _⟩ := DataW.trod_string Tryd.underlying9 (show DataW.trod enc Tryd.prog W 0 spare held n 9 [c0] = some y0 from h0)
  obtain ⟨s1, e1, _⟩ := DataW.trod_string Tryd.underlying9 (show DataW.trod enc Tryd.prog W 0 spare held n 9 [c1] = some y1 from h1)
  simp only [List.cons.injEq, and_true] at e0 e1
  exact ⟨(s0, s1), by rw [e0, e1]⟩
set_option maxRecDepth 100000 in
theorem trod_attrs {a0 : Option Addr} {n0 c0 : Nat} {x : DataW H × List MemPlace} (h : DataW.trod enc Tryd.prog W 0 spare held fuel 28 [.slice a0 n0 c0] = some x) : ∃ l : List Attr, l.length = n0 ∧ AttrsAt W a0 l := by
  rcases Deep.open_slice Tryd.underlying28 h with ⟨h0, _⟩ | ⟨a, len, cap, m, n, D, Pl, h0, _, hl, hm, hmm, _, hi⟩
  · simp only [List.cons.injEq, and_true] at h0
    injection h0 with h1 h2 h3
    subst h2
    exact ⟨[], rfl, AttrsAt.nil _ _⟩
  · simp only [List.cons.injEq, and_true] at h0
    injection h0 with h1 h2 h3
    subst h1; subst h2; subst h3
    have hml : n0 ≤ m := by rw [hmm]; split <;> omega
    rcases Nat.eq_zero_or_pos n0 with rfl | hp
    · exact ⟨[], rfl, AttrsAt.nil _ _⟩
    obtain ⟨b, o, rfl⟩ : ∃ b o, a = ⟨b, o, none⟩ := by
      obtain ⟨cs', hc, ht⟩ := hi 0 (by omega)
      obtain ⟨y, rfl⟩ := trod_attr ht
      rw [attrCells, Nat.zero_mul] at hc
      obtain ⟨_, _, hat⟩ := World.cells?_some hc
      have q0 := hat 0 (by omega)
      exact plain_addr (a := a) (v := .string y.1) q0
    have hx : ∀ i, i < n0 → ∃ y : Attr, W.cell? ⟨b, o + i * 2, none⟩ = some (.string y.1) ∧ W.cell? ⟨b, o + i * 2 + 1, none⟩ = some (.string y.2) := fun i hin => by
      obtain ⟨cs', hc, ht⟩ := hi i (by omega)
      obtain ⟨y, rfl⟩ := trod_attr ht
      rw [attrCells] at hc
      obtain ⟨_, _, hat⟩ := World.cells?_some hc
      have q0 := hat 0 (by omega)
      have q1 := hat 1 (by omega)
      rw [addr_add, addr_add] at q0 q1
      exact ⟨y, q0, q1⟩
    refine ⟨(List.range n0).map fun i => if h : i < n0 then (hx i h).choose else (.empty, .empty), by simp, by simp; unfold maxLen at hm; omega, fun k hk => ?_⟩
    have hk' : k < n0 := by simpa using hk
    have q := (hx k hk').choose_spec
    refine ⟨b, o, rfl, ?_⟩
    simpa [hk'] using q
theorem argAttrs_of {v : Value} {d : DataW H} {p : List MemPlace} (hs : ∃ a n c, v = .slice a n c) (h : DataW.Trod enc Tryd.prog W 0 spare held 28 v d p) : ∃ l, ArgAttrs W v l := by
  obtain ⟨fuel, hf⟩ := h
  obtain ⟨a0, n0, c0, rfl⟩ := hs
  obtain ⟨l, rfl, hl⟩ := trod_attrs (show DataW.trod enc Tryd.prog W 0 spare held fuel 28 [.slice a0 n0 c0] = some _ from hf)
  exact ⟨l, a0, c0, rfl, hl⟩
end
end Go.Proofs.YtehjhigaebpfkaaDoor
