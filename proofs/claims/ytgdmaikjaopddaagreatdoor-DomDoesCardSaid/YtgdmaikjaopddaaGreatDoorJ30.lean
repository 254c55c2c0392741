/- Slices of numbers that come in, as a walk reads them. -/
import Derived.Test.YtgdmaikjaopddaaGreatDoorJ29
import Derived.Test.YtgdmaikjaopddaaGreatDoorJ09
import Derived.ChangeSlices
namespace Go.Proofs.YtgdmaikjaopddaaGreatDoor
open Go.ChangeShapes Go.WideShapes Go.ChangeAt Go.RowKit

/-- a slice of numbers of one kind that lay in W -/
def ArgInts (k : IntKind) (W : World) (v : Value) (l : List Int) : Prop :=
  (∀ x ∈ l, (Lit.int k x).wf = true) ∧ ((l = [] ∧ ∃ a c, v = .slice a 0 c) ∨ ∃ b off c, v = .slice (some ⟨b, off, none⟩) l.length c ∧ b < W.heap.size ∧ ∀ (j : Nat) (x : Int), l[j]? = some x → W.cell? ⟨b, off + j, none⟩ = some (.int k x))

theorem ArgInts.form {k : IntKind} {W : World} {v : Value} {l : List Int} (h : ArgInts k W v l) : ∃ a c, v = .slice a l.length c := by
  rcases h.2 with ⟨rfl, a, c, rfl⟩ | ⟨b, off, c, rfl, _⟩
  · exact ⟨a, c, rfl⟩
  · exact ⟨_, c, rfl⟩
theorem ArgInts.at {k : IntKind} {W : World} {a : Option Addr} {c : Nat} {l : List Int} (h : ArgInts k W (.slice a l.length c) l) (hl : 0 < l.length) :
    ∃ b off, a = some ⟨b, off, none⟩ ∧ ∀ {w : World} {rs : List Res} (j : Nat) (x : Int), Sep W w rs → l[j]? = some x → w.cell? ⟨b, off + j, none⟩ = some (.int k x) := by
  rcases h.2 with ⟨rfl, _⟩ | ⟨b, off, c', hv, hb, hc⟩
  · exact absurd hl (by simp)
  · injection hv with hv
    exact ⟨b, off, hv, fun j x hS hx => (hS.below.cell (p := ⟨b, off + j, none⟩) hb).trans (hc j x hx)⟩

theorem addr_add (b o j : Nat) : (⟨b, o, none⟩ : Addr).add j = ⟨b, o + j, none⟩ := by unfold Addr.add; split <;> simp_all

theorem argInts_of {H : Type} {enc : TypeId × Value → H} {W : World} {t e : TypeId} {k : IntKind} {v : Value} {d : DataW H} {p : List MemPlace} (ht : Tryz.prog.underlying t = some (.slice e)) (he : Tryz.prog.underlying e = some (.int k)) (hc : Tryz.prog.cellsOf e = 1)
    (hs : ∃ a n c, v = .slice a n c)
    (h : DataW.Trod enc Tryz.prog W 0 (fun _ => true) true t v d p) : ∃ l, ArgInts k W v l := by
  obtain ⟨fuel, hf⟩ := h
  obtain ⟨a0, n0, c0, rfl⟩ := hs
  rcases open_ints ht he hc hf with ⟨h0, _⟩ | ⟨a, len, cap, zs, h0, _, hlen, _, hz, _, hcell, hwf⟩
  · simp only [Value.cells, List.cons.injEq, and_true] at h0
    injection h0 with h1 h2 h3
    subst h2
    exact ⟨[], fun x hx => (List.not_mem_nil hx).elim, .inl ⟨rfl, a0, c0, rfl⟩⟩
  · simp only [Value.cells, List.cons.injEq, and_true] at h0
    simp only [if_true] at hz
    refine ⟨zs.take len, fun x hx => hwf x (List.mem_of_mem_take hx), ?_⟩
    injection h0 with h1 h2 h3
    subst h1; subst h2; subst h3
    rcases Nat.eq_zero_or_pos n0 with rfl | hp
    · exact .inl ⟨by simp, _, _, rfl⟩
    · right
      have hl : (zs.take n0).length = n0 := by rw [List.length_take]; omega
      obtain ⟨b, o, sp⟩ := a
      have hc0 := hcell 0 (by omega)
      have hsp : sp = none := by
        cases sp with
        | none => rfl
        | some s =>
          have : ∃ s', (⟨b, o, some s⟩ : Addr).add 0 = ⟨b, o, some s'⟩ ∨ ∃ o', (⟨b, o, some s⟩ : Addr).add 0 = ⟨b, o', some s'⟩ := by
            unfold Addr.add; split <;> simp_all
          rcases this with ⟨s', h | ⟨o', h⟩⟩ <;> (rw [h] at hc0; cases cell_spot hc0)
      subst hsp
      refine ⟨b, o, c0, by rw [hl], ?_, fun j x hx => ?_⟩
      · rw [addr_add] at hc0
        unfold World.cell? at hc0
        cases hgg : W.heap[b]? with
        | none => rw [hgg] at hc0; cases hc0
        | some ob => exact lt_of_block hgg
      · rw [List.getElem?_take] at hx
        split at hx
        · have := hcell j (by omega)
          rw [addr_add, List.getD_eq_getElem?_getD, hx] at this
          exact this
        · cases hx
end Go.Proofs.YtgdmaikjaopddaaGreatDoor
