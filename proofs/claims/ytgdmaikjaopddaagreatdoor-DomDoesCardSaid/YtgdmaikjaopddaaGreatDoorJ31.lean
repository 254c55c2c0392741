/- Slices of slices of numbers that come in; local arrays of numbers. -/
import Derived.Test.YtgdmaikjaopddaaGreatDoorJ30
import Derived.Deep.Matrix
namespace Go.Proofs.YtgdmaikjaopddaaGreatDoor
open Go.ChangeShapes Go.WideShapes Go.ChangeAt Go.RowKit

theorem cell_lt3 {w : World} {g j : Nat} {v : Value} (h : w.cell? ⟨g, j, none⟩ = some v) : g < w.heap.size := by
  unfold World.cell? at h
  cases hgg : w.heap[g]? with
  | none => rw [hgg] at h; cases h
  | some o => exact (Array.getElem?_eq_some_iff.1 hgg).1

theorem plain_addr {w : World} {a : Addr} {v : Value} (h : w.cell? (a.add 0) = some v) : ∃ b o, a = ⟨b, o, none⟩ := by
  obtain ⟨b, o, sp⟩ := a
  cases sp with
  | none => exact ⟨b, o, rfl⟩
  | some s =>
    exfalso
    have : ∃ s', (⟨b, o, some s⟩ : Addr).add 0 = ⟨b, o, some s'⟩ ∨ ∃ o', (⟨b, o, some s⟩ : Addr).add 0 = ⟨b, o', some s'⟩ := by
      unfold Addr.add; split <;> simp_all
    rcases this with ⟨s', h' | ⟨o', h'⟩⟩ <;> (rw [h'] at h; cases cell_spot h)

theorem argInts_mk {k : IntKind} {W : World} {A : Option Addr} {L C : Nat} {Z : List Int} (hLC : L ≤ C) (hZ : Z.length = C) (hwf : ∀ n ∈ Z, (Lit.int k n).wf = true) (hnone : A = none → C = 0)
    (hcell : ∀ a', A = some a' → ∀ c, c < C → W.cell? (a'.add c) = some (.int k (Z.getD c 0))) : ArgInts k W (.slice A L C) (Z.take L) := by
  refine ⟨fun x hx => hwf x (List.mem_of_mem_take hx), ?_⟩
  rcases Nat.eq_zero_or_pos L with rfl | hL
  · exact .inl ⟨by simp, A, C, rfl⟩
  · right
    cases A with
    | none => have := hnone rfl; omega
    | some a' =>
      have h0 := hcell a' rfl 0 (by omega)
      obtain ⟨b, o, rfl⟩ := plain_addr h0
      have hl : (Z.take L).length = L := by rw [List.length_take]; omega
      refine ⟨b, o, C, by rw [hl], ?_, fun j x hx => ?_⟩
      · rw [addr_add] at h0; exact cell_lt3 h0
      · rw [List.getElem?_take] at hx
        split at hx
        · have := hcell _ rfl j (by omega)
          rw [addr_add, List.getD_eq_getElem?_getD, hx] at this
          exact this
        · cases hx

/-- a slice of slices of numbers that lay in W -/
def ArgRows (k : IntKind) (W : World) (v : Value) (ll : List (List Int)) : Prop :=
  (ll = [] ∧ ∃ a c, v = .slice a 0 c) ∨ ∃ b off c, v = .slice (some ⟨b, off, none⟩) ll.length c ∧ b < W.heap.size ∧ ∀ (r : Nat) (h : r < ll.length), ∃ u, W.cell? ⟨b, off + r, none⟩ = some u ∧ ArgInts k W u ll[r]
theorem ArgRows.form {k : IntKind} {W : World} {v : Value} {ll : List (List Int)} (h : ArgRows k W v ll) : ∃ a c, v = .slice a ll.length c := by
  rcases h with ⟨rfl, a, c, rfl⟩ | ⟨b, off, c, rfl, _⟩
  · exact ⟨a, c, rfl⟩
  · exact ⟨_, c, rfl⟩
theorem ArgRows.at {k : IntKind} {W : World} {a : Option Addr} {c : Nat} {ll : List (List Int)} (h : ArgRows k W (.slice a ll.length c) ll) (hl : 0 < ll.length) :
    ∃ b off, a = some ⟨b, off, none⟩ ∧ ∀ (r : Nat) (hr : r < ll.length), ∃ u cu, ArgInts k W (.slice u (ll[r]).length cu) ll[r] ∧ ∀ {w : World} {rs : List Res}, Sep W w rs → w.cell? ⟨b, off + r, none⟩ = some (.slice u (ll[r]).length cu) := by
  rcases h with ⟨rfl, _⟩ | ⟨b, off, c', hv, hb, hc⟩
  · exact absurd hl (by simp)
  · injection hv with hv
    refine ⟨b, off, hv, fun r hr => ?_⟩
    obtain ⟨u, hu, hI⟩ := hc r hr
    obtain ⟨a', c'', rfl⟩ := hI.form
    exact ⟨a', c'', hI, fun hS => (hS.below.cell (p := ⟨b, off + r, none⟩) hb).trans hu⟩

theorem argRows_of {H : Type} {enc : TypeId × Value → H} {W : World} {t e q : TypeId} {k : IntKind} {v : Value} {d : DataW H} {p : List MemPlace} (ht : Tryz.prog.underlying t = some (.slice e)) (he : Tryz.prog.underlying e = some (.slice q)) (hq : Tryz.prog.underlying q = some (.int k))
    (ce : Tryz.prog.cellsOf e = 1) (cq : Tryz.prog.cellsOf q = 1) (hs : ∃ a n c, v = .slice a n c) (h : DataW.Trod enc Tryz.prog W 0 (fun _ => true) true t v d p) :
    ∃ ll, ArgRows k W v ll ∧ (ll = [] ∨ ∃ (A : Nat → Option Addr) (L : Nat → Nat) (Z : Nat → List Int) (sp : List (DataW H)), d = .slice ((List.range ll.length).map fun r => Deep.intRow k (A r) (L r) (Z r)) sp ∧ ∀ r (hr : r < ll.length), (ll[r]).length ≤ L r ∧ (A r = none → (ll[r]).length = 0) ∧ L r ≤ (Z r).length) := by
  obtain ⟨fuel, hf⟩ := h
  obtain ⟨a0, n0, c0, rfl⟩ := hs
  rcases Deep.open_int_rows ht he hq ce cq hf with ⟨h0, _⟩ | ⟨a, len, cap, A, L, C, Z, h0, _, hlen, _, hx, hrow⟩
  · simp only [Value.cells, List.cons.injEq, and_true] at h0
    injection h0 with h1 h2 h3
    subst h2
    exact ⟨[], .inl ⟨rfl, a0, c0, rfl⟩, .inl rfl⟩
  · simp only [Value.cells, List.cons.injEq, and_true] at h0
    injection h0 with h1 h2 h3
    subst h1; subst h2; subst h3
    refine ⟨(List.range n0).map fun r => (Z r).take (L r), ?_, ?_⟩
    · rcases Nat.eq_zero_or_pos n0 with rfl | hp
      · exact .inl ⟨rfl, _, _, rfl⟩
      · right
        obtain ⟨b, o, rfl⟩ := plain_addr (hrow 0 (by omega)).1
        have hl : ((List.range n0).map fun r => (Z r).take (L r)).length = n0 := by simp
        refine ⟨b, o, c0, by rw [hl], ?_, fun r hr => ?_⟩
        · have := (hrow 0 (by omega)).1
          rw [addr_add] at this
          exact cell_lt3 this
        · rw [hl] at hr
          obtain ⟨r1, r2, _, r4, r5, r6, r7⟩ := hrow r (by omega)
          rw [addr_add] at r1
          refine ⟨_, r1, ?_⟩
          have e : ((List.range n0).map fun r => (Z r).take (L r))[r]'(by rw [hl]; exact hr) = (Z r).take (L r) := by simp
          rw [e]
          exact argInts_mk r2 r4 r5 r6 fun a' ha' => (r7 a' ha').2
    · right
      refine ⟨A, L, Z, _, by simpa using congrArg Prod.fst hx, fun r hr => ?_⟩
      have hr' : r < n0 := by simpa using hr
      obtain ⟨_, r2, _, r4, _, r6, _⟩ := hrow r (by omega)
      have e : ((List.range n0).map fun r => (Z r).take (L r))[r]'hr = (Z r).take (L r) := by simp
      rw [e, List.length_take]
      refine ⟨Nat.min_le_left _ _, fun hA => by have := r6 hA; omega, by omega⟩

/-! local arrays -/
def arrOf (n : Nat) (f : Nat → Int) : Array Value := ((List.range n).map fun j => int (f j)).toArray
theorem arrOf_get {n : Nat} {f : Nat → Int} {j : Nat} (h : j < n) : (arrOf n f)[j]? = some (int (f j)) := by simp [arrOf, h]
theorem arrOf_set {n : Nat} {f : Nat → Int} {j : Nat} (v : Int) : (arrOf n f).setIfInBounds j (int v) = arrOf n (fun i => if i = j then v else f i) := by
  apply Array.ext_getElem?
  intro i
  rw [Array.getElem?_setIfInBounds]
  by_cases hi : i < n
  · rw [arrOf_get hi]
    by_cases hij : j = i
    · rw [if_pos hij, if_pos (by simp [arrOf]; omega), arrOf_get hi, if_pos hij.symm]
    · rw [if_neg hij, arrOf_get hi, if_neg (fun e => hij e.symm)]
  · have h1 : ∀ f, (arrOf n f)[i]? = none := fun f => by simp [arrOf]; omega
    rw [h1, h1]
    by_cases hij : j = i
    · rw [if_pos hij, if_neg (by simp [arrOf]; omega)]
    · rw [if_neg hij]
section
variable {W w : World} {rs : List Res} {g e : Nat} {cs : Array Value}
theorem Sep.blk_set (h : Sep W w (blk g e cs :: rs)) (j : Nat) (v : Value) : Sep W (w.setCell ⟨g, j, none⟩ v) (blk g e (cs.setIfInBounds j v) :: rs) := by
  obtain ⟨G, ⟨hG, hF⟩, hl, hs⟩ := h.step
  exact hs _ G _ ((Only.refl _ _).setCell (p := ⟨g, j, none⟩) (.inl ((hF g).2 rfl)) _) ⟨by simp [World.setCell, Array.getElem?_modify, hG], hF⟩ fun k hk => .inl hk
theorem Sep.blk_frozen (h : Sep W w (blk g e cs :: rs)) (j : Nat) : w.frozen? ⟨g, j, none⟩ = false := by
  obtain ⟨G, hG, _⟩ := h.head
  simp [World.frozen?, hG]
end
end Go.Proofs.YtgdmaikjaopddaaGreatDoor
