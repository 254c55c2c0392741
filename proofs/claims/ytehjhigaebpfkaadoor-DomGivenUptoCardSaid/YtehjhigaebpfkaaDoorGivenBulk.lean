/- How much a slice of slices of numbers holds, as the second form counts it. -/
import Derived.Test.YtehjhigaebpfkaaDoorGivenLaw
namespace Go.Proofs.YtehjhigaebpfkaaDoor
open Go.ChangeShapes Go.WideShapes Go.ChangeAt Go.RowKit

section
variable {H : Type}
theorem bulkAll_map (f : Nat → DataW H) (c : Nat → Nat) : ∀ (L : List Nat), (∀ r ∈ L, c r ≤ Rows.uptoBulk (f r)) → (L.map c).sum ≤ Rows.uptoBulkAll (L.map f)
  | [], _ => Nat.zero_le _
  | r :: t, h => by
    have h1 := bulkAll_map f c t fun x hx => h x (by simp [hx])
    have h2 := h r (by simp)
    simp only [List.map_cons, List.sum_cons, Rows.uptoBulkAll]
    omega
theorem bulk_lits (k : IntKind) : ∀ (zs : List Int), zs.length ≤ Rows.uptoBulkAll (lits k zs : List (DataW H))
  | [] => Nat.zero_le _
  | z :: t => by
    have := bulk_lits k t
    simp only [lits, List.map_cons, Rows.uptoBulkAll, Rows.uptoBulk, List.length_cons] at this ⊢
    omega
theorem bulk_row (k : IntKind) (A : Option Addr) (L : Nat) (Z : List Int) (m : Nat) (h1 : m ≤ L) (h2 : A = none → m = 0) (h3 : L ≤ Z.length) : m + 1 ≤ Rows.uptoBulk (Deep.intRow k A L Z : DataW H) := by
  cases A with
  | none =>
    have := h2 rfl
    simp only [Deep.intRow, Rows.uptoBulk]; omega
  | some a =>
    have := bulk_lits (H := H) k (Z.take L)
    rw [List.length_take] at this
    simp only [Deep.intRow, Rows.uptoBulk]
    omega
theorem total_range (ll : List (List Int)) : total ll = ((List.range ll.length).map fun r => (ll.getD r []).length + 1).sum := by
  unfold total
  congr 1
  apply List.ext_getElem
  · simp
  · intro i h1 h2
    have : i < ll.length := by simpa using h1
    simp [this]
theorem total_bulk {ll : List (List Int)} {d : DataW H} {k : IntKind} (h : ll = [] ∨ ∃ (A : Nat → Option Addr) (L : Nat → Nat) (Z : Nat → List Int) (sp : List (DataW H)), d = .slice ((List.range ll.length).map fun r => Deep.intRow k (A r) (L r) (Z r)) sp ∧ ∀ r (hr : r < ll.length), (ll[r]).length ≤ L r ∧ (A r = none → (ll[r]).length = 0) ∧ L r ≤ (Z r).length)
    (hs : Rows.uptoSmall H ([d] ++ []) = true) : total ll ≤ 3000000 := by
  rcases h with rfl | ⟨A, L, Z, sp, rfl, hr⟩
  · exact Nat.zero_le _
  · have h1 : Rows.uptoBulkAll ([DataW.slice ((List.range ll.length).map fun r => Deep.intRow k (A r) (L r) (Z r)) sp] ++ []) ≤ 1048576 := of_decide_eq_true hs
    simp only [List.append_nil, Rows.uptoBulkAll, Rows.uptoBulk] at h1
    have h2 := bulkAll_map (H := H) (fun r => Deep.intRow k (A r) (L r) (Z r)) (fun r => (ll.getD r []).length + 1) (List.range ll.length) (fun r hm => by
      have hl : r < ll.length := List.mem_range.1 hm
      obtain ⟨q1, q2, q3⟩ := hr r hl
      have e : ll.getD r [] = ll[r] := by simp [hl]
      rw [e]
      exact bulk_row k (A r) (L r) (Z r) _ q1 q2 q3)
    rw [total_range]
    omega
end
end Go.Proofs.YtehjhigaebpfkaaDoor
