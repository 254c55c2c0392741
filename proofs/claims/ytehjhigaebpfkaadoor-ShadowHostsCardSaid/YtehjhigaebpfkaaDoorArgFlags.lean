/- Flags that come in, as a walk reads them. -/
import Derived.Test.YtehjhigaebpfkaaDoorHostsLaw
namespace Go.Proofs.YtehjhigaebpfkaaDoor
open Go.ChangeShapes Go.WideShapes Go.ChangeAt Go.RowKit

set_option maxRecDepth 100000 in
theorem flagsUnder : ∃ f0 f1 f2 f3 f4 : Field, Tryd.prog.underlying 31 = some (.struct #[f0, f1, f2, f3, f4]) ∧ (f0.type = 4 ∧ f1.type = 4 ∧ f2.type = 4 ∧ f3.type = 4 ∧ f4.type = 4) ∧ f0.offset = 0 ∧ f1.offset = 1 ∧ f2.offset = 2 ∧ f3.offset = 3 ∧ f4.offset = 4 :=
  ⟨_, _, _, _, _, Tryd.underlying31, ⟨rfl, rfl, rfl, rfl, rfl⟩, rfl, rfl, rfl, rfl, rfl⟩
theorem boolCells : Tryd.prog.cellsOf 4 = 1 := by kernel_rfl
theorem flagsCells : Tryd.prog.cellsOf 31 = 5 := by kernel_rfl

set_option maxRecDepth 100000 in
theorem argFlags_of {H : Type} {enc : TypeId × Value → H} {W : World} {base : Nat} {v : Value} {d : DataW H} {p : List MemPlace} (hval : Value.okWide Tryd.prog W .any base 31 v)
    (h : DataW.Trod enc Tryd.prog W 0 (fun _ => true) true 31 v d p) : ∃ fl, v = flVal fl := by
  obtain ⟨f0, f1, f2, f3, f4, hu, ⟨t0, t1, t2, t3, t4⟩, o0, o1, o2, o3, o4⟩ := flagsUnder
  obtain ⟨cs, rfl, hsz⟩ := okWide_struct hu hval
  obtain ⟨fuel, hf⟩ := h
  obtain ⟨xs, n, _, _, _, hlen, hfld⟩ := DataW.trod_struct hu hf
  rw [flagsCells] at hsz
  obtain ⟨c0, c1, c2, c3, c4, hcs⟩ : ∃ c0 c1 c2 c3 c4, cs = #[c0, c1, c2, c3, c4] := by
    obtain ⟨l⟩ := cs
    match l, hsz with
    | [c0, c1, c2, c3, c4], _ => exact ⟨c0, c1, c2, c3, c4, rfl⟩
  subst hcs
  have hb : Tryd.prog.underlying 4 = some .bool := Tryd.underlying4
  have one : ∀ (j : Nat) (f : Field) (c : Value), #[f0, f1, f2, f3, f4][j]? = some f → f.type = 4 → (([c0, c1, c2, c3, c4] : List Value).drop f.offset).take 1 = [c] → ∃ b, c = .bool b := by
    intro j f c hj ht hc
    have h1 := hfld j f hj
    have hj5 : j < xs.length := by
      rw [hlen]
      exact (Array.getElem?_eq_some_iff.1 hj).1
    rw [List.getElem?_eq_getElem hj5, ht, boolCells] at h1
    have h2 : DataW.trod enc Tryd.prog W 0 (fun _ => true) true n 4 ((([c0, c1, c2, c3, c4] : List Value).drop f.offset).take 1) = some xs[j] := h1
    rw [hc] at h2
    obtain ⟨b, hb1, _⟩ := DataW.trod_bool hb h2
    injection hb1 with hb1 _
    exact ⟨b, hb1⟩
  obtain ⟨b0, rfl⟩ := one 0 f0 c0 rfl t0 (by rw [o0]; rfl)
  obtain ⟨b1, rfl⟩ := one 1 f1 c1 rfl t1 (by rw [o1]; rfl)
  obtain ⟨b2, rfl⟩ := one 2 f2 c2 rfl t2 (by rw [o2]; rfl)
  obtain ⟨b3, rfl⟩ := one 3 f3 c3 rfl t3 (by rw [o3]; rfl)
  obtain ⟨b4, rfl⟩ := one 4 f4 c4 rfl t4 (by rw [o4]; rfl)
  exact ⟨⟨b0, b1, b2, b3, b4⟩, rfl⟩
end Go.Proofs.YtehjhigaebpfkaaDoor
