/- Regions that draw their order, whose operations read and whose calls may make memory but turn none: one walk, in the order of the text. -/
import Derived.Test.YtgdmaikjaopddaaGreatDoorJ02
namespace Go.Proofs.YtgdmaikjaopddaaGreatDoor
open Go.RowKit

/-- a world that is w0 with more blocks, and some draws -/
structure Later (w0 : World) where
  w : World
  h : Below w0.heap.size w0 w
instance (w0 : World) : Inhabited (Later w0) := ⟨⟨w0, Below.refl _ _⟩⟩

section
variable {P : Program} {w0 : World}
theorem Later.cell (p : Later w0) {b j : Nat} {v : Value} (h : w0.cell? ⟨b, j, none⟩ = some v) : p.w.cell? ⟨b, j, none⟩ = some v :=
  (p.h.cell (p := ⟨b, j, none⟩) (World.block_lt_of_cell? w0 ⟨b, j, none⟩ h)).trans h
theorem wp_region_later {id : Nat} {Q : Exit → Act → World → Prop} {a : Act} {l : List Oper} (hm : P.follows .mixedOrders = true) (hB : Region.lexB .any l.toArray = true)
    (h : wpQuiet P l.toArray (fun w' => ∃ p : Later w0, w' = p.w) (fun a' => ∀ w', (∃ p : Later w0, w' = p.w) → Q .normal a' w') l a) : (Code.region id l.toArray true).wp P Q a w0 :=
  wp_region_quiet (C := fun w' => ∃ p : Later w0, w' = p.w) hm hB ⟨⟨w0.drew, (Below.refl _ _).drew⟩, rfl⟩ (by simpa using h)
theorem Calls.later {f : FuncId} {args : Array Value} {v : Value} {p : Later w0} (h : ∀ w, Below w0.heap.size w0 w → Calls P f args w fun e w' => e = .returned v ∧ Below w.heap.size w w') :
    Calls P f args p.w fun e w' => e = .returned v ∧ ∃ q : Later w0, w' = q.w :=
  (h p.w p.h).mono fun _ w' ⟨he, hb⟩ => ⟨he, ⟨w', p.h.trans (hb.mono p.h.size)⟩, rfl⟩
theorem Calls.later_same {f : FuncId} {args : Array Value} {v : Value} {p : Later w0} (h : ∀ w, Below w0.heap.size w0 w → Calls P f args w fun e w' => e = .returned v ∧ w = w') :
    Calls P f args p.w fun e w' => e = .returned v ∧ ∃ q : Later w0, w' = q.w :=
  (h p.w p.h).mono fun _ w' ⟨he, hb⟩ => ⟨he, p, hb.symm⟩
end
end Go.Proofs.YtgdmaikjaopddaaGreatDoor
