/- The law's own function Within. -/
import Derived.Test.YtgdmaikjaopddaaGreatDoorJ32
namespace Go.Proofs.YtgdmaikjaopddaaGreatDoor
open Go.RowKit

def OpV.within (o : OpV) (n : Nat) : OpV :=
  if o.inn = true then { o with a := insideI o.a n, b := insideI o.b n, c := if 0 ≤ o.c then insideI o.c n else -1, l := o.l.map fun x => insideI x n } else o
abbrev TOp : Nat := 52
/-- where the numbers of a call lie: in what came in, or in a row -/
def LHere (W : World) (a : Option Addr) (l : List Int) (v : Value) (l' : List Int) : Prop := IntsAt W a l ∨ ∃ c, v = .slice a l.length c ∧ l' = l
theorem holds_ints {w : World} {a : Option Addr} {c : Nat} {l : List Int} {G : Nat → Prop} (h : (irow (.slice a l.length c) l).holds w G) (hl : l.length ≤ 9223372036854775807) : IntsAt w a l := by
  rcases Nat.eq_zero_or_pos l.length with h0 | hp
  · exact ⟨hl, fun j hj => absurd hj (by omega)⟩
  · obtain ⟨g, cap, hv, _, _, _, hc⟩ := rowHolds.cells h hp
    injection hv with hv _ _
    subst hv
    refine ⟨hl, fun j hj => ⟨g, 0, rfl, ?_⟩⟩
    rw [Nat.zero_add]
    exact hc j _ (by unfold icells; rw [List.getElem?_map, List.getElem?_eq_getElem hj]; rfl)
theorem LHere.at {W w : World} {rs : List Res} {a : Option Addr} {l l' : List Int} {v : Value} (h : LHere W a l v l') (hS : Sep W w rs) (hm : irow v l' ∈ rs) (hl : l.length ≤ 9223372036854775807) : IntsAt w a l := by
  rcases h with h | ⟨c, rfl, rfl⟩
  · exact h.keep hS.below
  · obtain ⟨G, hG⟩ := hS.mem hm
    exact holds_ints hG hl
theorem op_info : (Tryz.prog.info? 52).map (·.size) = some 17 := by kernel_rfl
theorem op_ones (o : OpV) (A1 : Option Addr) (c1 : Nat) (A2 : Option Addr) (c2 : Nat) : (o.cells A1 c1 A2 c2).all (·.oneCell') = true := by simp [OpV.cells, Value.oneCell']

section
variable {W w : World} {rs : List Res}
set_option maxRecDepth 100000 in
set_option maxHeartbeats 2000000 in
theorem within_no (w : World) (o : OpV) (A1 : Option Addr) (c1 : Nat) (A2 : Option Addr) (c2 : Nat) (n : Nat) (hi : o.inn = false) :
    Calls Tryz.prog 22 #[.agg (o.cells A1 c1 A2 c2), int n] w fun e w' => e = .returned (.agg (o.cells A1 c1 A2 c2)) ∧ Below w.heap.size w w' := by
  obtain ⟨kind, a, b, c, inn, nk, nm, da, na, s, t, l, f⟩ := o
  obtain rfl : inn = false := hi
  go_enter Tryz.func22, Tryz.ntmps22
  go_wp2
  refine bodyPost_ret (v := .agg (OpV.cells ⟨kind, a, b, c, false, nk, nm, da, na, s, t, l, f⟩ A1 c1 A2 c2)) (results_cell_row Tryz.results22 _ _ (w.heap.size + 1) TOp (OpV.cells ⟨kind, a, b, c, false, nk, nm, da, na, s, t, l, f⟩ A1 c1 A2 c2) (0, 0) _ rfl ?_ Tryz.underlying52 rfl op_info) rfl ⟨rfl, ?_⟩
  · exact heap_alloc2_new w _ _
  · exact below_alloc (below_alloc (Below.refl _ _) _) _
end
end Go.Proofs.YtgdmaikjaopddaaGreatDoor
