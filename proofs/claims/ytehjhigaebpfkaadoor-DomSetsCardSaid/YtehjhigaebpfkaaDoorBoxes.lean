/- Variables that lie in a block of their own, and rows, as the walk meets them. -/
import Derived.Test.YtehjhigaebpfkaaDoorActs
import Derived.Deep.WholeRow
namespace Go.Proofs.YtehjhigaebpfkaaDoor
open Go.RowKit

/-- a goal at which a walk stands still -/
def Halt (p : Prop) : Prop := p
theorem halt {p : Prop} (h : Halt p) : p := h
theorem Halt.go {p : Prop} (h : p) : Halt p := h

section
variable {P : Program} {W w : World} {rs : List Res}

/-- a struct is stored into the block that was made last -/
theorem wpList_store_new {ops : Array Oper} {rest : List Oper} {o : Oper} {a : Act} {Q : Exit → Act → World → Prop} (hgd : o.guard = none) (ty : TypeId) (x y : Operand) (ho : o.op = .store ty x y) {old cells : Array Value}
    (hx : a.eval x = .pointer (some ⟨w.heap.size, 0, none⟩)) (hy : a.eval y = .agg cells) (hi : (P.info? ty).map (·.size) = some cells.size) (hold : old.size = cells.size) (h1 : cells.all (·.oneCell') = true)
    (h : wpList P ops Q rest (a.put o.dst undef) (w.alloc (.cells cells ty))) : wpList P ops Q (o :: rest) a (w.alloc (.cells old ty)) := by
  refine wpList_store_row hgd ty x y ho w.heap.size cells hx hy ty old (heap_alloc_last w _) hi hold h1 ?_
  rw [World.setRow_alloc_new]
  exact h

theorem Sep.blk_new (h : Sep W w rs) (cs : Array Value) (e : Nat) : Sep W (w.alloc (.cells cs e)) (blk w.heap.size e cs :: rs) :=
  h.new (Only.alloc (.refl _ _) _) (G' := fun k => k = w.heap.size) ⟨heap_alloc_new w _, fun _ => Iff.rfl⟩ fun k hk => by omega
theorem Sep.blk_cell {g e : Nat} {cs : Array Value} (h : Sep W w (blk g e cs :: rs)) (j : Nat) : w.cell? ⟨g, j, none⟩ = cs[j]? := by
  obtain ⟨G, hG, _⟩ := h.head
  exact cell_of_row w g j cs e (0, 0) hG
/-- a row of numbers, that is not empty -/
theorem Sep.irow_open {v : Value} {l : List Int} (h : Sep W w (irow v l :: rs)) (hl : 0 < l.length) : ∃ g c, v = .slice (some ⟨g, 0, none⟩) l.length c ∧ ∀ (j : Nat) (x : Int), l[j]? = some x → w.cell? ⟨g, j, none⟩ = some (int x) := by
  obtain ⟨G, hG⟩ := h.head
  obtain ⟨g, cp, hv, _, _, _, hcell⟩ := rowHolds.cells hG hl
  exact ⟨g, cp, hv, fun j x hx => hcell j _ (by simp [icells, hx])⟩
/-- a node in a box -/
theorem Sep.box_up {g e : Nat} {x : Nd} {a k : Value} (h : Sep W w (blk g e (ndCells x a k) :: rs)) : w.cell? ⟨g, 4, none⟩ = some (int x.up) := h.blk_cell 4
theorem Sep.box_kids {g e : Nat} {x : Nd} {a k : Value} (h : Sep W w (blk g e (ndCells x a k) :: rs)) : w.cell? ⟨g, 5, none⟩ = some k := h.blk_cell 5
theorem Sep.box_shadow {g e : Nat} {x : Nd} {a k : Value} (h : Sep W w (blk g e (ndCells x a k) :: rs)) : w.cell? ⟨g, 6, none⟩ = some (int x.shadow) := h.blk_cell 6
theorem nd_ones (x : Nd) (a1 : Option Addr) (n1 c1 : Nat) (a2 : Option Addr) (n2 c2 : Nat) : (ndCells x (.slice a1 n1 c1) (.slice a2 n2 c2)).all (·.oneCell') = true := by simp [ndCells, Value.oneCell']
theorem nd_info : (Tryd.prog.info? 33).map (·.size) = some 14 := by kernel_rfl
/-- a node is stored into a new box -/
theorem wpList_store_node {ops : Array Oper} {rest : List Oper} {o : Oper} {a : Act} {Q : Exit → Act → World → Prop} (hgd : o.guard = none) (x y : Operand) (ho : o.op = .store 33 x y) {old : Array Value} {n : Nd} {a1 : Option Addr} {n1 c1 : Nat} {a2 : Option Addr} {n2 c2 : Nat}
    (hx : a.eval x = .pointer (some ⟨w.heap.size, 0, none⟩)) (hy : a.eval y = ndVal n (.slice a1 n1 c1) (.slice a2 n2 c2)) (hold : old.size = 14)
    (h : wpList Tryd.prog ops Q rest (a.put o.dst undef) (w.alloc (.cells (ndCells n (.slice a1 n1 c1) (.slice a2 n2 c2)) 33))) : wpList Tryd.prog ops Q (o :: rest) a (w.alloc (.cells old 33)) :=
  wpList_store_new hgd _ x y ho hx hy nd_info hold (nd_ones _ _ _ _ _ _ _) h
theorem Sep.irow_form {v : Value} {l : List Int} (h : Sep W w (irow v l :: rs)) : ∃ a c, v = .slice a l.length c := row_form h
theorem Sep.arow_form {v : Value} {l : List Attr} (h : Sep W w (arow v l :: rs)) : ∃ a c, v = .slice a l.length c := row_form h
theorem Sep.fifth {a b c d e : Res} (h : Sep W w (a :: b :: c :: d :: e :: rs)) : Sep W w (e :: a :: b :: c :: d :: rs) :=
  h.perm ((List.Perm.cons a (List.Perm.cons b ((List.Perm.cons c (.swap e d rs)).trans (.swap e c (d :: rs))))).trans ((List.Perm.cons a (.swap e b (c :: d :: rs))).trans (.swap e a (b :: c :: d :: rs))))
theorem Sep.blk_lt {g e : Nat} {cs : Array Value} (h : Sep W w (blk g e cs :: rs)) : g < w.heap.size := by
  obtain ⟨G, hG, _⟩ := h.head
  exact lt_of_block hG
end
end Go.Proofs.YtehjhigaebpfkaaDoor
