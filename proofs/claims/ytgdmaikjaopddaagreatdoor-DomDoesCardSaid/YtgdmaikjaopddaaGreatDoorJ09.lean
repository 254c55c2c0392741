/- Variables that lie in a block of their own, and rows, as the walk meets them. -/
import Derived.Test.YtgdmaikjaopddaaGreatDoorJ08
import Derived.Deep.WholeRow
namespace Go.Proofs.YtgdmaikjaopddaaGreatDoor
open Go.RowKit

/-- a goal at which a walk stands still -/
def Halt (p : Prop) : Prop := p
theorem halt {p : Prop} (h : Halt p) : p := h
theorem Halt.go {p : Prop} (h : p) : Halt p := h

section
variable {P : Program} {W w : World} {rs : List Res}

/-- a struct is stored into the block that was made last -/
theorem wpList_store_new {ops : Array Oper} {rest : List Oper} {o : Oper} {a : Act} {Q : Exit → Act → World → Prop} (hgd : o.guard = none) (ty : TypeId) (x y : Operand) (ho : o.op = .store ty x y) {old cells : Array Value}
    (hx : a.eval x = .pointer (some ⟨w.heap.size, 0, none⟩)) (hy : a.eval y = .agg cells) (hi : (P.info? ty).map (·.size) = some cells.size) (hold : old.size = cells.size) (h1 : cells.all (·.oneCell') = true)
    (h : wpList P ops Q rest (a.put o.dst undef) (w.alloc (.cells cells ty))) : wpList P ops Q (o :: rest) a (w.alloc (.cells old ty)) := by
  refine wpList_store_row hgd ty x y ho w.heap.size cells hx hy ty old (heap_alloc_last w _) hi hold h1 ?_
  rw [World.setRow_alloc_new]
  exact h

theorem Sep.blk_new (h : Sep W w rs) (cs : Array Value) (e : Nat) : Sep W (w.alloc (.cells cs e)) (blk w.heap.size e cs :: rs) :=
  h.new (Only.alloc (.refl _ _) _) (G' := fun k => k = w.heap.size) ⟨heap_alloc_new w _, fun _ => Iff.rfl⟩ fun k hk => by omega
theorem Sep.blk_cell {g e : Nat} {cs : Array Value} (h : Sep W w (blk g e cs :: rs)) (j : Nat) : w.cell? ⟨g, j, none⟩ = cs[j]? := by
  obtain ⟨G, hG, _⟩ := h.head
  exact cell_of_row w g j cs e (0, 0) hG
/-- a row of numbers, that is not empty -/
theorem Sep.irow_open {v : Value} {l : List Int} (h : Sep W w (irow v l :: rs)) (hl : 0 < l.length) : ∃ g c, v = .slice (some ⟨g, 0, none⟩) l.length c ∧ ∀ (j : Nat) (x : Int), l[j]? = some x → w.cell? ⟨g, j, none⟩ = some (int x) := by
  obtain ⟨G, hG⟩ := h.head
  obtain ⟨g, cp, hv, _, _, _, hcell⟩ := rowHolds.cells hG hl
  exact ⟨g, cp, hv, fun j x hx => hcell j _ (by simp [icells, hx])⟩
/-- a node in a box -/
theorem Sep.box_up {g e : Nat} {x : Nd} {a k : Value} (h : Sep W w (blk g e (ndCells x a k) :: rs)) : w.cell? ⟨g, 4, none⟩ = some (int x.up) := h.blk_cell 4
theorem Sep.box_kids {g e : Nat} {x : Nd} {a k : Value} (h : Sep W w (blk g e (ndCells x a k) :: rs)) : w.cell? ⟨g, 5, none⟩ = some k := h.blk_cell 5
theorem Sep.box_shadow {g e : Nat} {x : Nd} {a k : Value} (h : Sep W w (blk g e (ndCells x a k) :: rs)) : w.cell? ⟨g, 6, none⟩ = some (int x.shadow) := h.blk_cell 6
theorem nd_ones (x : Nd) (a1 : Option Addr) (n1 c1 : Nat) (a2 : Option Addr) (n2 c2 : Nat) : (ndCells x (.slice a1 n1 c1) (.slice a2 n2 c2)).all (·.oneCell') = true := by simp [ndCells, Value.oneCell']
theorem nd_info : (Tryz.prog.info? 35).map (·.size) = some 14 := by kernel_rfl
/-- a node is stored into a new box -/
theorem wpList_store_node {ops : Array Oper} {rest : List Oper} {o : Oper} {a : Act} {Q : Exit → Act → World → Prop} (hgd : o.guard = none) (x y : Operand) (ho : o.op = .store 35 x y) {old : Array Value} {n : Nd} {a1 : Option Addr} {n1 c1 : Nat} {a2 : Option Addr} {n2 c2 : Nat}
    (hx : a.eval x = .pointer (some ⟨w.heap.size, 0, none⟩)) (hy : a.eval y = ndVal n (.slice a1 n1 c1) (.slice a2 n2 c2)) (hold : old.size = 14)
    (h : wpList Tryz.prog ops Q rest (a.put o.dst undef) (w.alloc (.cells (ndCells n (.slice a1 n1 c1) (.slice a2 n2 c2)) 35))) : wpList Tryz.prog ops Q (o :: rest) a (w.alloc (.cells old 35)) :=
  wpList_store_new hgd _ x y ho hx hy nd_info hold (nd_ones _ _ _ _ _ _ _) h
theorem Sep.irow_form {v : Value} {l : List Int} (h : Sep W w (irow v l :: rs)) : ∃ a c, v = .slice a l.length c := row_form h
theorem Sep.arow_form {v : Value} {l : List Attr} (h : Sep W w (arow v l :: rs)) : ∃ a c, v = .slice a l.length c := row_form h
theorem Sep.fifth {a b c d e : Res} (h : Sep W w (a :: b :: c :: d :: e :: rs)) : Sep W w (e :: a :: b :: c :: d :: rs) :=
  h.perm ((List.Perm.cons a (List.Perm.cons b ((List.Perm.cons c (.swap e d rs)).trans (.swap e c (d :: rs))))).trans ((List.Perm.cons a (.swap e b (c :: d :: rs))).trans (.swap e a (b :: c :: d :: rs))))
theorem Sep.blk_lt {g e : Nat} {cs : Array Value} (h : Sep W w (blk g e cs :: rs)) : g < w.heap.size := by
  obtain ⟨G, hG, _⟩ := h.head
  exact lt_of_block hG
end
end Go.Proofs.YtgdmaikjaopddaaGreatDoor

/- The library's IndexFunc, ContainsFunc over numbers, for the functions that package dom hands them. -/
namespace Go.Proofs.YtgdmaikjaopddaaGreatDoor
open Go.RowKit

theorem any_snoc' {l : List Int} {k : Nat} (h : k < l.length) (f : Int → Bool) : (l.take (k + 1)).any f = ((l.take k).any f || f l[k]) := by
  rw [List.take_succ_eq_append_getElem h, List.any_append]
  simp only [List.any_cons, List.any_nil, Bool.or_false]

/-- a slice of numbers, as it lies in a world -/
def IntsAt (w : World) (a : Option Addr) (zs : List Int) : Prop := zs.length ≤ 9223372036854775807 ∧ ∀ j (h : j < zs.length), ∃ b o, a = some ⟨b, o, none⟩ ∧ w.cell? ⟨b, o + j, none⟩ = some (int zs[j])
theorem IntsAt.at {w : World} {a : Option Addr} {zs : List Int} (h : IntsAt w a zs) (hz : 0 < zs.length) : ∃ b o, a = some ⟨b, o, none⟩ ∧ ∀ j (h : j < zs.length), w.cell? ⟨b, o + j, none⟩ = some (int zs[j]) := by
  obtain ⟨b, o, rfl, _⟩ := h.2 0 hz
  refine ⟨b, o, rfl, fun j hj => ?_⟩
  obtain ⟨b', o', e, hc⟩ := h.2 j hj
  injection e with e
  injection e with e1 e2
  subst e1; subst e2
  exact hc
theorem Sep.intsAt {W w : World} {rs : List Res} {a : Option Addr} {c : Nat} {l : List Int} (h : Sep W w (irow (.slice a l.length c) l :: rs)) (hl : l.length ≤ 9223372036854775807) : IntsAt w a l := by
  refine ⟨hl, fun j hj => ?_⟩
  obtain ⟨g, c', hv, hc⟩ := h.irow_open (by omega)
  injection hv with hv
  exact ⟨g, 0, hv, by rw [Nat.zero_add]; exact hc j l[j] (by simp [hj])⟩

set_option maxRecDepth 100000 in
theorem idx_free (q : Nat) (f : Int → Bool) (a : Option Addr) (c : Nat) (zs : List Int) (w : World) (hz : IntsAt w a zs)
    (hf : ∀ y ∈ zs, Calls Tryz.prog 90 #[int y, .pointer (some ⟨q, 0, none⟩)] w fun e w' => e = .returned (.bool (f y)) ∧ w = w') :
    Calls Tryz.prog 99 #[.slice a zs.length c, .func (.func 90) #[] #[.pointer (some ⟨q, 0, none⟩)]] w fun e w' => (∃ r : Int, e = .returned (int r) ∧ (r = -1 ∧ zs.any f = false ∨ ∃ (k : Nat) (hk : k < zs.length), r = k ∧ f zs[k] = true ∧ (zs.take k).any f = false)) ∧ w = w' := by
  have HZ := Lib.hid hz
  have HF := Lib.hid hf
  have hn := hz.1
  clear hz hf
  go_enter Tryz.func99, Tryz.ntmps99
  go_wp2
  go_loop [8] (fun i => ∃ k : Nat, k ≤ zs.length ∧ i = .int .i64 k ∧ (zs.take k).any f = false) (fun i => zs.length - (intOf i).toNat)
  case atStart => exact ⟨0, Nat.zero_le _, rfl, by simp⟩
  case round =>
    obtain ⟨k, hk, rfl, hno⟩ := hrel
    have HN := Lib.hid hno
    clear hno
    by_cases hlt : k < zs.length
    · obtain ⟨b, o, rfl, hc⟩ := HZ.out.at (by omega)
      have ck := hc k hlt
      have hfk := HF.out zs[k] (List.getElem_mem hlt)
      clear hc
      cases ho : f zs[k]
      · have HO := Lib.hid ho
        clear ho
        go_wp2_with fail
        refine hfk.mono ?_
        rintro e w' ⟨rfl, rfl⟩
        rw [HO.out]
        go_wp2_with fail
        go_round
        case rel => exact ⟨k + 1, by omega, by go_num, by rw [any_snoc' hlt, HN.out, HO.out]; rfl⟩
        case measure => simp [intOf]; omega
      · have HO := Lib.hid ho
        clear ho
        go_wp2_with fail
        refine hfk.mono ?_
        rintro e w' ⟨rfl, rfl⟩
        rw [HO.out]
        go_wp2
        go_ret
        exact ⟨⟨k, rfl, .inr ⟨k, hlt, rfl, HO.out, HN.out⟩⟩, rfl⟩
    · have : k = zs.length := by omega
      subst this
      go_wp2
      go_ret
      have := HN.out
      rw [List.take_length] at this
      exact ⟨⟨-1, rfl, .inl ⟨rfl, by simpa using this⟩⟩, rfl⟩

set_option maxRecDepth 100000 in
theorem idx_lacks (q : Nat) (f : Int → Bool) (a : Option Addr) (c : Nat) (zs : List Int) (w : World) (hz : IntsAt w a zs)
    (hf : ∀ y ∈ zs, Calls Tryz.prog 32 #[ptr q, int y] w fun e w' => e = .returned (.bool (f y)) ∧ w = w') :
    Calls Tryz.prog 99 #[.slice a zs.length c, .func (.func 32) #[ptr q] #[]] w fun e w' => (∃ r : Int, e = .returned (int r) ∧ (r = -1 ∧ zs.any f = false ∨ ∃ (k : Nat) (hk : k < zs.length), r = k ∧ f zs[k] = true ∧ (zs.take k).any f = false)) ∧ w = w' := by
  have HZ := Lib.hid hz
  have HF := Lib.hid hf
  have hn := hz.1
  clear hz hf
  go_enter Tryz.func99, Tryz.ntmps99
  go_wp2
  go_loop [8] (fun i => ∃ k : Nat, k ≤ zs.length ∧ i = .int .i64 k ∧ (zs.take k).any f = false) (fun i => zs.length - (intOf i).toNat)
  case atStart => exact ⟨0, Nat.zero_le _, rfl, by simp⟩
  case round =>
    obtain ⟨k, hk, rfl, hno⟩ := hrel
    have HN := Lib.hid hno
    clear hno
    by_cases hlt : k < zs.length
    · obtain ⟨b, o, rfl, hc⟩ := HZ.out.at (by omega)
      have ck := hc k hlt
      have hfk := HF.out zs[k] (List.getElem_mem hlt)
      clear hc
      cases ho : f zs[k]
      · have HO := Lib.hid ho
        clear ho
        go_wp2_with fail
        refine hfk.mono ?_
        rintro e w' ⟨rfl, rfl⟩
        rw [HO.out]
        go_wp2_with fail
        go_round
        case rel => exact ⟨k + 1, by omega, by go_num, by rw [any_snoc' hlt, HN.out, HO.out]; rfl⟩
        case measure => simp [intOf]; omega
      · have HO := Lib.hid ho
        clear ho
        go_wp2_with fail
        refine hfk.mono ?_
        rintro e w' ⟨rfl, rfl⟩
        rw [HO.out]
        go_wp2
        go_ret
        exact ⟨⟨k, rfl, .inr ⟨k, hlt, rfl, HO.out, HN.out⟩⟩, rfl⟩
    · have : k = zs.length := by omega
      subst this
      go_wp2
      go_ret
      have := HN.out
      rw [List.take_length] at this
      exact ⟨⟨-1, rfl, .inl ⟨rfl, by simpa using this⟩⟩, rfl⟩

set_option maxRecDepth 100000 in
theorem contains_lacks (q : Nat) (f : Int → Bool) (a : Option Addr) (c : Nat) (zs : List Int) (w : World) (hz : IntsAt w a zs)
    (hf : ∀ y ∈ zs, Calls Tryz.prog 32 #[ptr q, int y] w fun e w' => e = .returned (.bool (f y)) ∧ w = w') :
    Calls Tryz.prog 86 #[.slice a zs.length c, .func (.func 32) #[ptr q] #[]] w fun e w' => e = .returned (.bool (zs.any f)) ∧ w = w' := by
  have HZ := Lib.hid hz
  have HF := Lib.hid hf
  clear hz hf
  go_enter Tryz.func86, Tryz.ntmps86
  go_wp2_with fail
  refine (idx_lacks q f a c zs w HZ.out HF.out).mono ?_
  rintro e w' ⟨⟨r, rfl, hr⟩, rfl⟩
  rcases hr with ⟨rfl, h⟩ | ⟨k, hk, rfl, h, _⟩
  · have H := Lib.hid h
    clear h
    go_wp2
    go_ret
    exact ⟨by rw [H.out]; rfl, rfl⟩
  · have h2 : zs.any f = true := List.any_eq_true.2 ⟨zs[k], List.getElem_mem hk, h⟩
    have H := Lib.hid h2
    have t1 : decide ((k : Int) ≥ 0) = true := by simp
    clear h h2
    go_wp2
    go_ret
    exact ⟨by rw [H.out]; rfl, rfl⟩

set_option maxRecDepth 100000 in
theorem idx_gives (q : Nat) (f : Int → Bool) (a : Option Addr) (c : Nat) (zs : List Int) (w : World) (hz : IntsAt w a zs)
    (hf : ∀ y ∈ zs, Calls Tryz.prog 87 #[int y, .pointer (some ⟨q, 0, none⟩)] w fun e w' => e = .returned (.bool (f y)) ∧ w = w') :
    Calls Tryz.prog 99 #[.slice a zs.length c, .func (.func 87) #[] #[.pointer (some ⟨q, 0, none⟩)]] w fun e w' => (∃ r : Int, e = .returned (int r) ∧ (r = -1 ∧ zs.any f = false ∨ ∃ (k : Nat) (hk : k < zs.length), r = k ∧ f zs[k] = true ∧ (zs.take k).any f = false)) ∧ w = w' := by
  have HZ := Lib.hid hz
  have HF := Lib.hid hf
  have hn := hz.1
  clear hz hf
  go_enter Tryz.func99, Tryz.ntmps99
  go_wp2
  go_loop [8] (fun i => ∃ k : Nat, k ≤ zs.length ∧ i = .int .i64 k ∧ (zs.take k).any f = false) (fun i => zs.length - (intOf i).toNat)
  case atStart => exact ⟨0, Nat.zero_le _, rfl, by simp⟩
  case round =>
    obtain ⟨k, hk, rfl, hno⟩ := hrel
    have HN := Lib.hid hno
    clear hno
    by_cases hlt : k < zs.length
    · obtain ⟨b, o, rfl, hc⟩ := HZ.out.at (by omega)
      have ck := hc k hlt
      have hfk := HF.out zs[k] (List.getElem_mem hlt)
      clear hc
      cases ho : f zs[k]
      · have HO := Lib.hid ho
        clear ho
        go_wp2_with fail
        refine hfk.mono ?_
        rintro e w' ⟨rfl, rfl⟩
        rw [HO.out]
        go_wp2_with fail
        go_round
        case rel => exact ⟨k + 1, by omega, by go_num, by rw [any_snoc' hlt, HN.out, HO.out]; rfl⟩
        case measure => simp [intOf]; omega
      · have HO := Lib.hid ho
        clear ho
        go_wp2_with fail
        refine hfk.mono ?_
        rintro e w' ⟨rfl, rfl⟩
        rw [HO.out]
        go_wp2
        go_ret
        exact ⟨⟨k, rfl, .inr ⟨k, hlt, rfl, HO.out, HN.out⟩⟩, rfl⟩
    · have : k = zs.length := by omega
      subst this
      go_wp2
      go_ret
      have := HN.out
      rw [List.take_length] at this
      exact ⟨⟨-1, rfl, .inl ⟨rfl, by simpa using this⟩⟩, rfl⟩

set_option maxRecDepth 100000 in
theorem contains_gives (q : Nat) (f : Int → Bool) (a : Option Addr) (c : Nat) (zs : List Int) (w : World) (hz : IntsAt w a zs)
    (hf : ∀ y ∈ zs, Calls Tryz.prog 87 #[int y, .pointer (some ⟨q, 0, none⟩)] w fun e w' => e = .returned (.bool (f y)) ∧ w = w') :
    Calls Tryz.prog 86 #[.slice a zs.length c, .func (.func 87) #[] #[.pointer (some ⟨q, 0, none⟩)]] w fun e w' => e = .returned (.bool (zs.any f)) ∧ w = w' := by
  have HZ := Lib.hid hz
  have HF := Lib.hid hf
  clear hz hf
  go_enter Tryz.func86, Tryz.ntmps86
  go_wp2_with fail
  refine (idx_gives q f a c zs w HZ.out HF.out).mono ?_
  rintro e w' ⟨⟨r, rfl, hr⟩, rfl⟩
  rcases hr with ⟨rfl, h⟩ | ⟨k, hk, rfl, h, _⟩
  · have H := Lib.hid h
    clear h
    go_wp2
    go_ret
    exact ⟨by rw [H.out]; rfl, rfl⟩
  · have h2 : zs.any f = true := List.any_eq_true.2 ⟨zs[k], List.getElem_mem hk, h⟩
    have H := Lib.hid h2
    have t1 : decide ((k : Int) ≥ 0) = true := by simp
    clear h h2
    go_wp2
    go_ret
    exact ⟨by rw [H.out]; rfl, rfl⟩

end Go.Proofs.YtgdmaikjaopddaaGreatDoor
