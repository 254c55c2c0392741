/- What a node is: Node, and the small questions ahead of it. -/
import Derived.Test.YtehjhigaebpfkaaDoorDom2
namespace Go.Proofs.YtehjhigaebpfkaaDoor
open Go.RowKit

section
variable {W w : World} {rs : List Res} {p B cap n : Nat} {lim : Int} {R : Int → RNd} {av gv : Nat → Value} {Fa Fg : Nat → Nat → Prop}

set_option maxRecDepth 100000 in
theorem lacks_no (hC : DocC p B cap n lim R av gv Fa Fg w) (i : Int) (hi : 0 ≤ i) (hi' : i < n) :
    Calls Tryd.prog 41 #[ptr p, int i] w fun e w' => e = .returned (.bool false) ∧ w = w' := by
  have h0 := hC.cell0
  have t1 : decide (i < 0) = false := by simp; omega
  have t2 : decide (i ≥ (n : Int)) = false := by simp; omega
  clear hC
  go_enter Tryd.func41, Tryd.ntmps41
  go_wp2
  go_ret
  exact ⟨rfl, rfl⟩
set_option maxRecDepth 100000 in
theorem lacks_yes (hC : DocC p B cap n lim R av gv Fa Fg w) (i : Int) (hi : i < 0 ∨ n ≤ i) :
    Calls Tryd.prog 41 #[ptr p, int i] w fun e w' => e = .returned (.bool true) ∧ w = w' := by
  have h0 := hC.cell0
  clear hC
  rcases hi with hi | hi
  · have t1 : decide (i < 0) = true := by simp; omega
    go_enter Tryd.func41, Tryd.ntmps41
    go_wp2
    go_ret
    exact ⟨rfl, rfl⟩
  · have t1 : decide (i < 0) = false := by simp; omega
    have t2 : decide (i ≥ (n : Int)) = true := by simp; omega
    go_enter Tryd.func41, Tryd.ntmps41
    go_wp2
    go_ret
    exact ⟨rfl, rfl⟩

/-- an api.Node -/
def nodeVal (x : RNd) (av kv : Value) : Value :=
  .agg #[.int .u8 x.kind, .string x.name, .string x.data, av, int x.up, kv, int x.shadow, int x.host, int x.own, .bool x.fl.closed, .bool x.fl.manual, .bool x.fl.delegates, .bool x.fl.serial, .bool x.fl.clonable]
def noNode : Value := .agg #[.int .u8 0, .string .empty, .string .empty, .slice none 0 0, int 0, .slice none 0 0, int 0, int 0, int 0, .bool false, .bool false, .bool false, .bool false, .bool false]

def isRow (v : Value) : Prop := ∃ A n c, v = .slice A n c
theorem irow_form {w w' : World} {v : Value} {l : List Int} (h : Fresh w w' [irow v l]) : isRow v := by
  obtain ⟨G, hG⟩ := Sep.head (Fresh.sep h)
  obtain ⟨a, cap, h, _⟩ := rowHolds.form hG
  exact ⟨a, _, cap, h⟩
theorem arow_form {w w' : World} {v : Value} {l : List Attr} (h : Fresh w w' [arow v l]) : isRow v := by
  obtain ⟨G, hG⟩ := Sep.head (Fresh.sep h)
  obtain ⟨a, cap, h, _⟩ := rowHolds.form hG
  exact ⟨a, _, cap, h⟩

theorem box14_cell {w : World} {g j : Nat} (h : boxAt w g 14) (hj : j < 14) : w.cell? ⟨g, j, none⟩ = some (got w g j) := h.cell hj
theorem box14_frozen {w : World} {g j : Nat} (h : boxAt w g 14) : w.frozen? ⟨g, j, none⟩ = false := h.frozen j
theorem box14_setCell {w : World} {g j : Nat} {v : Value} (h : boxAt w g 14) : boxAt (w.setCell ⟨g, j, none⟩ v) g 14 := h.setCell j v
theorem got14_set {w : World} {g j : Nat} {v : Value} (h : boxAt w g 14) (hj : j < 14) : got (w.setCell ⟨g, j, none⟩ v) g j = v := got_set h hj v
theorem got14_set_ne {w : World} {g j k : Nat} {v : Value} (h : boxAt w g 14) (hjk : j ≠ k) : got (w.setCell ⟨g, k, none⟩ v) g j = got w g j := got_set_ne h hjk v
theorem nodeS {w0 w' : World} {g i : Nat} (hC : DocC p B cap n lim R av gv Fa Fg w') (hi : i < n) (h : Beside w0 g 14 w') : Only (fun k => k = g) w0 w' ∧ w'.cell? ⟨p, 0, none⟩ = some (.slice (some ⟨B, 0, none⟩) n cap) ∧ w'.cell? ⟨B, i * 19, none⟩ = some (.int .u8 (R i).kind) ∧ w'.cell? ⟨B, i * 19 + 1, none⟩ = some (.string (R i).name) ∧ w'.cell? ⟨B, i * 19 + 2, none⟩ = some (.string (R i).data) ∧ w'.cell? ⟨B, i * 19 + 3, none⟩ = some (av i) ∧ w'.cell? ⟨B, i * 19 + 4, none⟩ = some (.bool (R i).fl.closed) ∧ w'.cell? ⟨B, i * 19 + 5, none⟩ = some (.bool (R i).fl.manual) ∧ w'.cell? ⟨B, i * 19 + 6, none⟩ = some (.bool (R i).fl.delegates) ∧ w'.cell? ⟨B, i * 19 + 7, none⟩ = some (.bool (R i).fl.serial) ∧ w'.cell? ⟨B, i * 19 + 8, none⟩ = some (.bool (R i).fl.clonable) ∧ w'.cell? ⟨B, i * 19 + 9, none⟩ = some (int (R i).up) ∧ w'.cell? ⟨B, i * 19 + 10, none⟩ = some (int (R i).shadow) ∧ w'.cell? ⟨B, i * 19 + 11, none⟩ = some (int (R i).host) ∧ w'.cell? ⟨B, i * 19 + 12, none⟩ = some (int (R i).own) ∧ boxAt w' g 14 :=
  ⟨h.1, hC.cell0, hC.cell hi (k := 0) (by omega) rfl, hC.cell hi (k := 1) (by omega) rfl, hC.cell hi (k := 2) (by omega) rfl, hC.cell hi (k := 3) (by omega) rfl, hC.cell hi (k := 4) (by omega) rfl, hC.cell hi (k := 5) (by omega) rfl, hC.cell hi (k := 6) (by omega) rfl, hC.cell hi (k := 7) (by omega) rfl, hC.cell hi (k := 8) (by omega) rfl, hC.cell hi (k := 9) (by omega) rfl, hC.cell hi (k := 10) (by omega) rfl, hC.cell hi (k := 11) (by omega) rfl, hC.cell hi (k := 12) (by omega) rfl, h.2.2⟩
attribute [local go_sem] box14_cell box14_frozen box14_setCell in
set_option maxRecDepth 100000 in
set_option maxHeartbeats 4000000 in
theorem node_yes (hC : DocC p B cap n lim R av gv Fa Fg w) (i : Int) (hi : 0 ≤ i) (hi' : i < n) (l : List Int)
    (hf : From n R (R i).first l) (hl : l.length ≤ 1000000) (hla : (R i).attrs.length ≤ 1000000) :
    Calls Tryd.prog 16 #[ptr p, int i] w fun e w' => ∃ a k, e = .returned (.tuple #[nodeVal (R i) a k, .int .u16 0]) ∧ Fresh w w' [irow k l, arow a (R i).attrs] := by
  have HC0 := Lib.hid hC
  have HF := Lib.hid hf
  obtain ⟨i, rfl, hi''⟩ := icast hi hi'
  have hl32 : (R ↑i).attrs.length * 32 ≤ 140737488355328 := by omega
  clear hC hf
  go_enter Tryd.func16, Tryd.ntmps16
  go_wp2_with fail
  refine (lacks_no (HC0.out.alloc _) _ hi hi').mono ?_
  rintro e w0 ⟨rfl, hw0⟩
  have hC : DocC p B cap n lim R av gv Fa Fg w0 := hw0 ▸ HC0.out.alloc _
  have hbw : Below w.heap.size w w0 := hw0 ▸ (Below.refl _ _).alloc (Nat.le_refl _) _
  have hg : w0.heap[w.heap.size]? = some (.cells #[.int .u8 0, .string .empty, .string .empty, .slice none 0 0, int 0, .slice none 0 0, int 0, int 0, int 0, .bool false, .bool false, .bool false, .bool false, .bool false] 33 (0, 0)) := by rw [← hw0]; exact heap_alloc_new w _
  have hgl : w.heap.size < w0.heap.size := by rw [← hw0]; simp
  clear hw0
  generalize hG : w.heap.size = g at hg hgl hbw ⊢
  have HG := Lib.hid hG
  clear hG
  have HC := Lib.hid hC
  have HA := Lib.hid (hC.attrs i hi'')
  have h0 := hC.cell0
  have hpw := hC.pw
  have hBw := hC.Bw
  have u0 : w0.cell? ⟨B, i * 19, none⟩ = _ := hC.cell hi'' (k := 0) (by omega) rfl
  have u1 := hC.cell hi'' (k := 1) (by omega) rfl
  have u2 := hC.cell hi'' (k := 2) (by omega) rfl
  have u3 := hC.cell hi'' (k := 3) (by omega) rfl
  have u4 := hC.cell hi'' (k := 4) (by omega) rfl
  have u5 := hC.cell hi'' (k := 5) (by omega) rfl
  have u6 := hC.cell hi'' (k := 6) (by omega) rfl
  have u7 := hC.cell hi'' (k := 7) (by omega) rfl
  have u8 := hC.cell hi'' (k := 8) (by omega) rfl
  have u9 := hC.cell hi'' (k := 9) (by omega) rfl
  have u10 := hC.cell hi'' (k := 10) (by omega) rfl
  have u11 := hC.cell hi'' (k := 11) (by omega) rfl
  have u12 := hC.cell hi'' (k := 12) (by omega) rfl
  have hbx : boxAt w0 g 14 := ⟨_, _, hg, rfl⟩
  have hdoc : ∀ w', Beside w0 g 14 w' → DocC p B cap n lim R av gv Fa Fg w' := fun w' h => hC.only h.1 fun k _ hk e => by
    have := HC0.out.lt hk
    rw [HG.out] at this; omega
  have Hdoc := Lib.hid hdoc
  clear hC hg hdoc hpw hBw
  have hbw2 := Lib.hid hbw
  clear hbw
  have Hbx := Lib.hid (Beside.drew hbx)
  go_wp2_with fail
  clear hbx
  go_region_held3 (fun w' => Only (fun k => k = g) w0 w' ∧ w'.cell? ⟨p, 0, none⟩ = some (.slice (some ⟨B, 0, none⟩) n cap) ∧ w'.cell? ⟨B, i * 19, none⟩ = some (.int .u8 (R i).kind) ∧ w'.cell? ⟨B, i * 19 + 1, none⟩ = some (.string (R i).name) ∧ w'.cell? ⟨B, i * 19 + 2, none⟩ = some (.string (R i).data) ∧ w'.cell? ⟨B, i * 19 + 3, none⟩ = some (av i) ∧ w'.cell? ⟨B, i * 19 + 4, none⟩ = some (.bool (R i).fl.closed) ∧ w'.cell? ⟨B, i * 19 + 5, none⟩ = some (.bool (R i).fl.manual) ∧ w'.cell? ⟨B, i * 19 + 6, none⟩ = some (.bool (R i).fl.delegates) ∧ w'.cell? ⟨B, i * 19 + 7, none⟩ = some (.bool (R i).fl.serial) ∧ w'.cell? ⟨B, i * 19 + 8, none⟩ = some (.bool (R i).fl.clonable) ∧ w'.cell? ⟨B, i * 19 + 9, none⟩ = some (int (R i).up) ∧ w'.cell? ⟨B, i * 19 + 10, none⟩ = some (int (R i).shadow) ∧ w'.cell? ⟨B, i * 19 + 11, none⟩ = some (int (R i).host) ∧ w'.cell? ⟨B, i * 19 + 12, none⟩ = some (int (R i).own) ∧ boxAt w' g 14)
    (first
      | with_reducible exact nodeS (Hdoc.out _ Hbx.out) hi'' Hbx.out
      | with_reducible exact nodeS (Hdoc.out _ (Hbs.out.fresh hfk)) hi'' (Hbs.out.fresh hfk)
      | with_reducible exact nodeS (Hdoc.out _ (Hbx.out.fresh hfa)) hi'' (Hbx.out.fresh hfa)
      | with_reducible exact nodeS (Hdoc.out _ (((((((((((((((Hbs.out.fresh hfk).setCell 0 _).setCell 1 _).setCell 2 _).setCell 3 _).setCell 4 _).setCell 5 _).setCell 6 _).setCell 7 _).setCell 8 _).setCell 9 _).setCell 10 _).setCell 11 _).setCell 12 _).setCell 13 _)) hi'' (((((((((((((((Hbs.out.fresh hfk).setCell 0 _).setCell 1 _).setCell 2 _).setCell 3 _).setCell 4 _).setCell 5 _).setCell 6 _).setCell 7 _).setCell 8 _).setCell 9 _).setCell 10 _).setCell 11 _).setCell 12 _).setCell 13 _))
    ((first
      | (go_at_call 40; refine (cloneAttrs _ _ _ _ ((Hdoc.out _ Hbx.out).attrs i hi'') hl32).mono ?_; rintro e w2 ⟨va, rfl, hfa⟩; obtain ⟨A1, n1, c1, rfl⟩ := arow_form hfa; have Hbs := Lib.hid (Hbx.out.fresh hfa))
      | (go_at_call 43; refine (kids_any (Hdoc.out _ Hbs.out) _ hi hi' l HF.out hl).mono ?_; rintro e w3 ⟨vk, rfl, hfk⟩; obtain ⟨A2, n2, c2, rfl⟩ := irow_form hfk)))
  have hb3 := (Hbs.out.fresh hfk).2.2
  clear HA HF
  go_wp2
  refine bodyPost_ret (v := .tuple #[nodeVal (R ↑i) (.slice A1 n1 c1) (.slice A2 n2 c2), .int .u16 0]) ?_ rfl ?_
  · simp [results, Tryd.results16, go_sem, nodeVal, hb3, got14_set]
  · refine ⟨_, _, rfl, ?_⟩
    have hf := Fresh.trans hfa hfk
    refine Fresh.boxed (F := fun k => k = g) (w0 := w0) (by rw [HG.out]; exact hbw2.out) (fun k hk => ⟨by rw [HG.out]; omega, by rw [hk]; exact hgl⟩) (Fresh.trans (Fresh.same (Below.refl _ _).drew) hf) ?_
    exact (((((((((((((((Only.refl (fun k => k = g) w3).setCell (p := ⟨g, 0, none⟩) (.inl rfl) _).setCell (p := ⟨g, 1, none⟩) (.inl rfl) _).setCell (p := ⟨g, 2, none⟩) (.inl rfl) _).setCell (p := ⟨g, 3, none⟩) (.inl rfl) _).setCell (p := ⟨g, 4, none⟩) (.inl rfl) _).setCell (p := ⟨g, 5, none⟩) (.inl rfl) _).setCell (p := ⟨g, 6, none⟩) (.inl rfl) _).setCell (p := ⟨g, 7, none⟩) (.inl rfl) _).setCell (p := ⟨g, 8, none⟩) (.inl rfl) _).setCell (p := ⟨g, 9, none⟩) (.inl rfl) _).setCell (p := ⟨g, 10, none⟩) (.inl rfl) _).setCell (p := ⟨g, 11, none⟩) (.inl rfl) _).setCell (p := ⟨g, 12, none⟩) (.inl rfl) _).setCell (p := ⟨g, 13, none⟩) (.inl rfl) _)
end
end Go.Proofs.YtehjhigaebpfkaaDoor
