/- Make of a node without attributes. -/
import Derived.Test.YtgdmaikjaopddaaGreatDoorJ07
namespace Go.Proofs.YtgdmaikjaopddaaGreatDoor
open Go.RowKit

section
variable {W w : World} {rs : List Res} {p B n : Nat} {lim : Int} {A : Doc} {R : Int → RNd}

theorem room_sep (h : Sep W w (docR p B n lim R :: rs)) (k : Int) (hk : 0 ≤ k) (hk' : k ≤ 10) (hn : n ≤ 1000000) :
    Calls Tryz.prog 59 #[ptr p, int k] w fun e w' => e = .returned (.bool (decide ((n : Int) + k ≤ lim))) ∧ ∃ m, w.drewN m = w' := by
  obtain ⟨cap, av, gv, Fa, Fg, hC, _⟩ := docR_step h
  exact room_any hC k hk hk' hn

set_option maxRecDepth 100000 in
set_option maxHeartbeats 1000000 in
theorem make_refused (h : Sep W w rs) (hT : Laid W) (x : Arg) (A0 : Option Addr) (c : Nat) (hs : x.name.size ≤ 1000000) (hm : mayB x.kind x.name x.data = false) :
    Calls Tryz.prog 24 #[ptr p, .agg (x.cells A0 0 c)] w fun e w' => e = .returned (.tuple #[int 0, .int .u16 1]) ∧ Sep W w' rs := by
  have H := Lib.hid h
  have HT := Lib.hid (hT.below h.below)
  have HM := Lib.hid hm
  have hr := fun w' hw' => dright_bare x A0 c w' hw' hs
  have HR := Lib.hid hr
  clear h hT hm hr
  obtain ⟨k, nm, da, up, KA, KN, KC, sh, ho, ow, fl⟩ := x
  unfold Arg.cells at *
  simp only at *
  go_enter Tryz.func24, Tryz.ntmps24
  go_wp2_with fail
  refine (HR.out _ (HT.out.below ((Below.refl _ _).alloc (Nat.le_refl _) _))).mono ?_
  rintro e w1 ⟨rfl, hb⟩
  rw [HM.out]
  have h1 := (H.out.alloc _).belowed hb
  have H1 := Lib.hid h1
  clear h1 hb
  go_wp2
  go_ret2
  exact ⟨rfl, H1.out⟩

set_option maxRecDepth 100000 in
set_option maxHeartbeats 1000000 in
theorem make_full (h : Sep W w (docR p B n lim R :: rs)) (hT : Laid W) (x : Arg) (A0 : Option Addr) (c : Nat) (hs : x.name.size ≤ 1000000) (hm : mayB x.kind x.name x.data = true) (hn : n ≤ 5000) (hl : lim < n + 1) :
    Calls Tryz.prog 24 #[ptr p, .agg (x.cells A0 0 c)] w fun e w' => e = .returned (.tuple #[int 0, .int .u16 3]) ∧ Sep W w' (docR p B n lim R :: rs) := by
  have H := Lib.hid h
  have HT := Lib.hid (hT.below h.below)
  have HM := Lib.hid hm
  have hr := fun w' hw' => dright_bare x A0 c w' hw' hs
  have HR := Lib.hid hr
  have t1 : decide ((n : Int) + 1 ≤ lim) = false := by simp; omega
  have T1 := Lib.hid t1
  clear h hT hm hr t1
  obtain ⟨k, nm, da, up, KA, KN, KC, sh, ho, ow, fl⟩ := x
  unfold Arg.cells at *
  simp only at *
  go_enter Tryz.func24, Tryz.ntmps24
  go_wp2_with fail
  refine (HR.out _ (HT.out.below ((Below.refl _ _).alloc (Nat.le_refl _) _))).mono ?_
  rintro e w1 ⟨rfl, hb⟩
  rw [HM.out]
  have h1 := (H.out.alloc _).belowed hb
  have H1 := Lib.hid h1
  have c0 := (hb.cell (p := ⟨w.heap.size, 0, none⟩) (by simp)).trans (cell_alloc_new w _ _ 0)
  have c1 := (hb.cell (p := ⟨w.heap.size, 1, none⟩) (by simp)).trans (cell_alloc_new w _ _ 1)
  have c0' : w1.cell? ⟨w.heap.size, 0, none⟩ = some (.int .u8 k) := c0
  have c1' : w1.cell? ⟨w.heap.size, 1, none⟩ = some (.string nm) := c1
  clear h1 hb c0 c1
  by_cases hk : k = 1
  · subst hk
    go_wp2_with fail
    refine (room_sep H1.out 1 (by omega) (by omega) (by omega)).mono ?_
    rintro e w2 ⟨rfl, m, rfl⟩
    rw [T1.out]
    go_wp2
    go_ret2
    exact ⟨rfl, H1.out.drewN _⟩
  · have hk' : (k == 1) = false := by simpa using hk
    go_wp2_with fail
    refine (room_sep H1.out 1 (by omega) (by omega) (by omega)).mono ?_
    rintro e w2 ⟨rfl, m, rfl⟩
    rw [T1.out]
    go_wp2
    go_ret2
    exact ⟨rfl, H1.out.drewN _⟩

theorem makeS {g : Nat} {k : Int} {nm da : ByteArray} {A0 : Option Addr} {c : Nat} (h0 : w.cell? ⟨g, 0, none⟩ = some (.int .u8 k)) (h1 : w.cell? ⟨g, 1, none⟩ = some (.string nm)) (h2 : w.cell? ⟨g, 2, none⟩ = some (.string da)) (h3 : w.cell? ⟨g, 3, none⟩ = some (.slice A0 0 c)) :
    w.cell? ⟨g, 0, none⟩ = some (.int .u8 k) ∧ w.cell? ⟨g, 1, none⟩ = some (.string nm) ∧ w.cell? ⟨g, 2, none⟩ = some (.string da) ∧ w.cell? ⟨g, 3, none⟩ = some (.slice A0 0 c) := ⟨h0, h1, h2, h3⟩
theorem makeK {w' : World} {F : Nat → Prop} {g : Nat} {k : Int} {nm da : ByteArray} {A0 : Option Addr} {c : Nat} (h : w.cell? ⟨g, 0, none⟩ = some (.int .u8 k) ∧ w.cell? ⟨g, 1, none⟩ = some (.string nm) ∧ w.cell? ⟨g, 2, none⟩ = some (.string da) ∧ w.cell? ⟨g, 3, none⟩ = some (.slice A0 0 c))
    (ho : Only F w w') (hF : ¬ F g) (hg : g < w.heap.size) : w'.cell? ⟨g, 0, none⟩ = some (.int .u8 k) ∧ w'.cell? ⟨g, 1, none⟩ = some (.string nm) ∧ w'.cell? ⟨g, 2, none⟩ = some (.string da) ∧ w'.cell? ⟨g, 3, none⟩ = some (.slice A0 0 c) := by
  have e : ∀ j, w'.cell? ⟨g, j, none⟩ = w.cell? ⟨g, j, none⟩ := fun j => World.cell?_of_block (ho.block g hg hF)
  rw [e, e, e, e]; exact h

theorem makeKf {w' : World} {ss : List Res} {g : Nat} {k : Int} {nm da : ByteArray} {A0 : Option Addr} {c : Nat} (h : w.cell? ⟨g, 0, none⟩ = some (.int .u8 k) ∧ w.cell? ⟨g, 1, none⟩ = some (.string nm) ∧ w.cell? ⟨g, 2, none⟩ = some (.string da) ∧ w.cell? ⟨g, 3, none⟩ = some (.slice A0 0 c))
    (hf : Fresh w w' ss) (hg : g < w.heap.size) : w'.cell? ⟨g, 0, none⟩ = some (.int .u8 k) ∧ w'.cell? ⟨g, 1, none⟩ = some (.string nm) ∧ w'.cell? ⟨g, 2, none⟩ = some (.string da) ∧ w'.cell? ⟨g, 3, none⟩ = some (.slice A0 0 c) := makeK h (Only.below (F := fun _ => False) hf.1) (fun h => h) hg

set_option maxRecDepth 100000 in
set_option maxHeartbeats 1000000 in
theorem make_plain (h : Sep W w (docR p B n lim R :: rs)) (hT : Laid W) (x : Arg) (hs : x.name.size ≤ 1000000) (hm : mayB x.kind x.name x.data = true) (hn : n ≤ 5000) (hl : n + 1 ≤ lim) (ht : tmplB x.kind x.name = false) :
    Calls Tryz.prog 24 #[ptr p, .agg (x.cells none 0 0)] w fun e w' => e = .returned (.tuple #[int n, .int .u16 0]) ∧ ∃ B', Sep W w' (docR p B' (n + 1) lim (addR R n (newR x.kind x.name x.data [] noFl)) :: rs) := by
  have H := Lib.hid h
  have HT := Lib.hid (hT.below h.below)
  have HM := Lib.hid hm
  have hr := fun w' hw' => dright_bare x none 0 w' hw' hs
  have HR := Lib.hid hr
  have t1 : decide ((n : Int) + 1 ≤ lim) = true := by simpa using hl
  have hpB : p ≠ w.heap.size ∧ B ≠ w.heap.size := by obtain ⟨_, _, _, _, _, hC, _⟩ := docR_step h; exact ⟨Nat.ne_of_lt hC.pw, Nat.ne_of_lt hC.Bw⟩
  have T1 := Lib.hid t1
  clear h hT hm hr t1
  obtain ⟨k, nm, da, up, KA, KN, KC, sh, ho, ow, fl⟩ := x
  unfold Arg.cells at *
  simp only at *
  go_enter Tryz.func24, Tryz.ntmps24
  go_wp2_with fail
  refine (HR.out _ (HT.out.below ((Below.refl _ _).alloc (Nat.le_refl _) _))).mono ?_
  rintro e w1 ⟨rfl, hb⟩
  rw [HM.out]
  have h1 := (H.out.alloc _).belowed hb
  have H1 := Lib.hid h1
  have c0 := (hb.cell (p := ⟨w.heap.size, 0, none⟩) (by simp)).trans (cell_alloc_new w _ _ 0)
  have c1 := (hb.cell (p := ⟨w.heap.size, 1, none⟩) (by simp)).trans (cell_alloc_new w _ _ 1)
  have c2 := (hb.cell (p := ⟨w.heap.size, 2, none⟩) (by simp)).trans (cell_alloc_new w _ _ 2)
  have c3 := (hb.cell (p := ⟨w.heap.size, 3, none⟩) (by simp)).trans (cell_alloc_new w _ _ 3)
  have c0' : w1.cell? ⟨w.heap.size, 0, none⟩ = some (.int .u8 k) := c0
  have c1' : w1.cell? ⟨w.heap.size, 1, none⟩ = some (.string nm) := c1
  have c2' : w1.cell? ⟨w.heap.size, 2, none⟩ = some (.string da) := c2
  have c3' : w1.cell? ⟨w.heap.size, 3, none⟩ = some (.slice none 0 0) := c3
  have hgl : w.heap.size < w1.heap.size := by have := hb.size; simp at this; omega
  clear h1 hb c0 c1 c2 c3
  by_cases hk : k = 1
  · subst hk
    have hne : (nm.toList == [116, 101, 109, 112, 108, 97, 116, 101]) = false := by simpa [tmplB] using ht
    go_wp2_with fail
    refine (room_sep H1.out 1 (by omega) (by omega) (by omega)).mono ?_
    rintro e w2 ⟨rfl, m, hw2⟩
    rw [T1.out]
    have H2 := Lib.hid (hw2 ▸ H1.out.drewN m : Sep W w2 (docR p B n lim R :: rs))
    have d0 : w2.cell? ⟨w.heap.size, 0, none⟩ = some (.int .u8 1) := hw2 ▸ c0'
    have d1 : w2.cell? ⟨w.heap.size, 1, none⟩ = some (.string nm) := hw2 ▸ c1'
    have d2 : w2.cell? ⟨w.heap.size, 2, none⟩ = some (.string da) := hw2 ▸ c2'
    have d3 : w2.cell? ⟨w.heap.size, 3, none⟩ = some (.slice none 0 0) := hw2 ▸ c3'
    have hgl2 : w.heap.size < w2.heap.size := by rw [← hw2]; exact hgl
    clear c0' c1' c2' c3' hw2 hgl
    generalize hG : w.heap.size = g at d0 d1 d2 d3 hgl2 ⊢
    have hpg : p ≠ g ∧ B ≠ g := by rw [← hG]; exact hpB
    have Hpg := Lib.hid hpg
    have Hg2 := Lib.hid (show g < w2.drew.heap.size from hgl2)
    have HnB := Lib.hid (show ¬ (fun k : Nat => k = B ∨ k = p) g from fun h => h.elim (fun e => Hpg.out.2 e.symm) (fun e => Hpg.out.1 e.symm))
    clear hG hpg hgl2
    go_wp2
    have hS0 := makeS (w := w2.drew) d0 d1 d2 d3
    have HS0 := Lib.hid hS0
    clear hS0
    go_region_held3 (fun w' => w'.cell? ⟨g, 0, none⟩ = some (.int .u8 1) ∧ w'.cell? ⟨g, 1, none⟩ = some (.string nm) ∧ w'.cell? ⟨g, 2, none⟩ = some (.string da) ∧ w'.cell? ⟨g, 3, none⟩ = some (.slice none 0 0))
      (first
        | with_reducible exact HS0.out
        | with_reducible exact makeKf HS0.out hfa Hg2.out
        | with_reducible exact makeK (makeKf HS0.out hfa Hg2.out) hon HnB.out Hg3.out)
      ((first
        | (go_at_call 33; refine (cloneAttrs _ [] _ (fun _ => False) (rowHolds_nil _ _ _ _) (by simp)).mono ?_; rintro e w3 ⟨va, rfl, hfa⟩; obtain ⟨A1, n1, c1, rfl⟩ := arow_form hfa; have H3 := Lib.hid (H2.out.drew.fresh hfa); have Hg3 := Lib.hid (Nat.lt_of_lt_of_le Hg2.out hfa.1.size))
        | (go_at_call 38; refine (add_sep H3.out 1 nm da noFl 0 0 0 0 0 0 0 0 0 (by omega)).mono ?_; rintro e w4 ⟨rfl, ⟨B', h4⟩, hon⟩; have H4 := Lib.hid h4; clear h4)))
    go_wp2
    go_ret2
    exact ⟨rfl, B', H4.out⟩
  · have hk' : (k == 1) = false := by simpa using hk
    go_wp2_with fail
    refine (room_sep H1.out 1 (by omega) (by omega) (by omega)).mono ?_
    rintro e w2 ⟨rfl, m, hw2⟩
    rw [T1.out]
    have H2 := Lib.hid (hw2 ▸ H1.out.drewN m : Sep W w2 (docR p B n lim R :: rs))
    have d0 : w2.cell? ⟨w.heap.size, 0, none⟩ = some (.int .u8 k) := hw2 ▸ c0'
    have d1 : w2.cell? ⟨w.heap.size, 1, none⟩ = some (.string nm) := hw2 ▸ c1'
    have d2 : w2.cell? ⟨w.heap.size, 2, none⟩ = some (.string da) := hw2 ▸ c2'
    have d3 : w2.cell? ⟨w.heap.size, 3, none⟩ = some (.slice none 0 0) := hw2 ▸ c3'
    have hgl2 : w.heap.size < w2.heap.size := by rw [← hw2]; exact hgl
    clear c0' c1' c2' c3' hw2 hgl
    generalize hG : w.heap.size = g at d0 d1 d2 d3 hgl2 ⊢
    have hpg : p ≠ g ∧ B ≠ g := by rw [← hG]; exact hpB
    have Hpg := Lib.hid hpg
    have Hg2 := Lib.hid (show g < w2.drew.heap.size from hgl2)
    have HnB := Lib.hid (show ¬ (fun k : Nat => k = B ∨ k = p) g from fun h => h.elim (fun e => Hpg.out.2 e.symm) (fun e => Hpg.out.1 e.symm))
    clear hG hpg hgl2
    go_wp2
    have hS0 := makeS (w := w2.drew) d0 d1 d2 d3
    have HS0 := Lib.hid hS0
    clear hS0
    go_region_held3 (fun w' => w'.cell? ⟨g, 0, none⟩ = some (.int .u8 k) ∧ w'.cell? ⟨g, 1, none⟩ = some (.string nm) ∧ w'.cell? ⟨g, 2, none⟩ = some (.string da) ∧ w'.cell? ⟨g, 3, none⟩ = some (.slice none 0 0))
      (first
        | with_reducible exact HS0.out
        | with_reducible exact makeKf HS0.out hfa Hg2.out
        | with_reducible exact makeK (makeKf HS0.out hfa Hg2.out) hon HnB.out Hg3.out)
      ((first
        | (go_at_call 33; refine (cloneAttrs _ [] _ (fun _ => False) (rowHolds_nil _ _ _ _) (by simp)).mono ?_; rintro e w3 ⟨va, rfl, hfa⟩; obtain ⟨A1, n1, c1, rfl⟩ := arow_form hfa; have H3 := Lib.hid (H2.out.drew.fresh hfa); have Hg3 := Lib.hid (Nat.lt_of_lt_of_le Hg2.out hfa.1.size))
        | (go_at_call 38; refine (add_sep H3.out k nm da noFl 0 0 0 0 0 0 0 0 0 (by omega)).mono ?_; rintro e w4 ⟨rfl, ⟨B', h4⟩, hon⟩; have H4 := Lib.hid h4; clear h4)))
    go_wp2
    go_ret2
    exact ⟨rfl, B', H4.out⟩
end
end Go.Proofs.YtgdmaikjaopddaaGreatDoor

/- Make of a template (two nodes), and Make for every document (attributes nil). -/
namespace Go.Proofs.YtgdmaikjaopddaaGreatDoor
open Go.RowKit

section
variable {W w : World} {rs : List Res} {p B n : Nat} {lim : Int} {A : Doc} {R : Int → RNd}

theorem tmpl_parts {k : Int} {nm : ByteArray} (ht : tmplB k nm = true) : k = 1 ∧ (nm.toList == [116, 101, 109, 112, 108, 97, 116, 101]) = true := by
  unfold tmplB at ht
  rw [Bool.and_eq_true] at ht
  exact ⟨by simpa using ht.1, ht.2⟩

set_option maxRecDepth 100000 in
set_option maxHeartbeats 1000000 in
theorem make_full2 (h : Sep W w (docR p B n lim R :: rs)) (hT : Laid W) (x : Arg) (A0 : Option Addr) (c : Nat) (hs : x.name.size ≤ 1000000) (hm : mayB x.kind x.name x.data = true) (hn : n ≤ 5000) (hl : n + 1 ≤ lim) (hl2 : lim < n + 2) (ht : tmplB x.kind x.name = true) :
    Calls Tryz.prog 24 #[ptr p, .agg (x.cells A0 0 c)] w fun e w' => e = .returned (.tuple #[int 0, .int .u16 3]) ∧ Sep W w' (docR p B n lim R :: rs) := by
  have H := Lib.hid h
  have HT := Lib.hid (hT.below h.below)
  have HM := Lib.hid hm
  have hr := fun w' hw' => dright_bare x A0 c w' hw' hs
  have HR := Lib.hid hr
  have t1 : decide ((n : Int) + 1 ≤ lim) = true := by simp; omega
  have t2 : decide ((n : Int) + 2 ≤ lim) = false := by simp; omega
  have T1 := Lib.hid t1
  have T2 := Lib.hid t2
  clear h hT hm hr t1 t2
  obtain ⟨k, nm, da, up, KA, KN, KC, sh, ho, ow, fl⟩ := x
  obtain ⟨hk, hnm⟩ := tmpl_parts ht
  simp only at hk hnm
  subst hk
  clear ht
  unfold Arg.cells at *
  simp only at *
  go_enter Tryz.func24, Tryz.ntmps24
  go_wp2_with fail
  refine (HR.out _ (HT.out.below ((Below.refl _ _).alloc (Nat.le_refl _) _))).mono ?_
  rintro e w1 ⟨rfl, hb⟩
  rw [HM.out]
  have h1 := (H.out.alloc _).belowed hb
  have H1 := Lib.hid h1
  have c0 := (hb.cell (p := ⟨w.heap.size, 0, none⟩) (by simp)).trans (cell_alloc_new w _ _ 0)
  have c1 := (hb.cell (p := ⟨w.heap.size, 1, none⟩) (by simp)).trans (cell_alloc_new w _ _ 1)
  have c0' : w1.cell? ⟨w.heap.size, 0, none⟩ = some (.int .u8 1) := c0
  have c1' : w1.cell? ⟨w.heap.size, 1, none⟩ = some (.string nm) := c1
  clear h1 hb c0 c1
  go_wp2_with fail
  refine (room_sep H1.out 1 (by omega) (by omega) (by omega)).mono ?_
  rintro e w2 ⟨rfl, m, rfl⟩
  rw [T1.out]
  go_wp2_with fail
  refine (room_sep (H1.out.drewN m) 2 (by omega) (by omega) (by omega)).mono ?_
  rintro e w3 ⟨rfl, m2, rfl⟩
  rw [T2.out]
  go_wp2
  go_ret2
  exact ⟨rfl, H1.out.drewN _⟩

set_option maxRecDepth 100000 in
set_option maxHeartbeats 2000000 in
theorem make_tmpl (h : Sep W w (docR p B n lim R :: rs)) (hT : Laid W) (x : Arg) (hs : x.name.size ≤ 1000000) (hm : mayB x.kind x.name x.data = true) (hn : n ≤ 5000) (hl : n + 2 ≤ lim) (ht : tmplB x.kind x.name = true) :
    Calls Tryz.prog 24 #[ptr p, .agg (x.cells none 0 0)] w fun e w' => e = .returned (.tuple #[int n, .int .u16 0]) ∧
      ∃ B', Sep W w' (docR p B' (n + 1 + 1) lim (upd (upd (addR (addR R n (newR x.kind x.name x.data [] noFl)) (n + 1) (newR 4 .empty .empty [] noFl)) n (.setOwn ((n + 1 : Nat) : Int))) ((n + 1 : Nat) : Int) (.setHost n)) :: rs) := by
  have H := Lib.hid h
  have HT := Lib.hid (hT.below h.below)
  have HM := Lib.hid hm
  have hr := fun w' hw' => dright_bare x none 0 w' hw' hs
  have HR := Lib.hid hr
  have t1 : decide ((n : Int) + 1 ≤ lim) = true := by simp; omega
  have t2 : decide ((n : Int) + 2 ≤ lim) = true := by simp; omega
  have hpB : p ≠ w.heap.size ∧ B ≠ w.heap.size := by obtain ⟨_, _, _, _, _, hC, _⟩ := docR_step h; exact ⟨Nat.ne_of_lt hC.pw, Nat.ne_of_lt hC.Bw⟩
  have T1 := Lib.hid t1
  have T2 := Lib.hid t2
  clear h hT hm hr t1 t2
  obtain ⟨k, nm, da, up, KA, KN, KC, sh, ho, ow, fl⟩ := x
  obtain ⟨hk, hnm⟩ := tmpl_parts ht
  simp only at hk hnm
  subst hk
  clear ht
  unfold Arg.cells at *
  simp only at *
  go_enter Tryz.func24, Tryz.ntmps24
  go_wp2_with fail
  refine (HR.out _ (HT.out.below ((Below.refl _ _).alloc (Nat.le_refl _) _))).mono ?_
  rintro e w1 ⟨rfl, hb⟩
  rw [HM.out]
  have h1 := (H.out.alloc _).belowed hb
  have H1 := Lib.hid h1
  have c0 := (hb.cell (p := ⟨w.heap.size, 0, none⟩) (by simp)).trans (cell_alloc_new w _ _ 0)
  have c1 := (hb.cell (p := ⟨w.heap.size, 1, none⟩) (by simp)).trans (cell_alloc_new w _ _ 1)
  have c2 := (hb.cell (p := ⟨w.heap.size, 2, none⟩) (by simp)).trans (cell_alloc_new w _ _ 2)
  have c3 := (hb.cell (p := ⟨w.heap.size, 3, none⟩) (by simp)).trans (cell_alloc_new w _ _ 3)
  have c0' : w1.cell? ⟨w.heap.size, 0, none⟩ = some (.int .u8 1) := c0
  have c1' : w1.cell? ⟨w.heap.size, 1, none⟩ = some (.string nm) := c1
  have c2' : w1.cell? ⟨w.heap.size, 2, none⟩ = some (.string da) := c2
  have c3' : w1.cell? ⟨w.heap.size, 3, none⟩ = some (.slice none 0 0) := c3
  have hgl : w.heap.size < w1.heap.size := by have := hb.size; simp at this; omega
  clear h1 hb c0 c1 c2 c3
  go_wp2_with fail
  refine (room_sep H1.out 1 (by omega) (by omega) (by omega)).mono ?_
  rintro e w2a ⟨rfl, m1, rfl⟩
  rw [T1.out]
  go_wp2_with fail
  refine (room_sep (H1.out.drewN m1) 2 (by omega) (by omega) (by omega)).mono ?_
  rintro e w2 ⟨rfl, m, hw2⟩
  rw [T2.out]
  have H2 := Lib.hid (hw2 ▸ (H1.out.drewN m1).drewN m : Sep W w2 (docR p B n lim R :: rs))
  have d0 : w2.cell? ⟨w.heap.size, 0, none⟩ = some (.int .u8 1) := hw2 ▸ c0'
  have d1 : w2.cell? ⟨w.heap.size, 1, none⟩ = some (.string nm) := hw2 ▸ c1'
  have d2 : w2.cell? ⟨w.heap.size, 2, none⟩ = some (.string da) := hw2 ▸ c2'
  have d3 : w2.cell? ⟨w.heap.size, 3, none⟩ = some (.slice none 0 0) := hw2 ▸ c3'
  have hgl2 : w.heap.size < w2.heap.size := by rw [← hw2]; exact hgl
  clear c0' c1' c2' c3' hw2 hgl
  generalize hG : w.heap.size = g at d0 d1 d2 d3 hgl2 ⊢
  have hpg : p ≠ g ∧ B ≠ g := by rw [← hG]; exact hpB
  have Hpg := Lib.hid hpg
  have Hg2 := Lib.hid (show g < w2.drew.heap.size from hgl2)
  have HnB := Lib.hid (show ¬ (fun k : Nat => k = B ∨ k = p) g from fun h => h.elim (fun e => Hpg.out.2 e.symm) (fun e => Hpg.out.1 e.symm))
  clear hG hpg hgl2
  go_wp2
  have hS0 := makeS (w := w2.drew) d0 d1 d2 d3
  have HS0 := Lib.hid hS0
  clear hS0
  go_region_held3 (fun w' => w'.cell? ⟨g, 0, none⟩ = some (.int .u8 1) ∧ w'.cell? ⟨g, 1, none⟩ = some (.string nm) ∧ w'.cell? ⟨g, 2, none⟩ = some (.string da) ∧ w'.cell? ⟨g, 3, none⟩ = some (.slice none 0 0))
    (first
      | with_reducible exact HS0.out
      | with_reducible exact makeKf HS0.out hfa Hg2.out
      | with_reducible exact makeK (makeKf HS0.out hfa Hg2.out) hon HnB.out Hg3.out)
    ((first
      | (go_at_call 33; refine (cloneAttrs _ [] _ (fun _ => False) (rowHolds_nil _ _ _ _) (by simp)).mono ?_; rintro e w3 ⟨va, rfl, hfa⟩; obtain ⟨A1, n1, c1, rfl⟩ := arow_form hfa; have H3 := Lib.hid (H2.out.drew.fresh hfa); have Hg3 := Lib.hid (Nat.lt_of_lt_of_le Hg2.out hfa.1.size))
      | (go_at_call 38; refine (add_sep H3.out 1 nm da noFl 0 0 0 0 0 0 0 0 0 (by omega)).mono ?_; rintro e w4 ⟨rfl, ⟨B', h4⟩, hon⟩; have H4 := Lib.hid h4; clear h4)))
  clear d0 d1 d2 d3
  obtain ⟨n1', hN⟩ : ∃ n1', n1' = n + 1 := ⟨_, rfl⟩
  have H4' := Lib.hid (hN ▸ H4.out : Sep W w4 (docR p B' n1' lim (addR R n (newR 1 nm da [] noFl)) :: rs))
  have HN := Lib.hid hN
  clear H4
  have hnn : n < n1' + 1 ∧ n1' ≤ 1000000 ∧ n1' < n1' + 1 := by omega
  clear hN
  go_wp2_with fail
  refine (add_sep (Aa := none) (an := 0) (ac := 0) (l := []) (H4'.out.nilRow _ _ _) 4 .empty .empty noFl 0 0 0 0 0 0 0 0 0 hnn.2.1).mono ?_
  rintro e w5 ⟨rfl, ⟨B5, h5⟩, _⟩
  obtain ⟨cap, av, gv, Fa, Fg, hC, _, _, _, _, hfin⟩ := docR_step h5
  have h0 := hC.cell0
  have f0 := hC.frozenB
  have hpb : p ≠ B5 := hC.pb
  have fin := (hC.set (i := n) hnn.1 (k := 12) (by omega) (int (n1' : Int)) (.setOwn (n1' : Int)) (fun _ _ _ => rfl) (fun _ => rfl) (fun _ => rfl)).set (i := n1') hnn.2.2 (k := 11) (by omega) (int n) (.setHost n) (fun _ _ _ => rfl) (fun _ => rfl) (fun _ => rfl)
  have Fin := Lib.hid (hfin _ _ (((Only.refl _ w5).setCell (.inl (.inr (.inl rfl))) _).setCell (.inl (.inr (.inl rfl))) _) fin)
  have u12 := hC.cell (i := n) hnn.1 (k := 12) (by omega) rfl
  have hC2 := hC.set (i := n) hnn.1 (k := 12) (by omega) (int (n1' : Int)) (.setOwn (n1' : Int)) (fun _ _ _ => rfl) (fun _ => rfl) (fun _ => rfl)
  have h02 := hC2.cell0
  have f02 := hC2.frozenB
  have u11 := hC2.cell (i := n1') hnn.2.2 (k := 11) (by omega) rfl
  clear hC hfin h5 fin H4' hC2
  go_wp2
  go_ret2
  rw [← HN.out]
  exact ⟨rfl, B5, Fin.out⟩

theorem made_link (hw : WF A) (hl : Link A R) (k : Int) (nm da : ByteArray) (h : A.makeNo k nm = false) : Link (A.made k nm da [])
    (if tmplB k nm then upd (upd (addR (addR R A.n (newR k nm da [] noFl)) (A.n + 1) (newR 4 .empty .empty [] noFl)) A.n (.setOwn ((A.n + 1 : Nat) : Int))) ((A.n + 1 : Nat) : Int) (.setHost A.n) else addR R A.n (newR k nm da [] noFl)) := by
  unfold Doc.makeNo at h
  rw [Bool.or_eq_false_iff] at h
  have h1 : (A.n : Int) < A.lim := by have := h.1; simp at this; omega
  have l1 := hl.add hw k nm da [] noFl
  have w1 := hw.add h1 k nm da [] noFl (by simp)
  unfold Doc.made
  split
  · have l2 := l1.add w1 4 .empty .empty [] noFl
    have l3 := l2.set (i := A.n) (.setOwn ((A.n : Int) + 1)) (.setOwn ((A.n + 1 : Nat) : Int)) (fun x y s => ⟨s.kind, s.name, s.data, s.attrs, s.fl, s.up, s.shadow, s.host, by show ((A.n + 1 : Nat) : Int) = (A.n : Int) + 1; omega, s.slot, s.given⟩) (fun _ => rfl) (fun _ => rfl) (fun _ => ⟨rfl, rfl, rfl, rfl⟩)
    have l4 := l3.set (i := (A.n : Int) + 1) (.setHost A.n) (.setHost A.n) (fun x y s => ⟨s.kind, s.name, s.data, s.attrs, s.fl, s.up, s.shadow, rfl, s.own, s.slot, s.given⟩) (fun _ => rfl) (fun _ => rfl) (fun _ => ⟨rfl, rfl, rfl, rfl⟩)
    exact l4
  · exact l1
theorem made_n (A : Doc) (k : Int) (nm da : ByteArray) (l : List Attr) : (A.made k nm da l).n = if tmplB k nm then A.n + 1 + 1 else A.n + 1 := by unfold Doc.made; split <;> rfl
theorem made_lim (A : Doc) (k : Int) (nm da : ByteArray) (l : List Attr) : (A.made k nm da l).lim = A.lim := by unfold Doc.made; split <;> rfl

theorem make_no_arg (h : Sep W w rs) (hT : Laid W) (x : Arg) (hs : x.name.size ≤ 1000000) (hm : mayB x.kind x.name x.data = false) :
    Calls Tryz.prog 24 #[ptr p, .agg (x.cells none 0 0)] w fun e w' => e = .returned (.tuple #[int 0, .int .u16 1]) ∧ Sep W w' rs := make_refused h hT x none 0 hs hm
theorem make_no_room (h : Sep W w (docA p A :: rs)) (hT : Laid W) (x : Arg) (hs : x.name.size ≤ 1000000) (hm : mayB x.kind x.name x.data = true) (hf : A.makeNo x.kind x.name = true) :
    Calls Tryz.prog 24 #[ptr p, .agg (x.cells none 0 0)] w fun e w' => e = .returned (.tuple #[int 0, .int .u16 3]) ∧ Sep W w' (docA p A :: rs) := by
  obtain ⟨hw, B, R, hl, hS⟩ := docA_open h
  have hn := hw.n_le
  by_cases h1 : A.lim < A.n + 1
  · exact (make_full hS hT x none 0 hs hm hn h1).mono fun e w' ⟨he, h'⟩ => ⟨he, docA_close hw hl h'⟩
  · have ht : tmplB x.kind x.name = true ∧ A.lim < A.n + 2 := by
      unfold Doc.makeNo at hf
      rw [Bool.or_eq_true] at hf
      rcases hf with hf | hf
      · exact absurd (by simpa using hf) h1
      · rw [Bool.and_eq_true] at hf
        exact ⟨hf.1, by simpa using hf.2⟩
    exact (make_full2 hS hT x none 0 hs hm hn (by omega) ht.2 ht.1).mono fun e w' ⟨he, h'⟩ => ⟨he, docA_close hw hl h'⟩
theorem make_yes (h : Sep W w (docA p A :: rs)) (hT : Laid W) (x : Arg) (hs : x.name.size ≤ 1000000) (hm : mayB x.kind x.name x.data = true) (hf : A.makeNo x.kind x.name = false) :
    Calls Tryz.prog 24 #[ptr p, .agg (x.cells none 0 0)] w fun e w' => e = .returned (.tuple #[int A.n, .int .u16 0]) ∧ Sep W w' (docA p (A.made x.kind x.name x.data []) :: rs) := by
  obtain ⟨hw, B, R, hl, hS⟩ := docA_open h
  have hn := hw.n_le
  have hl' := made_link hw hl x.kind x.name x.data hf
  have hw' := hw.made hf x.data [] (by simp)
  have hf' := hf
  unfold Doc.makeNo at hf'
  rw [Bool.or_eq_false_iff] at hf'
  have h1 : (A.n : Int) + 1 ≤ A.lim := by have := hf'.1; simp at this; omega
  have en := made_n A x.kind x.name x.data []
  have el := made_lim A x.kind x.name x.data []
  cases ht : tmplB x.kind x.name
  · rw [ht] at hl' en
    refine (make_plain hS hT x hs hm hn h1 ht).mono ?_
    rintro e w' ⟨rfl, B', h'⟩
    rw [show A.n + 1 = (A.made x.kind x.name x.data []).n from en.symm, ← el] at h'
    exact ⟨rfl, docA_close hw' hl' h'⟩
  · rw [ht] at hl' en
    have h2 : (A.n : Int) + 2 ≤ A.lim := by have := hf'.2; rw [ht] at this; simp at this; omega
    refine (make_tmpl hS hT x hs hm hn h2 ht).mono ?_
    rintro e w' ⟨rfl, B', h'⟩
    rw [show A.n + 1 + 1 = (A.made x.kind x.name x.data []).n from en.symm, ← el] at h'
    exact ⟨rfl, docA_close hw' hl' h'⟩
end
end Go.Proofs.YtgdmaikjaopddaaGreatDoor
