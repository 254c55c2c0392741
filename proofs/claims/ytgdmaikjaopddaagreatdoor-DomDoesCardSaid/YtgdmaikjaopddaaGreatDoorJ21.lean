/- What may be made, with attributes: tree.Sound of one item of any kind, and package dom's right. -/
import Derived.Test.YtgdmaikjaopddaaGreatDoorJ16
import Derived.Test.YtgdmaikjaopddaaGreatDoorJ20
namespace Go.Proofs.YtgdmaikjaopddaaGreatDoor
open Go.RowKit

/-- an item that is no element, by itself -/
def otherB (k : Int) (nm da : ByteArray) (bare : Bool) : Bool := if k = 2 then bare && (nm.toList.isEmpty && !da.toList.isEmpty) else if k = 3 then bare && nm.toList.isEmpty else if k = 6 then bare && da.toList.isEmpty else false
def rightA (k : Int) (nm da : ByteArray) (l : List Attr) : Bool := if k = 1 then elemB nm da l else otherB k nm da ((l.length : Int) == 0)
def mayA (k : Int) (nm da : ByteArray) (l : List Attr) : Bool := if k = 2 then nm.toList.isEmpty && ((l.length : Int) == 0) else if k = 4 then nm.toList.isEmpty && ((l.length : Int) == 0) && da.toList.isEmpty else rightA k nm da l

set_option maxRecDepth 100000 in
theorem right_other (k : Int) (nm da : ByteArray) (A : Option Addr) (n c : Nat) (w : World) (h1 : k ≠ 1) :
    Calls Tryz.prog 85 #[itemVal k nm da A n c, .bool true] w fun e w' => e = .returned (.bool (otherB k nm da ((n : Int) == 0))) ∧ Below w.heap.size w w' := by
  unfold itemVal
  have e1 : (k == 1) = false := by simpa using h1
  obtain ⟨b, hb⟩ : ∃ b, b = ((n : Int) == 0) := ⟨_, rfl⟩
  have hb' := hb.symm
  rw [hb']
  have e2 : (k == 2) = decide (k = 2) := by rw [Bool.eq_iff_iff]; simp
  have e3 : (k == 3) = decide (k = 3) := by rw [Bool.eq_iff_iff]; simp
  have e6 : (k == 6) = decide (k = 6) := by rw [Bool.eq_iff_iff]; simp
  have HR := Lib.hid (show otherB k nm da b = _ from rfl)
  have hd' : (!da.toList.isEmpty) = !(da.toList.isEmpty) := rfl
  clear h1 hb
  by_cases h2 : k = 2
  · subst h2
    have r : otherB 2 nm da b = (b && (nm.toList.isEmpty && !da.toList.isEmpty)) := rfl
    have R := Lib.hid r
    clear r e2 e3 e6 hd' HR
    cases b <;> cases hn : nm.toList.isEmpty <;> cases hd : da.toList.isEmpty
    all_goals
      have hd2 := congrArg (!·) hd
      simp only [Bool.not_true, Bool.not_false] at hd2
      go_enter Tryz.func85, Tryz.ntmps85
      go_wp2
      all_goals go_ret
      all_goals exact ⟨by rw [R.out, hn, hd]; rfl, (Below.refl _ _).alloc (Nat.le_refl _) _⟩
  · have f2 : (k == 2) = false := by simpa using h2
    by_cases h3 : k = 3
    · subst h3
      have r : otherB 3 nm da b = (b && nm.toList.isEmpty) := rfl
      have R := Lib.hid r
      clear r e2 e3 e6 hd' HR
      cases b <;> cases hn : nm.toList.isEmpty
      all_goals
        go_enter Tryz.func85, Tryz.ntmps85
        go_wp2
        all_goals go_ret
        all_goals exact ⟨by rw [R.out, hn]; rfl, (Below.refl _ _).alloc (Nat.le_refl _) _⟩
    · have f3 : (k == 3) = false := by simpa using h3
      by_cases h6 : k = 6
      · subst h6
        have r : otherB 6 nm da b = (b && da.toList.isEmpty) := rfl
        have R := Lib.hid r
        clear r e2 e3 e6 hd' HR
        cases b <;> cases hd : da.toList.isEmpty
        all_goals
          go_enter Tryz.func85, Tryz.ntmps85
          go_wp2
          all_goals go_ret
          all_goals exact ⟨by rw [R.out, hd]; rfl, (Below.refl _ _).alloc (Nat.le_refl _) _⟩
      · have f6 : (k == 6) = false := by simpa using h6
        have R := Lib.hid (show otherB k nm da b = false by unfold otherB; rw [if_neg h2, if_neg h3, if_neg h6])
        clear e2 e3 e6 hd' HR h2 h3 h6
        go_enter Tryz.func85, Tryz.ntmps85
        go_wp2
        go_ret
        exact ⟨by rw [R.out]; rfl, (Below.refl _ _).alloc (Nat.le_refl _) _⟩

set_option maxRecDepth 100000 in
theorem sound_other (g k' n c : Nat) (k : Int) (nm da : ByteArray) (A : Option Addr) (w : World) (hi : ItemAt w g k nm da A n c) (h1 : k ≠ 1) :
    Calls Tryz.prog 63 #[.slice (some ⟨g, 0, none⟩) 1 k'] w fun e w' => e = .returned (.bool (otherB k nm da ((n : Int) == 0))) ∧ Below w.heap.size w w' := by
  obtain ⟨c0, c1, c2, c3, c4⟩ := hi.parts
  have HI := Lib.hid (show ItemAt (w.alloc (.cells #[int 0, .int .u8 k, .string nm, .string da, .slice A n c] 107)) w.heap.size k nm da A n c from fun j _ => cell_alloc_new _ _ _ _)
  have HB0 := Lib.hid (alloc_drewN w (.cells #[int 0, .int .u8 k, .string nm, .string da, .slice A n c] 107) 0)
  have e1 : (k == 1) = false := by simpa using h1
  have H1 := Lib.hid h1
  clear hi h1
  cases hr : otherB k nm da ((n : Int) == 0)
  · have HR := Lib.hid hr
    clear hr
    go_enter Tryz.func63, Tryz.ntmps63
    go_wp2
    refine wp_loop_rounds 2 ?_
    rw [rounds_succ]
    go_wp2_with fail
    refine (right_other k nm da A n c _ H1.out).mono ?_
    rintro e w1 ⟨rfl, hb1⟩
    rw [HR.out]
    have HB := Lib.hid (HB0.out.trans (hb1.mono HB0.out.size))
    clear hb1
    go_wp2
    go_ret
    exact ⟨rfl, HB.out⟩
  · have HR := Lib.hid hr
    clear hr
    go_enter Tryz.func63, Tryz.ntmps63
    go_wp2
    refine wp_loop_rounds 2 ?_
    rw [rounds_succ]
    go_wp2_with fail
    refine (right_other k nm da A n c _ H1.out).mono ?_
    rintro e w1 ⟨rfl, hb1⟩
    rw [HR.out]
    have HB := Lib.hid (HB0.out.trans (hb1.mono HB0.out.size))
    obtain ⟨d0, d1, d2, d3, d4⟩ := (HI.out.keep hb1).parts
    clear hb1
    go_wp2
    rw [rounds_succ]
    go_wp2
    go_ret
    exact ⟨rfl, HB.out⟩

theorem sound_any (g k' c : Nat) (k : Int) (nm da : ByteArray) (A : Option Addr) (l : List Attr) (w : World) (hT : Laid w) (hi : ItemAt w g k nm da A l.length c) (hl : AttrsAt w A l) (hlc : l.length ≤ c) :
    Calls Tryz.prog 63 #[.slice (some ⟨g, 0, none⟩) 1 k'] w fun e w' => e = .returned (.bool (rightA k nm da l)) ∧ Below w.heap.size w w' := by
  by_cases h1 : k = 1
  · subst h1; exact sound_elem g k' c nm da A l w hT hi hl hlc
  · unfold rightA; rw [if_neg h1]; exact sound_other g k' _ c k nm da A w hi h1

set_option maxRecDepth 100000 in
set_option maxHeartbeats 1000000 in
theorem dright_a (x : Arg) (A : Option Addr) (c : Nat) (l : List Attr) (w : World) (hT : Laid w) (hl : AttrsAt w A l) (hlc : l.length ≤ c) :
    Calls Tryz.prog 58 #[.agg (x.cells A l.length c)] w fun e w' => e = .returned (.bool (mayA x.kind x.name x.data l)) ∧ Below w.heap.size w w' := by
  obtain ⟨k, nm, da, up, KA, KN, KC, sh, ho, ow, fl⟩ := x
  simp only
  unfold Arg.cells
  have HT := Lib.hid hT
  have HL := Lib.hid hl
  have HLC := Lib.hid hlc
  have hn := hl.1
  clear hT hl hlc
  obtain ⟨b, hb⟩ : ∃ b, b = ((l.length : Int) == 0) := ⟨_, rfl⟩
  have hb' := hb.symm
  by_cases h2 : k = 2
  · subst h2
    have HR := Lib.hid (show mayA 2 nm da l = (nm.toList.isEmpty && b) by rw [hb]; rfl)
    clear hb
    cases b <;> cases hn : nm.toList.isEmpty
    all_goals
      go_enter Tryz.func58, Tryz.ntmps58
      go_wp2
      go_ret
      exact ⟨by rw [HR.out, hn]; rfl, (Below.refl _ _).alloc (Nat.le_refl _) _⟩
  · have e2 : (k == 2) = false := by simpa using h2
    by_cases h4 : k = 4
    · subst h4
      have HR := Lib.hid (show mayA 4 nm da l = (nm.toList.isEmpty && b && da.toList.isEmpty) by rw [hb]; rfl)
      clear hb
      cases b <;> cases hn : nm.toList.isEmpty <;> cases hd : da.toList.isEmpty
      all_goals
        go_enter Tryz.func58, Tryz.ntmps58
        go_wp2
        go_ret
        exact ⟨by rw [HR.out, hn, hd]; rfl, (Below.refl _ _).alloc (Nat.le_refl _) _⟩
    · have e4 : (k == 4) = false := by simpa using h4
      have HR := Lib.hid (show mayA k nm da l = rightA k nm da l by unfold mayA; rw [if_neg h2, if_neg h4])
      clear h2 h4 hb
      cases b <;> cases hn : nm.toList.isEmpty
      all_goals
        go_enter Tryz.func58, Tryz.ntmps58
        go_wp2_with fail
        refine (sound_any _ _ c k nm da A l _ ?_ ?_ ?_ HLC.out).mono ?_
        · exact HT.out.below (((Below.refl _ _).alloc (Nat.le_refl _) _).alloc (by simp) _)
        · exact fun j _ => cell_of_row _ _ _ _ _ _ (heap_alloc2_new w _ _)
        · exact HL.out.keep (((Below.refl _ _).alloc (Nat.le_refl _) _).alloc (by simp) _)
        rintro e w1 ⟨rfl, hb1⟩
        have hb2 : Below w.heap.size w w1 := (((Below.refl _ _).alloc (Nat.le_refl _) _).alloc (by simp) _).trans (hb1.mono (by simp; omega))
        have HB := Lib.hid hb2
        clear hb1 hb2
        go_wp2
        go_ret
        exact ⟨by rw [HR.out]; rfl, HB.out⟩
theorem bare_len {l : List Attr} (h : ((l.length : Int) == 0) = true) : l.length ≤ 50 := by
  have : (l.length : Int) = 0 := by simpa using h
  omega
theorem mayA_len {k : Int} {nm da : ByteArray} {l : List Attr} (h : mayA k nm da l = true) : l.length ≤ 50 := by
  unfold mayA at h
  split at h
  · exact bare_len (Bool.and_eq_true _ _ ▸ h : _ ∧ _).2
  · split at h
    · exact bare_len (Bool.and_eq_true _ _ ▸ (Bool.and_eq_true _ _ ▸ h : _ ∧ _).1 : _ ∧ _).2
    · unfold rightA at h
      split at h
      · unfold elemB at h
        simp only [Bool.and_eq_true, decide_eq_true_eq] at h
        exact h.2.2.2
      · unfold otherB at h
        split at h
        · exact bare_len (Bool.and_eq_true _ _ ▸ h : _ ∧ _).1
        · split at h
          · exact bare_len (Bool.and_eq_true _ _ ▸ h : _ ∧ _).1
          · split at h
            · exact bare_len (Bool.and_eq_true _ _ ▸ h : _ ∧ _).1
            · cases h
end Go.Proofs.YtgdmaikjaopddaaGreatDoor

/- Make of any node, with its attributes: for every document. -/
namespace Go.Proofs.YtgdmaikjaopddaaGreatDoor
open Go.RowKit

theorem acells_length : ∀ l : List Attr, (acells l).length = l.length * 2
  | [] => rfl
  | x :: t => by
    have e : acells (x :: t) = .string x.1 :: .string x.2 :: acells t := rfl
    rw [e]; simp only [List.length_cons, acells_length t]; omega
section
variable {W w : World} {rs : List Res} {p B n : Nat} {lim : Int} {A : Doc} {R : Int → RNd}
theorem AttrsAt.src {A0 : Option Addr} {l : List Attr} (h : AttrsAt w A0 l) : Src w 2 A0 l.length (acells l) := by
  refine ⟨by rw [acells_length], fun hp => ?_⟩
  obtain ⟨b, o, rfl, _, hc⟩ := h.at hp
  refine ⟨_, rfl, fun j u hu => ?_⟩
  have e : (⟨b, o, none⟩ : Addr).add j = ⟨b, o + j, none⟩ := by unfold Addr.add; split <;> simp_all
  rw [e]
  have hj : j < l.length * 2 := by rw [← acells_length]; exact (List.getElem?_eq_some_iff.1 hu).1
  obtain ⟨k, hk⟩ : ∃ k, k = j / 2 := ⟨_, rfl⟩
  have hkl : k < l.length := by omega
  have q := acells_at hkl
  rcases (show j = k * 2 ∨ j = k * 2 + 1 by omega) with e2 | e2
  · rw [e2] at hu ⊢; rw [q.1] at hu; rw [← hu]; exact (hc k hkl).1
  · rw [e2] at hu ⊢; rw [q.2] at hu; rw [← hu]; exact (hc k hkl).2

set_option maxRecDepth 100000 in
set_option maxHeartbeats 1000000 in
theorem cloneAttrsAt (A0 : Option Addr) (c : Nat) (l : List Attr) (w : World) (h : AttrsAt w A0 l) (hl : l.length ≤ 50) (hlc : l.length ≤ c) :
    Calls Tryz.prog 33 #[.slice A0 l.length c] w fun e w' => ∃ v', e = .returned v' ∧ Fresh w w' [arow v' l] := by
  have hs : Sep w w [] := Sep.start w
  have e1 := fun (w : World) (a : Option Addr) (n c : Nat) => Lib.run_eql_slice_nil (P := Tryz.prog) w 30 TAttr a n c 0 0 Tryz.underlying30
  obtain ⟨i0, hi, hz0, hz1, hz2⟩ := info_parts infoAttr
  have hones : ∀ u ∈ acells l, u.oneCell' = true := by intro u hu; obtain ⟨x, _, hx⟩ := List.mem_flatMap.1 hu; simp at hx; rcases hx with rfl | rfl <;> rfl
  have H := Lib.hid h
  cases A0 with
  | none =>
    have hl0 : l = [] := by
      cases l with
      | nil => rfl
      | cons x t => obtain ⟨b, o, e, _⟩ := h.2 0 (by simp); cases e
    clear h
    subst hl0
    go_enter Tryz.func33, Tryz.ntmps33
    go_wp2
    go_ret
    exact ⟨_, rfl, hs.nilRow _ _ _⟩
  | some a =>
    clear h
    have hb1 : 0 + l.length ≤ maxLen := by unfold maxLen; omega
    have hb2 : (0 + l.length) * 32 ≤ 140737488355328 := by omega
    go_enter Tryz.func33, Tryz.ntmps33
    go_wp2_with (at_builtin; refine wpList_app rfl _ _ 30 rfl Tryz.underlying30 hi hz0 hz1 hz2 rfl (by decide) rfl ((hs.alloc _).nilRow _ _ _) _ _ _ (acells l) rfl (H.out.keep (alloc_drewN _ _ 0)).src hones hb1 hb2 ?_; intro v' w' h')
    go_ret
    refine ⟨_, rfl, ?_⟩
    show Sep w w' [arow v' l]
    simpa [arow] using h'
theorem makeSA {g : Nat} {k : Int} {nm da : ByteArray} {A0 : Option Addr} {m c : Nat} (h0 : w.cell? ⟨g, 0, none⟩ = some (.int .u8 k)) (h1 : w.cell? ⟨g, 1, none⟩ = some (.string nm)) (h2 : w.cell? ⟨g, 2, none⟩ = some (.string da)) (h3 : w.cell? ⟨g, 3, none⟩ = some (.slice A0 m c)) :
    w.cell? ⟨g, 0, none⟩ = some (.int .u8 k) ∧ w.cell? ⟨g, 1, none⟩ = some (.string nm) ∧ w.cell? ⟨g, 2, none⟩ = some (.string da) ∧ w.cell? ⟨g, 3, none⟩ = some (.slice A0 m c) := ⟨h0, h1, h2, h3⟩
theorem makeKA {w' : World} {F : Nat → Prop} {g : Nat} {k : Int} {nm da : ByteArray} {A0 : Option Addr} {m c : Nat} (h : w.cell? ⟨g, 0, none⟩ = some (.int .u8 k) ∧ w.cell? ⟨g, 1, none⟩ = some (.string nm) ∧ w.cell? ⟨g, 2, none⟩ = some (.string da) ∧ w.cell? ⟨g, 3, none⟩ = some (.slice A0 m c))
    (ho : Only F w w') (hF : ¬ F g) (hg : g < w.heap.size) : w'.cell? ⟨g, 0, none⟩ = some (.int .u8 k) ∧ w'.cell? ⟨g, 1, none⟩ = some (.string nm) ∧ w'.cell? ⟨g, 2, none⟩ = some (.string da) ∧ w'.cell? ⟨g, 3, none⟩ = some (.slice A0 m c) := by
  have e : ∀ j, w'.cell? ⟨g, j, none⟩ = w.cell? ⟨g, j, none⟩ := fun j => World.cell?_of_block (ho.block g hg hF)
  rw [e, e, e, e]; exact h

theorem makeKfA {w' : World} {ss : List Res} {g : Nat} {k : Int} {nm da : ByteArray} {A0 : Option Addr} {m c : Nat} (h : w.cell? ⟨g, 0, none⟩ = some (.int .u8 k) ∧ w.cell? ⟨g, 1, none⟩ = some (.string nm) ∧ w.cell? ⟨g, 2, none⟩ = some (.string da) ∧ w.cell? ⟨g, 3, none⟩ = some (.slice A0 m c))
    (hf : Fresh w w' ss) (hg : g < w.heap.size) : w'.cell? ⟨g, 0, none⟩ = some (.int .u8 k) ∧ w'.cell? ⟨g, 1, none⟩ = some (.string nm) ∧ w'.cell? ⟨g, 2, none⟩ = some (.string da) ∧ w'.cell? ⟨g, 3, none⟩ = some (.slice A0 m c) := makeKA h (Only.below (F := fun _ => False) hf.1) (fun h => h) hg

set_option maxRecDepth 100000 in
set_option maxHeartbeats 1000000 in
theorem make_refused_a (h : Sep W w rs) (hT : Laid W) (x : Arg) (A0 : Option Addr) (c : Nat) (l : List Attr) (hat : AttrsAt w A0 l) (hlc : l.length ≤ c) (hm : mayA x.kind x.name x.data l = false) :
    Calls Tryz.prog 24 #[ptr p, .agg (x.cells A0 l.length c)] w fun e w' => e = .returned (.tuple #[int 0, .int .u16 1]) ∧ Sep W w' rs := by
  have H := Lib.hid h
  have HT := Lib.hid (hT.below h.below)
  have HM := Lib.hid hm
  have hr := fun w' (hw' : Laid w') (hb' : Below w.heap.size w w') => dright_a x A0 c l w' hw' (hat.keep hb') hlc
  have HR := Lib.hid hr
  clear h hT hm hr hat
  obtain ⟨k, nm, da, up, KA, KN, KC, sh, ho, ow, fl⟩ := x
  unfold Arg.cells at *
  simp only at *
  go_enter Tryz.func24, Tryz.ntmps24
  go_wp2_with fail
  refine (HR.out _ (HT.out.below ((Below.refl _ _).alloc (Nat.le_refl _) _)) ((Below.refl _ _).alloc (Nat.le_refl _) _)).mono ?_
  rintro e w1 ⟨rfl, hb⟩
  rw [HM.out]
  have h1 := (H.out.alloc _).belowed hb
  have H1 := Lib.hid h1
  clear h1 hb
  go_wp2
  go_ret2
  exact ⟨rfl, H1.out⟩


set_option maxRecDepth 100000 in
set_option maxHeartbeats 1000000 in
theorem make_full_a (h : Sep W w (docR p B n lim R :: rs)) (hT : Laid W) (x : Arg) (A0 : Option Addr) (c : Nat) (l : List Attr) (hat : AttrsAt w A0 l) (hlc : l.length ≤ c) (hm : mayA x.kind x.name x.data l = true) (hn : n ≤ 5000) (hl : lim < n + 1) :
    Calls Tryz.prog 24 #[ptr p, .agg (x.cells A0 l.length c)] w fun e w' => e = .returned (.tuple #[int 0, .int .u16 3]) ∧ Sep W w' (docR p B n lim R :: rs) := by
  have H := Lib.hid h
  have HT := Lib.hid (hT.below h.below)
  have HM := Lib.hid hm
  have hr := fun w' (hw' : Laid w') (hb' : Below w.heap.size w w') => dright_a x A0 c l w' hw' (hat.keep hb') hlc
  have HR := Lib.hid hr
  have t1 : decide ((n : Int) + 1 ≤ lim) = false := by simp; omega
  have T1 := Lib.hid t1
  clear h hT hm hr hat t1
  obtain ⟨k, nm, da, up, KA, KN, KC, sh, ho, ow, fl⟩ := x
  unfold Arg.cells at *
  simp only at *
  go_enter Tryz.func24, Tryz.ntmps24
  go_wp2_with fail
  refine (HR.out _ (HT.out.below ((Below.refl _ _).alloc (Nat.le_refl _) _)) ((Below.refl _ _).alloc (Nat.le_refl _) _)).mono ?_
  rintro e w1 ⟨rfl, hb⟩
  rw [HM.out]
  have h1 := (H.out.alloc _).belowed hb
  have H1 := Lib.hid h1
  have c0 := (hb.cell (p := ⟨w.heap.size, 0, none⟩) (by simp)).trans (cell_alloc_new w _ _ 0)
  have c1 := (hb.cell (p := ⟨w.heap.size, 1, none⟩) (by simp)).trans (cell_alloc_new w _ _ 1)
  have c0' : w1.cell? ⟨w.heap.size, 0, none⟩ = some (.int .u8 k) := c0
  have c1' : w1.cell? ⟨w.heap.size, 1, none⟩ = some (.string nm) := c1
  clear h1 hb c0 c1
  by_cases hk : k = 1
  · subst hk
    go_wp2_with fail
    refine (room_sep H1.out 1 (by omega) (by omega) (by omega)).mono ?_
    rintro e w2 ⟨rfl, m, rfl⟩
    rw [T1.out]
    go_wp2
    go_ret2
    exact ⟨rfl, H1.out.drewN _⟩
  · have hk' : (k == 1) = false := by simpa using hk
    go_wp2_with fail
    refine (room_sep H1.out 1 (by omega) (by omega) (by omega)).mono ?_
    rintro e w2 ⟨rfl, m, rfl⟩
    rw [T1.out]
    go_wp2
    go_ret2
    exact ⟨rfl, H1.out.drewN _⟩


set_option maxRecDepth 100000 in
set_option maxHeartbeats 1000000 in
theorem make_full2_a (h : Sep W w (docR p B n lim R :: rs)) (hT : Laid W) (x : Arg) (A0 : Option Addr) (c : Nat) (l : List Attr) (hat : AttrsAt w A0 l) (hlc : l.length ≤ c) (hm : mayA x.kind x.name x.data l = true) (hn : n ≤ 5000) (hl : n + 1 ≤ lim) (hl2 : lim < n + 2) (ht : tmplB x.kind x.name = true) :
    Calls Tryz.prog 24 #[ptr p, .agg (x.cells A0 l.length c)] w fun e w' => e = .returned (.tuple #[int 0, .int .u16 3]) ∧ Sep W w' (docR p B n lim R :: rs) := by
  have H := Lib.hid h
  have HT := Lib.hid (hT.below h.below)
  have HM := Lib.hid hm
  have hr := fun w' (hw' : Laid w') (hb' : Below w.heap.size w w') => dright_a x A0 c l w' hw' (hat.keep hb') hlc
  have HR := Lib.hid hr
  have t1 : decide ((n : Int) + 1 ≤ lim) = true := by simp; omega
  have t2 : decide ((n : Int) + 2 ≤ lim) = false := by simp; omega
  have T1 := Lib.hid t1
  have T2 := Lib.hid t2
  clear h hT hm hr hat t1 t2
  obtain ⟨k, nm, da, up, KA, KN, KC, sh, ho, ow, fl⟩ := x
  obtain ⟨hk, hnm⟩ := tmpl_parts ht
  simp only at hk hnm
  subst hk
  clear ht
  unfold Arg.cells at *
  simp only at *
  go_enter Tryz.func24, Tryz.ntmps24
  go_wp2_with fail
  refine (HR.out _ (HT.out.below ((Below.refl _ _).alloc (Nat.le_refl _) _)) ((Below.refl _ _).alloc (Nat.le_refl _) _)).mono ?_
  rintro e w1 ⟨rfl, hb⟩
  rw [HM.out]
  have h1 := (H.out.alloc _).belowed hb
  have H1 := Lib.hid h1
  have c0 := (hb.cell (p := ⟨w.heap.size, 0, none⟩) (by simp)).trans (cell_alloc_new w _ _ 0)
  have c1 := (hb.cell (p := ⟨w.heap.size, 1, none⟩) (by simp)).trans (cell_alloc_new w _ _ 1)
  have c0' : w1.cell? ⟨w.heap.size, 0, none⟩ = some (.int .u8 1) := c0
  have c1' : w1.cell? ⟨w.heap.size, 1, none⟩ = some (.string nm) := c1
  clear h1 hb c0 c1
  go_wp2_with fail
  refine (room_sep H1.out 1 (by omega) (by omega) (by omega)).mono ?_
  rintro e w2 ⟨rfl, m, rfl⟩
  rw [T1.out]
  go_wp2_with fail
  refine (room_sep (H1.out.drewN m) 2 (by omega) (by omega) (by omega)).mono ?_
  rintro e w3 ⟨rfl, m2, rfl⟩
  rw [T2.out]
  go_wp2
  go_ret2
  exact ⟨rfl, H1.out.drewN _⟩


set_option maxRecDepth 100000 in
set_option maxHeartbeats 1000000 in
theorem make_plain_a (h : Sep W w (docR p B n lim R :: rs)) (hT : Laid W) (x : Arg) (A0 : Option Addr) (c : Nat) (l : List Attr) (hat : AttrsAt w A0 l) (hlc : l.length ≤ c) (hm : mayA x.kind x.name x.data l = true) (hn : n ≤ 5000) (hl : n + 1 ≤ lim) (ht : tmplB x.kind x.name = false) :
    Calls Tryz.prog 24 #[ptr p, .agg (x.cells A0 l.length c)] w fun e w' => e = .returned (.tuple #[int n, .int .u16 0]) ∧ ∃ B', Sep W w' (docR p B' (n + 1) lim (addR R n (newR x.kind x.name x.data l noFl)) :: rs) := by
  have H := Lib.hid h
  have HT := Lib.hid (hT.below h.below)
  have HM := Lib.hid hm
  have hr := fun w' (hw' : Laid w') (hb' : Below w.heap.size w w') => dright_a x A0 c l w' hw' (hat.keep hb') hlc
  have HAT := Lib.hid hat
  have hl50 := mayA_len hm
  have HR := Lib.hid hr
  have t1 : decide ((n : Int) + 1 ≤ lim) = true := by simpa using hl
  have hpB : p ≠ w.heap.size ∧ B ≠ w.heap.size := by obtain ⟨_, _, _, _, _, hC, _⟩ := docR_step h; exact ⟨Nat.ne_of_lt hC.pw, Nat.ne_of_lt hC.Bw⟩
  have T1 := Lib.hid t1
  clear h hT hm hr hat t1
  obtain ⟨k, nm, da, up, KA, KN, KC, sh, ho, ow, fl⟩ := x
  unfold Arg.cells at *
  simp only at *
  go_enter Tryz.func24, Tryz.ntmps24
  go_wp2_with fail
  refine (HR.out _ (HT.out.below ((Below.refl _ _).alloc (Nat.le_refl _) _)) ((Below.refl _ _).alloc (Nat.le_refl _) _)).mono ?_
  rintro e w1 ⟨rfl, hb⟩
  rw [HM.out]
  have h1 := (H.out.alloc _).belowed hb
  have H1 := Lib.hid h1
  have HA1 := Lib.hid (HAT.out.keep (((Below.refl _ _).alloc (Nat.le_refl _) _).trans (hb.mono (by simp))))
  have c0 := (hb.cell (p := ⟨w.heap.size, 0, none⟩) (by simp)).trans (cell_alloc_new w _ _ 0)
  have c1 := (hb.cell (p := ⟨w.heap.size, 1, none⟩) (by simp)).trans (cell_alloc_new w _ _ 1)
  have c2 := (hb.cell (p := ⟨w.heap.size, 2, none⟩) (by simp)).trans (cell_alloc_new w _ _ 2)
  have c3 := (hb.cell (p := ⟨w.heap.size, 3, none⟩) (by simp)).trans (cell_alloc_new w _ _ 3)
  have c0' : w1.cell? ⟨w.heap.size, 0, none⟩ = some (.int .u8 k) := c0
  have c1' : w1.cell? ⟨w.heap.size, 1, none⟩ = some (.string nm) := c1
  have c2' : w1.cell? ⟨w.heap.size, 2, none⟩ = some (.string da) := c2
  have c3' : w1.cell? ⟨w.heap.size, 3, none⟩ = some (.slice A0 l.length c) := c3
  have hgl : w.heap.size < w1.heap.size := by have := hb.size; simp at this; omega
  clear h1 hb c0 c1 c2 c3
  by_cases hk : k = 1
  · subst hk
    have hne : (nm.toList == [116, 101, 109, 112, 108, 97, 116, 101]) = false := by simpa [tmplB] using ht
    go_wp2_with fail
    refine (room_sep H1.out 1 (by omega) (by omega) (by omega)).mono ?_
    rintro e w2 ⟨rfl, m, hw2⟩
    rw [T1.out]
    have H2 := Lib.hid (hw2 ▸ H1.out.drewN m : Sep W w2 (docR p B n lim R :: rs))
    have HA2 := Lib.hid (show AttrsAt w2.drew A0 l from hw2 ▸ HA1.out)
    have d0 : w2.cell? ⟨w.heap.size, 0, none⟩ = some (.int .u8 1) := hw2 ▸ c0'
    have d1 : w2.cell? ⟨w.heap.size, 1, none⟩ = some (.string nm) := hw2 ▸ c1'
    have d2 : w2.cell? ⟨w.heap.size, 2, none⟩ = some (.string da) := hw2 ▸ c2'
    have d3 : w2.cell? ⟨w.heap.size, 3, none⟩ = some (.slice A0 l.length c) := hw2 ▸ c3'
    have hgl2 : w.heap.size < w2.heap.size := by rw [← hw2]; exact hgl
    clear c0' c1' c2' c3' hw2 hgl
    generalize hG : w.heap.size = g at d0 d1 d2 d3 hgl2 ⊢
    have hpg : p ≠ g ∧ B ≠ g := by rw [← hG]; exact hpB
    have Hpg := Lib.hid hpg
    have Hg2 := Lib.hid (show g < w2.drew.heap.size from hgl2)
    have HnB := Lib.hid (show ¬ (fun k : Nat => k = B ∨ k = p) g from fun h => h.elim (fun e => Hpg.out.2 e.symm) (fun e => Hpg.out.1 e.symm))
    clear hG hpg hgl2
    go_wp2
    have hS0 := makeSA (w := w2.drew) d0 d1 d2 d3
    have HS0 := Lib.hid hS0
    clear hS0
    go_region_held3 (fun w' => w'.cell? ⟨g, 0, none⟩ = some (.int .u8 1) ∧ w'.cell? ⟨g, 1, none⟩ = some (.string nm) ∧ w'.cell? ⟨g, 2, none⟩ = some (.string da) ∧ w'.cell? ⟨g, 3, none⟩ = some (.slice A0 l.length c))
      (first
        | with_reducible exact HS0.out
        | with_reducible exact makeKfA HS0.out hfa Hg2.out
        | with_reducible exact makeKA (makeKfA HS0.out hfa Hg2.out) hon HnB.out Hg3.out)
      ((first
        | (go_at_call 33; refine (cloneAttrsAt A0 c l _ HA2.out hl50 hlc).mono ?_; rintro e w3 ⟨va, rfl, hfa⟩; obtain ⟨A1, n1, c1, rfl⟩ := arow_form hfa; have H3 := Lib.hid (H2.out.drew.fresh hfa); have Hg3 := Lib.hid (Nat.lt_of_lt_of_le Hg2.out hfa.1.size))
        | (go_at_call 38; refine (add_sep H3.out 1 nm da noFl 0 0 0 0 0 0 0 0 0 (by omega)).mono ?_; rintro e w4 ⟨rfl, ⟨B', h4⟩, hon⟩; have H4 := Lib.hid h4; clear h4)))
    go_wp2
    go_ret2
    exact ⟨rfl, B', H4.out⟩
  · have hk' : (k == 1) = false := by simpa using hk
    go_wp2_with fail
    refine (room_sep H1.out 1 (by omega) (by omega) (by omega)).mono ?_
    rintro e w2 ⟨rfl, m, hw2⟩
    rw [T1.out]
    have H2 := Lib.hid (hw2 ▸ H1.out.drewN m : Sep W w2 (docR p B n lim R :: rs))
    have HA2 := Lib.hid (show AttrsAt w2.drew A0 l from hw2 ▸ HA1.out)
    have d0 : w2.cell? ⟨w.heap.size, 0, none⟩ = some (.int .u8 k) := hw2 ▸ c0'
    have d1 : w2.cell? ⟨w.heap.size, 1, none⟩ = some (.string nm) := hw2 ▸ c1'
    have d2 : w2.cell? ⟨w.heap.size, 2, none⟩ = some (.string da) := hw2 ▸ c2'
    have d3 : w2.cell? ⟨w.heap.size, 3, none⟩ = some (.slice A0 l.length c) := hw2 ▸ c3'
    have hgl2 : w.heap.size < w2.heap.size := by rw [← hw2]; exact hgl
    clear c0' c1' c2' c3' hw2 hgl
    generalize hG : w.heap.size = g at d0 d1 d2 d3 hgl2 ⊢
    have hpg : p ≠ g ∧ B ≠ g := by rw [← hG]; exact hpB
    have Hpg := Lib.hid hpg
    have Hg2 := Lib.hid (show g < w2.drew.heap.size from hgl2)
    have HnB := Lib.hid (show ¬ (fun k : Nat => k = B ∨ k = p) g from fun h => h.elim (fun e => Hpg.out.2 e.symm) (fun e => Hpg.out.1 e.symm))
    clear hG hpg hgl2
    go_wp2
    have hS0 := makeSA (w := w2.drew) d0 d1 d2 d3
    have HS0 := Lib.hid hS0
    clear hS0
    go_region_held3 (fun w' => w'.cell? ⟨g, 0, none⟩ = some (.int .u8 k) ∧ w'.cell? ⟨g, 1, none⟩ = some (.string nm) ∧ w'.cell? ⟨g, 2, none⟩ = some (.string da) ∧ w'.cell? ⟨g, 3, none⟩ = some (.slice A0 l.length c))
      (first
        | with_reducible exact HS0.out
        | with_reducible exact makeKfA HS0.out hfa Hg2.out
        | with_reducible exact makeKA (makeKfA HS0.out hfa Hg2.out) hon HnB.out Hg3.out)
      ((first
        | (go_at_call 33; refine (cloneAttrsAt A0 c l _ HA2.out hl50 hlc).mono ?_; rintro e w3 ⟨va, rfl, hfa⟩; obtain ⟨A1, n1, c1, rfl⟩ := arow_form hfa; have H3 := Lib.hid (H2.out.drew.fresh hfa); have Hg3 := Lib.hid (Nat.lt_of_lt_of_le Hg2.out hfa.1.size))
        | (go_at_call 38; refine (add_sep H3.out k nm da noFl 0 0 0 0 0 0 0 0 0 (by omega)).mono ?_; rintro e w4 ⟨rfl, ⟨B', h4⟩, hon⟩; have H4 := Lib.hid h4; clear h4)))
    go_wp2
    go_ret2
    exact ⟨rfl, B', H4.out⟩

set_option maxRecDepth 100000 in
set_option maxHeartbeats 2000000 in
theorem make_tmpl_a (h : Sep W w (docR p B n lim R :: rs)) (hT : Laid W) (x : Arg) (A0 : Option Addr) (c : Nat) (l : List Attr) (hat : AttrsAt w A0 l) (hlc : l.length ≤ c) (hm : mayA x.kind x.name x.data l = true) (hn : n ≤ 5000) (hl : n + 2 ≤ lim) (ht : tmplB x.kind x.name = true) :
    Calls Tryz.prog 24 #[ptr p, .agg (x.cells A0 l.length c)] w fun e w' => e = .returned (.tuple #[int n, .int .u16 0]) ∧
      ∃ B', Sep W w' (docR p B' (n + 1 + 1) lim (upd (upd (addR (addR R n (newR x.kind x.name x.data l noFl)) (n + 1) (newR 4 .empty .empty [] noFl)) n (.setOwn ((n + 1 : Nat) : Int))) ((n + 1 : Nat) : Int) (.setHost n)) :: rs) := by
  have H := Lib.hid h
  have HT := Lib.hid (hT.below h.below)
  have HM := Lib.hid hm
  have hr := fun w' (hw' : Laid w') (hb' : Below w.heap.size w w') => dright_a x A0 c l w' hw' (hat.keep hb') hlc
  have HAT := Lib.hid hat
  have hl50 := mayA_len hm
  have HR := Lib.hid hr
  have t1 : decide ((n : Int) + 1 ≤ lim) = true := by simp; omega
  have t2 : decide ((n : Int) + 2 ≤ lim) = true := by simp; omega
  have hpB : p ≠ w.heap.size ∧ B ≠ w.heap.size := by obtain ⟨_, _, _, _, _, hC, _⟩ := docR_step h; exact ⟨Nat.ne_of_lt hC.pw, Nat.ne_of_lt hC.Bw⟩
  have T1 := Lib.hid t1
  have T2 := Lib.hid t2
  clear h hT hm hr hat t1 t2
  obtain ⟨k, nm, da, up, KA, KN, KC, sh, ho, ow, fl⟩ := x
  obtain ⟨hk, hnm⟩ := tmpl_parts ht
  simp only at hk hnm
  subst hk
  clear ht
  unfold Arg.cells at *
  simp only at *
  go_enter Tryz.func24, Tryz.ntmps24
  go_wp2_with fail
  refine (HR.out _ (HT.out.below ((Below.refl _ _).alloc (Nat.le_refl _) _)) ((Below.refl _ _).alloc (Nat.le_refl _) _)).mono ?_
  rintro e w1 ⟨rfl, hb⟩
  rw [HM.out]
  have h1 := (H.out.alloc _).belowed hb
  have H1 := Lib.hid h1
  have HA1 := Lib.hid (HAT.out.keep (((Below.refl _ _).alloc (Nat.le_refl _) _).trans (hb.mono (by simp))))
  have c0 := (hb.cell (p := ⟨w.heap.size, 0, none⟩) (by simp)).trans (cell_alloc_new w _ _ 0)
  have c1 := (hb.cell (p := ⟨w.heap.size, 1, none⟩) (by simp)).trans (cell_alloc_new w _ _ 1)
  have c2 := (hb.cell (p := ⟨w.heap.size, 2, none⟩) (by simp)).trans (cell_alloc_new w _ _ 2)
  have c3 := (hb.cell (p := ⟨w.heap.size, 3, none⟩) (by simp)).trans (cell_alloc_new w _ _ 3)
  have c0' : w1.cell? ⟨w.heap.size, 0, none⟩ = some (.int .u8 1) := c0
  have c1' : w1.cell? ⟨w.heap.size, 1, none⟩ = some (.string nm) := c1
  have c2' : w1.cell? ⟨w.heap.size, 2, none⟩ = some (.string da) := c2
  have c3' : w1.cell? ⟨w.heap.size, 3, none⟩ = some (.slice A0 l.length c) := c3
  have hgl : w.heap.size < w1.heap.size := by have := hb.size; simp at this; omega
  clear h1 hb c0 c1 c2 c3
  go_wp2_with fail
  refine (room_sep H1.out 1 (by omega) (by omega) (by omega)).mono ?_
  rintro e w2a ⟨rfl, m1, rfl⟩
  rw [T1.out]
  go_wp2_with fail
  refine (room_sep (H1.out.drewN m1) 2 (by omega) (by omega) (by omega)).mono ?_
  rintro e w2 ⟨rfl, m, hw2⟩
  rw [T2.out]
  have H2 := Lib.hid (hw2 ▸ (H1.out.drewN m1).drewN m : Sep W w2 (docR p B n lim R :: rs))
  have HA2 := Lib.hid (show AttrsAt w2.drew A0 l from hw2 ▸ HA1.out)
  have d0 : w2.cell? ⟨w.heap.size, 0, none⟩ = some (.int .u8 1) := hw2 ▸ c0'
  have d1 : w2.cell? ⟨w.heap.size, 1, none⟩ = some (.string nm) := hw2 ▸ c1'
  have d2 : w2.cell? ⟨w.heap.size, 2, none⟩ = some (.string da) := hw2 ▸ c2'
  have d3 : w2.cell? ⟨w.heap.size, 3, none⟩ = some (.slice A0 l.length c) := hw2 ▸ c3'
  have hgl2 : w.heap.size < w2.heap.size := by rw [← hw2]; exact hgl
  clear c0' c1' c2' c3' hw2 hgl
  generalize hG : w.heap.size = g at d0 d1 d2 d3 hgl2 ⊢
  have hpg : p ≠ g ∧ B ≠ g := by rw [← hG]; exact hpB
  have Hpg := Lib.hid hpg
  have Hg2 := Lib.hid (show g < w2.drew.heap.size from hgl2)
  have HnB := Lib.hid (show ¬ (fun k : Nat => k = B ∨ k = p) g from fun h => h.elim (fun e => Hpg.out.2 e.symm) (fun e => Hpg.out.1 e.symm))
  clear hG hpg hgl2
  go_wp2
  have hS0 := makeSA (w := w2.drew) d0 d1 d2 d3
  have HS0 := Lib.hid hS0
  clear hS0
  go_region_held3 (fun w' => w'.cell? ⟨g, 0, none⟩ = some (.int .u8 1) ∧ w'.cell? ⟨g, 1, none⟩ = some (.string nm) ∧ w'.cell? ⟨g, 2, none⟩ = some (.string da) ∧ w'.cell? ⟨g, 3, none⟩ = some (.slice A0 l.length c))
    (first
      | with_reducible exact HS0.out
      | with_reducible exact makeKfA HS0.out hfa Hg2.out
      | with_reducible exact makeKA (makeKfA HS0.out hfa Hg2.out) hon HnB.out Hg3.out)
    ((first
      | (go_at_call 33; refine (cloneAttrsAt A0 c l _ HA2.out hl50 hlc).mono ?_; rintro e w3 ⟨va, rfl, hfa⟩; obtain ⟨A1, n1, c1, rfl⟩ := arow_form hfa; have H3 := Lib.hid (H2.out.drew.fresh hfa); have Hg3 := Lib.hid (Nat.lt_of_lt_of_le Hg2.out hfa.1.size))
      | (go_at_call 38; refine (add_sep H3.out 1 nm da noFl 0 0 0 0 0 0 0 0 0 (by omega)).mono ?_; rintro e w4 ⟨rfl, ⟨B', h4⟩, hon⟩; have H4 := Lib.hid h4; clear h4)))
  clear d0 d1 d2 d3
  obtain ⟨n1', hN⟩ : ∃ n1', n1' = n + 1 := ⟨_, rfl⟩
  have H4' := Lib.hid (hN ▸ H4.out : Sep W w4 (docR p B' n1' lim (addR R n (newR 1 nm da l noFl)) :: rs))
  have HN := Lib.hid hN
  clear H4
  have hnn : n < n1' + 1 ∧ n1' ≤ 1000000 ∧ n1' < n1' + 1 := by omega
  clear hN
  go_wp2_with fail
  refine (add_sep (Aa := none) (an := 0) (ac := 0) (l := []) (H4'.out.nilRow _ _ _) 4 .empty .empty noFl 0 0 0 0 0 0 0 0 0 hnn.2.1).mono ?_
  rintro e w5 ⟨rfl, ⟨B5, h5⟩, _⟩
  obtain ⟨cap, av, gv, Fa, Fg, hC, _, _, _, _, hfin⟩ := docR_step h5
  have h0 := hC.cell0
  have f0 := hC.frozenB
  have hpb : p ≠ B5 := hC.pb
  have fin := (hC.set (i := n) hnn.1 (k := 12) (by omega) (int (n1' : Int)) (.setOwn (n1' : Int)) (fun _ _ _ => rfl) (fun _ => rfl) (fun _ => rfl)).set (i := n1') hnn.2.2 (k := 11) (by omega) (int n) (.setHost n) (fun _ _ _ => rfl) (fun _ => rfl) (fun _ => rfl)
  have Fin := Lib.hid (hfin _ _ (((Only.refl _ w5).setCell (.inl (.inr (.inl rfl))) _).setCell (.inl (.inr (.inl rfl))) _) fin)
  have u12 := hC.cell (i := n) hnn.1 (k := 12) (by omega) rfl
  have hC2 := hC.set (i := n) hnn.1 (k := 12) (by omega) (int (n1' : Int)) (.setOwn (n1' : Int)) (fun _ _ _ => rfl) (fun _ => rfl) (fun _ => rfl)
  have h02 := hC2.cell0
  have f02 := hC2.frozenB
  have u11 := hC2.cell (i := n1') hnn.2.2 (k := 11) (by omega) rfl
  clear hC hfin h5 fin H4' hC2
  go_wp2
  go_ret2
  rw [← HN.out]
  exact ⟨rfl, B5, Fin.out⟩

theorem made_link_a (l : List Attr) (hl50 : l.length ≤ 50) (hw : WF A) (hl : Link A R) (k : Int) (nm da : ByteArray) (h : A.makeNo k nm = false) : Link (A.made k nm da l)
    (if tmplB k nm then upd (upd (addR (addR R A.n (newR k nm da l noFl)) (A.n + 1) (newR 4 .empty .empty [] noFl)) A.n (.setOwn ((A.n + 1 : Nat) : Int))) ((A.n + 1 : Nat) : Int) (.setHost A.n) else addR R A.n (newR k nm da l noFl)) := by
  unfold Doc.makeNo at h
  rw [Bool.or_eq_false_iff] at h
  have h1 : (A.n : Int) < A.lim := by have := h.1; simp at this; omega
  have l1 := hl.add hw k nm da l noFl
  have w1 := hw.add h1 k nm da l noFl hl50
  unfold Doc.made
  split
  · have l2 := l1.add w1 4 .empty .empty [] noFl
    have l3 := l2.set (i := A.n) (.setOwn ((A.n : Int) + 1)) (.setOwn ((A.n + 1 : Nat) : Int)) (fun x y s => ⟨s.kind, s.name, s.data, s.attrs, s.fl, s.up, s.shadow, s.host, by show ((A.n + 1 : Nat) : Int) = (A.n : Int) + 1; omega, s.slot, s.given⟩) (fun _ => rfl) (fun _ => rfl) (fun _ => ⟨rfl, rfl, rfl, rfl⟩)
    have l4 := l3.set (i := (A.n : Int) + 1) (.setHost A.n) (.setHost A.n) (fun x y s => ⟨s.kind, s.name, s.data, s.attrs, s.fl, s.up, s.shadow, rfl, s.own, s.slot, s.given⟩) (fun _ => rfl) (fun _ => rfl) (fun _ => ⟨rfl, rfl, rfl, rfl⟩)
    exact l4
  · exact l1
theorem make_no_arg_a (h : Sep W w rs) (hT : Laid W) (x : Arg) (A0 : Option Addr) (c : Nat) (l : List Attr) (hat : AttrsAt w A0 l) (hlc : l.length ≤ c) (hm : mayA x.kind x.name x.data l = false) :
    Calls Tryz.prog 24 #[ptr p, .agg (x.cells A0 l.length c)] w fun e w' => e = .returned (.tuple #[int 0, .int .u16 1]) ∧ Sep W w' rs := make_refused_a h hT x A0 c l hat hlc hm
theorem make_no_room_a (h : Sep W w (docA p A :: rs)) (hT : Laid W) (x : Arg) (A0 : Option Addr) (c : Nat) (l : List Attr) (hat : AttrsAt w A0 l) (hlc : l.length ≤ c) (hm : mayA x.kind x.name x.data l = true) (hf : A.makeNo x.kind x.name = true) :
    Calls Tryz.prog 24 #[ptr p, .agg (x.cells A0 l.length c)] w fun e w' => e = .returned (.tuple #[int 0, .int .u16 3]) ∧ Sep W w' (docA p A :: rs) := by
  obtain ⟨hw, B, R, hl, hS⟩ := docA_open h
  have hn := hw.n_le
  by_cases h1 : A.lim < A.n + 1
  · exact (make_full_a hS hT x A0 c l hat hlc hm hn h1).mono fun e w' ⟨he, h'⟩ => ⟨he, docA_close hw hl h'⟩
  · have ht : tmplB x.kind x.name = true ∧ A.lim < A.n + 2 := by
      unfold Doc.makeNo at hf
      rw [Bool.or_eq_true] at hf
      rcases hf with hf | hf
      · exact absurd (by simpa using hf) h1
      · rw [Bool.and_eq_true] at hf
        exact ⟨hf.1, by simpa using hf.2⟩
    exact (make_full2_a hS hT x A0 c l hat hlc hm hn (by omega) ht.2 ht.1).mono fun e w' ⟨he, h'⟩ => ⟨he, docA_close hw hl h'⟩
theorem make_yes_a (h : Sep W w (docA p A :: rs)) (hT : Laid W) (x : Arg) (A0 : Option Addr) (c : Nat) (l : List Attr) (hat : AttrsAt w A0 l) (hlc : l.length ≤ c) (hm : mayA x.kind x.name x.data l = true) (hf : A.makeNo x.kind x.name = false) :
    Calls Tryz.prog 24 #[ptr p, .agg (x.cells A0 l.length c)] w fun e w' => e = .returned (.tuple #[int A.n, .int .u16 0]) ∧ Sep W w' (docA p (A.made x.kind x.name x.data l) :: rs) := by
  obtain ⟨hw, B, R, hl, hS⟩ := docA_open h
  have hn := hw.n_le
  have hl' := made_link_a l (mayA_len hm) hw hl x.kind x.name x.data hf
  have hw' := hw.made hf x.data l (mayA_len hm)
  have hf' := hf
  unfold Doc.makeNo at hf'
  rw [Bool.or_eq_false_iff] at hf'
  have h1 : (A.n : Int) + 1 ≤ A.lim := by have := hf'.1; simp at this; omega
  have en := made_n A x.kind x.name x.data l
  have el := made_lim A x.kind x.name x.data l
  cases ht : tmplB x.kind x.name
  · rw [ht] at hl' en
    refine (make_plain_a hS hT x A0 c l hat hlc hm hn h1 ht).mono ?_
    rintro e w' ⟨rfl, B', h'⟩
    rw [show A.n + 1 = (A.made x.kind x.name x.data l).n from en.symm, ← el] at h'
    exact ⟨rfl, docA_close hw' hl' h'⟩
  · rw [ht] at hl' en
    have h2 : (A.n : Int) + 2 ≤ A.lim := by have := hf'.2; rw [ht] at this; simp at this; omega
    refine (make_tmpl_a hS hT x A0 c l hat hlc hm hn h2 ht).mono ?_
    rintro e w' ⟨rfl, B', h'⟩
    rw [show A.n + 1 + 1 = (A.made x.kind x.name x.data l).n from en.symm, ← el] at h'
    exact ⟨rfl, docA_close hw' hl' h'⟩
end
end Go.Proofs.YtgdmaikjaopddaaGreatDoor
