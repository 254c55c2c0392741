/- The document's own answer: Make of one node. -/
import Derived.Test.YtgdmaikjaopddaaGreatDoorJ28
namespace Go.Proofs.YtgdmaikjaopddaaGreatDoor
open Go.RowKit

section
variable {W w : World} {rs : List Res} {q : Nat} {A : Doc}
theorem make4 {g e : Nat} {k : Int} {nm da : ByteArray} {v3 v4 v5 v6 v7 v8 v9 v10 v11 v12 v13 : Value} (h : Sep W w (blk g e #[.int .u8 k, .string nm, .string da, v3, v4, v5, v6, v7, v8, v9, v10, v11, v12, v13] :: rs)) :
    w.cell? ⟨g, 0, none⟩ = some (.int .u8 k) ∧ w.cell? ⟨g, 1, none⟩ = some (.string nm) ∧ w.cell? ⟨g, 2, none⟩ = some (.string da) ∧ w.cell? ⟨g, 3, none⟩ = some v3 := ⟨h.blk_cell 0, h.blk_cell 1, h.blk_cell 2, h.blk_cell 3⟩
set_option maxRecDepth 100000 in
set_option maxHeartbeats 1000000 in
theorem rmake_one (h : Sep W w (refA q A :: rs)) (hw : WF A) (x : Arg) (A0 : Option Addr) (c : Nat) (l : List Attr) (hat : AttrsAt w A0 l) (hlc : l.length ≤ c) (hz : Sized l) (hnm : x.name.size ≤ 9223372036854775807) (hl5 : l.length ≤ 50) (hm : mayA x.kind x.name x.data l = true) (hT : tmplB x.kind x.name = false) (hf : A.n + 1 ≤ A.lim) :
    Calls Tryz.prog 48 #[ptr q, .agg (x.cells A0 l.length c)] w fun e w' => e = .returned (.tuple #[int A.n, int 0]) ∧ Sep W w' (refA q (A.add (newNd x.kind x.name x.data l noFl)) :: rs) := by
  have hn := hw.n_le
  have hlm := hw.lim
  have hle := hw.le
  have hpos := hw.pos
  obtain ⟨w1, hw1⟩ : ∃ w1, w1 = w.alloc (.cells (x.cells A0 l.length c) TNd) := ⟨_, rfl⟩
  have hb1 : Below w.heap.size w w1 := hw1 ▸ alloc_drewN w _ 0
  have hbl := h.blk_new (x.cells A0 l.length c) TNd
  rw [← hw1] at hbl
  obtain ⟨g, hg⟩ : ∃ g, g = w.heap.size := ⟨_, rfl⟩
  rw [← hg] at hbl
  have HR := Lib.hid (rright x A0 c l w1 (hat.keep hb1) hlc hz hnm)
  have HAt := Lib.hid (hat.keep hb1)
  clear hat hb1 hw hz
  obtain ⟨k, nm, da, up, KA, KN, KC, sh, ho, ow, fl⟩ := x
  simp only [Arg.cells] at *
  have HW1 := Lib.hid hw1
  have HG := Lib.hid hg
  have HB := Lib.hid hbl
  have f0 : w1.cell? ⟨g, 0, none⟩ = some (.int .u8 k) := hbl.blk_cell 0
  have f1 : w1.cell? ⟨g, 1, none⟩ = some (.string nm) := hbl.blk_cell 1
  have f2 : w1.cell? ⟨g, 2, none⟩ = some (.string da) := hbl.blk_cell 2
  have f3 : w1.cell? ⟨g, 3, none⟩ = some (.slice A0 l.length c) := hbl.blk_cell 3
  have f4 : w1.cell? ⟨g, 4, none⟩ = some (.int .i64 up) := hbl.blk_cell 4
  have f5 : w1.cell? ⟨g, 5, none⟩ = some (.slice KA KN KC) := hbl.blk_cell 5
  have f6 : w1.cell? ⟨g, 6, none⟩ = some (.int .i64 sh) := hbl.blk_cell 6
  have f7 : w1.cell? ⟨g, 7, none⟩ = some (.int .i64 ho) := hbl.blk_cell 7
  have f8 : w1.cell? ⟨g, 8, none⟩ = some (.int .i64 ow) := hbl.blk_cell 8
  have f9 : w1.cell? ⟨g, 9, none⟩ = some (.bool fl.closed) := hbl.blk_cell 9
  have f10 : w1.cell? ⟨g, 10, none⟩ = some (.bool fl.manual) := hbl.blk_cell 10
  have f11 : w1.cell? ⟨g, 11, none⟩ = some (.bool fl.delegates) := hbl.blk_cell 11
  have f12 : w1.cell? ⟨g, 12, none⟩ = some (.bool fl.serial) := hbl.blk_cell 12
  have f13 : w1.cell? ⟨g, 13, none⟩ = some (.bool fl.clonable) := hbl.blk_cell 13
  clear hw1 hg hbl h
  have HM := Lib.hid hm
  clear hm
  have K5 := Lib.hid (show (k != 5) = true by
    by_cases e : k = 5
    · rw [e] at HM; exact absurd HM.out (by simp [mayA, rightA, otherB])
    · simpa using e)
  have HL6 : l.length ≤ 1000000 := by omega
  have q1 : decide ((A.n : Int) ≥ A.lim) = false := by simp; omega
  have q2 : decide (A.lim ≤ (A.n : Int)) = false := by simp; omega
  have hn5 : A.n < 5000 := by omega
  by_cases hk : k = 1
  · have hk1 : (k == 1) = true := by simpa using hk
    have hT2 : (nm.toList == [116, 101, 109, 112, 108, 97, 116, 101]) = false := by
      unfold tmplB at hT; rw [hk1] at hT; simpa using hT
    clear hk hT
    go_enter Tryz.func48, Tryz.ntmps48
    go_wp2_with fail
    rw [HW1.out.symm, ← HG.out]
    go_wp2_with fail
    refine HR.out.mono ?_
    rintro e w2 ⟨rfl, hb2⟩
    rw [HM.out]
    have h2 := HB.out.belowed hb2
    obtain ⟨bN, cN, av, kv, c1, c0, _, _, _⟩ := ref_w h2.tail hpos
    have e0 : w2.cell? ⟨g, 0, none⟩ = some (.int .u8 k) := h2.blk_cell 0
    have e1 : w2.cell? ⟨g, 1, none⟩ = some (.string nm) := h2.blk_cell 1
    have e2 : w2.cell? ⟨g, 2, none⟩ = some (.string da) := h2.blk_cell 2
    have e3 : w2.cell? ⟨g, 3, none⟩ = some (.slice A0 l.length c) := h2.blk_cell 3
    have HA2 := Lib.hid (HAt.out.keep hb2)
    have H2 := Lib.hid h2
    clear hb2 h2 f0 f1 f2 f3 f4 f5 f6 f7 f8 f9 f10 f11 f12 f13
    go_wp2_with fail
    go_quiet (fail)
    go_wp2_with fail
    obtain ⟨w6, hw6⟩ : ∃ w6, w6 = w2.drewN nq := ⟨_, rfl⟩
    have cc : w6.drew.cell? ⟨g, 0, none⟩ = some (.int .u8 k) ∧ w6.drew.cell? ⟨g, 1, none⟩ = some (.string nm) ∧ w6.drew.cell? ⟨g, 2, none⟩ = some (.string da) ∧ w6.drew.cell? ⟨g, 3, none⟩ = some (.slice A0 l.length c) := hw6 ▸ ⟨e0, e1, e2, e3⟩
    rw [← hw6]
    have cc3 := cc.2.2.2
    have HA6 := Lib.hid (show AttrsAt w6.drew A0 l from HA2.out.keep (hw6 ▸ (Below.drewsN (Below.refl _ _) nq).drew))
    have H6 := Lib.hid (hw6 ▸ H2.out.drewN nq)
    clear hw6
    have HS0 := Lib.hid cc
    clear cc cc3
    go_region_held3 (fun w' => w'.cell? ⟨g, 0, none⟩ = some (.int .u8 k) ∧ w'.cell? ⟨g, 1, none⟩ = some (.string nm) ∧ w'.cell? ⟨g, 2, none⟩ = some (.string da) ∧ w'.cell? ⟨g, 3, none⟩ = some (.slice A0 l.length c))
      (first | with_reducible exact HS0.out | with_reducible exact make4 HB3.out | with_reducible exact make4 HB4.out)
      ((first
        | (go_at_call 79; refine (rattrs A0 c l _ HA6.out HL6).mono ?_; rintro e w3 ⟨v', rfl, hf⟩; have h3 := Sep.fresh (Sep.drew H6.out) hf; obtain ⟨a3, c3, rfl⟩ := Sep.arow_form h3; have HB3 := Lib.hid (Sep.swap h3); have H3 := Lib.hid (show Sep W w3 (arow (.slice a3 l.length c3) l :: refA q A :: _) from Sep.perm h3 (List.Perm.cons _ (List.Perm.swap _ _ _))); clear h3 hf)
        | (go_at_call 39; refine (radd_any k nm da l a3 l.length c3 0 noFl (-1) _ rfl (.inr ⟨K5.out, rfl⟩) H3.out hn5).mono ?_; rintro e w4 ⟨rfl, h4⟩; have HB4 := Lib.hid (Sep.swap h4); have H4 := Lib.hid h4; clear h4)))
    clear e0 e1 e2 e3
    go_wp2
    go_ret2
    exact ⟨rfl, H4.out.swap.tail⟩
  · have hk1 : (k == 1) = false := by simpa using hk
    clear hk hT
    go_enter Tryz.func48, Tryz.ntmps48
    go_wp2_with fail
    rw [HW1.out.symm, ← HG.out]
    go_wp2_with fail
    refine HR.out.mono ?_
    rintro e w2 ⟨rfl, hb2⟩
    rw [HM.out]
    have h2 := HB.out.belowed hb2
    obtain ⟨bN, cN, av, kv, c1, c0, _, _, _⟩ := ref_w h2.tail hpos
    have e0 : w2.cell? ⟨g, 0, none⟩ = some (.int .u8 k) := h2.blk_cell 0
    have e1 : w2.cell? ⟨g, 1, none⟩ = some (.string nm) := h2.blk_cell 1
    have e2 : w2.cell? ⟨g, 2, none⟩ = some (.string da) := h2.blk_cell 2
    have e3 : w2.cell? ⟨g, 3, none⟩ = some (.slice A0 l.length c) := h2.blk_cell 3
    have HA2 := Lib.hid (HAt.out.keep hb2)
    have H2 := Lib.hid h2
    clear hb2 h2 f0 f1 f2 f3 f4 f5 f6 f7 f8 f9 f10 f11 f12 f13
    go_wp2_with fail
    go_quiet (fail)
    go_wp2_with fail
    obtain ⟨w6, hw6⟩ : ∃ w6, w6 = w2.drewN nq := ⟨_, rfl⟩
    have cc : w6.drew.cell? ⟨g, 0, none⟩ = some (.int .u8 k) ∧ w6.drew.cell? ⟨g, 1, none⟩ = some (.string nm) ∧ w6.drew.cell? ⟨g, 2, none⟩ = some (.string da) ∧ w6.drew.cell? ⟨g, 3, none⟩ = some (.slice A0 l.length c) := hw6 ▸ ⟨e0, e1, e2, e3⟩
    rw [← hw6]
    have cc3 := cc.2.2.2
    have HA6 := Lib.hid (show AttrsAt w6.drew A0 l from HA2.out.keep (hw6 ▸ (Below.drewsN (Below.refl _ _) nq).drew))
    have H6 := Lib.hid (hw6 ▸ H2.out.drewN nq)
    clear hw6
    have HS0 := Lib.hid cc
    clear cc cc3
    go_region_held3 (fun w' => w'.cell? ⟨g, 0, none⟩ = some (.int .u8 k) ∧ w'.cell? ⟨g, 1, none⟩ = some (.string nm) ∧ w'.cell? ⟨g, 2, none⟩ = some (.string da) ∧ w'.cell? ⟨g, 3, none⟩ = some (.slice A0 l.length c))
      (first | with_reducible exact HS0.out | with_reducible exact make4 HB3.out | with_reducible exact make4 HB4.out)
      ((first
        | (go_at_call 79; refine (rattrs A0 c l _ HA6.out HL6).mono ?_; rintro e w3 ⟨v', rfl, hf⟩; have h3 := Sep.fresh (Sep.drew H6.out) hf; obtain ⟨a3, c3, rfl⟩ := Sep.arow_form h3; have HB3 := Lib.hid (Sep.swap h3); have H3 := Lib.hid (show Sep W w3 (arow (.slice a3 l.length c3) l :: refA q A :: _) from Sep.perm h3 (List.Perm.cons _ (List.Perm.swap _ _ _))); clear h3 hf)
        | (go_at_call 39; refine (radd_any k nm da l a3 l.length c3 0 noFl (-1) _ rfl (.inr ⟨K5.out, rfl⟩) H3.out hn5).mono ?_; rintro e w4 ⟨rfl, h4⟩; have HB4 := Lib.hid (Sep.swap h4); have H4 := Lib.hid h4; clear h4)))
    clear e0 e1 e2 e3
    go_wp2
    go_ret2
    exact ⟨rfl, H4.out.swap.tail⟩
end
end Go.Proofs.YtgdmaikjaopddaaGreatDoor

/- The document's own answer: Make of a template. -/
namespace Go.Proofs.YtgdmaikjaopddaaGreatDoor
open Go.RowKit

section
variable {W w : World} {rs : List Res} {q : Nat} {A : Doc}
set_option maxRecDepth 100000 in
set_option maxHeartbeats 1000000 in
theorem rmake_two (h : Sep W w (refA q A :: rs)) (hw : WF A) (x : Arg) (A0 : Option Addr) (c : Nat) (l : List Attr) (hat : AttrsAt w A0 l) (hlc : l.length ≤ c) (hz : Sized l) (hnm : x.name.size ≤ 9223372036854775807) (hl5 : l.length ≤ 50) (hm : mayA x.kind x.name x.data l = true) (hT : tmplB x.kind x.name = true) (hf : A.n + 2 ≤ A.lim) :
    Calls Tryz.prog 48 #[ptr q, .agg (x.cells A0 l.length c)] w fun e w' => e = .returned (.tuple #[int A.n, int 0]) ∧ Sep W w' (refA q (A.made x.kind x.name x.data l) :: rs) := by
  have hn := hw.n_le
  have hlm := hw.lim
  have hle := hw.le
  have hpos := hw.pos
  obtain ⟨w1, hw1⟩ : ∃ w1, w1 = w.alloc (.cells (x.cells A0 l.length c) TNd) := ⟨_, rfl⟩
  have hb1 : Below w.heap.size w w1 := hw1 ▸ alloc_drewN w _ 0
  have hbl := h.blk_new (x.cells A0 l.length c) TNd
  rw [← hw1] at hbl
  obtain ⟨g, hg⟩ : ∃ g, g = w.heap.size := ⟨_, rfl⟩
  rw [← hg] at hbl
  have HR := Lib.hid (rright x A0 c l w1 (hat.keep hb1) hlc hz hnm)
  have HAt := Lib.hid (hat.keep hb1)
  clear hat hb1 hw hz
  obtain ⟨k, nm, da, up, KA, KN, KC, sh, ho, ow, fl⟩ := x
  simp only [Arg.cells] at *
  have HW1 := Lib.hid hw1
  have HG := Lib.hid hg
  have HB := Lib.hid hbl
  have f0 : w1.cell? ⟨g, 0, none⟩ = some (.int .u8 k) := hbl.blk_cell 0
  have f1 : w1.cell? ⟨g, 1, none⟩ = some (.string nm) := hbl.blk_cell 1
  have f2 : w1.cell? ⟨g, 2, none⟩ = some (.string da) := hbl.blk_cell 2
  have f3 : w1.cell? ⟨g, 3, none⟩ = some (.slice A0 l.length c) := hbl.blk_cell 3
  have f4 : w1.cell? ⟨g, 4, none⟩ = some (.int .i64 up) := hbl.blk_cell 4
  have f5 : w1.cell? ⟨g, 5, none⟩ = some (.slice KA KN KC) := hbl.blk_cell 5
  have f6 : w1.cell? ⟨g, 6, none⟩ = some (.int .i64 sh) := hbl.blk_cell 6
  have f7 : w1.cell? ⟨g, 7, none⟩ = some (.int .i64 ho) := hbl.blk_cell 7
  have f8 : w1.cell? ⟨g, 8, none⟩ = some (.int .i64 ow) := hbl.blk_cell 8
  have f9 : w1.cell? ⟨g, 9, none⟩ = some (.bool fl.closed) := hbl.blk_cell 9
  have f10 : w1.cell? ⟨g, 10, none⟩ = some (.bool fl.manual) := hbl.blk_cell 10
  have f11 : w1.cell? ⟨g, 11, none⟩ = some (.bool fl.delegates) := hbl.blk_cell 11
  have f12 : w1.cell? ⟨g, 12, none⟩ = some (.bool fl.serial) := hbl.blk_cell 12
  have f13 : w1.cell? ⟨g, 13, none⟩ = some (.bool fl.clonable) := hbl.blk_cell 13
  clear hw1 hg hbl h
  have HM := Lib.hid hm
  clear hm
  have K5 := Lib.hid (show (k != 5) = true by
    by_cases e : k = 5
    · rw [e] at HM; exact absurd HM.out (by simp [mayA, rightA, otherB])
    · simpa using e)
  have HL6 : l.length ≤ 1000000 := by omega
  have q1 : decide ((A.n : Int) ≥ A.lim) = false := by simp; omega
  have q2 : decide (A.lim ≤ (A.n : Int)) = false := by simp; omega
  have hn5 : A.n < 5000 := by omega
  have HT := Lib.hid hT
  have hk : k = 1 ∧ (nm.toList == [116, 101, 109, 112, 108, 97, 116, 101]) = true := by
    unfold tmplB at hT; simpa using hT
  have q3 : decide ((A.n : Int) ≥ A.lim - 1) = false := by simp; omega
  have q4 : decide (A.lim - 1 ≤ (A.n : Int)) = false := by simp; omega
  have hn6 : A.n + 1 < 5000 := by omega
  obtain ⟨hk, hT2⟩ := hk
  have hk1 : (k == 1) = true := by simpa using hk
  clear hf hT hk
  go_enter Tryz.func48, Tryz.ntmps48
  go_wp2_with fail
  rw [HW1.out.symm, ← HG.out]
  go_wp2_with fail
  refine HR.out.mono ?_
  rintro e w2 ⟨rfl, hb2⟩
  rw [HM.out]
  have h2 := HB.out.belowed hb2
  obtain ⟨bN, cN, av, kv, c1, c0, _, _, _⟩ := ref_w h2.tail hpos
  have e0 : w2.cell? ⟨g, 0, none⟩ = some (.int .u8 k) := h2.blk_cell 0
  have e1 : w2.cell? ⟨g, 1, none⟩ = some (.string nm) := h2.blk_cell 1
  have e2 : w2.cell? ⟨g, 2, none⟩ = some (.string da) := h2.blk_cell 2
  have e3 : w2.cell? ⟨g, 3, none⟩ = some (.slice A0 l.length c) := h2.blk_cell 3
  have HA2 := Lib.hid (HAt.out.keep hb2)
  have H2 := Lib.hid h2
  clear hb2 h2 f0 f1 f2 f3 f4 f5 f6 f7 f8 f9 f10 f11 f12 f13
  go_wp2_with fail
  go_quiet (fail)
  go_wp2_with fail
  obtain ⟨w6, hw6⟩ : ∃ w6, w6 = w2.drewN nq := ⟨_, rfl⟩
  have cc : w6.drew.cell? ⟨g, 0, none⟩ = some (.int .u8 k) ∧ w6.drew.cell? ⟨g, 1, none⟩ = some (.string nm) ∧ w6.drew.cell? ⟨g, 2, none⟩ = some (.string da) ∧ w6.drew.cell? ⟨g, 3, none⟩ = some (.slice A0 l.length c) := hw6 ▸ ⟨e0, e1, e2, e3⟩
  rw [← hw6]
  have cc3 := cc.2.2.2
  have HA6 := Lib.hid (show AttrsAt w6.drew A0 l from HA2.out.keep (hw6 ▸ (Below.drewsN (Below.refl _ _) nq).drew))
  have H6 := Lib.hid (hw6 ▸ H2.out.drewN nq)
  clear hw6
  have HS0 := Lib.hid cc
  clear cc cc3
  go_region_held3 (fun w' => w'.cell? ⟨g, 0, none⟩ = some (.int .u8 k) ∧ w'.cell? ⟨g, 1, none⟩ = some (.string nm) ∧ w'.cell? ⟨g, 2, none⟩ = some (.string da) ∧ w'.cell? ⟨g, 3, none⟩ = some (.slice A0 l.length c))
    (first | with_reducible exact HS0.out | with_reducible exact make4 HB3.out | with_reducible exact make4 HB4.out)
    ((first
      | (go_at_call 79; refine (rattrs A0 c l _ HA6.out HL6).mono ?_; rintro e w3 ⟨v', rfl, hf⟩; have h3 := Sep.fresh (Sep.drew H6.out) hf; obtain ⟨a3, c3, rfl⟩ := Sep.arow_form h3; have HB3 := Lib.hid (Sep.swap h3); have H3 := Lib.hid (show Sep W w3 (arow (.slice a3 l.length c3) l :: refA q A :: _) from Sep.perm h3 (List.Perm.cons _ (List.Perm.swap _ _ _))); clear h3 hf)
      | (go_at_call 39; refine (radd_any k nm da l a3 l.length c3 0 noFl (-1) _ rfl (.inr ⟨K5.out, rfl⟩) H3.out hn5).mono ?_; rintro e w4 ⟨rfl, h4⟩; have HB4 := Lib.hid (Sep.swap h4); have H4 := Lib.hid h4; clear h4)))
  clear e0 e1 e2 e3
  go_wp2_with fail
  refine (radd_any (A := A.add (newNd k nm da l noFl)) 4 .empty .empty [] none 0 0 0 noFl (-1) _ rfl (.inr ⟨rfl, rfl⟩) ((H4.out.swap.tail).nilRow 67 2 none) hn6).mono ?_
  rintro e w5 ⟨he, h5⟩
  obtain rfl : e = .returned (int ((A.n + 1 : Nat) : Int)) := he
  obtain ⟨bN5, cN5, o1, o2, g1, g2, g3, g4, g5, g6⟩ := ref_w2 h5 (i1 := A.n + 1) (k1 := 7) (u1 := int A.n) (f1 := .setHost A.n) (i2 := A.n) (k2 := 8) (u2 := int (A.n + 1 : Nat)) (f2 := .setOwn (A.n + 1)) (show A.n + 1 < A.n + 1 + 1 by omega) (show A.n < A.n + 1 + 1 by omega) (by omega) (by omega) (fun _ _ _ => rfl) (fun _ _ _ => rfl) (fun _ => ⟨rfl, rfl, rfl⟩) (fun _ => ⟨rfl, rfl, rfl⟩)
  have HF := Lib.hid (ref_made HT.out g6)
  have g1' : w5.cell? ⟨q, 1, none⟩ = some (.slice (some ⟨bN5, 0, none⟩) (A.n + 1 + 1) cN5) := g1
  have g4' : (w5.setCell ⟨bN5, (A.n + 1) * 14 + 7, none⟩ (int A.n)).cell? ⟨q, 1, none⟩ = some (.slice (some ⟨bN5, 0, none⟩) (A.n + 1 + 1) cN5) := g4
  clear h5 g6 g1 g4
  go_wp2
  go_ret2
  exact ⟨rfl, HF.out⟩
end
end Go.Proofs.YtgdmaikjaopddaaGreatDoor

/- The document's own answer: Make, the walk. -/
namespace Go.Proofs.YtgdmaikjaopddaaGreatDoor
open Go.RowKit

section
variable {W w : World} {rs : List Res} {q : Nat} {A : Doc}
set_option maxRecDepth 100000 in
set_option maxHeartbeats 1000000 in
theorem rmake_no (h : Sep W w (refA q A :: rs)) (hw : WF A) (x : Arg) (A0 : Option Addr) (c : Nat) (l : List Attr) (hat : AttrsAt w A0 l) (hlc : l.length ≤ c) (hz : Sized l) (hnm : x.name.size ≤ 9223372036854775807) (hl6 : mayA x.kind x.name x.data l = true → l.length ≤ 50)
    (N E : Int) (D : Doc) (hN : N = A.makeI x.kind x.name x.data l) (hEE : E = A.makeE x.kind x.name x.data l) (hnz : A.makeE x.kind x.name x.data l ≠ 0) (hD : D = A.makeD x.kind x.name x.data l) :
    Calls Tryz.prog 48 #[ptr q, .agg (x.cells A0 l.length c)] w fun e w' => e = .returned (.tuple #[int N, int E]) ∧ Sep W w' (refA q D :: rs) := by
  have hn := hw.n_le
  have hlm := hw.lim
  have hle := hw.le
  have hpos := hw.pos
  obtain ⟨w1, hw1⟩ : ∃ w1, w1 = w.alloc (.cells (x.cells A0 l.length c) TNd) := ⟨_, rfl⟩
  have hb1 : Below w.heap.size w w1 := hw1 ▸ alloc_drewN w _ 0
  have hbl := h.blk_new (x.cells A0 l.length c) TNd
  rw [← hw1] at hbl
  obtain ⟨g, hg⟩ : ∃ g, g = w.heap.size := ⟨_, rfl⟩
  rw [← hg] at hbl
  have HR := Lib.hid (rright x A0 c l w1 (hat.keep hb1) hlc hz hnm)
  have HAt := Lib.hid (hat.keep hb1)
  have hNo := fun (h0 : A.makeE x.kind x.name x.data l ≠ 0) => (show E = A.makeE x.kind x.name x.data l ∧ N = 0 ∧ D = A from ⟨hEE, by rw [hN]; exact if_neg h0, by rw [hD]; exact if_neg h0⟩)
  have hM := fun (hm : mayA x.kind x.name x.data l = true) => (show A.makeE x.kind x.name x.data l = if A.makeNo x.kind x.name = true then 3 else 0 from if_pos hm)
  have hM1 := fun (hm : mayA x.kind x.name x.data l = false) => (show A.makeE x.kind x.name x.data l = 1 from if_neg (by rw [hm]; decide))
  clear hN hEE hD hat hb1 hw hz
  obtain ⟨k, nm, da, up, KA, KN, KC, sh, ho, ow, fl⟩ := x
  simp only [Arg.cells] at *
  have HW1 := Lib.hid hw1
  have HG := Lib.hid hg
  have HB := Lib.hid hbl
  have HNo := Lib.hid hNo
  have f0 : w1.cell? ⟨g, 0, none⟩ = some (.int .u8 k) := hbl.blk_cell 0
  have f1 : w1.cell? ⟨g, 1, none⟩ = some (.string nm) := hbl.blk_cell 1
  have f2 : w1.cell? ⟨g, 2, none⟩ = some (.string da) := hbl.blk_cell 2
  have f3 : w1.cell? ⟨g, 3, none⟩ = some (.slice A0 l.length c) := hbl.blk_cell 3
  have f4 : w1.cell? ⟨g, 4, none⟩ = some (.int .i64 up) := hbl.blk_cell 4
  have f5 : w1.cell? ⟨g, 5, none⟩ = some (.slice KA KN KC) := hbl.blk_cell 5
  have f6 : w1.cell? ⟨g, 6, none⟩ = some (.int .i64 sh) := hbl.blk_cell 6
  have f7 : w1.cell? ⟨g, 7, none⟩ = some (.int .i64 ho) := hbl.blk_cell 7
  have f8 : w1.cell? ⟨g, 8, none⟩ = some (.int .i64 ow) := hbl.blk_cell 8
  have f9 : w1.cell? ⟨g, 9, none⟩ = some (.bool fl.closed) := hbl.blk_cell 9
  have f10 : w1.cell? ⟨g, 10, none⟩ = some (.bool fl.manual) := hbl.blk_cell 10
  have f11 : w1.cell? ⟨g, 11, none⟩ = some (.bool fl.delegates) := hbl.blk_cell 11
  have f12 : w1.cell? ⟨g, 12, none⟩ = some (.bool fl.serial) := hbl.blk_cell 12
  have f13 : w1.cell? ⟨g, 13, none⟩ = some (.bool fl.clonable) := hbl.blk_cell 13
  clear hw1 hg hbl hNo h
  cases hm : mayA k nm da l
  case false =>
    have HM := Lib.hid hm
    have hE := hM1 hm
    have HE := Lib.hid (show E = 1 ∧ N = 0 ∧ D = A by have := HNo.out (by rw [hE]; decide); rwa [hE] at this)
    clear hm hM hM1 hl6 hE
    go_enter Tryz.func48, Tryz.ntmps48
    go_wp2_with fail
    rw [HW1.out.symm, ← HG.out]
    go_wp2_with fail
    refine HR.out.mono ?_
    rintro e w2 ⟨rfl, hb2⟩
    rw [HM.out]
    have H2 := Lib.hid (HB.out.belowed hb2)
    clear hb2 f0 f1 f2 f3 f4 f5 f6 f7 f8 f9 f10 f11 f12 f13
    go_wp2
    go_ret2
    exact ⟨by rw [HE.out.1, HE.out.2.1]; rfl, by rw [HE.out.2.2]; exact H2.out.tail⟩
  have HM := Lib.hid hm
  have hE0 := hM hm
  have HL5 := hl6 hm
  have HL6 : l.length ≤ 1000000 := by omega
  clear hm hM hM1 hl6
  have K5 := Lib.hid (show (k != 5) = true by
    by_cases e : k = 5
    · rw [e] at HM; exact absurd HM.out (by simp [mayA, rightA, otherB])
    · simpa using e)
  by_cases hf : A.lim < A.n + 1
  · have hE : A.makeE k nm da l = 3 := by rw [hE0, if_pos]; unfold Doc.makeNo; simp; left; omega
    have HE := Lib.hid (show E = 3 ∧ N = 0 ∧ D = A by have := HNo.out (by rw [hE]; decide); rwa [hE] at this)
    have q1 : decide ((A.n : Int) ≥ A.lim) = true := by simp; omega
    have q2 : decide (A.lim ≤ (A.n : Int)) = true := by simp; omega
    clear hE0 hE hf
    by_cases hk : k = 1
    · have hk1 : (k == 1) = true := by simpa using hk
      clear hk
      cases hT : (nm.toList == [116, 101, 109, 112, 108, 97, 116, 101])
      all_goals
        go_enter Tryz.func48, Tryz.ntmps48
        go_wp2_with fail
        rw [HW1.out.symm, ← HG.out]
        go_wp2_with fail
        refine HR.out.mono ?_
        rintro e w2 ⟨rfl, hb2⟩
        rw [HM.out]
        have h2 := HB.out.belowed hb2
        obtain ⟨bN, cN, av, kv, c1, c0, _, _, _⟩ := ref_w h2.tail hpos
        have e0 : w2.cell? ⟨g, 0, none⟩ = some (.int .u8 k) := h2.blk_cell 0
        have e1 : w2.cell? ⟨g, 1, none⟩ = some (.string nm) := h2.blk_cell 1
        have e2 : w2.cell? ⟨g, 2, none⟩ = some (.string da) := h2.blk_cell 2
        have e3 : w2.cell? ⟨g, 3, none⟩ = some (.slice A0 l.length c) := h2.blk_cell 3
        have HA2 := Lib.hid (HAt.out.keep hb2)
        have H2 := Lib.hid h2
        clear hb2 h2 f0 f1 f2 f3 f4 f5 f6 f7 f8 f9 f10 f11 f12 f13
        go_wp2_with fail
        go_quiet (fail)
        go_wp2
        go_ret2
        exact ⟨by rw [HE.out.1, HE.out.2.1]; rfl, by rw [HE.out.2.2]; exact H2.out.tail.drewN _⟩
    · have hk1 : (k == 1) = false := by simpa using hk
      go_enter Tryz.func48, Tryz.ntmps48
      go_wp2_with fail
      rw [HW1.out.symm, ← HG.out]
      go_wp2_with fail
      refine HR.out.mono ?_
      rintro e w2 ⟨rfl, hb2⟩
      rw [HM.out]
      have h2 := HB.out.belowed hb2
      obtain ⟨bN, cN, av, kv, c1, c0, _, _, _⟩ := ref_w h2.tail hpos
      have e0 : w2.cell? ⟨g, 0, none⟩ = some (.int .u8 k) := h2.blk_cell 0
      have e1 : w2.cell? ⟨g, 1, none⟩ = some (.string nm) := h2.blk_cell 1
      have e2 : w2.cell? ⟨g, 2, none⟩ = some (.string da) := h2.blk_cell 2
      have e3 : w2.cell? ⟨g, 3, none⟩ = some (.slice A0 l.length c) := h2.blk_cell 3
      have HA2 := Lib.hid (HAt.out.keep hb2)
      have H2 := Lib.hid h2
      clear hb2 h2 f0 f1 f2 f3 f4 f5 f6 f7 f8 f9 f10 f11 f12 f13
      go_wp2_with fail
      go_quiet (fail)
      go_wp2
      go_ret2
      exact ⟨by rw [HE.out.1, HE.out.2.1]; rfl, by rw [HE.out.2.2]; exact H2.out.tail.drewN _⟩
  have q1 : decide ((A.n : Int) ≥ A.lim) = false := by simp; omega
  have q2 : decide (A.lim ≤ (A.n : Int)) = false := by simp; omega
  have hn5 : A.n < 5000 := by omega
  cases hT : tmplB k nm
  · exact absurd (show A.makeE k nm da l = 0 by rw [hE0, if_neg]; unfold Doc.makeNo; rw [hT]; simp; omega) hnz
  · have hk : k = 1 ∧ (nm.toList == [116, 101, 109, 112, 108, 97, 116, 101]) = true := by
      unfold tmplB at hT; simpa using hT
    by_cases hf2 : A.lim < A.n + 2
    · have hE : A.makeE k nm da l = 3 := by rw [hE0, if_pos]; unfold Doc.makeNo; rw [hT]; simp; right; omega
      have HE := Lib.hid (show E = 3 ∧ N = 0 ∧ D = A by have := HNo.out (by rw [hE]; decide); rwa [hE] at this)
      have q3 : decide ((A.n : Int) ≥ A.lim - 1) = true := by simp; omega
      have q4 : decide (A.lim - 1 ≤ (A.n : Int)) = true := by simp; omega
      obtain ⟨hk, hT2⟩ := hk
      have hk1 : (k == 1) = true := by simpa using hk
      clear hE0 hE hf hf2 hT hk
      go_enter Tryz.func48, Tryz.ntmps48
      go_wp2_with fail
      rw [HW1.out.symm, ← HG.out]
      go_wp2_with fail
      refine HR.out.mono ?_
      rintro e w2 ⟨rfl, hb2⟩
      rw [HM.out]
      have h2 := HB.out.belowed hb2
      obtain ⟨bN, cN, av, kv, c1, c0, _, _, _⟩ := ref_w h2.tail hpos
      have e0 : w2.cell? ⟨g, 0, none⟩ = some (.int .u8 k) := h2.blk_cell 0
      have e1 : w2.cell? ⟨g, 1, none⟩ = some (.string nm) := h2.blk_cell 1
      have e2 : w2.cell? ⟨g, 2, none⟩ = some (.string da) := h2.blk_cell 2
      have e3 : w2.cell? ⟨g, 3, none⟩ = some (.slice A0 l.length c) := h2.blk_cell 3
      have HA2 := Lib.hid (HAt.out.keep hb2)
      have H2 := Lib.hid h2
      clear hb2 h2 f0 f1 f2 f3 f4 f5 f6 f7 f8 f9 f10 f11 f12 f13
      go_wp2_with fail
      go_quiet (fail)
      go_wp2
      go_ret2
      exact ⟨by rw [HE.out.1, HE.out.2.1]; rfl, by rw [HE.out.2.2]; exact H2.out.tail.drewN _⟩
    · exact absurd (show A.makeE k nm da l = 0 by rw [hE0, if_neg]; unfold Doc.makeNo; simp; constructor <;> omega) hnz
theorem rmake (h : Sep W w (refA q A :: rs)) (hw : WF A) (x : Arg) (A0 : Option Addr) (c : Nat) (l : List Attr) (hat : AttrsAt w A0 l) (hlc : l.length ≤ c) (hz : Sized l) (hnm : x.name.size ≤ 9223372036854775807) (hl6 : mayA x.kind x.name x.data l = true → l.length ≤ 50) :
    Calls Tryz.prog 48 #[ptr q, .agg (x.cells A0 l.length c)] w fun e w' => e = .returned (.tuple #[int (A.makeI x.kind x.name x.data l), int (A.makeE x.kind x.name x.data l)]) ∧ Sep W w' (refA q (A.makeD x.kind x.name x.data l) :: rs) := by
  by_cases hE : A.makeE x.kind x.name x.data l = 0
  · have hm : mayA x.kind x.name x.data l = true := by
      cases hm : mayA x.kind x.name x.data l
      · unfold Doc.makeE at hE; rw [if_neg (by rw [hm]; decide)] at hE; exact absurd hE (by decide)
      · rfl
    have hno : A.makeNo x.kind x.name = false := by
      cases hno : A.makeNo x.kind x.name
      · rfl
      · unfold Doc.makeE at hE; rw [if_pos hm, if_pos hno] at hE; exact absurd hE (by decide)
    have hI : A.makeI x.kind x.name x.data l = A.n := if_pos hE
    have hD : A.makeD x.kind x.name x.data l = A.made x.kind x.name x.data l := if_pos hE
    rw [hI, hE, hD]
    unfold Doc.makeNo at hno
    cases hT : tmplB x.kind x.name
    · have hd : A.made x.kind x.name x.data l = A.add (newNd x.kind x.name x.data l noFl) := by unfold Doc.made; rw [hT]; rfl
      rw [hd]
      exact rmake_one h hw x A0 c l hat hlc hz hnm (hl6 hm) hm hT (by simp at hno; omega)
    · exact rmake_two h hw x A0 c l hat hlc hz hnm (hl6 hm) hm hT (by rw [hT] at hno; simp at hno; omega)
  · exact rmake_no h hw x A0 c l hat hlc hz hnm hl6 _ _ _ rfl rfl hE rfl
end
end Go.Proofs.YtgdmaikjaopddaaGreatDoor
