/- The document's own answer: Set, Drop. -/
import Derived.Test.YtgdmaikjaopddaaGreatDoorJ23
import Derived.Test.YtgdmaikjaopddaaGreatDoorJ19
namespace Go.Proofs.YtgdmaikjaopddaaGreatDoor
open Go.RowKit

section
variable {W w : World} {rs : List Res} {q : Nat} {A : Doc}
/-- opened, ahead of a new row of attributes -/
theorem ref_at_a {v : Value} {l' : List Attr} (h : Sep W w (arow v l' :: refA q A :: rs)) (hw : WF A) : ∃ bN cN bG cG av kv gv, RefV w q A bN cN bG cG av kv gv ∧ (∀ o, w.frozen? ⟨bN, o, none⟩ = false) ∧
    ∀ j, j < A.n → Sep W (w.setCell ⟨bN, j * 14 + 3, none⟩ v) (refA q (A.set j (.setAttrs l')) :: rs) := by
  obtain ⟨bN, cN, bG, cG, av, kv, gv, V, hS, fq, fN, fG⟩ := ref_at h.swap hw
  exact ⟨bN, cN, bG, cG, av, kv, gv, V, fN, fun j hj => ref_close (ref_attrs hS rfl hj)⟩

set_option maxRecDepth 100000 in
set_option maxHeartbeats 2000000 in
theorem rset (h : Sep W w (refA q A :: rs)) (hw : WF A) (i : Int) (nm v : ByteArray) (hs : nm.size ≤ 9223372036854775807) :
    Calls Tryz.prog 43 #[ptr q, int i, .string nm, .string v] w fun e w' => e = .returned (int (A.setE i nm v)) ∧ Sep W w' (refA q (A.setA i nm v) :: rs) := by
  have HEl := Lib.hid (relement h hw i)
  have H := Lib.hid h
  by_cases he : A.elemE i = 0
  case neg =>
    have hE : A.setE i nm v = A.elemE i := by
      unfold Doc.elemE at he ⊢; unfold Doc.setE
      by_cases hi : A.In i
      · rw [if_pos hi] at he ⊢
        by_cases hk : (A.nd i).kind = 1
        · rw [if_pos hk] at he; exact absurd rfl he
        · rw [if_pos hi, if_neg hk, if_neg hk]
      · rw [if_neg hi, if_neg hi]
    have hA : A.setA i nm v = A := by unfold Doc.setA; rw [if_neg (by rw [hE]; exact he)]
    have HE := Lib.hid hE
    have HA := Lib.hid hA
    have t1 : (A.elemE i != 0) = true := by simpa using he
    clear h hw hE hA he
    go_enter Tryz.func43, Tryz.ntmps43
    go_wp2_with fail
    refine HEl.out.mono ?_
    rintro e w' ⟨rfl, rfl⟩
    go_wp2
    go_ret
    exact ⟨by rw [HE.out]; rfl, by rw [HA.out]; exact H.out⟩
  have hi : A.In i := by
    by_cases hi : A.In i
    · exact hi
    · unfold Doc.elemE at he; rw [if_neg hi] at he; exact absurd he (by decide)
  have hk : (A.nd i).kind = 1 := by
    by_cases hk : (A.nd i).kind = 1
    · exact hk
    · unfold Doc.elemE at he; rw [if_pos hi, if_neg hk] at he; exact absurd he (by decide)
  have hE0 : A.setE i nm v = if writB nm v = true ∧ (hasB (A.nd i).attrs nm = true ∨ (A.nd i).attrs.length < 50) then 0 else 82 := by unfold Doc.setE; rw [if_pos hi, if_pos hk]
  have HE0 := Lib.hid hE0
  have HEE := Lib.hid he
  obtain ⟨j, rfl, hj⟩ := icast hi.1 hi.2
  obtain ⟨bN, cN, bG, cG, av, kv, gv, V⟩ := ref_view h hw
  obtain ⟨l, hll⟩ : ∃ l, l = (A.nd j).attrs := ⟨_, rfl⟩
  obtain ⟨a, c, hav, hc1, hc2, hat⟩ := V.a j hj
  have hl50 := hw.att j hi
  rw [← hll] at hav hc1 hat hl50 hE0
  have hn := hw.n_le
  have Hw := Lib.hid hw
  have Hll := Lib.hid hll
  have HAV := Lib.hid hav
  obtain ⟨w1, hw1⟩ : ∃ w1, w1 = w.alloc (.cells #[.string nm, .string v] TAttr) := ⟨_, rfl⟩
  have hb1 : Below w.heap.size w w1 := hw1 ▸ alloc_drewN w _ 0
  have H1 := Lib.hid (h.belowed hb1)
  have V1 := Lib.hid (V.keep hb1)
  have HAt := Lib.hid (hat.keep hb1)
  have HW1 := Lib.hid hw1
  have ca : w1.cell? ⟨w.heap.size, 0, none⟩ = some (.string nm) := hw1 ▸ World.cell?_alloc_at _ _ _ _ (by simp)
  have ca1 : w1.cell? ⟨w.heap.size, 1, none⟩ = some (.string v) := hw1 ▸ World.cell?_alloc_at _ _ _ _ (by simp)
  obtain ⟨g, hg⟩ : ∃ g, g = w.heap.size := ⟨_, rfl⟩
  rw [← hg] at ca ca1
  have HG := Lib.hid hg
  have HK := Lib.hid (fun (w' : World) (hb : Below w1.heap.size w1 w') => And.intro ((hb.cell (p := ⟨g, 0, none⟩) (World.block_lt_of_cell? w1 ⟨g, 0, none⟩ ca)).trans ca) ((hb.cell (p := ⟨g, 1, none⟩) (World.block_lt_of_cell? w1 ⟨g, 1, none⟩ ca1)).trans ca1))
  obtain ⟨i0, hi0, hz0, hz1, hz2⟩ := info_parts infoAttr
  have hl50' : l.length ≤ 1000000 := by omega
  have HF := Lib.hid (rfind H1.out hw j hj nm)
  clear h hw he hi hk hE0 V hll hav hat hb1 hw1 hg
  go_enter Tryz.func43, Tryz.ntmps43
  go_wp2_with fail
  refine HEl.out.mono ?_
  rintro e w' ⟨rfl, rfl⟩
  rw [HEE.out]
  go_wp2_with fail
  rw [← HW1.out, ← HG.out]
  refine HF.out.mono ?_
  rintro e w2 ⟨⟨r, rfl, hr⟩, rfl⟩
  rw [← Hll.out] at hr
  have HR := Lib.hid hr
  clear hr
  go_wp2_with fail
  refine (rwritable nm v hs w1).mono ?_
  rintro e w3 ⟨rfl, hb3⟩
  obtain ⟨d0, d1⟩ := HK.out _ hb3
  have V3 := V1.out.keep hb3
  have c1 := V3.N
  have u3 := V3.c3 hj
  rw [HAV.out] at u3
  have H3 := Lib.hid (H1.out.belowed hb3)
  have HA3 := Lib.hid (HAt.out.keep hb3)
  clear hb3 ca ca1 V3
  cases hwb : writB nm v
  · have hE : A.setE j nm v = 82 := by rw [HE0.out, if_neg (by rw [hwb]; simp)]
    have HE := Lib.hid hE
    have HS := Lib.hid (show Sep W w3 (refA q (A.setA j nm v) :: rs) by unfold Doc.setA; rw [if_neg (by rw [hE]; decide)]; exact H3.out)
    clear hE hwb
    go_wp2
    go_ret
    exact ⟨by rw [HE.out]; rfl, HS.out⟩
  · rcases HR.out.cases with ⟨hr1, hno⟩ | ⟨hyes, hr1, hix⟩
    · subst hr1
      by_cases h50 : l.length < 50
      · have hE : A.setE j nm v = 0 := by rw [HE0.out, if_pos]; exact ⟨hwb, .inr (by rw [← Hll.out]; exact h50)⟩
        have HE := Lib.hid hE
        have hA : A.setA j nm v = A.set j (.setAttrs (l ++ [(nm, v)])) := by
          unfold Doc.setA
          rw [if_pos hE, ← Hll.out]; unfold putAttr; rw [hno]; rfl
        have HA := Lib.hid hA
        have t1 : decide ((l.length : Int) ≥ 50) = false := by simp; omega
        have t2 : decide ((50 : Int) ≤ l.length) = false := by simp; omega
        have hx1 : l.length + 1 ≤ maxLen := by unfold maxLen; omega
        have hx2 : (l.length + 1) * 32 ≤ 140737488355328 := by omega
        clear hE hA hwb hno
        go_wp2_with fail
        refine (rattrs a c l w3 HA3.out hl50').mono ?_
        rintro e w4 ⟨v4, rfl, hf⟩
        have h4 := H3.out.fresh hf
        obtain ⟨a4, c4, rfl⟩ := row_form h4
        have H4 := Lib.hid (show Sep W w4 (row TAttr 2 (.slice a4 l.length c4) l.length (acells l) :: refA q A :: rs) from h4)
        have e0 := (hf.1.cell (p := ⟨g, 0, none⟩) (World.block_lt_of_cell? w3 ⟨g, 0, none⟩ d0)).trans d0
        have e1 := (hf.1.cell (p := ⟨g, 1, none⟩) (World.block_lt_of_cell? w3 ⟨g, 1, none⟩ d1)).trans d1
        clear h4 hf d0 d1 c1 u3 H3 HA3
        go_wp2_with (at_builtin; refine wpList_app rfl (.tmp 56) (.tmp 58) 30 rfl Tryz.underlying30 hi0 hz0 hz1 hz2 rfl (by decide) rfl (H4.out.alloc _) _ _ _ [.string nm, .string v] rfl (src_block (heap_alloc_new w4 (.cells #[.string nm, .string v] TAttr)) rfl) (by intro u hu; simp at hu; rcases hu with rfl | rfl <;> rfl) hx1 hx2 ?_; intro v8 w8 hv8; have hv9 : Sep W w8 (arow v8 (l ++ [(nm, v)]) :: refA q A :: rs) := (by unfold arow; rw [List.length_append, acells_append]; exact hv8); obtain ⟨a8, c8, rfl⟩ := row_form hv8; obtain ⟨bN, cN, bG, cG, av, kv, gv, V8, f8, hfin⟩ := ref_at_a hv9 Hw.out; have c8' := V8.N; have u8 := V8.c3 hj; have HFin := Lib.hid (hfin j hj); clear hv8 hv9 V8 hfin)
        go_ret
        exact ⟨by rw [HE.out]; rfl, by rw [HA.out]; exact HFin.out⟩
      · have hE : A.setE j nm v = 82 := by rw [HE0.out, if_neg]; rw [← Hll.out, hno]; simp; omega
        have HE := Lib.hid hE
        have HS := Lib.hid (show Sep W w3 (refA q (A.setA j nm v) :: rs) by unfold Doc.setA; rw [if_neg (by rw [hE]; decide)]; exact H3.out)
        have t1 : decide ((l.length : Int) ≥ 50) = true := by simp; omega
        have t2 : decide ((50 : Int) ≤ l.length) = true := by simp; omega
        clear hE hwb hno
        go_wp2
        go_ret
        exact ⟨by rw [HE.out]; rfl, HS.out⟩
    · subst hr1
      obtain ⟨k, hk⟩ : ∃ k, k = idxOf l nm := ⟨_, rfl⟩
      rw [← hk] at hix ⊢
      have hE : A.setE j nm v = 0 := by rw [HE0.out, if_pos]; exact ⟨hwb, .inl (by rw [← Hll.out]; exact hyes)⟩
      have HE := Lib.hid hE
      have hA : A.setA j nm v = A.set j (.setAttrs (l.set k (nm, v))) := by
        unfold Doc.setA
        rw [if_pos hE, ← Hll.out]; unfold putAttr; rw [hyes, ← hk]; rfl
      have HA := Lib.hid hA
      have t1 : (0 : Int) ≤ k := by omega
      have t2 : (k : Int) < l.length := by omega
      clear hE hA hwb hyes hk
      go_wp2_with fail
      refine (rattrs a c l w3 HA3.out hl50').mono ?_
      rintro e w4 ⟨v4, rfl, hf⟩
      have h4 : Sep W w4 (arow v4 l :: refA q A :: rs) := H3.out.fresh hf
      have e0 := (hf.1.cell (p := ⟨g, 0, none⟩) (World.block_lt_of_cell? w3 ⟨g, 0, none⟩ d0)).trans d0
      have e1 := (hf.1.cell (p := ⟨g, 1, none⟩) (World.block_lt_of_cell? w3 ⟨g, 1, none⟩ d1)).trans d1
      obtain ⟨G, hG, hlt, hst⟩ := h4.step
      obtain ⟨g4, c4, cur, rfl, hg2, _, _, _, hg4, hg6⟩ := rowHolds.parts hG (by omega)
      have fz : ∀ o, w4.frozen? ⟨g4, o, none⟩ = false := fun o => by simp [World.frozen?, hg2]
      have hc2 : ∀ o u, (acells l)[o]? = some u → w4.cell? ⟨g4, o, none⟩ = some u := fun o u hu => by
        rw [cell_of_row w4 g4 o cur TAttr (0, 0) hg2]
        rw [← hg4, List.getElem?_take] at hu
        split at hu
        · simpa using hu
        · cases hu
      have z := acells_at hix
      have z0 := hc2 _ _ z.1
      have z1 := hc2 _ _ z.2
      have hFg : G g4 := (hg6 _).2 rfl
      have h5 := hst _ G _ (((Only.refl _ _).setCell (p := ⟨g4, k * 2, none⟩) (.inl hFg) (.string nm)).setCell (p := ⟨g4, k * 2 + 1, none⟩) (.inl hFg) (.string v)) (arow_set hG hix nm v) (fun _ hk => .inl hk)
      obtain ⟨bN, cN, bG, cG, av, kv, gv, V8, f8, hfin⟩ := ref_at_a h5 Hw.out
      have c8' := V8.N
      have u8 := V8.c3 hj
      have HFin := Lib.hid (hfin j hj)
      clear h4 hf d0 d1 c1 u3 H3 HA3 hG hlt hst hg2 hg4 hg6 hc2 z hFg h5 V8 hfin
      go_wp2
      go_ret
      exact ⟨by rw [HE.out]; rfl, by rw [HA.out]; exact HFin.out⟩

theorem AttrsAt.drop {w : World} {b o : Nat} {l : List Attr} (h : AttrsAt w (some ⟨b, o, none⟩) l) (n : Nat) : AttrsAt w (some ⟨b, o + n * 2, none⟩) (l.drop n) :=
  ⟨by rw [List.length_drop]; have := h.1; omega, fun k hk => by
    rw [List.length_drop] at hk
    obtain ⟨b', o', e, h1, h2⟩ := h.2 (n + k) (by omega)
    injection e with e
    injection e with e1 e2
    subst e1; subst e2
    refine ⟨b, _, rfl, ?_, ?_⟩
    · rw [List.getElem_drop, show o + n * 2 + k * 2 = o + (n + k) * 2 by omega]; exact h1
    · rw [List.getElem_drop, show o + n * 2 + k * 2 + 1 = o + (n + k) * 2 + 1 by omega]; exact h2⟩

set_option maxRecDepth 100000 in
set_option maxHeartbeats 2000000 in
theorem rdrop (h : Sep W w (refA q A :: rs)) (hw : WF A) (i : Int) (nm : ByteArray) :
    Calls Tryz.prog 44 #[ptr q, int i, .string nm] w fun e w' => e = .returned (int (A.dropE i nm)) ∧ Sep W w' (refA q (A.dropA i nm) :: rs) := by
  have HEl := Lib.hid (relement h hw i)
  have H := Lib.hid h
  by_cases he : A.elemE i = 0
  case neg =>
    have hE : A.dropE i nm = A.elemE i := by
      unfold Doc.elemE at he ⊢; unfold Doc.dropE
      by_cases hi : A.In i
      · rw [if_pos hi] at he ⊢
        by_cases hk : (A.nd i).kind = 1
        · rw [if_pos hk] at he; exact absurd rfl he
        · rw [if_pos hi, if_neg hk, if_neg hk]
      · rw [if_neg hi, if_neg hi]
    have hA : A.dropA i nm = A := by unfold Doc.dropA; rw [if_neg (by rw [hE]; exact he)]
    have HE := Lib.hid hE
    have HA := Lib.hid hA
    have t1 : (A.elemE i != 0) = true := by simpa using he
    clear h hw hE hA he
    go_enter Tryz.func44, Tryz.ntmps44
    go_wp2_with fail
    refine HEl.out.mono ?_
    rintro e w' ⟨rfl, rfl⟩
    go_wp2
    go_ret
    exact ⟨by rw [HE.out]; rfl, by rw [HA.out]; exact H.out⟩
  have hi : A.In i := by
    by_cases hi : A.In i
    · exact hi
    · unfold Doc.elemE at he; rw [if_neg hi] at he; exact absurd he (by decide)
  have hk : (A.nd i).kind = 1 := by
    by_cases hk : (A.nd i).kind = 1
    · exact hk
    · unfold Doc.elemE at he; rw [if_pos hi, if_neg hk] at he; exact absurd he (by decide)
  have hE0 : A.dropE i nm = if hasB (A.nd i).attrs nm = true then 0 else 82 := by unfold Doc.dropE; rw [if_pos hi, if_pos hk]
  have HE0 := Lib.hid hE0
  have HEE := Lib.hid he
  obtain ⟨j, rfl, hj⟩ := icast hi.1 hi.2
  obtain ⟨bN, cN, bG, cG, av, kv, gv, V⟩ := ref_view h hw
  obtain ⟨l, hll⟩ : ∃ l, l = (A.nd j).attrs := ⟨_, rfl⟩
  obtain ⟨a, c, hav, hc1, hc2, hat⟩ := V.a j hj
  have hl50 := hw.att j hi
  rw [← hll] at hav hc1 hat hl50 hE0
  have hn := hw.n_le
  have Hw := Lib.hid hw
  have Hll := Lib.hid hll
  have HAt := Lib.hid hat
  have HV := Lib.hid V
  have HAV := Lib.hid hav
  have c1 := V.N
  have u3 := V.c3 hj
  rw [hav] at u3
  obtain ⟨i0, hi0, hz0, hz1, hz2⟩ := info_parts infoAttr
  have HF := Lib.hid (rfind h hw j hj nm)
  have hc3 : c ≤ 9223372036854775807 := hc2
  clear h hw he hi hk hE0 V hll hav hat hc2
  go_enter Tryz.func44, Tryz.ntmps44
  go_wp2_with fail
  refine HEl.out.mono ?_
  rintro e w' ⟨rfl, rfl⟩
  rw [HEE.out]
  go_wp2_with fail
  refine HF.out.mono ?_
  rintro e w2 ⟨⟨r, rfl, hr⟩, rfl⟩
  rw [← Hll.out] at hr
  rcases hr.cases with ⟨hr1, hno⟩ | ⟨hyes, hr1, hix⟩
  · subst hr1
    have hE : A.dropE j nm = 82 := by rw [HE0.out, if_neg]; rw [← Hll.out, hno]; simp
    have HE := Lib.hid hE
    have HS := Lib.hid (show Sep W w (refA q (A.dropA j nm) :: rs) by unfold Doc.dropA; rw [if_neg (by rw [hE]; decide)]; exact H.out)
    clear hE hno hr
    go_wp2
    go_ret
    exact ⟨by rw [HE.out]; rfl, HS.out⟩
  · subst hr1
    obtain ⟨k, hk⟩ : ∃ k, k = idxOf l nm := ⟨_, rfl⟩
    rw [← hk] at hix ⊢
    have hE : A.dropE j nm = 0 := by rw [HE0.out, if_pos]; rw [← Hll.out]; exact hyes
    have HE := Lib.hid hE
    have hA : A.dropA j nm = A.set j (.setAttrs (l.take k ++ l.drop (k + 1))) := by
      unfold Doc.dropA
      rw [if_pos hE, ← Hll.out]; unfold dropAttr; rw [← hk, List.eraseIdx_eq_take_drop_succ]
    have HA := Lib.hid hA
    obtain ⟨b, o, rfl, _, _⟩ := HAt.out.at (by omega)
    have hT : AttrsAt w (some ⟨b, o, none⟩) (l.take k) := HAt.out.take k
    have hD : AttrsAt w (some ⟨b, o + (k + 1) * 2, none⟩) (l.drop (k + 1)) := HAt.out.drop (k + 1)
    have HTk := Lib.hid hT
    have HDr := Lib.hid hD
    obtain ⟨t, ht⟩ : ∃ t, t = l.take k := ⟨_, rfl⟩
    obtain ⟨d, hd⟩ : ∃ d, d = l.drop (k + 1) := ⟨_, rfl⟩
    have htl : t.length = k := by rw [ht, List.length_take]; omega
    have hdl : d.length = l.length - (k + 1) := by rw [hd, List.length_drop]
    rw [← ht, ← hd] at HA
    rw [← ht] at HTk
    rw [← hd] at HDr
    have hl6 : t.length ≤ 1000000 := by omega
    have t1 : (0 : Int) ≤ k := by omega
    have t2 : (k : Int) ≤ c := by omega
    have t3 : (k : Int) + 1 ≤ l.length := by omega
    have hx1 : k + (l.length - (k + 1)) ≤ maxLen := by unfold maxLen; omega
    have hx2 : (k + (l.length - (k + 1))) * 32 ≤ 140737488355328 := by omega
    have HLN := Lib.hid (show (t ++ d).length = k + (l.length - (k + 1)) by rw [List.length_append, htl, hdl])
    have HTL := Lib.hid htl
    have HDL := Lib.hid hdl
    clear hE hA hyes hk hT hD ht hd hr htl hdl
    go_wp2_with fail
    have HC := Lib.hid (rattrs (some ⟨b, o, none⟩) c t w HTk.out hl6)
    rw [HTL.out] at HC
    refine HC.out.mono ?_
    rintro e w4 ⟨v4, rfl, hf⟩
    have V4 := HV.out.keep hf.1
    have c1 := V4.N
    have u3 := V4.c3 hj
    rw [HAV.out] at u3
    have h4 := H.out.fresh hf
    obtain ⟨a4, c4, rfl⟩ := row_form h4
    rw [HTL.out] at h4
    have H4 := Lib.hid (show Sep W w4 (row TAttr 2 (.slice a4 k c4) k (acells t) :: refA q A :: rs) by have h4' := h4; unfold arow at h4'; rw [HTL.out] at h4'; exact h4')
    have HD4 := Lib.hid (show Src w4 2 (if c = k + 1 then some ⟨b, o, none⟩ else some ⟨b, o + (k + 1) * 2, none⟩) (l.length - (k + 1)) (acells d) from by
      have hs := (HDr.out.keep hf.1).src
      rw [HDL.out] at hs
      refine ⟨hs.1, fun hp => ?_⟩
      rw [if_neg (by omega)]
      exact hs.2 hp)
    rw [HTL.out]
    clear h4 hf HC V4
    go_wp2_with (at_builtin; refine wpList_app rfl (.tmp 33) (.tmp 44) 30 rfl Tryz.underlying30 hi0 hz0 hz1 hz2 rfl (by decide) rfl H4.out _ _ _ (acells d) rfl HD4.out (by intro u hu; obtain ⟨x, _, hx⟩ := List.mem_flatMap.1 hu; simp at hx; rcases hx with rfl | rfl <;> rfl) hx1 hx2 ?_; intro v8 w8 hv8; have hv9 : Sep W w8 (arow v8 (t ++ d) :: refA q A :: rs) := (by unfold arow; rw [HLN.out, acells_append]; exact hv8); obtain ⟨a8, c8, rfl⟩ := row_form hv8; obtain ⟨bN, cN, bG, cG, av, kv, gv, V8, f8, hfin⟩ := ref_at_a hv9 Hw.out; have c8' := V8.N; have u8 := V8.c3 hj; have HFin := Lib.hid (hfin j hj); clear hv8 hv9 V8 hfin)
    all_goals
      go_ret
      exact ⟨by rw [HE.out]; rfl, by rw [HA.out]; exact HFin.out⟩
end
end Go.Proofs.YtgdmaikjaopddaaGreatDoor

/- The document's own answer: Slot, gives, Give. -/
namespace Go.Proofs.YtgdmaikjaopddaaGreatDoor
open Go.RowKit

section
variable {W w : World} {rs : List Res} {q : Nat} {A : Doc}
theorem slotOf_is (hw : WF A) {s i : Int} (hs : A.In s) (h : i ∈ (A.nd s).given) : A.slotOf i = s := by
  obtain ⟨h1, h2⟩ := hw.gin s hs i h
  unfold Doc.slotOf; rw [if_pos h1]; exact h2
theorem slotOf_none (hw : WF A) {i : Int} (h : ∀ s : Nat, s < A.n → i ∉ (A.nd s).given) : A.slotOf i = -1 := by
  unfold Doc.slotOf
  split
  · rename_i hi
    by_cases he : (A.nd i).slot = -1
    · exact he
    · exfalso
      obtain ⟨s, hse, hsn⟩ := icast ((hw.slot i hi).resolve_left he).1 ((hw.slot i hi).resolve_left he).2
      have := hw.sgiv i hi he
      rw [hse] at this
      exact h s hsn this
  · rfl
theorem not_take_succ {l : List Int} {i : Int} {k : Nat} (h : i ∉ l.take k) (hk : k < l.length) (hne : l[k] ≠ i) : i ∉ l.take (k + 1) := by
  rw [List.take_succ_eq_append_getElem hk, List.mem_append]
  rintro (h1 | h1)
  · exact h h1
  · simp at h1; exact hne h1.symm

set_option maxRecDepth 100000 in
set_option maxHeartbeats 1000000 in
theorem rslot (h : Sep W w (refA q A :: rs)) (hw : WF A) (i : Int) :
    Calls Tryz.prog 57 #[ptr q, int i] w fun e w' => e = .returned (int (A.slotOf i)) ∧ w = w' := by
  obtain ⟨bN, cN, bG, cG, av, kv, gv, V⟩ := ref_view h hw
  have c2 := V.G
  have hn := hw.n_le
  have HV := Lib.hid V
  have Hw := Lib.hid hw
  clear h hw V
  go_enter Tryz.func57, Tryz.ntmps57
  go_wp2_with fail
  go_loop [5, 6] (fun t _ => ∃ s : Nat, t = int s ∧ s ≤ A.n ∧ ∀ k : Nat, k < s → i ∉ (A.nd k).given) (fun t _ => A.n - (intOf t).toNat)
  case atStart => exact ⟨0, rfl, Nat.zero_le _, fun k hk => absurd hk (Nat.not_lt_zero k)⟩
  case round =>
    obtain ⟨s, rfl, hs, hno⟩ := hrel
    have HN := Lib.hid hno
    clear hno
    by_cases hsn : s < A.n
    · have t0 : decide ((s : Int) < A.n) = true := by simp; omega
      have us := HV.out.g s hsn
      obtain ⟨a, c, hgv, _, _, hI⟩ := HV.out.gi s hsn
      rw [hgv] at us
      have HSI := Lib.hid (fun hm => slotOf_is Hw.out (s := s) (i := i) ⟨by omega, by omega⟩ hm)
      have hgl := Hw.out.given_len (i := (s : Int)) ⟨by omega, by omega⟩
      obtain ⟨l, hl⟩ : ∃ l, l = (A.nd s).given := ⟨_, rfl⟩
      rw [← hl] at us hI HSI hgl
      have HL := Lib.hid hl
      have HI := Lib.hid hI
      clear hl hI hgv
      go_wp2_with fail
      go_loop [6] (fun t => ∃ k : Nat, t = int k ∧ k ≤ l.length ∧ i ∉ l.take k) (fun t => l.length - (intOf t).toNat)
      case atStart => exact ⟨0, rfl, Nat.zero_le _, by simp⟩
      case round =>
        obtain ⟨k, rfl, hk, hni⟩ := hrel
        have HNI := Lib.hid hni
        clear hni
        by_cases hkl : k < l.length
        · obtain ⟨b, o, rfl, hc⟩ := HI.out.at (by omega)
          have f0 := hc k hkl
          have t1 : decide ((k : Int) < l.length) = true := by simp; omega
          have HM := Lib.hid (fun hne => not_take_succ HNI.out hkl hne)
          have HIN := Lib.hid (show l[k] ∈ l from List.getElem_mem hkl)
          obtain ⟨y, hy⟩ : ∃ y, y = l[k] := ⟨_, rfl⟩
          rw [← hy] at f0 HM HIN
          clear hc hy
          by_cases hyi : y = i
          · have t2 : (y == i) = true := by simpa using hyi
            have HE := Lib.hid (show A.slotOf i = s from HSI.out (hyi ▸ HIN.out))
            clear hyi
            go_wp2
            go_ret
            exact ⟨by rw [HE.out]; rfl, rfl⟩
          · have t2 : (y == i) = false := by simpa using hyi
            have HE := Lib.hid (HM.out hyi)
            clear hyi
            go_wp2
            go_round
            case rel => exact ⟨k + 1, by go_num, hkl, HE.out⟩
            case measure => simp [intOf]; omega
        · obtain rfl : k = l.length := by omega
          have t1 : decide ((l.length : Int) < l.length) = false := by simp
          have HE := Lib.hid (show i ∉ l by have := HNI.out; rwa [List.take_length] at this)
          go_wp2
          go_round
          case rel => exact ⟨s + 1, by go_num, hsn, fun k hk => by
            by_cases e : k = s
            · subst e; rw [← HL.out]; exact HE.out
            · exact HN.out k (by omega)⟩
          case measure => simp [intOf]; omega
    · obtain rfl : s = A.n := by omega
      have t0 : decide ((A.n : Int) < A.n) = false := by simp
      have HE := Lib.hid (slotOf_none Hw.out HN.out)
      go_wp2
      go_ret
      exact ⟨by rw [HE.out]; rfl, rfl⟩

theorem Below.drewsN {n : Nat} {a w : World} (h : Below n a w) (m : Nat) : Below n a (w.drewN m) := ⟨h.os, h.tape, h.output, h.size, h.block⟩
theorem all_take_succ {l : List Int} {P : Int → Prop} {k : Nat} (h : ∀ x ∈ l.take k, P x) (hk : k < l.length) (hp : P l[k]) : ∀ x ∈ l.take (k + 1), P x := by
  rw [List.take_succ_eq_append_getElem hk]
  intro x hx
  rcases List.mem_append.1 hx with h1 | h1
  · exact h x h1
  · simp at h1; rw [h1]; exact hp

set_option maxRecDepth 100000 in
set_option maxHeartbeats 2000000 in
theorem rgives (h : Sep W w (refA q A :: rs)) (hw : WF A) {a : Option Addr} {c : Nat} {l : List Int} (hr : IntsAt w a l) (s : Int) :
    Calls Tryz.prog 80 #[ptr q, int s, .slice a l.length c] w fun e w' => e = .returned (int (A.givesE s l)) ∧ Below w.heap.size w w' := by
  have HT := Lib.hid (fun j => rthere h hw j)
  by_cases hs : A.In s
  case neg =>
    have TS := Lib.hid (show decide (A.In s) = false from decide_eq_false hs)
    have HE := Lib.hid (show A.givesE s l = 80 by unfold Doc.givesE; rw [if_neg (fun e => hs e.1)])
    clear h hw hr hs
    go_enter Tryz.func80, Tryz.ntmps80
    go_wp2_with fail
    refine (HT.out _).mono ?_
    rintro e w' ⟨rfl, rfl⟩
    rw [TS.out]
    go_wp2
    go_ret
    exact ⟨by rw [HE.out]; rfl, Below.refl _ _⟩
  have TS := Lib.hid (show decide (A.In s) = true from decide_eq_true hs)
  obtain ⟨bN, cN, bG, cG, av, kv, gv, V⟩ := ref_view h hw
  obtain ⟨j, rfl, hj⟩ := icast hs.1 hs.2
  have c1 := V.N
  have u0 := V.c0 hj
  have u1 := V.c1 hj
  have hn := hw.n_le
  have hlm := hr.1
  have HV := Lib.hid V
  have Hw := Lib.hid hw
  have HI := Lib.hid hr
  have HS := Lib.hid hs
  clear h hw hr hs V
  go_enter Tryz.func80, Tryz.ntmps80
  go_wp2_with fail
  refine (HT.out _).mono ?_
  rintro e w' ⟨rfl, rfl⟩
  rw [TS.out]
  go_wp2_with fail
  go_loop [7] (fun t => ∃ k : Nat, t = int k ∧ k ≤ l.length ∧ ∀ x ∈ l.take k, A.In x) (fun t => l.length - (intOf t).toNat)
  case atStart => exact ⟨0, rfl, Nat.zero_le _, by simp⟩
  case round =>
    obtain ⟨k, rfl, hk, hin⟩ := hrel
    have HIn := Lib.hid hin
    clear hin
    by_cases hkl : k < l.length
    · obtain ⟨b, o, rfl, hc⟩ := HI.out.at (by omega)
      have f0 := hc k hkl
      have t1 : decide ((k : Int) < l.length) = true := by simp; omega
      have HM := Lib.hid (fun hp => all_take_succ HIn.out hkl hp)
      have HIN := Lib.hid (show l[k] ∈ l from List.getElem_mem hkl)
      obtain ⟨y, hy⟩ : ∃ y, y = l[k] := ⟨_, rfl⟩
      rw [← hy] at f0 HM HIN
      clear hc hy
      by_cases hyi : A.In y
      · have TY := Lib.hid (show decide (A.In y) = true from decide_eq_true hyi)
        have HE := Lib.hid (HM.out hyi)
        clear hyi
        go_wp2_with fail
        refine (HT.out _).mono ?_
        rintro e w' ⟨rfl, rfl⟩
        rw [TY.out]
        go_wp2
        go_round
        case rel => exact ⟨k + 1, by go_num, hkl, HE.out⟩
        case measure => simp [intOf]; omega
      · have TY := Lib.hid (show decide (A.In y) = false from decide_eq_false hyi)
        have HE := Lib.hid (show A.givesE j l = 80 by unfold Doc.givesE; rw [if_neg (fun e => hyi (e.2 y HIN.out))])
        clear hyi
        go_wp2_with fail
        refine (HT.out _).mono ?_
        rintro e w' ⟨rfl, rfl⟩
        rw [TY.out]
        go_wp2
        go_ret
        exact ⟨by rw [HE.out]; rfl, Below.refl _ _⟩
    · obtain rfl : k = l.length := by omega
      have t1 : decide ((l.length : Int) < l.length) = false := by simp
      have hall : ∀ x ∈ l, A.In x := by have := HIn.out; rwa [List.take_length] at this
      have hE0 : A.givesE j l = if (A.nd j).kind = 1 ∧ ((A.nd j).name.toList == [115, 108, 111, 116]) = true then (if ∀ x ∈ l, A.slottable x = true then (if l.length ≤ 200 then 0 else 1) else 81) else 110 := by
        unfold Doc.givesE; rw [if_pos ⟨HS.out, hall⟩]
      have HE0 := Lib.hid hE0
      have HAll := Lib.hid hall
      clear hE0 hall
      by_cases hk1 : (A.nd j).kind = 1
      case neg =>
        have k1 : ((A.nd j).kind != 1) = true := by simpa using hk1
        have HE := Lib.hid (show A.givesE j l = 110 by rw [HE0.out, if_neg (fun e => hk1 e.1)])
        clear hk1
        go_wp2
        go_ret
        exact ⟨by rw [HE.out]; rfl, Below.refl _ _⟩
      have k1 : ((A.nd j).kind != 1) = false := by simpa using hk1
      cases hnm : ((A.nd j).name.toList == [115, 108, 111, 116])
      · have HE := Lib.hid (show A.givesE j l = 110 by rw [HE0.out, if_neg (fun e => by rw [hnm] at e; exact absurd e.2 (by decide))])
        have hnm2 : ((A.nd j).name.toList != [115, 108, 111, 116]) = true := by simp [bne, hnm]
        clear hk1
        go_wp2
        go_ret
        exact ⟨by rw [HE.out]; rfl, Below.refl _ _⟩
      · have HE1 := Lib.hid (show A.givesE j l = if ∀ x ∈ l, A.slottable x = true then (if l.length ≤ 200 then 0 else 1) else 81 by rw [HE0.out, if_pos ⟨hk1, hnm⟩])
        have hnm2 : ((A.nd j).name.toList != [115, 108, 111, 116]) = false := by simp [bne, hnm]
        clear hk1
        go_wp2_with fail
        clear c1 u0 u1
        go_loopw [8] (fun t wr => ∃ k : Nat, t = int k ∧ k ≤ l.length ∧ (∀ x ∈ l.take k, A.slottable x = true) ∧ Below w.heap.size w wr) (fun t _ => l.length - (intOf t).toNat)
        case atStart => exact ⟨0, rfl, Nat.zero_le _, by simp, Below.refl _ _⟩
        case round =>
          obtain ⟨k, rfl, hk, hsl, hb⟩ := hrel
          have HSl := Lib.hid hsl
          have HB := Lib.hid hb
          clear hsl
          by_cases hkl : k < l.length
          · obtain ⟨b, o, rfl, hc⟩ := (HI.out.keep hb).at (by omega)
            have f0 := hc k hkl
            have t2 : decide ((k : Int) < l.length) = true := by simp; omega
            have HM := Lib.hid (fun hp => all_take_succ HSl.out hkl hp)
            have HIN := Lib.hid (show l[k] ∈ l from List.getElem_mem hkl)
            have hyin := HAll.out l[k] (List.getElem_mem hkl)
            obtain ⟨y, hy⟩ : ∃ y, y = l[k] := ⟨_, rfl⟩
            rw [← hy] at f0 HM HIN hyin
            obtain ⟨y, rfl, hyn⟩ := icast hyin.1 hyin.2
            have V3 := HV.out.keep hb
            have d1 := V3.N
            have v0 := V3.c0 hyn
            have y0 : (0 : Int) ≤ y := by omega
            have y1 : (y : Int) < A.n := by omega
            clear hc hy hb V3 hyin
            by_cases q1 : (A.nd y).kind = 1
            · have k2 : ((A.nd y).kind != 1) = false := by simpa using q1
              have HE := Lib.hid (HM.out (by unfold Doc.slottable; rw [q1]; rfl))
              clear q1
              go_wp2_with fail
              go_quiet (fail)
              go_wp2
              go_roundw
              case rel => exact ⟨k + 1, by go_num, hkl, HE.out, Below.drewsN HB.out _⟩
              case measure => simp [intOf]; omega
            · have k2 : ((A.nd y).kind != 1) = true := by simpa using q1
              by_cases q2 : (A.nd y).kind = 2
              · have k3 : ((A.nd y).kind != 2) = false := by simpa using q2
                have HE := Lib.hid (HM.out (by unfold Doc.slottable; rw [q2]; rfl))
                clear q1 q2
                go_wp2_with fail
                go_quiet (fail)
                go_wp2
                go_roundw
                case rel => exact ⟨k + 1, by go_num, hkl, HE.out, Below.drewsN HB.out _⟩
                case measure => simp [intOf]; omega
              · have k3 : ((A.nd y).kind != 2) = true := by simpa using q2
                have HE := Lib.hid (show A.givesE j l = 81 by
                  rw [HE1.out, if_neg]
                  intro hh
                  have := hh _ HIN.out
                  unfold Doc.slottable at this
                  simp [q1, q2] at this)
                clear q1 q2
                go_wp2_with fail
                go_quiet (fail)
                go_wp2
                go_ret
                exact ⟨by rw [HE.out]; rfl, Below.drewsN HB.out _⟩
          · obtain rfl : k = l.length := by omega
            have t2 : decide ((l.length : Int) < l.length) = false := by simp
            have hall : ∀ x ∈ l, A.slottable x = true := by have := HSl.out; rwa [List.take_length] at this
            by_cases h2 : l.length ≤ 200
            · have HE := Lib.hid (show A.givesE j l = 0 by rw [HE1.out, if_pos hall, if_pos h2])
              have t3 : decide ((l.length : Int) > 200) = false := by simp; omega
              have t4 : decide ((200 : Int) < l.length) = false := by simp; omega
              clear hall h2 hb
              go_wp2
              go_ret
              exact ⟨by rw [HE.out]; rfl, HB.out⟩
            · have HE := Lib.hid (show A.givesE j l = 1 by rw [HE1.out, if_pos hall, if_neg h2])
              have t3 : decide ((l.length : Int) > 200) = true := by simp; omega
              have t4 : decide ((200 : Int) < l.length) = true := by simp; omega
              clear hall h2 hb
              go_wp2
              go_ret
              exact ⟨by rw [HE.out]; rfl, HB.out⟩
end
end Go.Proofs.YtgdmaikjaopddaaGreatDoor

/- The document's own answer: Give. -/
namespace Go.Proofs.YtgdmaikjaopddaaGreatDoor
open Go.RowKit

theorem rowsL_part : ∀ {n i : Nat} {f : Nat → List Res}, i < n → ∃ rest, ∀ f' : Nat → List Res, (∀ j, j < n → j ≠ i → f' j = f j) → (rowsL n f').Perm (f' i ++ rest)
  | 0, i, _, hi => absurd hi (Nat.not_lt_zero i)
  | n + 1, i, f, hi => by
    have e : ∀ g : Nat → List Res, rowsL (n + 1) g = rowsL n g ++ g n := fun g => by simp [rowsL, List.range_succ]
    by_cases h : i = n
    · subst h
      refine ⟨rowsL i f, fun f' hf => ?_⟩
      rw [e, rowsL_congr (f := f') (g := f) fun j hj => hf j (by omega) (by omega)]
      exact List.perm_append_comm
    · obtain ⟨rest, h1⟩ := rowsL_part (n := n) (i := i) (f := f) (by omega)
      refine ⟨rest ++ f n, fun f' hf => ?_⟩
      rw [e, hf n (by omega) (fun e => h e.symm)]
      have := (h1 f' fun j hj hne => hf j (by omega) hne).append_right (f n)
      rwa [List.append_assoc] at this

section
variable {W w : World} {rs : List Res} {q : Nat} {A : Doc} {vN vG : Value} {av kv gv : Nat → Value} {bG cG : Nat}
/-- what is given is taken out of the answer's memory, and put back -/
theorem ref_take (h : Sep W w (refL q A vN vG av kv gv ++ rs)) (eG : vG = .slice (some ⟨bG, 0, none⟩) A.n cG) {i : Nat} (hi : i < A.n) : ∃ rest : List Res, Sep W w (irow (gv i) (A.nd i).given :: rest) ∧
    (∀ (w1 : World) (r : Res), Sep W w1 (r :: rest) → w1.cell? ⟨q, 2, none⟩ = some (.slice (some ⟨bG, 0, none⟩) A.n cG) ∧ w1.cell? ⟨bG, i, none⟩ = some (gv i) ∧ ∀ o, w1.frozen? ⟨bG, o, none⟩ = false) ∧
    ∀ (w1 : World) (v1 : Value) (l1 : List Int), Sep W w1 (irow v1 l1 :: rest) → Sep W (w1.setCell ⟨bG, i, none⟩ v1) (refA q (A.set i (.setGiven l1)) :: rs) := by
  obtain ⟨rrest, hp⟩ := rowsL_part (f := rowsOf A av kv gv) hi
  have p1 := hp _ fun _ _ _ => rfl
  refine ⟨blk q TRDoc #[int A.lim, vN, vG] :: nrow vN A.n (fun i => ndCells (A.nd i) (av i) (kv i)) :: vrow TInts vG A.n gv :: (arow (av i) (A.nd i).attrs :: irow (kv i) (A.nd i).kids :: (rrest ++ rs)), ?_, fun w1 r h1 => ?_, fun w1 v1 l1 h1 => ?_⟩
  · have h2 : Sep W w (blk q TRDoc #[int A.lim, vN, vG] :: nrow vN A.n (fun i => ndCells (A.nd i) (av i) (kv i)) :: vrow TInts vG A.n gv :: (rowsL A.n (rowsOf A av kv gv) ++ rs)) := h
    have h3 := h2.perm (List.Perm.cons _ (List.Perm.cons _ (List.Perm.cons _ (p1.append_right rs))))
    refine h3.perm ?_
    refine (List.Perm.cons _ (List.Perm.cons _ (List.Perm.cons _ ?_))).trans (List.perm_middle (l₁ := [blk q TRDoc #[int A.lim, vN, vG], nrow vN A.n (fun i => ndCells (A.nd i) (av i) (kv i)), vrow TInts vG A.n gv]))
    exact List.perm_middle (l₁ := [arow (av i) (A.nd i).attrs, irow (kv i) (A.nd i).kids])
  · have hm : ∀ x, x ∈ [blk q TRDoc #[int A.lim, vN, vG], nrow vN A.n (fun i => ndCells (A.nd i) (av i) (kv i)), vrow TInts vG A.n gv] → ∃ G : Nat → Prop, x.holds w1 G := fun x hx => h1.mem (List.mem_cons_of_mem _ (by simp at hx ⊢; rcases hx with rfl | rfl | rfl <;> simp))
    obtain ⟨G1, hq, _⟩ := hm (blk q TRDoc #[int A.lim, vN, vG]) (by simp)
    obtain ⟨G3, hGr⟩ := hm (vrow TInts vG A.n gv) (by simp)
    obtain ⟨bG', cG', hvG, hG1, _, _, hGc⟩ := rowHolds.cells hGr (by omega)
    rw [eG] at hvG
    injection hvG with hv1 _ hv2
    injection hv1 with hv1
    injection hv1 with hv1
    subst hv1
    refine ⟨?_, hGc i _ (by simp [hi]), fun o => Sep.frozen_row hGr (by omega) eG o⟩
    rw [cell_of_row w1 q 2 _ _ _ hq, ← eG]; rfl
  · have h2 : Sep W w1 (vrow TInts vG A.n gv :: irow v1 l1 :: blk q TRDoc #[int A.lim, vN, vG] :: nrow vN A.n (fun i => ndCells (A.nd i) (av i) (kv i)) :: (arow (av i) (A.nd i).attrs :: irow (kv i) (A.nd i).kids :: (rrest ++ rs))) := h1.perm (List.perm_middle (l₁ := [irow v1 l1, blk q TRDoc #[int A.lim, vN, vG], nrow vN A.n (fun i => ndCells (A.nd i) (av i) (kv i))]))
    obtain ⟨G, hr, _, hs⟩ := h2.step
    obtain ⟨hr2, hg⟩ := rowHolds.put (j := i) hr (by omega) v1 eG
    rw [range_set gv v1 hi] at hr2
    have h3 := hs (w1.setCell ⟨bG, i, none⟩ v1) G (vrow TInts vG A.n (updV gv i v1)) ((Only.refl _ _).setCell (p := ⟨bG, i, none⟩) (.inl hg) _) hr2 fun _ hk => .inl hk
    have p2 := hp (rowsOf (A.set i (.setGiven l1)) av kv (updV gv i v1)) fun j hj hji => by
      unfold rowsOf updV
      rw [Doc.set_nd, if_neg (by omega), if_neg (by omega)]
    have e1 : rowsOf (A.set i (.setGiven l1)) av kv (updV gv i v1) i = [arow (av i) (A.nd i).attrs, irow (kv i) (A.nd i).kids, irow v1 l1] := by
      unfold rowsOf updV
      rw [Doc.set_nd, if_pos rfl, if_pos rfl]; rfl
    rw [e1] at p2
    refine ref_close (vN := vN) (vG := vG) (av := av) (kv := kv) (gv := updV gv i v1) ?_
    have e : (fun j : Nat => ndCells ((A.set i (.setGiven l1)).nd (j : Int)) (av j) (kv j)) = fun j : Nat => ndCells (A.nd (j : Int)) (av j) (kv j) := by
      funext j
      rw [Doc.set_nd]; split <;> rfl
    show Sep W _ (blk q TRDoc #[int A.lim, vN, vG] :: nrow vN A.n (fun j : Nat => ndCells ((A.set i (.setGiven l1)).nd j) (av j) (kv j)) :: vrow TInts vG A.n (updV gv i v1) :: (rowsL A.n (rowsOf (A.set i (.setGiven l1)) av kv (updV gv i v1)) ++ rs))
    rw [e]
    refine h3.perm (List.Perm.trans ?_ (List.Perm.cons _ (List.Perm.cons _ (List.Perm.cons _ (p2.symm.append_right rs)))))
    refine List.Perm.trans (l₂ := blk q TRDoc #[int A.lim, vN, vG] :: nrow vN A.n (fun i => ndCells (A.nd i) (av i) (kv i)) :: vrow TInts vG A.n (updV gv i v1) :: irow v1 l1 :: (arow (av i) (A.nd i).attrs :: irow (kv i) (A.nd i).kids :: (rrest ++ rs))) ?_ ?_
    · refine List.Perm.trans (l₂ := vrow TInts vG A.n (updV gv i v1) :: blk q TRDoc #[int A.lim, vN, vG] :: nrow vN A.n (fun i => ndCells (A.nd i) (av i) (kv i)) :: irow v1 l1 :: (arow (av i) (A.nd i).attrs :: irow (kv i) (A.nd i).kids :: (rrest ++ rs))) (List.Perm.cons _ ?_) ?_
      · exact (List.perm_middle (l₁ := [blk q TRDoc #[int A.lim, vN, vG], nrow vN A.n (fun i => ndCells (A.nd i) (av i) (kv i))])).symm
      · exact (List.perm_middle (l₁ := [blk q TRDoc #[int A.lim, vN, vG], nrow vN A.n (fun i => ndCells (A.nd i) (av i) (kv i))])).symm
    · exact List.Perm.cons _ (List.Perm.cons _ (List.Perm.cons _ (List.perm_middle (l₁ := [arow (av i) (A.nd i).attrs, irow (kv i) (A.nd i).kids])).symm))

theorem Nd.nogive_eq {x y : Nd} (h : x.nogive = y.nogive) (hg : x.given = y.given) (a k : Value) : ndCells x a k = ndCells y a k ∧ x.attrs = y.attrs ∧ x.kids = y.kids := by
  have f : ∀ {α : Type} (g : Nd → α), (∀ z, g z.nogive = g z) → g x = g y := fun g e => by rw [← e x, ← e y, h]
  exact ⟨f (fun z => ndCells z a k) fun _ => rfl, f (·.attrs) fun _ => rfl, f (·.kids) fun _ => rfl⟩
/-- the answer does not keep to which slot a node is given -/
theorem refA_to {B : Doc} (h : Sep W w (refA q A :: rs)) (hn : B.n = A.n) (hl : B.lim = A.lim) (hj : ∀ j : Nat, j < A.n → (B.nd j).nogive = (A.nd j).nogive ∧ (B.nd j).given = (A.nd j).given) : Sep W w (refA q B :: rs) := by
  obtain ⟨G, ⟨vN, vG, av, kv, gv, hg⟩, _, hs⟩ := h.step
  refine hs w G (refA q B) (Only.refl _ _) ⟨vN, vG, av, kv, gv, ?_⟩ fun _ hk => .inl hk
  have e1 : rowsL B.n (rowsOf B av kv gv) = rowsL A.n (rowsOf A av kv gv) := by
    rw [hn]
    refine rowsL_congr fun j hj' => ?_
    obtain ⟨h1, h2⟩ := hj j hj'
    obtain ⟨_, e2, e3⟩ := Nd.nogive_eq h1 h2 (int 0) (int 0)
    unfold rowsOf; rw [e2, e3, h2]
  unfold refL at hg ⊢
  rw [e1, hl, hn]
  obtain ⟨G1, H1, h1, h2, d1, f1⟩ := hg
  obtain ⟨G2, H2, h3, h4, d2, f2⟩ := h2
  refine ⟨G1, H1, h1, ⟨G2, H2, ?_, h4, d2, f2⟩, d1, f1⟩
  obtain ⟨xs, hr, hx⟩ := h3
  refine ⟨xs, hr, fun j hj' k hk => ?_⟩
  rw [hx j hj' k hk]
  obtain ⟨h1, h2⟩ := hj j hj'
  show (ndCells (A.nd j) (av j) (kv j))[k]? = (ndCells (B.nd j) (av j) (kv j))[k]?
  rw [(Nd.nogive_eq h1 h2 (av j) (kv j)).1]
end
end Go.Proofs.YtgdmaikjaopddaaGreatDoor

/- The document's own answer: Give, the walk. -/
namespace Go.Proofs.YtgdmaikjaopddaaGreatDoor
open Go.RowKit

theorem foldl_erase_self : ∀ (l r : List Int), l.foldl (fun g x => g.erase x) (l ++ r) = r
  | [], _ => rfl
  | x :: t, r => by
    show t.foldl _ ((x :: (t ++ r)).erase x) = r
    rw [List.erase_cons_head]; exact foldl_erase_self t r
theorem foldl_erase_none : ∀ (l g : List Int), (∀ x ∈ l, x ∉ g) → l.foldl (fun g x => g.erase x) g = g
  | [], _, _ => rfl
  | x :: t, g, h => by
    show t.foldl _ (g.erase x) = g
    rw [List.erase_of_not_mem (h x (by simp))]; exact foldl_erase_none t g fun y hy => h y (by simp [hy])
theorem freeAll_given {i : Int} : ∀ (l : List Int) {A : Doc}, WF A → A.In i → ((freeAll l A).nd i).given = l.foldl (fun g x => g.erase x) (A.nd i).given
  | [], _, _, _ => rfl
  | x :: t, A, hw, hi => by
    show ((freeAll t (A.free x)).nd i).given = t.foldl _ ((A.nd i).given.erase x)
    rw [freeAll_given t (hw.free x) (free_in.2 hi), free_given hw hi]

section
variable {W w : World} {rs : List Res} {q : Nat} {A : Doc}
/-- all that was given is taken back -/
theorem ref_cleared {s : Int} (h : Sep W w (refA q (A.set s (.setGiven [])) :: rs)) (hw : WF A) (hs : A.In s) : Sep W w (refA q (freeAll (A.nd s).given A) :: rs) := by
  refine refA_to h (freeAll_n _ _) (freeAll_lim _ _) fun j hj => ⟨?_, ?_⟩
  · rw [freeAll_nogive, Doc.set_nd]; split <;> rfl
  · have hj' : j < A.n := hj
    rw [freeAll_given _ hw ⟨by omega, by omega⟩, Doc.set_nd]
    split
    · rename_i e
      rw [e]
      have := foldl_erase_self (A.nd s).given []
      rwa [List.append_nil] at this
    · rename_i e
      refine foldl_erase_none _ _ fun x hx hx2 => e ?_
      rw [← (hw.gin j ⟨by omega, by omega⟩ x hx2).2, (hw.gin s hs x hx).2]
/-- one is taken back -/
theorem ref_freed {u y : Int} (h : Sep W w (refA q (A.set u (.setGiven ((A.nd u).given.filter fun x => x != y))) :: rs)) (hw : WF A) (hu : A.In u) (hy : (A.nd y).slot = u) : Sep W w (refA q (A.free y) :: rs) := by
  refine refA_to h free_n free_lim fun j hj => ⟨?_, ?_⟩
  · rw [free_nogive, Doc.set_nd]; split <;> rfl
  · have hj' : j < A.n := hj
    rw [free_given hw ⟨by omega, by omega⟩, Doc.set_nd]
    split
    · rename_i e
      rw [e]; exact (erase_filter y (hw.gnod u hu)).symm
    · rename_i e
      exact List.erase_of_not_mem fun hm => e (by rw [← hy, (hw.gin j ⟨by omega, by omega⟩ y hm).2])
/-- one is given -/
theorem ref_gave {s y : Int} (h : Sep W w (refA q (A.set s (.setGiven ((A.nd s).given ++ [y]))) :: rs)) : Sep W w (refA q (A.giveTo s y) :: rs) := by
  refine refA_to h rfl rfl fun j hj => ⟨?_, ?_⟩
  · unfold Doc.giveTo
    rw [Doc.set_nd, Doc.set_nd, Doc.set_nd]
    split
    · split <;> rfl
    · split <;> rfl
  · unfold Doc.giveTo
    rw [Doc.set_nd, Doc.set_nd, Doc.set_nd]
    split
    · rename_i e; rw [e]; split <;> rfl
    · split <;> rfl

/-- what an append of one to what is given makes of the answer's memory -/
theorem ref_push {j : Nat} {y : Int} (h : Sep W w (refA q A :: rs)) (hw : WF A) (hj : j < A.n) : ∃ (bG cG : Nat) (a0 : Option Addr) (m0 c0 : Nat) (a1 : Option Addr) (m1 c1 : Nat) (wB : World),
    (w.cell? ⟨q, 2, none⟩ = some (.slice (some ⟨bG, 0, none⟩) A.n cG) ∧ (w.alloc (.cells #[int y] TInt)).cell? ⟨q, 2, none⟩ = some (.slice (some ⟨bG, 0, none⟩) A.n cG)) ∧ (w.cell? ⟨bG, j, none⟩ = some (.slice a0 m0 c0) ∧ (w.alloc (.cells #[int y] TInt)).cell? ⟨bG, j, none⟩ = some (.slice a0 m0 c0)) ∧
    (Builtin.append_ #[31, 31] 31 #[.slice a0 m0 c0, .slice (some ⟨w.heap.size, 0, none⟩) 1 1]).run Tryz.prog (w.alloc (.cells #[int y] TInt)).drew = .ok (.slice a1 m1 c1) wB ∧
    wB.cell? ⟨q, 2, none⟩ = some (.slice (some ⟨bG, 0, none⟩) A.n cG) ∧ wB.cell? ⟨bG, j, none⟩ = some (.slice a0 m0 c0) ∧ (∀ o, wB.frozen? ⟨bG, o, none⟩ = false) ∧
    Sep W (wB.setCell ⟨bG, j, none⟩ (.slice a1 m1 c1)) (refA q (A.giveTo j y) :: rs) := by
  have hn := hw.n_le
  have hgl := hw.given_len (i := (j : Int)) ⟨by omega, by omega⟩
  obtain ⟨bN, cN, bG, cG, av, kv, gv, V, hS, fq, fN, fG⟩ := ref_at h hw
  obtain ⟨a0, c0, hgv, _, _, hI⟩ := V.gi j hj
  have u := V.g j hj
  have c2 := V.G
  obtain ⟨rest, h1, h2, h3⟩ := ref_take hS rfl hj
  have h1' := (h1.alloc (.cells #[int y] TInt)).drew
  obtain ⟨G, hG, _, hst⟩ := h1'.step
  obtain ⟨i0, hi0, hz0, hz1, hz2⟩ := info_parts infoInt
  obtain ⟨v', wB, F', hrun, hrB, hoB, hfB⟩ := rowHolds_append (P := Tryz.prog) (t := 31) (ty := 31) Tryz.underlying31 hi0 hz0 hz1 hz2 rfl (by decide)
    hG (some ⟨w.heap.size, 0, none⟩) 1 1 [int y] (Src.drew (src_block (heap_alloc_new w (.cells #[int y] TInt)) rfl)) (by intro u hu; rw [List.mem_singleton.1 hu]; rfl) (by unfold maxLen; omega) (by omega)
  have hB := hst wB F' (irow v' ((A.nd j).given ++ [y])) hoB (by
    show rowHolds TInt 1 v' ((A.nd j).given ++ [y]).length (icells ((A.nd j).given ++ [y])) wB F'
    rw [List.length_append, show icells ((A.nd j).given ++ [y]) = icells (A.nd j).given ++ [int y] by simp [icells]]; exact hrB) hfB
  obtain ⟨k1, k2, k3⟩ := h2 wB _ hB
  obtain ⟨a1, cc1, rfl⟩ := hB.irow_form
  rw [hgv] at u k2 hrun
  have kp : ∀ {b o : Nat} {x : Value}, w.cell? ⟨b, o, none⟩ = some x → (w.alloc (.cells #[int y] TInt)).cell? ⟨b, o, none⟩ = some x := fun {b o x} hc => (World.cell?_alloc_lt _ _ _ (World.block_lt_of_cell? w ⟨b, o, none⟩ hc)).trans hc
  exact ⟨bG, cG, a0, _, c0, a1, _, cc1, wB, ⟨c2, kp c2⟩, ⟨u, kp u⟩, hrun, k1, k2, k3, ref_gave (h3 wB _ _ hB)⟩

attribute [local go_sem ↓] wp_can in
set_option maxRecDepth 100000 in
set_option maxHeartbeats 2000000 in
theorem rgive (h : Sep W w (refA q A :: rs)) (hw : WF A) {a : Option Addr} {c : Nat} {l : List Int} (hr : ∀ (w' : World) (r : Res), Sep W w' (r :: rs) → IntsAt w' a l) (s : Int) :
    Calls Tryz.prog 47 #[ptr q, int s, .slice a l.length c] w fun e w' => e = .returned (int (A.givesE s l)) ∧ Sep W w' (refA q (A.giveD s l) :: rs) := by
  have H := Lib.hid h
  have HR := Lib.hid hr
  have HGv := Lib.hid (rgives (c := c) h hw (hr _ _ h) s)
  by_cases he : A.givesE s l = 0
  case neg =>
    have HD := Lib.hid (show A.giveD s l = A from if_neg he)
    have t1 : (A.givesE s l != 0) = true := by simpa using he
    clear h hr hw he
    go_enter Tryz.func47, Tryz.ntmps47
    go_wp2_with fail
    refine HGv.out.mono ?_
    rintro e w1 ⟨rfl, hb⟩
    have H1 := Lib.hid (H.out.belowed hb)
    clear hb
    go_wp2
    go_ret
    exact ⟨rfl, by rw [HD.out]; exact H1.out⟩
  obtain ⟨hs, hin, hlen⟩ := givesE_parts he
  obtain ⟨j, rfl, hj⟩ := icast hs.1 hs.2
  have HD := Lib.hid (show A.giveD j l = giveAll j l (freeAll (A.nd j).given A) from if_pos he)
  obtain ⟨A1, hA1⟩ : ∃ A1, A1 = freeAll (A.nd j).given A := ⟨_, rfl⟩
  have hW1 : WF A1 := hA1 ▸ WF.freeAll _ hw
  have hN1 : A1.n = A.n := by rw [hA1]; exact freeAll_n _ _
  have HDs := Lib.hid (fun k => WF.giveAll (l.take k) hW1 (s := (j : Int)) (by rw [Doc.In, hN1]; exact hs) fun x hx => by rw [Doc.In, hN1]; exact hin x (List.mem_of_mem_take hx))
  have HDn := Lib.hid (fun k => (giveAll_n (s := (j : Int)) (l.take k) A1).trans hN1)
  have HCl := Lib.hid (fun w' (h' : Sep W w' (refA q (A.set j (.setGiven [])) :: rs)) => (hA1 ▸ ref_cleared h' hw hs : Sep W w' (refA q A1 :: rs)))
  rw [← hA1] at HD
  have HE := Lib.hid he
  have Hin := Lib.hid hin
  have Hw := Lib.hid hw
  have hn := hw.n_le
  clear h hr hw he hs hin hA1 hW1 hN1
  go_enter Tryz.func47, Tryz.ntmps47
  go_wp2_with fail
  refine HGv.out.mono ?_
  rintro e w1 ⟨rfl, hb⟩
  rw [HE.out]
  obtain ⟨bN, cN, bG, cG, av, kv, gv, V, hS, fq, fN, fG⟩ := ref_at (H.out.belowed hb) Hw.out
  have c2 := V.G
  have u := V.g j hj
  have H2 := Lib.hid (HCl.out _ (ref_close (ref_given (Sep.front (hS.nilRow TInt 1 none : Sep W w1 (irow (.slice none 0 0) [] :: _))) rfl hj)))
  have j0 : (0 : Int) ≤ j := by omega
  have j1 : (j : Int) < A.n := by omega
  clear hb V hS fq fN
  go_wp2_with fail
  clear c2 u fG
  go_loopw [8, 9] (fun t _ wr => ∃ k : Nat, t = int k ∧ k ≤ l.length ∧ Sep W wr (refA q (giveAll j (l.take k) A1) :: rs)) (fun t _ _ => l.length - (intOf t).toNat)
  case atStart => exact ⟨0, rfl, Nat.zero_le _, H2.out⟩
  case round =>
    obtain ⟨k, rfl, hk, hS⟩ := hrel
    have hWD := HDs.out k
    have hDn := HDn.out k
    obtain ⟨D, hD⟩ : ∃ D, D = giveAll (j : Int) (l.take k) A1 := ⟨_, rfl⟩
    have HDD := Lib.hid hD
    rw [← hD] at hS hWD hDn
    have HS := Lib.hid hS
    have HWD := Lib.hid hWD
    clear hD
    by_cases hkl : k < l.length
    · have hI := HR.out _ _ hS
      obtain ⟨b, o, rfl, hc⟩ := hI.at (by omega)
      have cl := hc k hkl
      have t0 : decide ((k : Int) < l.length) = true := by simp; omega
      have HNx := Lib.hid (show giveAll (j : Int) (l.take (k + 1)) A1 = D.giveOne j l[k] by rw [List.take_succ_eq_append_getElem hkl, giveAll_snoc, ← HDD.out])
      have hyin := Hin.out l[k] (List.getElem_mem hkl)
      have HCL := Lib.hid (show ∀ (w' : World) (r : Res), Sep W w' (r :: rs) → w'.cell? ⟨b, o + k, none⟩ = some (int l[k]) from fun w' r hS' => by
        obtain ⟨bl', ol', x3, hc'⟩ := (HR.out _ _ hS').at (by omega)
        injection x3 with x3
        injection x3 with x3 x4
        subst x3; subst x4
        exact hc' k hkl)
      obtain ⟨y, hy⟩ : ∃ y, y = l[k] := ⟨_, rfl⟩
      rw [← hy] at cl HNx hyin HCL
      obtain ⟨y, rfl, hyn⟩ := icast hyin.1 hyin.2
      have hDin : ∀ x : Nat, x < A.n → D.In x := fun x hx => ⟨by omega, by rw [hDn]; omega⟩
      have HSlot := Lib.hid (rslot hS hWD y)
      have HSl := Lib.hid (show D.slotOf y = (D.nd y).slot from if_pos (hDin y hyn))
      have hsl := hWD.slot y (hDin y hyn)
      have HDin := Lib.hid hDin
      clear hc hy hyin hI hDin
      by_cases hsj : (D.nd y).slot = j
      · have t1 : ((D.nd y).slot == (j : Int)) = true := by simpa using hsj
        have HG1 := Lib.hid (show D.giveOne j y = D from if_pos hsj)
        clear hsj hS hWD
        go_wp2_with fail
        refine HSlot.out.mono ?_
        rintro e w' ⟨rfl, rfl⟩
        rw [HSl.out]
        go_wp2
        go_roundw
        case rel => exact ⟨k + 1, by go_num, hkl, by rw [HNx.out, HG1.out]; exact HS.out⟩
        case measure => simp [intOf]; omega
      · have t1 : ((D.nd y).slot == (j : Int)) = false := by simpa using hsj
        have HG1 := Lib.hid (show D.giveOne j y = (D.free y).giveTo j y from if_neg hsj)
        by_cases hs1 : (D.nd y).slot = -1
        · have t2 : decide ((D.nd y).slot ≥ 0) = false := by rw [hs1]; rfl
          have t3 : decide (0 ≤ (D.nd y).slot) = false := by rw [hs1]; rfl
          have HFr := Lib.hid (show D.free y = D by
            unfold Doc.free; rw [if_pos hs1]
            exact Doc.set_same (by show Nd.setSlot (-1) (D.nd y) = D.nd y; unfold Nd.setSlot; rw [← hs1]))
          obtain ⟨bG, cG, a0, m0, c0, a1, m1, c1, wB, ⟨p1, p1'⟩, ⟨p2, p2'⟩, hrun, p3, p4, p5, p6⟩ := ref_push (y := y) hS hWD (j := j) (by rw [hDn]; exact hj)
          rw [hDn] at p1 p1' p3
          obtain ⟨k1, k2, k3⟩ := can_of hrun
          have HF := Lib.hid p6
          clear hsj hS hWD hs1 hsl hrun p6
          go_wp2_with fail
          refine HSlot.out.mono ?_
          rintro e w' ⟨rfl, rfl⟩
          rw [HSl.out]
          go_wp2_with fail
          go_region
          go_wp2
          go_roundw
          case rel => exact ⟨k + 1, by go_num, hkl, by rw [HNx.out, HG1.out, HFr.out]; exact HF.out⟩
          case measure => simp [intOf]; omega
        · obtain ⟨u, hue, hun⟩ := icast (hsl.resolve_left hs1).1 (hsl.resolve_left hs1).2
          have hun' : u < A.n := by omega
          have huin := HDin.out u hun'
          have t2 : decide ((u : Int) ≥ 0) = true := by simp
          rw [hue] at t1 HSl
          obtain ⟨bN, cN, bG, cG, av, kv, gv, V, hSo, _, _, fG⟩ := ref_at hS hWD
          have c2 := V.G
          have ug := V.g u hun
          obtain ⟨ag, cg, hgv, _, _, hIg⟩ := V.gi u hun
          rw [hgv] at ug
          have hgl := hWD.given_len (i := (u : Int)) huin
          have hn5 := hWD.n_le
          obtain ⟨L, hL⟩ : ∃ L, L = (D.nd u).given := ⟨_, rfl⟩
          rw [← hL] at ug hIg hgl
          have HL := Lib.hid hL
          have HIg := Lib.hid (show IntsAt wr.drew ag L from hIg)
          have HSo := Lib.hid hSo
          have HUE := Lib.hid hue
          have HUI := Lib.hid huin
          have HDN := Lib.hid hDn
          have hLl : L.length ≤ 1000000 := by omega
          have u0 : (0 : Int) ≤ u := by omega
          have u1 : (u : Int) < A.n := by omega
          rw [hDn] at c2
          have cc : wr.drew.cell? ⟨q, 2, none⟩ = some (.slice (some ⟨bG, 0, none⟩) A.n cG) ∧ wr.drew.cell? ⟨b, o + k, none⟩ = some (int y) := ⟨c2, cl⟩
          clear hsj hS hWD hs1 hsl hSo hgv hIg hL hue huin V
          go_wp2_with fail
          refine HSlot.out.mono ?_
          rintro e w' ⟨rfl, rfl⟩
          rw [HSl.out]
          go_wp2_with fail
          refine wp_region_held_drew (S := fun w' => w'.cell? ⟨q, 2, none⟩ = some (.slice (some ⟨bG, 0, none⟩) A.n cG) ∧ w'.cell? ⟨b, o + k, none⟩ = some (int y)) (by kernel_rfl) cc (fun hHeld => ?_)
          refine wpAnyH_take (i := 0) (oi := _) (v := ?_) rfl (by kernel_rfl) (by kernel_rfl) (by kernel_rfl) (fun _ _ _ h => h) (Or.inl ⟨by rfl, ?_⟩) (by assumption) ?_
          rotate_left
          · intro w hSw; (try dsimp only at hSw); (try (obtain ⟨hSa, hSb⟩ := hSw)); go_simp; try with_reducible rfl
          try simp only [Act.put, List.setIfInBounds_toArray, List.set_cons_zero, List.set_cons_succ]
          refine wpAnyH_take (i := 1) (oi := _) (v := ?_) rfl (by kernel_rfl) (by kernel_rfl) (by kernel_rfl) (fun _ _ _ h => h) (Or.inl ⟨by rfl, ?_⟩) (by assumption) ?_
          rotate_left
          · intro w hSw; (try dsimp only at hSw); (try (obtain ⟨hSa, hSb⟩ := hSw)); go_simp; try with_reducible rfl
          try simp only [Act.put, List.setIfInBounds_toArray, List.set_cons_zero, List.set_cons_succ]
          refine wpAnyH_take (i := 2) (oi := _) (v := ?_) rfl (by kernel_rfl) (by kernel_rfl) (by kernel_rfl) (fun _ _ _ h => h) (Or.inl ⟨by rfl, ?_⟩) (by assumption) ?_
          rotate_left
          · intro w hSw; (try dsimp only at hSw); (try (obtain ⟨hSa, hSb⟩ := hSw)); go_simp; try with_reducible rfl
          try simp only [Act.put, List.setIfInBounds_toArray, List.set_cons_zero, List.set_cons_succ]
          refine wpAnyH_take (i := 3) (oi := _) (v := ?_) rfl (by kernel_rfl) (by kernel_rfl) (by kernel_rfl) (fun _ _ _ h => h) (Or.inl ⟨by rfl, ?_⟩) (by assumption) ?_
          rotate_left
          · intro w hSw; (try dsimp only at hSw); (try (obtain ⟨hSa, hSb⟩ := hSw)); go_simp; try with_reducible rfl
          try simp only [Act.put, List.setIfInBounds_toArray, List.set_cons_zero, List.set_cons_succ]
          refine wpAnyH_take (i := 4) (oi := _) (v := ?_) rfl (by kernel_rfl) (by kernel_rfl) (by kernel_rfl) (fun _ _ _ h => h) (Or.inl ⟨by rfl, ?_⟩) (by assumption) ?_
          rotate_left
          · intro w hSw; (try dsimp only at hSw); (try (obtain ⟨hSa, hSb⟩ := hSw)); go_simp; try with_reducible rfl
          try simp only [Act.put, List.setIfInBounds_toArray, List.set_cons_zero, List.set_cons_succ]
          refine wpAnyH_take (i := 5) (oi := _) (v := ?_) rfl (by kernel_rfl) (by kernel_rfl) (by kernel_rfl) (fun _ _ _ h => h) (Or.inl ⟨by rfl, ?_⟩) (by assumption) ?_
          rotate_left
          · intro w hSw; (try dsimp only at hSw); (try (obtain ⟨hSa, hSb⟩ := hSw)); go_simp; try with_reducible rfl
          try simp only [Act.put, List.setIfInBounds_toArray, List.set_cons_zero, List.set_cons_succ]
          refine wpAnyH_take (i := 6) (oi := _) (v := ?_) rfl (by kernel_rfl) (by kernel_rfl) (by kernel_rfl) (fun _ _ _ h => h) (Or.inl ⟨by rfl, ?_⟩) (by assumption) ?_
          rotate_left
          · intro w hSw; (try dsimp only at hSw); (try (obtain ⟨hSa, hSb⟩ := hSw)); go_simp; try with_reducible rfl
          try simp only [Act.put, List.setIfInBounds_toArray, List.set_cons_zero, List.set_cons_succ]
          refine wpAnyH_take (i := 7) (oi := _) (v := ?_) rfl (by kernel_rfl) (by kernel_rfl) (by kernel_rfl) (fun _ _ _ h => h) (Or.inl ⟨by rfl, ?_⟩) (by assumption) ?_
          rotate_left
          · intro w hSw; (try dsimp only at hSw); (try (obtain ⟨hSa, hSb⟩ := hSw)); go_simp; try with_reducible rfl
          try simp only [Act.put, List.setIfInBounds_toArray, List.set_cons_zero, List.set_cons_succ]
          refine wpAnyH_take (i := 8) (oi := _) (v := ?_) rfl (by kernel_rfl) (by kernel_rfl) (by kernel_rfl) (fun _ _ _ h => h) (Or.inl ⟨by rfl, ?_⟩) (by assumption) ?_
          rotate_left
          · intro w hSw; (try dsimp only at hSw); (try (obtain ⟨hSa, hSb⟩ := hSw)); go_simp; try with_reducible rfl
          try simp only [Act.put, List.setIfInBounds_toArray, List.set_cons_zero, List.set_cons_succ]
          refine wpAnyH_take (i := 9) (oi := _) (v := ?_) rfl (by kernel_rfl) (by kernel_rfl) (by kernel_rfl) (fun _ _ _ h => h) (Or.inl ⟨by rfl, ?_⟩) (by assumption) ?_
          rotate_left
          · intro w hSw; (try dsimp only at hSw); (try (obtain ⟨hSa, hSb⟩ := hSw)); go_simp; try with_reducible rfl
          try simp only [Act.put, List.setIfInBounds_toArray, List.set_cons_zero, List.set_cons_succ]
          refine wpAnyH_take (i := 10) (oi := _) (v := ?_) rfl (by kernel_rfl) (by kernel_rfl) (by kernel_rfl) (fun _ _ _ h => h) (Or.inl ⟨by rfl, ?_⟩) (by assumption) ?_
          rotate_left
          · intro w hSw; (try dsimp only at hSw); (try (obtain ⟨hSa, hSb⟩ := hSw)); go_simp; try with_reducible rfl
          try simp only [Act.put, List.setIfInBounds_toArray, List.set_cons_zero, List.set_cons_succ]
          refine wpAnyH_take (i := 12) (oi := _) (v := ?_) rfl (by kernel_rfl) (by kernel_rfl) (by kernel_rfl) (fun _ _ _ h => h) (Or.inl ⟨by rfl, ?_⟩) (by assumption) ?_
          rotate_left
          · intro w hSw; (try dsimp only at hSw); (try (obtain ⟨hSa, hSb⟩ := hSw)); go_simp; try with_reducible rfl
          try simp only [Act.put, List.setIfInBounds_toArray, List.set_cons_zero, List.set_cons_succ]
          refine wpAnyH_take (i := 13) (oi := _) (v := ?_) rfl (by kernel_rfl) (by kernel_rfl) (by kernel_rfl) (fun _ _ _ h => h) (Or.inl ⟨by rfl, ?_⟩) (by assumption) ?_
          rotate_left
          · intro w hSw; (try dsimp only at hSw); (try (obtain ⟨hSa, hSb⟩ := hSw)); go_simp; try with_reducible rfl
          try simp only [Act.put, List.setIfInBounds_toArray, List.set_cons_zero, List.set_cons_succ]
          refine wpAnyH_take (i := 14) (oi := _) (v := ?_) rfl (by kernel_rfl) (by kernel_rfl) (by kernel_rfl) (fun _ _ _ h => h) (Or.inl ⟨by rfl, ?_⟩) (by assumption) ?_
          rotate_left
          · intro w hSw; (try dsimp only at hSw); (try (obtain ⟨hSa, hSb⟩ := hSw)); go_simp; try with_reducible rfl
          try simp only [Act.put, List.setIfInBounds_toArray, List.set_cons_zero, List.set_cons_succ]
          refine wpAnyH_take (i := 15) (oi := _) (v := ?_) rfl (by kernel_rfl) (by kernel_rfl) (by kernel_rfl) (fun _ _ _ h => h) (Or.inl ⟨by rfl, ?_⟩) (by assumption) ?_
          rotate_left
          · intro w hSw; (try dsimp only at hSw); (try (obtain ⟨hSa, hSb⟩ := hSw)); go_simp; try with_reducible rfl
          try simp only [Act.put, List.setIfInBounds_toArray, List.set_cons_zero, List.set_cons_succ]
          refine wpAnyH_ready (rs := [11]) (by kernel_rfl) (by simp) (AllReadyH.cons (o := _) rfl (fun K hK => ?_) AllReadyH.nil)
          go_simp
          refine hK.out _ _ hHeld (fun hHeld => ?_)
          clear hK K
          try simp only [Act.put, List.setIfInBounds_toArray, List.set_cons_zero, List.set_cons_succ]
          refine wpAnyH_ready (rs := [16]) (by kernel_rfl) (by simp) (AllReadyH.cons (o := _) rfl (fun K hK => ?_) AllReadyH.nil)
          go_wp2_with fail
          (refine (rwithout _ cg L y _ HIg.out hLl).mono ?_; rintro e w3 ⟨v', rfl, hf⟩; have h3 := HSo.out.drew.fresh hf; obtain ⟨a3, c3, hv3⟩ := Sep.irow_form h3; subst hv3; have d2 := HCL.out _ _ (ref_close (Sep.front h3)).swap.tail; obtain ⟨rest, hr1, hr2, hr3⟩ := ref_take (Sep.front h3) rfl hun; obtain ⟨d1, d5, e3⟩ := hr2 _ _ hr1; rw [HDN.out] at d1; have H3 := Lib.hid h3; clear h3 hf hr1 hr2 hr3)
          try go_wp2_with fail
          refine hK.out _ _ ⟨d1, d2⟩ (fun hHeld => ?_)
          clear hK K
          try simp only [Act.put, List.setIfInBounds_toArray, List.set_cons_zero, List.set_cons_succ]
          have h4o := ref_given (Sep.front H3.out) rfl hun
          obtain ⟨w4, hw4⟩ : ∃ w4, w4 = w3.setCell ⟨bG, u, none⟩ (.slice a3 (L.filter fun x => x != (y : Int)).length c3) := ⟨_, rfl⟩
          rw [← hw4] at h4o
          obtain ⟨_, hr1, hr2, _⟩ := ref_take (bG := bG) (cG := cG) h4o rfl (show u < (D.set u (.setGiven (L.filter fun x => x != (y : Int)))).n from hun)
          obtain ⟨d6, _, _⟩ := hr2 _ _ hr1
          have d6' : w4.cell? ⟨q, 2, none⟩ = some (.slice (some ⟨bG, 0, none⟩) A.n cG) := by rw [← HDN.out]; exact d6
          have h5 : Sep W w4 (refA q (D.free y) :: rs) := ref_freed (by rw [← HL.out]; exact ref_close h4o) HWD.out HUI.out HUE.out
          have d7 := HCL.out _ _ h5
          have HW4 := Lib.hid hw4
          have H5 := Lib.hid h5
          clear h4o hr1 hr2 d6 hw4 h5
          refine wpAnyH_take (i := 17) (oi := _) (v := ?_) rfl (by kernel_rfl) (by kernel_rfl) (by kernel_rfl) (fun _ _ _ h => h) (Or.inl ⟨by rfl, ?_⟩) (by assumption) ?_
          rotate_left
          · intro w hSw; (try dsimp only at hSw); (try (obtain ⟨hSa, hSb⟩ := hSw)); go_simp; try with_reducible rfl
          try simp only [Act.put, List.setIfInBounds_toArray, List.set_cons_zero, List.set_cons_succ]
          refine wpAnyH_ready (rs := [18]) (by kernel_rfl) (by simp) (AllReadyH.cons (o := _) rfl (fun K hK => ?_) AllReadyH.nil)
          go_simp
          refine hK.out _ _ (HW4.out ▸ ⟨d6', d7⟩) (fun hHeld => ?_)
          clear hK K
          try simp only [Act.put, List.setIfInBounds_toArray, List.set_cons_zero, List.set_cons_succ]
          refine wpAnyH_done (by kernel_rfl) ?_ _
          rw [← HW4.out]
          clear d1 d2 d5 e3 hHeld d6'
          obtain ⟨bG2, cG2, a0, m0, c0, a1, m1, c1, wB, ⟨p1, p1'⟩, ⟨p2, p2'⟩, hrun, p3, p4, p5, p6⟩ := ref_push (y := y) H5.out (HWD.out.free y) (j := j) (by rw [free_n, HDN.out]; exact hj)
          rw [free_n, HDN.out] at p1 p1' p3
          obtain ⟨k1, k2, k3⟩ := can_of hrun
          have HF := Lib.hid p6
          clear hrun p6
          go_wp2_with fail
          go_region
          go_wp2
          go_roundw
          case rel => exact ⟨k + 1, by go_num, hkl, by rw [HNx.out, HG1.out]; exact HF.out⟩
          case measure => simp [intOf]; omega
    · obtain rfl : k = l.length := by omega
      have t0 : decide ((l.length : Int) < l.length) = false := by simp
      clear hS hWD
      go_wp2
      go_ret
      refine ⟨by rw [HE.out]; rfl, ?_⟩
      have := HS.out
      rw [HDD.out, List.take_length] at this
      rw [HD.out]; exact this
end
end Go.Proofs.YtgdmaikjaopddaaGreatDoor

/- The document's own answer: Node. -/
namespace Go.Proofs.YtgdmaikjaopddaaGreatDoor
open Go.RowKit

section
variable {W w : World} {rs : List Res} {q : Nat} {A : Doc}
theorem Sep.blk_heap {g e : Nat} {cs : Array Value} (h : Sep W w (blk g e cs :: rs)) : w.heap[g]? = some (.cells cs e (0, 0)) := by
  obtain ⟨G, hG, _⟩ := h.head
  exact hG
theorem Sep.blk_frozen {g e : Nat} {cs : Array Value} (h : Sep W w (blk g e cs :: rs)) (o : Nat) : w.frozen? ⟨g, o, none⟩ = false := by simp [World.frozen?, h.blk_heap]
theorem Sep.blk_set {g e : Nat} {cs : Array Value} (h : Sep W w (blk g e cs :: rs)) (k : Nat) (v : Value) : Sep W (w.setCell ⟨g, k, none⟩ v) (blk g e (cs.setIfInBounds k v) :: rs) := by
  obtain ⟨G, ⟨hg, hG⟩, _, hs⟩ := h.step
  exact hs _ G (blk g e (cs.setIfInBounds k v)) ((Only.refl _ _).setCell (p := ⟨g, k, none⟩) (.inl ((hG g).2 rfl)) v) ⟨by simp [World.setCell, Array.getElem?_modify, hg], hG⟩ fun _ hk => .inl hk
theorem Sep.blk_row {g e : Nat} {cs cs' : Array Value} (h : Sep W w (blk g e cs :: rs)) : Sep W (w.setRow g cs') (blk g e cs' :: rs) := by
  obtain ⟨G, ⟨hg, hG⟩, _, hs⟩ := h.step
  exact hs _ G (blk g e cs') ((Only.refl _ _).setRow (.inl ((hG g).2 rfl)) cs') ⟨setRow_heap w g cs cs' e _ hg, hG⟩ fun _ hk => .inl hk
theorem wpList_store_blk {ops : Array Oper} {rest : List Oper} {o : Oper} {a : Act} {Q : Exit → Act → World → Prop} (hgd : o.guard = none) (ty : TypeId) (x y : Operand) (ho : o.op = .store ty x y) {g e : Nat} {old cells : Array Value} (hs : Sep W w (blk g e old :: rs))
    (hx : a.eval x = .pointer (some ⟨g, 0, none⟩)) (hy : a.eval y = .agg cells) (hi : (Tryz.prog.info? ty).map (·.size) = some cells.size) (hold : old.size = cells.size) (h1 : cells.all (·.oneCell') = true)
    (h : ∀ w', Sep W w' (blk g e cells :: rs) → wpList Tryz.prog ops Q rest (a.put o.dst undef) w') : wpList Tryz.prog ops Q (o :: rest) a w :=
  wpList_store_row hgd ty x y ho g cells hx hy e old hs.blk_heap hi hold h1 (h _ hs.blk_row)

def nd0 : Array Value := #[.int .u8 0, .string ⟨#[]⟩, .string ⟨#[]⟩, .slice none 0 0, .int .i64 0, .slice none 0 0, .int .i64 0, .int .i64 0, .int .i64 0, .bool false, .bool false, .bool false, .bool false, .bool false]
set_option maxRecDepth 100000 in
theorem rnode_no (h : Sep W w (refA q A :: rs)) (hw : WF A) (i : Int) (hi : ¬ A.In i) :
    Calls Tryz.prog 53 #[ptr q, int i] w fun e w' => e = .returned (.tuple #[noNode, int 80]) ∧ Sep W w' (refA q A :: rs) := by
  have H := Lib.hid (h.alloc (.cells #[.int .u8 0, .string .empty, .string .empty, .slice none 0 0, int 0, .slice none 0 0, int 0, int 0, int 0, .bool false, .bool false, .bool false, .bool false, .bool false] 35))
  have TD := Lib.hid (show decide (A.In i) = false from decide_eq_false hi)
  have Hw := Lib.hid hw
  clear h hi hw
  go_enter Tryz.func53, Tryz.ntmps53
  go_wp2_with fail
  refine (rthere H.out Hw.out i).mono ?_
  rintro e w' ⟨rfl, rfl⟩
  rw [TD.out]
  go_wp2_with (refine wpList_store_new rfl 35 _ _ rfl rfl rfl nd_info rfl (by rfl) ?_)
  refine bodyPost_ret (v := .tuple #[noNode, int 80]) ?_ rfl ?_
  · exact results_cell_tmp Tryz.results53 _ _ w.heap.size 35 _ (0, 0) _ rfl (heap_alloc_new w _) Tryz.underlying35 rfl nd_info
  · exact ⟨rfl, H.out⟩

set_option maxRecDepth 100000 in
set_option maxHeartbeats 2000000 in
theorem rnode_yes (h : Sep W w (refA q A :: rs)) (hw : WF A) (i : Int) (hi : A.In i) :
    Calls Tryz.prog 53 #[ptr q, int i] w fun e w' => ∃ a k, e = .returned (.tuple #[ndVal (A.nd i) a k, int 0]) ∧ Sep W w' (irow k (A.nd i).kids :: arow a (A.nd i).attrs :: refA q A :: rs) := by
  obtain ⟨j, rfl, hj⟩ := icast hi.1 hi.2
  have TD := Lib.hid (show decide (A.In j) = true from decide_eq_true hi)
  have Hw := Lib.hid hw
  have hn := hw.n_le
  have hal := hw.att j hi
  have hkl := hw.kids_len hi
  have j0 : (0 : Int) ≤ j := by omega
  have j1 : (j : Int) < A.n := by omega
  obtain ⟨bN, cN, bG, cG, av, kv, gv, V, hS, _, _, _⟩ := ref_at h hw
  obtain ⟨aa, ca, hav, _, _, hat⟩ := V.a j hj
  obtain ⟨ak, ck, hkv, _, _, _⟩ := V.k j hj
  obtain ⟨L, hL⟩ : ∃ L, L = refL q A (.slice (some ⟨bN, 0, none⟩) A.n cN) (.slice (some ⟨bG, 0, none⟩) A.n cG) av kv gv := ⟨_, rfl⟩
  have hmemK : irow (kv j) (A.nd j).kids ∈ L := by rw [hL]; unfold refL; exact List.mem_cons_of_mem _ (List.mem_cons_of_mem _ (List.mem_cons_of_mem _ (mem_rowsL hj (by simp [rowsOf]))))
  have HK := Lib.hid (show ∀ (w' : World) (rs' : List Res), Sep W w' rs' → irow (kv j) (A.nd j).kids ∈ rs' → IntsAt w' ak (A.nd j).kids from fun w' rs' h' hm => by
    obtain ⟨G, hG⟩ := h'.mem hm
    exact rowHolds.intsAt hG (by omega) hkv)
  have HCl := Lib.hid (show ∀ w' rs', Sep W w' (L ++ rs') → Sep W w' (refA q A :: rs') from fun w' rs' h' => ref_close (hL ▸ h'))
  rw [← hL] at hS
  obtain ⟨w0, hw0⟩ : ∃ w0, w0 = w.alloc (.cells nd0 35) := ⟨_, rfl⟩
  have hb0 : Below w.heap.size w w0 := hw0 ▸ alloc_drewN w _ 0
  have h0 := hS.blk_new nd0 35
  rw [← hw0] at h0
  obtain ⟨g, hg⟩ : ∃ g, g = w.heap.size := ⟨_, rfl⟩
  rw [← hg] at h0
  have HT := Lib.hid (rthere (h.belowed hb0) hw j)
  have HW0 := Lib.hid hw0
  have HG := Lib.hid hg
  have V0 := V.keep hb0
  have c1 := V0.N
  have u0 := V0.c0 hj
  have u1 := V0.c1 hj
  have u2 := V0.c2 hj
  have u3 := V0.c3 hj
  have u4 := V0.c4 hj
  have u5 := V0.c5 hj
  have u6 := V0.c6 hj
  have u7 := V0.c7 hj
  have u8 := V0.c8 hj
  have u9 := V0.c9 hj
  have u10 := V0.c10 hj
  have u11 := V0.c11 hj
  have u12 := V0.c12 hj
  have u13 := V0.c13 hj
  rw [hav] at u3
  rw [hkv] at u5
  obtain ⟨x, hx⟩ : ∃ x, x = A.nd j := ⟨_, rfl⟩
  have HM := Lib.hid (show irow (kv j) x.kids ∈ L from hx ▸ hmemK)
  rw [← hx] at u0 u1 u2 u3 u4 u5 u6 u7 u8 u9 u10 u11 u12 u13 hat hal hkl HK
  have hal6 : x.attrs.length ≤ 1000000 := by omega
  have hkl6 : x.kids.length ≤ 1000000 := by omega
  have HX := Lib.hid hx
  have h1 := h0.blk_new (ndCells x (.slice aa x.attrs.length ca) (.slice ak x.kids.length ck)) 35
  obtain ⟨w1, hw1⟩ : ∃ w1, w1 = w0.alloc (.cells (ndCells x (.slice aa x.attrs.length ca) (.slice ak x.kids.length ck)) 35) := ⟨_, rfl⟩
  rw [← hw1] at h1
  have hb1 : Below w0.heap.size w0 w1 := hw1 ▸ alloc_drewN w0 _ 0
  have HAt := Lib.hid ((hat.keep hb0).keep hb1)
  have HW1 := Lib.hid hw1
  obtain ⟨g2, hg2⟩ : ∃ g2, g2 = w0.heap.size := ⟨_, rfl⟩
  rw [← hg2] at h1
  have HG2 := Lib.hid hg2
  have H1 := Lib.hid h1
  have d3 : w1.cell? ⟨g2, 3, none⟩ = some (.slice aa x.attrs.length ca) := h1.blk_cell 3
  clear h hw hi hmemK V hS hL hav hkv hat hw0 hb0 h0 hg V0 hx hw1 hb1 hg2 h1
  go_enter Tryz.func53, Tryz.ntmps53
  go_wp2_with fail
  rw [show (w.alloc (.cells #[.int .u8 0, .string ⟨#[]⟩, .string ⟨#[]⟩, .slice none 0 0, .int .i64 0, .slice none 0 0, .int .i64 0, .int .i64 0, .int .i64 0, .bool false, .bool false, .bool false, .bool false, .bool false] 35)) = w0 from HW0.out.symm, ← HG.out]
  refine HT.out.mono ?_
  rintro e w' ⟨rfl, rfl⟩
  rw [TD.out]
  go_wp2_with (refine wpList_store_node rfl _ _ rfl rfl rfl rfl ?_; rw [← HW1.out, ← HG2.out]; clear u0 u1 u2 u3 u4 u5 u6 u7 u8 u9 u10 u11 u12 u13 c1)
  refine (rattrs aa ca x.attrs w1 HAt.out hal6).mono ?_
  rintro e w2 ⟨va, rfl, hfa⟩
  have h2 := H1.out.fresh hfa
  obtain ⟨a1, n1, rfl⟩ := Sep.arow_form h2
  have h2s : Sep W w2 (blk g2 35 (ndCells x (.slice aa x.attrs.length ca) (.slice ak x.kids.length ck)) :: arow (.slice a1 x.attrs.length n1) x.attrs :: blk g 35 nd0 :: (L ++ rs)) := Sep.swap h2
  have e3 : w2.cell? ⟨g2, 3, none⟩ = some (.slice aa x.attrs.length ca) := h2s.blk_cell 3
  have e5 : w2.cell? ⟨g2, 5, none⟩ = some (.slice ak x.kids.length ck) := h2s.blk_cell 5
  have ef := h2s.blk_frozen
  have h3 := h2s.blk_set 3 (.slice a1 x.attrs.length n1)
  obtain ⟨w3, hw3⟩ : ∃ w3, w3 = w2.setCell ⟨g2, 3, none⟩ (.slice a1 x.attrs.length n1) := ⟨_, rfl⟩
  rw [← hw3] at h3
  have HW3 := Lib.hid hw3
  have HK3 := Lib.hid (HK.out w3 _ h3 (by have := HM.out; simp [this]))
  have H3 := Lib.hid h3
  clear h2 h2s h3 hw3 hfa d3
  go_wp2_with fail
  rw [← HW3.out]
  refine (rints ak ck x.kids w3 HK3.out hkl6).mono ?_
  rintro e w4 ⟨vk, rfl, hfk⟩
  have h4 := H3.out.fresh hfk
  obtain ⟨a2, n2, rfl⟩ := Sep.irow_form h4
  have h4s : Sep W w4 (blk g2 35 (ndCells x (.slice a1 x.attrs.length n1) (.slice ak x.kids.length ck)) :: irow (.slice a2 x.kids.length n2) x.kids :: arow (.slice a1 x.attrs.length n1) x.attrs :: blk g 35 nd0 :: (L ++ rs)) := Sep.swap h4
  have f0 : w4.cell? ⟨g2, 0, none⟩ = some (.int .u8 x.kind) := h4s.blk_cell 0
  have f1 : w4.cell? ⟨g2, 1, none⟩ = some (.string x.name) := h4s.blk_cell 1
  have f2 : w4.cell? ⟨g2, 2, none⟩ = some (.string x.data) := h4s.blk_cell 2
  have f3 : w4.cell? ⟨g2, 3, none⟩ = some (.slice a1 x.attrs.length n1) := h4s.blk_cell 3
  have f4 : w4.cell? ⟨g2, 4, none⟩ = some (int x.up) := h4s.blk_cell 4
  have f5 : w4.cell? ⟨g2, 5, none⟩ = some (.slice ak x.kids.length ck) := h4s.blk_cell 5
  have f6 : w4.cell? ⟨g2, 6, none⟩ = some (int x.shadow) := h4s.blk_cell 6
  have f7 : w4.cell? ⟨g2, 7, none⟩ = some (int x.host) := h4s.blk_cell 7
  have f8 : w4.cell? ⟨g2, 8, none⟩ = some (int x.own) := h4s.blk_cell 8
  have f9 : w4.cell? ⟨g2, 9, none⟩ = some (.bool x.fl.closed) := h4s.blk_cell 9
  have f10 : w4.cell? ⟨g2, 10, none⟩ = some (.bool x.fl.manual) := h4s.blk_cell 10
  have f11 : w4.cell? ⟨g2, 11, none⟩ = some (.bool x.fl.delegates) := h4s.blk_cell 11
  have f12 : w4.cell? ⟨g2, 12, none⟩ = some (.bool x.fl.serial) := h4s.blk_cell 12
  have f13 : w4.cell? ⟨g2, 13, none⟩ = some (.bool x.fl.clonable) := h4s.blk_cell 13
  have ff := h4s.blk_frozen
  have h5 := h4s.blk_set 5 (.slice a2 x.kids.length n2)
  obtain ⟨w5, hw5⟩ : ∃ w5, w5 = w4.setCell ⟨g2, 5, none⟩ (.slice a2 x.kids.length n2) := ⟨_, rfl⟩
  rw [← hw5] at h5
  have HW5 := Lib.hid hw5
  have H5 := Lib.hid (show Sep W w5 (blk g 35 nd0 :: irow (.slice a2 x.kids.length n2) x.kids :: arow (.slice a1 x.attrs.length n1) x.attrs :: (L ++ rs)) from (Sep.tail h5).third)
  clear h4 h4s h5 hw5 hfk e3 e5 ef
  go_wp2_with (rw [← HW5.out]; refine wpList_store_blk rfl 35 _ _ rfl H5.out (cells := ndCells x (.slice a1 x.attrs.length n1) (.slice a2 x.kids.length n2)) rfl rfl nd_info rfl (nd_ones _ _ _ _ _ _ _) ?_; intro w6 h6; have H6 := Lib.hid h6; clear h6)
  refine bodyPost_ret (v := .tuple #[ndVal (A.nd j) (.slice a1 x.attrs.length n1) (.slice a2 x.kids.length n2), int 0]) ?_ rfl ?_
  · rw [← HX.out]
    exact results_cell_tmp Tryz.results53 _ _ g 35 _ (0, 0) _ rfl H6.out.blk_heap Tryz.underlying35 rfl nd_info
  · refine ⟨_, _, rfl, ?_⟩
    rw [← HX.out]
    have h7 := H6.out.tail
    have h8 : Sep W w6 ((L ++ rs) ++ [irow (.slice a2 x.kids.length n2) x.kids, arow (.slice a1 x.attrs.length n1) x.attrs]) := h7.perm (List.perm_append_comm (l₁ := [irow (.slice a2 x.kids.length n2) x.kids, arow (.slice a1 x.attrs.length n1) x.attrs]))
    rw [List.append_assoc] at h8
    have h9 : Sep W w6 (refA q A :: (rs ++ [irow (.slice a2 x.kids.length n2) x.kids, arow (.slice a1 x.attrs.length n1) x.attrs]))  := HCl.out _ _ h8
    exact h9.perm (List.perm_append_comm (l₁ := refA q A :: rs) (l₂ := [irow (.slice a2 x.kids.length n2) x.kids, arow (.slice a1 x.attrs.length n1) x.attrs]))
end
end Go.Proofs.YtgdmaikjaopddaaGreatDoor
