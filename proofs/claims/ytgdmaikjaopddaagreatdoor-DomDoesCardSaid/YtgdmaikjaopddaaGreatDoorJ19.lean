/- Drop: an attribute is taken away; the library's Delete of one attribute. -/
import Derived.Test.YtgdmaikjaopddaaGreatDoorJ18
import Derived.ArgAppend
namespace Go.Proofs.YtgdmaikjaopddaaGreatDoor
open Go.RowKit

theorem heap_setCells {g e : Nat} {fr : Nat × Nat} : ∀ (vs : List Value) (o : Nat) (w : World) (cur : Array Value), w.heap[g]? = some (.cells cur e fr) →
    ∃ cur', (w.setCells g o vs).heap[g]? = some (.cells cur' e fr) ∧ cur'.size = cur.size ∧ ∀ j, j < cur.size → cur'[j]? = if o ≤ j ∧ j < o + vs.length then vs[j - o]? else cur[j]?
  | [], o, w, cur, h => ⟨cur, h, rfl, fun j _ => by rw [if_neg (by rintro ⟨h1, h2⟩; simp at h2; omega)]⟩
  | v :: t, o, w, cur, h => by
    obtain ⟨cur', h1, h2, h3⟩ := heap_setCells (g := g) (e := e) (fr := fr) t (o + 1) (w.setCell ⟨g, o, none⟩ v) (cur.setIfInBounds o v) (by simp [World.setCell, Array.getElem?_modify, h])
    refine ⟨cur', h1, by simpa using h2, fun j hj => ?_⟩
    rw [h3 j (by simpa using hj)]
    by_cases hoj : j = o
    · subst hoj
      rw [if_neg (by omega), if_pos ⟨Nat.le_refl _, by simp⟩]
      simp [hj]
    · by_cases hin : o + 1 ≤ j ∧ j < o + 1 + t.length
      · rw [if_pos hin, if_pos ⟨by omega, by simp; omega⟩, show j - o = (j - (o + 1)) + 1 by omega]; rfl
      · rw [if_neg hin, if_neg (by simp; omega), Array.getElem?_setIfInBounds_ne (fun e => hoj e.symm)]
theorem only_setCells {F : Nat → Prop} {a : World} {g : Nat} (hg : F g ∨ a.heap.size ≤ g) : ∀ (vs : List Value) (o : Nat) (w : World), Only F a w → Only F a (w.setCells g o vs)
  | [], _, _, h => h
  | v :: t, o, w, h => only_setCells hg t (o + 1) _ (h.setCell (p := ⟨g, o, none⟩) hg v)
theorem frozen_setCells {g : Nat} : ∀ (vs : List Value) (o : Nat) (w : World) (a : Addr), (w.setCells g o vs).frozen? a = w.frozen? a
  | [], _, _, _ => rfl
  | v :: t, o, w, a => by
    show ((w.setCell ⟨g, o, none⟩ v).setCells g (o + 1) t).frozen? a = _
    rw [frozen_setCells t]; simp
theorem zeroAttr : ∀ w, (zeroValue TAttr).run Tryz.prog w = .ok (.agg #[.string ⟨#[]⟩, .string ⟨#[]⟩]) w := Tryz.zeroValue67
theorem zero_cells2 (a b : Value) : (Builtin.zeroCells #[a, b] 1).toList = [a, b] := by
  simp [Builtin.zeroCells]
  apply List.ext_getElem
  · simp
  · intro i h1 h2
    have : i < 2 := by simpa using h2
    rcases (show i = 0 ∨ i = 1 by omega) with rfl | rfl <;> simp
theorem run_clear_attr (w : World) (ty : TypeId) (g o c : Nat) (hc : ∀ j, j < 2 → (w.cell? ⟨g, o + j, none⟩).isSome = true) (hf : ∀ j, j < 2 → w.frozen? ⟨g, o + j, none⟩ = false) :
    (Builtin.clear_ #[30] ty #[.slice (some ⟨g, o, none⟩) 1 c]).run Tryz.prog w = .ok (.tuple #[]) (w.setCells g o [.string ⟨#[]⟩, .string ⟨#[]⟩]) := by
  have hst := run_storeCells_cells (P := Tryz.prog) g o [.string ⟨#[]⟩, .string ⟨#[]⟩] 0 w (by simpa using hc) (by simpa using hf) (by intro v hv; simp at hv; rw [hv]; rfl)
  simp only [Nat.add_zero] at hst
  have hz : (Builtin.zeroCells (Value.agg #[.string ⟨#[]⟩, .string ⟨#[]⟩]).cells 1).toList = [.string ⟨#[]⟩, .string ⟨#[]⟩] := zero_cells2 _ _
  simp [Builtin.clear_, run_underlying Tryz.underlying30, zeroAttr, hz, hst]

theorem acells_append (a b : List Attr) : acells (a ++ b) = acells a ++ acells b := by simp [acells]
theorem acells_len : ∀ l : List Attr, (acells l).length = l.length * 2
  | [] => rfl
  | x :: t => by
    have e : acells (x :: t) = .string x.1 :: .string x.2 :: acells t := rfl
    rw [e]; simp only [List.length_cons, acells_len t]; omega
theorem acells_take (l : List Attr) (k : Nat) (hk : k ≤ l.length) : acells (l.take k) = (acells l).take (k * 2) := by
  conv => rhs; rw [← List.take_append_drop k l, acells_append]
  rw [List.take_append_of_le_length (by rw [acells_len, List.length_take]; omega)]
  exact (List.take_of_length_le (by rw [acells_len, List.length_take]; omega)).symm
theorem acells_drop (l : List Attr) (k : Nat) (hk : k ≤ l.length) : acells (l.drop k) = (acells l).drop (k * 2) := by
  conv => rhs; rw [← List.take_append_drop k l, acells_append]
  have e : (acells (l.take k)).length = k * 2 := by rw [acells_len, List.length_take]; omega
  rw [List.drop_append_of_le_length (by omega)]
  have : (acells (l.take k)).drop (k * 2) = [] := List.drop_of_length_le (by omega)
  rw [this]; rfl

attribute [local go_sem ↓] wp_can in
set_option maxRecDepth 100000 in
set_option maxHeartbeats 1000000 in
theorem delete_attr {v : Value} {l : List Attr} {w : World} {F : Nat → Prop} (h : (arow v l).holds w F) (hn : l.length ≤ 1000000) (k : Nat) (hk : k < l.length) :
    Calls Tryz.prog 64 #[v, int k, int (k + 1 : Nat)] w fun e w' => ∃ v', e = .returned v' ∧ (arow v' (l.eraseIdx k)).holds w' F ∧ Only F w w' := by
  obtain ⟨m, hm⟩ : ∃ m, l.length = m + 1 := ⟨l.length - 1, by omega⟩
  have h' : rowHolds TAttr 2 v (m + 1) (acells l) w F := hm ▸ h
  obtain ⟨g, cap, cur, rfl, hg, h1, h2, h3, h4, h5⟩ := rowHolds.parts h' (by omega)
  have hcl := acells_len l
  rw [hm] at hcl
  have hcell : ∀ o u, (acells l)[o]? = some u → w.cell? ⟨g, o, none⟩ = some u := fun o u hu => by
    rw [cell_of_row w g o cur TAttr (0, 0) hg]
    rw [← h4, List.getElem?_take] at hu
    split at hu
    · simpa using hu
    · cases hu
  have hfz : ∀ o, w.frozen? ⟨g, o, none⟩ = false := fun o => by simp [World.frozen?, hg]
  obtain ⟨i0, hi0, hz0, hz1, hz2⟩ := info_parts attr_info
  -- the cells behind
  obtain ⟨news, hnews⟩ : ∃ news, news = acells (l.drop (k + 1)) := ⟨_, rfl⟩
  have hnl : news.length = (m - k) * 2 := by rw [hnews, acells_len, List.length_drop]; omega
  obtain ⟨W1, hW1⟩ : ∃ W1, W1 = w.drew.setCells g (k * 2) news := ⟨_, rfl⟩
  have happ : ∀ a0 n0 c0 : Nat, n0 = m - k → (a0 = (k + 1) * 2 ∨ m - k = 0) → (Builtin.append_ #[30, 30] 30 #[.slice (some ⟨g, 0, none⟩) k cap, .slice (some ⟨g, a0, none⟩) n0 c0]).run Tryz.prog w.drew = .ok (.slice (some ⟨g, 0, none⟩) m cap) W1 := fun a0 n0 c0 hn0 ha0 => by
    have := run_append_room_cells (P := Tryz.prog) (w := w.drew) (ty := 30) 30 TAttr i0 Tryz.underlying30 hi0 g 0 k cap ⟨g, a0, none⟩ n0 c0 news (by rw [hz1, hnl, hn0]) (fun j u hu => by
      rcases ha0 with rfl | h0
      · show w.cell? _ = _
        have e : (⟨g, (k + 1) * 2, none⟩ : Addr).add j = ⟨g, (k + 1) * 2 + j, none⟩ := by unfold Addr.add; split <;> simp_all
        rw [e]
        refine hcell _ _ ?_
        rw [hnews, acells_drop l (k + 1) hk, List.getElem?_drop] at hu
        exact hu
      · rw [h0] at hnl
        have : j < news.length := (List.getElem?_eq_some_iff.1 hu).1
        omega) (fun u hu => by
          rw [hnews] at hu
          unfold acells at hu
          simp only [List.mem_flatMap] at hu
          obtain ⟨x, _, hu⟩ := hu
          simp at hu
          rcases hu with rfl | rfl <;> rfl) (by omega) (fun j hj => by
            rw [hz1]
            show (w.cell? ⟨g, 0 + k * 2 + j, none⟩).isSome = true
            have : (acells l)[0 + k * 2 + j]? = some ((acells l)[0 + k * 2 + j]'(by omega)) := by rw [List.getElem?_eq_getElem]
            rw [hcell _ _ this]; rfl) (fun j _ => hfz _)
    rw [hz1, Nat.zero_add, show k + n0 = m by omega] at this
    rw [this, hW1]
  -- the row behind the append
  have hgd : w.drew.heap[g]? = some (.cells cur TAttr (0, 0)) := hg
  obtain ⟨cur1, k1, k2, k3⟩ := heap_setCells news (k * 2) w.drew cur hgd
  rw [← hW1] at k1
  have hgF : F g := (h5 g).2 rfl
  have hO1 : Only F w W1 := hW1 ▸ only_setCells (.inl hgF) _ _ _ (Only.drew (.refl _ _))
  obtain ⟨W2, hW2⟩ : ∃ W2, W2 = W1.setCells g (m * 2) [.string ⟨#[]⟩, .string ⟨#[]⟩] := ⟨_, rfl⟩
  obtain ⟨cur2, m1, m2, m3⟩ := heap_setCells [.string ⟨#[]⟩, .string ⟨#[]⟩] (m * 2) W1 cur1 k1
  rw [← hW2] at m1
  have hO2 : Only F w W2 := hW2 ▸ only_setCells (.inl hgF) _ _ _ hO1
  have hclr : ∀ ty cc, (Builtin.clear_ #[30] ty #[.slice (some ⟨g, m * 2, none⟩) 1 cc]).run Tryz.prog W1 = .ok (.tuple #[]) W2 := fun ty cc => by
    rw [hW2]
    refine run_clear_attr W1 ty g _ _ (fun j hj => ?_) (fun j hj => ?_)
    · have hlt : m * 2 + j < cur1.size := by rw [k2, h3]; omega
      rw [cell_of_row W1 g _ cur1 TAttr (0, 0) k1, Array.getElem?_eq_getElem hlt]; rfl
    · rw [hW1, frozen_setCells]; exact hfz _
  have hfin : (arow (.slice (some ⟨g, 0, none⟩) m cap) (l.eraseIdx k)).holds W2 F := by
    have hel : (l.eraseIdx k).length = m := by rw [List.length_eraseIdx, if_pos hk]; omega
    show rowHolds TAttr 2 _ (l.eraseIdx k).length (acells (l.eraseIdx k)) W2 F
    rw [hel]
    refine ⟨by rw [acells_len, hel], .inr ⟨g, cap, cur2, rfl, m1, by omega, h2, by rw [m2, k2, h3], ?_, h5⟩⟩
    rw [List.eraseIdx_eq_take_drop_succ, acells_append, acells_take l k (by omega), ← hnews]
    apply List.ext_getElem?
    intro j
    by_cases hj : j < m * 2
    · rw [List.getElem?_take, if_pos hj, Array.getElem?_toList, m3 j (by rw [k2, h3]; omega), if_neg (by omega), k3 j (by rw [h3]; omega)]
      by_cases hjk : j < k * 2
      · rw [if_neg (by omega), List.getElem?_append_left (by rw [List.length_take]; omega), List.getElem?_take, if_pos hjk, ← h4, List.getElem?_take, if_pos (by omega), Array.getElem?_toList]
      · rw [if_pos ⟨by omega, by omega⟩, List.getElem?_append_right (by rw [List.length_take]; omega), List.length_take, Nat.min_eq_left (by omega)]
    · rw [List.getElem?_eq_none (by rw [List.length_take]; omega), List.getElem?_eq_none (by rw [List.length_append, List.length_take]; omega)]
  have HF := Lib.hid hfin
  have HO := Lib.hid hO2
  have hc2 : cap ≤ 9223372036854775807 := h2
  have hkm : k ≤ m := by omega
  by_cases hkc : cap - (k + 1) = 0
  · obtain ⟨rfl, rfl⟩ : cap = k + 1 ∧ m = k := by omega
    obtain ⟨q1, q2, q3⟩ := can_of (happ 0 0 0 (by omega) (.inr (by omega)))
    clear h h' hg h1 h3 h4 h5 hcl hcell hfz happ hgd k1 k2 k3 m1 m2 m3 hO1 hO2 hfin hnews hnl hW1 hW2 hm hk
    go_enter Tryz.func64, Tryz.ntmps64
    go_wp2_with fail
    go_region
    go_wp2
    go_ret
    exact ⟨_, rfl, HF.out, HO.out⟩
  · obtain ⟨q1, q2, q3⟩ := can_of (happ ((k + 1) * 2) (m - k) (cap - (k + 1)) rfl (.inl rfl))
    have hkn : (k : Int) + 1 ≤ (m + 1 : Nat) := by omega
    have hnc : ((m + 1 : Nat) : Int) ≤ cap := by omega
    clear h h' hg h3 h4 h5 hcl hcell hfz happ hgd k1 k2 k3 m1 m2 m3 hO1 hO2 hfin hnews hnl hW1 hW2 hm hk
    go_enter Tryz.func64, Tryz.ntmps64
    go_wp2_with fail
    go_region
    go_wp2
    go_ret
    exact ⟨_, rfl, HF.out, HO.out⟩

section
variable {W w : World} {rs : List Res} {p : Nat} {A : Doc}
set_option maxRecDepth 100000 in
set_option maxHeartbeats 1000000 in
theorem drop_doc (h : Sep W w (docA p A :: rs)) (i : Int) (nm : ByteArray) :
    Calls Tryz.prog 28 #[ptr p, int i, .string nm] w fun e w' => e = .returned (.int .u16 (A.dropE i nm)) ∧ Sep W w' (docA p (A.dropA i nm) :: rs) := by
  by_cases hi : A.In i
  case neg =>
    have hE : A.dropE i nm = 80 := by unfold Doc.dropE; rw [if_neg hi]
    have HE := Lib.hid hE
    have HS := Lib.hid (show Sep W w (docA p (A.dropA i nm) :: rs) by unfold Doc.dropA; rw [if_neg (by rw [hE]; decide)]; exact h)
    have H := Lib.hid h
    clear h hE
    go_enter Tryz.func28, Tryz.ntmps28
    go_wp2_with fail
    refine (element_no H.out i hi).mono ?_
    rintro e w' ⟨rfl, rfl⟩
    go_wp2
    go_ret
    exact ⟨by rw [HE.out]; rfl, HS.out⟩
  by_cases hk : (A.nd i).kind = 1
  case neg =>
    have hE : A.dropE i nm = 81 := by unfold Doc.dropE; rw [if_pos hi, if_neg hk]
    have HE := Lib.hid hE
    have HS := Lib.hid (show Sep W w (docA p (A.dropA i nm) :: rs) by unfold Doc.dropA; rw [if_neg (by rw [hE]; decide)]; exact h)
    have H := Lib.hid h
    have hk' : ((A.nd i).kind == 1) = false := by simpa using hk
    clear h hE
    go_enter Tryz.func28, Tryz.ntmps28
    go_wp2_with fail
    refine (element_other H.out i hi hk').mono ?_
    rintro e w' ⟨rfl, rfl⟩
    go_wp2
    go_ret
    exact ⟨by rw [HE.out]; rfl, HS.out⟩
  have hE0 : A.dropE i nm = if hasB (A.nd i).attrs nm = true then 0 else 82 := by unfold Doc.dropE; rw [if_pos hi, if_pos hk]
  have HE0 := Lib.hid hE0
  obtain ⟨j, rfl, hj⟩ := icast hi.1 hi.2
  have H := Lib.hid h
  have hk' : ((A.nd j).kind == 1) = true := by simpa using hk
  obtain ⟨hw, B, R, hl, hS⟩ := docA_open h
  obtain ⟨G, ⟨cap, av, gv, Fa, Fg, hC, hG⟩, hlt, hst⟩ := hS.step
  have hatt := hw.att j hi
  have hrow := hC.attrs j hj
  rw [(hl.same j hi).attrs] at hrow
  obtain ⟨l, hll⟩ : ∃ l, l = (A.nd j).attrs := ⟨_, rfl⟩
  rw [← hll] at hrow hatt hE0
  obtain ⟨ag, cg, hav, hcg, _⟩ := rowHolds.form hrow
  have hAt : AttrsAt w ag l := rowHolds.attrsAt hrow (by omega) hav
  have c0 := hC.cell0
  have u3 := hC.cell hj (k := 3) (by omega) rfl
  rw [hav] at u3
  have HEY := Lib.hid (element_yes h j hj hk' c0)
  have HP := Lib.hid (place_any B (j * 19) cg ag nm l w hAt u3)
  have HC := Lib.hid hC
  have HG := Lib.hid hG
  have Hst := Lib.hid hst
  have Hl := Lib.hid hl
  have Hw := Lib.hid hw
  have Hll := Lib.hid hll
  have HAV := Lib.hid hav
  clear h hC hG hst hl hw hll hS hlt hrow hav hAt c0 u3 hk hk' hi hE0
  go_enter Tryz.func28, Tryz.ntmps28
  go_wp2_with fail
  refine HEY.out.mono ?_
  rintro e w' ⟨rfl, rfl⟩
  go_wp2_with fail
  refine HP.out.mono ?_
  rintro e w2 ⟨⟨r, rfl, hr⟩, hb2⟩
  have HR := Lib.hid hr
  have HB2 := Lib.hid hb2
  clear hr hb2
  rcases HR.out.cases with ⟨hr1, hno⟩ | ⟨hyes, hr1, hix⟩
  · subst hr1
    have hE : A.dropE j nm = 82 := by rw [HE0.out, ← Hll.out, hno]; rfl
    have HE := Lib.hid hE
    have HS := Lib.hid (show Sep W w2 (docA p (A.dropA j nm) :: rs) by unfold Doc.dropA; rw [if_neg (by rw [hE]; decide)]; exact H.out.belowed HB2.out)
    clear hE hno
    go_wp2
    go_ret
    exact ⟨by rw [HE.out]; rfl, HS.out⟩
  · subst hr1
    obtain ⟨k, hk⟩ : ∃ k, k = idxOf l nm := ⟨_, rfl⟩
    rw [← hk] at hix ⊢
    have hE : A.dropE j nm = 0 := by rw [HE0.out, ← Hll.out, if_pos hyes]
    have HE := Lib.hid hE
    have hA : A.dropA j nm = A.set j (.setAttrs (l.eraseIdx k)) := by
      unfold Doc.dropA dropAttr
      rw [if_pos hE, ← Hll.out, ← hk]
    have HA := Lib.hid hA
    have hC2 := HC.out.below HB2.out
    have hrow2 := hC2.attrs j hj
    rw [(Hl.out.same j ⟨by omega, by omega⟩).attrs, ← Hll.out] at hrow2
    have d3 := hC2.cell hj (k := 3) (by omega) rfl
    have HC2 := Lib.hid hC2
    have hD := delete_attr hrow2 (by omega) k hix
    rw [show ((k + 1 : Nat) : Int) = (k : Int) + 1 by omega] at hD
    have HD := Lib.hid hD
    have hkk : (k : Int) < 50 := by omega
    clear hE hA hyes hk hC2 hrow2 hD
    go_wp2_with fail
    refine HD.out.mono ?_
    rintro e w3 ⟨v', rfl, hr3, ho3⟩
    obtain ⟨hbp, hbB, _, _⟩ := HC2.out.onlyA hj ho3
    have hCB := HC2.out.setAttrs hj ho3 hr3 (fun _ hk => .inl hk)
    have d3' : w3.cell? ⟨B, j * 19 + 3, none⟩ = some (av j) := (World.cell?_of_block hbB).trans d3
    have f3 : ∀ o, w3.frozen? ⟨B, o, none⟩ = false := fun o => by
      have := HC2.out.frozenB o
      unfold World.frozen? at this ⊢
      rw [hbB]; exact this
    have hvf := rowHolds.form hr3
    obtain ⟨L', hL'⟩ : ∃ L', L' = (l.eraseIdx k).length := ⟨_, rfl⟩
    rw [← hL'] at hvf
    obtain ⟨a', c', rfl, _⟩ := hvf
    have HCB := Lib.hid hCB
    have Ho3 := Lib.hid ho3
    clear hr3 ho3 hbp hbB hCB d3 hL'
    go_wp2
    go_ret
    refine ⟨by rw [HE.out]; rfl, ?_⟩
    rw [HA.out]
    have hGB : G B := (HG.out B).2 (.inr (.inl rfl))
    have hel : (l.eraseIdx k).length ≤ 50 := by rw [List.length_eraseIdx]; split <;> omega
    have hall : Only G w (w3.setCell ⟨B, j * 19 + 3, none⟩ (.slice a' L' c')) :=
      ((Only.below HB2.out).trans (Ho3.out.mono fun k _ hk => (HG.out k).2 (.inr (.inr (.inl ⟨j, hj, hk⟩))))).setCell (p := ⟨B, j * 19 + 3, none⟩) (.inl hGB) _
    exact docA_close (A := A.set j (.setAttrs (l.eraseIdx k))) (Hw.out.setAttrs _ _ hel) (Hl.out.setAttrs _ _) (Hst.out _ G (docR p B A.n A.lim (upd R j (.setAttrs (l.eraseIdx k)))) hall
      ⟨cap, _, gv, _, Fg, HCB.out, fun k => (HG.out k).trans (by rw [show updF Fa j (Fa j) = Fa by funext y; unfold updF; split <;> simp_all])⟩ fun k hk => .inl hk)
end
end Go.Proofs.YtgdmaikjaopddaaGreatDoor
