/- A document in memory as its chapter tells it; New. -/
import Derived.Test.YtehjhigaebpfkaaDoorMake
namespace Go.Proofs.YtehjhigaebpfkaaDoor
open Go.RowKit

def docA (p : Nat) (A : Doc) : Res where
  holds := fun w F => WF A ∧ ∃ B R, Link A R ∧ (docR p B A.n A.lim R).holds w F
  loc := by rintro w w' F ⟨hw, B, R, hl, h⟩ hk; exact ⟨hw, B, R, hl, (docR p B A.n A.lim R).loc h hk⟩
  lt := by rintro w F k ⟨hw, B, R, hl, h⟩ hk; exact (docR p B A.n A.lim R).lt h hk

section
variable {W w : World} {rs : List Res} {p B : Nat} {A : Doc} {R : Int → RNd}
theorem docA_open (h : Sep W w (docA p A :: rs)) : WF A ∧ ∃ B R, Link A R ∧ Sep W w (docR p B A.n A.lim R :: rs) := by
  obtain ⟨hb, F, ⟨G, H, ⟨hw, B, R, hl, hG⟩, hH, hd, hF⟩, hk⟩ := h
  exact ⟨hw, B, R, hl, hb, F, ⟨G, H, hG, hH, hd, hF⟩, hk⟩
theorem docA_close (hw : WF A) (hl : Link A R) (h : Sep W w (docR p B A.n A.lim R :: rs)) : Sep W w (docA p A :: rs) := by
  obtain ⟨hb, F, ⟨G, H, hG, hH, hd, hF⟩, hk⟩ := h
  exact ⟨hb, F, ⟨G, H, ⟨hw, B, R, hl, hG⟩, hH, hd, hF⟩, hk⟩

/-- the links lead to nodes -/
theorem Link.rng (hl : Link A R) (hw : WF A) : Rng A.n R := by
  intro i h0 h1
  have hi : A.In i := ⟨h0, h1⟩
  have s := hl.same i hi
  have hk := hl.kin i hi
  have hin : ∀ {k : Int} {l : List Int}, (∀ x ∈ l, A.In x) → k ∈ l → Ok A.n k := fun h hk => .inr (h _ hk)
  have hkids : ∀ x ∈ (A.nd i).kids, A.In x := fun x hx => (hw.kin i hi x hx).1
  have hd : Ok A.n ((A.nd i).kids.headD (-1)) := by
    cases e : (A.nd i).kids with
    | nil => exact .none
    | cons k t => rw [e] at hkids; exact hin hkids (by simp)
  have hlst : Ok A.n ((A.nd i).kids.getLastD (-1)) := by
    by_cases e : (A.nd i).kids = []
    · rw [e]; exact .none
    · exact hin hkids (getLastD_mem e _)
  have hnp : Ok A.n (R i).next ∧ Ok A.n (R i).prev := by
    by_cases hu : (A.nd i).up = -1
    · have := hl.free i hi hu
      rw [this.1, this.2]; exact ⟨.none, .none⟩
    · have hui := in_of_ok (hw.up i hi) hu
      obtain ⟨l1, l2, he, _, _⟩ := mem_split (hw.upk i hi hu) (hw.nod _ hui)
      have hK := (hl.kin _ hui).seg
      have hks : ∀ x ∈ (A.nd (A.nd i).up).kids, A.In x := fun x hx => (hw.kin _ hui x hx).1
      rw [he] at hK hks
      obtain ⟨_, hp, hn, _⟩ := (Seg.append _ _ _ _).1 hK
      rw [hp, hn]
      constructor
      · cases l2 with
        | nil => exact .none
        | cons k t => exact hin hks (by simp)
      · by_cases e : l1 = []
        · rw [e]; exact .none
        · exact hin hks (List.mem_append_left _ (getLastD_mem e _))
  exact ⟨s.up ▸ hw.up i hi, s.shadow ▸ hw.shadow i hi, s.host ▸ hw.host i hi, s.own ▸ hw.own i hi, hk.first ▸ hd, hk.last ▸ hlst, hnp.1, hnp.2, s.slot ▸ hw.slot i hi⟩

/-- no list of nodes, each once, is longer than there are nodes -/
theorem length_le_of_nodup : ∀ (n : Nat) (l : List Int), l.Nodup → (∀ x ∈ l, 0 ≤ x ∧ x < n) → l.length ≤ n
  | 0, l, _, h => by
    cases l with
    | nil => simp
    | cons x t => have := h x (by simp); omega
  | n + 1, l, hd, h => by
    have h1 := length_le_of_nodup n (l.erase n) (hd.erase _) (fun x hx => by
      have hx' := (List.Nodup.mem_erase_iff hd).1 hx
      have := h x hx'.2
      have hne : x ≠ n := hx'.1
      exact ⟨this.1, by omega⟩)
    have h2 : l.length ≤ (l.erase (n : Int)).length + 1 := by rw [List.length_erase]; split <;> omega
    omega
theorem WF.kids_len (hw : WF A) {i : Int} (hi : A.In i) : (A.nd i).kids.length ≤ A.n := length_le_of_nodup _ _ (hw.nod i hi) fun x hx => (hw.kin i hi x hx).1
theorem WF.n_le (hw : WF A) : A.n ≤ 5000 := by have := hw.le; have := hw.lim; omega
theorem Seg.from {n : Nat} : ∀ {l : List Int} {p : Int}, Seg R p l (-1) → (∀ x ∈ l, 0 ≤ x ∧ x < n) → From n R (l.headD (-1)) l
  | [], _, _, _ => rfl
  | k :: t, p, ⟨_, h2, h3⟩, h => ⟨rfl, (h k (by simp)).1, (h k (by simp)).2, by rw [h2]; exact Seg.from h3 fun x hx => h x (by simp [hx])⟩
theorem Link.from (hl : Link A R) (hw : WF A) {i : Int} (hi : A.In i) : From A.n R (R i).first (A.nd i).kids := by
  have hk := hl.kin i hi
  rw [hk.first]
  exact hk.seg.from fun x hx => (hw.kin i hi x hx).1

set_option maxRecDepth 100000 in
theorem New_no (lim : Int) (h : lim < 1 ∨ 5000 < lim) (w : World) : Calls Tryd.prog 19 #[int lim] w fun e w' => e = .returned (.pointer none) ∧ w = w' := by
  rcases h with h | h
  · have t1 : decide (lim < 1) = true := by simpa using h
    go_enter Tryd.func19, Tryd.ntmps19
    go_wp2
    go_ret
    exact ⟨rfl, rfl⟩
  · have t1 : decide (lim < 1) = false := by simp; omega
    have t2 : decide (lim > 5000) = true := by simpa using h
    go_enter Tryd.func19, Tryd.ntmps19
    go_wp2
    go_ret
    exact ⟨rfl, rfl⟩

set_option maxRecDepth 100000 in
theorem New_yes (h : Sep W w rs) (lim : Int) (h1 : 1 ≤ lim) (h2 : lim ≤ 5000) : Calls Tryd.prog 19 #[int lim] w fun e w' => ∃ p, e = .returned (ptr p) ∧ Sep W w' (docA p (Doc.new lim) :: rs) := by
  have t1 : decide (lim < 1) = false := by simp; omega
  have t2 : decide (lim > 5000) = false := by simp; omega
  have H := Lib.hid h
  clear h
  go_enter Tryd.func19, Tryd.ntmps19
  go_wp2_with fail
  refine (add_core (p := w.heap.size) (n := 0) (lim := lim) (heap_alloc_new w _) (rowHolds_nil _ TNode 19 none) (fun h => h) 4 .empty .empty none 0 0 noFl 0 0 0 0 0 0 0 0 0 (by omega)).mono ?_
  rintro e w1 ⟨rfl, g', cap', F', hd, hr, hon, hF, hg'⟩
  have hb : Below w.heap.size w w1 := by
    have h1 : Below w.heap.size w (w.alloc (.cells #[.slice none 0 0, .int .i64 lim] TDoc)) := (Below.refl _ _).alloc (Nat.le_refl _) _
    refine h1.trans ⟨hon.os, hon.tape, hon.output, hon.size, fun k hk => hon.block k (by simp; omega) ?_⟩
    rintro (h | h)
    · exact h
    · omega
  have hgs : w.heap.size + 1 ≤ g' := by rcases hF g' hg' with h | h; exact h.elim; simpa using h
  have hnew : Sep W w1 (docA w.heap.size (Doc.new lim) :: rs) := by
    refine H.out.new (G' := Foot w.heap.size g' 1 (fun _ _ => False) (fun _ _ => False)) (Only.below hb) ⟨WF.new h1 h2, g', addR (fun _ => newR 4 .empty .empty [] noFl) 0 (newR 4 .empty .empty [] noFl), Link.new rfl, cap', fun _ => .slice none 0 0, fun _ => .slice none 0 0, fun _ _ => False, fun _ _ => False, ?_, fun _ => Iff.rfl⟩ ?_
    · rcases hr.2 with ⟨h0, _⟩ | ⟨g, c, cur, hv, hg, k1, k2, k3, k4, _⟩
      · omega
      injection hv with hv1 hv2 hv3
      injection hv1 with hv1
      injection hv1 with hv1
      subst hv1; subst hv3
      refine ⟨hd, ⟨cur, hg, k3, fun i hi k hk => ?_⟩, k1, k2, fun i hi => ?_, fun i hi => ?_, fun i hi j hj hij k hk => hk.elim, fun i hi j hj hij k hk => hk.elim⟩
      · have : i = 0 := by have : i < 1 := hi; omega
        subst this
        have hc : cur[0 * 19 + k]? = (cur.toList.take ((0 + 1) * 19))[0 * 19 + k]? := by rw [List.getElem?_take, if_pos (by omega)]; simp
        rw [hc, k4, List.nil_append]
        have hz : 0 * 19 + k = k := by omega
        rw [hz]; rfl
      · have : i = 0 := by have : i < 1 := hi; omega
        subst this; exact rowHolds_nil _ _ _ _
      · have : i = 0 := by have : i < 1 := hi; omega
        subst this; exact rowHolds_nil _ _ _ _
    · rintro k (rfl | rfl | ⟨_, _, h⟩ | ⟨_, _, h⟩)
      · exact Nat.le_refl _
      · omega
      · exact h.elim
      · exact h.elim
  have HN := Lib.hid hnew
  clear hb hnew hd hr hon hF hg' hgs
  go_wp2
  go_ret
  exact ⟨_, rfl, HN.out⟩

theorem add_sep {n : Nat} {lim : Int} {Aa : Option Addr} {an ac : Nat} {l : List Attr} (h : Sep W w (arow (.slice Aa an ac) l :: docR p B n lim R :: rs)) (k : Int) (nm da : ByteArray) (fl : Fl) (u1 u2 u3 u4 u5 u6 u7 u8 u9 : Int) (hn : n ≤ 1000000) :
    Calls Tryd.prog 39 #[ptr p, .agg #[.int .u8 k, .string nm, .string da, .slice Aa an ac, .bool fl.closed, .bool fl.manual, .bool fl.delegates, .bool fl.serial, .bool fl.clonable, int u1, int u2, int u3, int u4, int u5, int u6, int u7, int u8, int u9, .slice none 0 0]] w fun e w' =>
      e = .returned (int n) ∧ (∃ B', Sep W w' (docR p B' (n + 1) lim (addR R n (newR k nm da l fl)) :: rs)) ∧ Only (fun k => k = B ∨ k = p) w w' := by
  obtain ⟨G, ⟨G1, H1, hA, ⟨G2, H2, ⟨cap, av, gv, Fa, Fg, hC, hFt⟩, hnil, _, hF2⟩, hdis, hF⟩, hlt, hs⟩ := Sep.stepL (xs := [arow (.slice Aa an ac) l, docR p B n lim R]) h
  have hd : ∀ k, G1 k → ¬ Foot p B n Fa Fg k := fun k h1 h2 => hdis k h1 ((hF2 k).2 (.inl ((hFt k).2 h2)))
  have hin : ∀ k, Foot p B n Fa Fg k → G k := fun k hk => (hF k).2 (.inr ((hF2 k).2 (.inl ((hFt k).2 hk))))
  refine (add_raw hC k nm da Aa an ac fl u1 u2 u3 u4 u5 u6 u7 u8 u9 hn l G1 hA hd).mono ?_
  rintro e w' ⟨rfl, g', cap', av', gv', Fa', Fg', hC', hon, hsub⟩
  refine ⟨rfl, ⟨g', hs w' (Foot p g' (n + 1) Fa' Fg') [docR p g' (n + 1) lim (addR R n (newR k nm da l fl))] (hon.mono fun k _ hk => ?_) (.one ⟨cap', av', gv', Fa', Fg', hC', fun _ => Iff.rfl⟩) fun k hk => ?_⟩, hon⟩
  · rcases hk with rfl | rfl
    · exact hin _ (.inr (.inl rfl))
    · exact hin _ (.inl rfl)
  · rcases hsub k hk with h | h | h
    · exact .inl (hin k h)
    · exact .inl ((hF k).2 (.inl h))
    · exact .inr h
end
end Go.Proofs.YtehjhigaebpfkaaDoor
