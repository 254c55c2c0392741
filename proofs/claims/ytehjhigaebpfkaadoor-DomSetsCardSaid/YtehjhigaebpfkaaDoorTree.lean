/- A document as its chapter tells it (each node with the list of its kids), what taking out and putting in makes of it, and how the links of the program stand to it. No program is in sight. -/
import Derived.Test.YtehjhigaebpfkaaDoorLinks
namespace Go.Proofs.YtehjhigaebpfkaaDoor

structure Nd where
  kind : Int
  name : ByteArray
  data : ByteArray
  attrs : List Attr
  fl : Fl
  up : Int
  kids : List Int
  shadow : Int
  host : Int
  own : Int
  slot : Int
  given : List Int

structure Doc where
  n : Nat
  lim : Int
  nd : Int → Nd

namespace Doc
def In (A : Doc) (i : Int) : Prop := 0 ≤ i ∧ i < A.n
def par (A : Doc) (i : Int) : Int := if (A.nd i).up ≠ -1 then (A.nd i).up else (A.nd i).host
def set (A : Doc) (i : Int) (f : Nd → Nd) : Doc := { A with nd := fun j => if j = i then f (A.nd j) else A.nd j }
end Doc

namespace Nd
def setUp (v : Int) (x : Nd) : Nd := { x with up := v }
def setKids (l : List Int) (x : Nd) : Nd := { x with kids := l }
end Nd

/-- the tree: who is in whom -/
structure WFT (A : Doc) : Prop where
  up : ∀ i, A.In i → Ok A.n (A.nd i).up
  host : ∀ i, A.In i → Ok A.n (A.nd i).host
  kin : ∀ i, A.In i → ∀ k ∈ (A.nd i).kids, A.In k ∧ (A.nd k).up = i
  upk : ∀ i, A.In i → (A.nd i).up ≠ -1 → i ∈ (A.nd (A.nd i).up).kids
  nod : ∀ i, A.In i → (A.nd i).kids.Nodup

/-- what the program keeps besides the links is what the document says -/
structure Same (x : Nd) (y : RNd) : Prop where
  kind : y.kind = x.kind
  name : y.name = x.name
  data : y.data = x.data
  attrs : y.attrs = x.attrs
  fl : y.fl = x.fl
  up : y.up = x.up
  shadow : y.shadow = x.shadow
  host : y.host = x.host
  own : y.own = x.own
  slot : y.slot = x.slot
  given : y.given = x.given

structure Link (A : Doc) (R : Int → RNd) : Prop where
  same : ∀ i, A.In i → Same (A.nd i) (R i)
  kin : ∀ i, A.In i → Kin R i (A.nd i).kids
  free : ∀ i, A.In i → (A.nd i).up = -1 → (R i).next = -1 ∧ (R i).prev = -1

theorem Same.of_rest {x : Nd} {y z : RNd} (h : Same x y) (e : z.rest = y.rest) : Same x z := by
  have f := fun (g : RNd → Prop) (hg : g y.rest) => e ▸ hg
  obtain ⟨h1, h2, h3, h4, h5, h6, h7, h8, h9, h10, h11⟩ := h
  cases y; cases z
  simp only [RNd.rest, RNd.mk.injEq] at e
  simp_all
  constructor <;> simp_all

theorem neg_of_in {A : Doc} {k : Int} (h : A.In k) : k ≠ -1 := by have := h.1; omega
theorem in_of_ok {A : Doc} {k : Int} (h : Ok A.n k) (hk : k ≠ -1) : A.In k := h.resolve_left hk

namespace Doc
variable {A : Doc} {R : Int → RNd}
theorem set_nd (A : Doc) (i j : Int) (f : Nd → Nd) : (A.set i f).nd j = if j = i then f (A.nd j) else A.nd j := rfl
theorem set_n (A : Doc) (i : Int) (f : Nd → Nd) : (A.set i f).n = A.n := rfl

/-- a node is taken out of where it is -/
def take (A : Doc) (i : Int) : Doc :=
  if (A.nd i).up = -1 then A else (A.set (A.nd i).up (fun x => x.setKids (x.kids.erase i))).set i (.setUp (-1))
/-- ahead of b (-1: at the end) -/
def ahead (b i : Int) (l : List Int) : List Int := if b = -1 then l ++ [i] else l.flatMap fun y => if y = b then [i, y] else [y]
def put (A : Doc) (up i before : Int) : Doc :=
  ((A.take i).set up (fun x => x.setKids (ahead before i x.kids))).set i (.setUp up)
end Doc

theorem erase_mid {l1 l2 : List Int} {i : Int} (h : i ∉ l1) : (l1 ++ i :: l2).erase i = l1 ++ l2 := by
  rw [List.erase_append_right _ h]; simp
theorem mem_split {l : List Int} {i : Int} (h : i ∈ l) (hd : l.Nodup) : ∃ l1 l2, l = l1 ++ i :: l2 ∧ i ∉ l1 ∧ i ∉ l2 := by
  obtain ⟨l1, l2, rfl⟩ := List.append_of_mem h
  refine ⟨l1, l2, rfl, fun hh => ?_, (List.nodup_cons.1 (List.nodup_append.1 hd).2.1).1⟩
  exact (List.nodup_append.1 hd).2.2 i hh i (by simp) rfl
theorem flatMap_id {l : List Int} {b i : Int} (h : b ∉ l) : (l.flatMap fun y => if y = b then [i, y] else [y]) = l := by
  induction l with
  | nil => rfl
  | cons k t ih =>
    simp only [List.mem_cons, not_or] at h
    rw [List.flatMap_cons, ih h.2, if_neg (fun e => h.1 e.symm)]; rfl
theorem ahead_split {l : List Int} {b i : Int} (hb : b = -1 ∨ b ∈ l) (hd : l.Nodup) : ∃ l1 l2, l = l1 ++ l2 ∧ Doc.ahead b i l = l1 ++ i :: l2 ∧ l2.headD (-1) = b ∧ (b = -1 → l2 = []) := by
  by_cases h : b = -1
  · exact ⟨l, [], by simp, by simp [Doc.ahead, h], by simp [h], fun _ => rfl⟩
  · obtain ⟨l1, l2, rfl, h1, h2⟩ := mem_split (hb.resolve_left h) hd
    refine ⟨l1, b :: l2, rfl, ?_, by simp, fun e => absurd e h⟩
    simp only [Doc.ahead, if_neg h, List.flatMap_append, List.flatMap_cons, flatMap_id h1, flatMap_id h2, if_true, List.cons_append, List.nil_append]

section
variable {A : Doc} {R : Int → RNd} {i up before : Int}

theorem Link.take (h : Link A R) (w : WFT A) (hi : A.In i) : Link (A.take i) (takeR R i) := by
  unfold Doc.take takeR
  have hu := (h.same i hi).up
  by_cases h1 : (A.nd i).up = -1
  · rw [if_pos h1, if_pos (hu.trans h1)]
    have hf := h.free i hi h1
    have e : upd (upd (upd R i (.setUp (-1))) i (.setPrev (-1))) i (.setNext (-1)) = R := by
      funext j
      by_cases hj : j = i
      · subst hj
        simp only [upd_same, RNd.setUp, RNd.setPrev, RNd.setNext]
        have := hu.trans h1
        cases hR : R j
        simp_all
      · simp [upd_other, hj]
    rw [e]; exact h
  · rw [if_neg h1, if_neg (fun e => h1 (hu.symm.trans e))]
    have hin : A.In (A.nd i).up := in_of_ok (w.up i hi) h1
    obtain ⟨l1, l2, hl, hi1, hi2⟩ := mem_split (w.upk i hi h1) (w.nod _ hin)
    have hk := w.kin _ hin
    have hU := h.kin _ hin
    rw [hl] at hU hk
    have hun := hU.unlink (by rw [← hl]; exact w.nod _ hin) (fun k hk' => neg_of_in (hk k hk').1)
    rw [hu]
    -- who stands beside it is a kid of the same
    have hpv : (R i).prev ≠ -1 → (R i).prev ∈ l1 ++ i :: l2 := by
      intro hne
      obtain ⟨_, hp, _, _⟩ := (Seg.append _ _ _ _).1 hU.seg
      rw [hp] at hne ⊢
      have : l1 ≠ [] := fun e => by simp [e] at hne
      exact List.mem_append_left _ (getLastD_mem this _)
    have hnx : (R i).next ≠ -1 → (R i).next ∈ l1 ++ i :: l2 := by
      intro hne
      obtain ⟨_, _, hp, _⟩ := (Seg.append _ _ _ _).1 hU.seg
      rw [hp] at hne ⊢
      have : l2 ≠ [] := fun e => by simp [e] at hne
      exact List.mem_append_right _ (List.mem_cons_of_mem _ (headD_mem this _))
    refine ⟨fun j hj => ?_, fun j hj => ?_, fun j hj hj1 => ?_⟩
    · have hs := (h.same j hj).of_rest (afterR_rest (R := R) (up := (A.nd i).up) (a := (R i).prev) (b := (R i).next) (j := j))
      obtain ⟨s1, s2, s3, s4, s5, s6, s7, s8, s9, s10, s11⟩ := hs
      by_cases hji : j = i
      · subst hji
        simp only [Doc.set_nd, if_true, upd_same]
        by_cases hju : j = (A.nd j).up
        · rw [if_pos hju]
          exact ⟨s1, s2, s3, s4, s5, rfl, s7, s8, s9, s10, s11⟩
        · rw [if_neg hju]
          exact ⟨s1, s2, s3, s4, s5, rfl, s7, s8, s9, s10, s11⟩
      · simp only [Doc.set_nd, if_neg hji, upd_other _ hji]
        split
        · exact ⟨s1, s2, s3, s4, s5, s6, s7, s8, s9, s10, s11⟩
        · exact ⟨s1, s2, s3, s4, s5, s6, s7, s8, s9, s10, s11⟩
    · -- the kids
      have hcells : ∀ k, k ≠ i → (upd (upd (upd (afterR R (A.nd i).up (R i).prev (R i).next) i (.setUp (-1))) i (.setPrev (-1))) i (.setNext (-1))) k = afterR R (A.nd i).up (R i).prev (R i).next k := fun k hk => by simp [upd_other, hk]
      have hfirst : ∀ k, ((upd (upd (upd (afterR R (A.nd i).up (R i).prev (R i).next) i (.setUp (-1))) i (.setPrev (-1))) i (.setNext (-1))) k).first = (afterR R (A.nd i).up (R i).prev (R i).next k).first := fun k => by
        by_cases hk : k = i
        · subst hk; simp [upd_same, RNd.setUp, RNd.setPrev, RNd.setNext]
        · rw [hcells k hk]
      have hlast : ∀ k, ((upd (upd (upd (afterR R (A.nd i).up (R i).prev (R i).next) i (.setUp (-1))) i (.setPrev (-1))) i (.setNext (-1))) k).last = (afterR R (A.nd i).up (R i).prev (R i).next k).last := fun k => by
        by_cases hk : k = i
        · subst hk; simp [upd_same, RNd.setUp, RNd.setPrev, RNd.setNext]
        · rw [hcells k hk]
      by_cases hju : j = (A.nd i).up
      · have e : ((A.set (A.nd i).up (fun x => x.setKids (x.kids.erase i))).set i (.setUp (-1))).nd j = if j = i then ((A.nd j).setKids ((A.nd j).kids.erase i)).setUp (-1) else (A.nd j).setKids ((A.nd j).kids.erase i) := by
          simp only [Doc.set_nd, if_pos hju]
        have ek : (((A.set (A.nd i).up (fun x => x.setKids (x.kids.erase i))).set i (.setUp (-1))).nd j).kids = l1 ++ l2 := by
          rw [e]; split <;> simp only [Nd.setKids, Nd.setUp] <;> rw [hju, hl, erase_mid hi1]
        rw [ek]
        rw [hju]
        exact hun.congr (hfirst _) (hlast _) fun k hk' => by
          have : k ≠ i := fun e => by subst e; exact (List.mem_append.1 hk').elim hi1 hi2
          rw [hcells k this]; exact ⟨rfl, rfl⟩
      · have ek : (((A.set (A.nd i).up (fun x => x.setKids (x.kids.erase i))).set i (.setUp (-1))).nd j).kids = (A.nd j).kids := by
          simp only [Doc.set_nd, if_neg hju]; split <;> rfl
        rw [ek]
        have hkj := w.kin j hj
        have hnot : ∀ k ∈ (A.nd j).kids, k ∉ l1 ++ i :: l2 := fun k hk' hk2 => hju ((hkj k hk').2.symm.trans (hk k hk2).2)
        refine (h.kin j hj).congr ?_ ?_ fun k hk' => ?_
        · rw [hfirst, afterR_first, if_neg (fun hh => hju hh.2)]
        · rw [hlast, afterR_last, if_neg (fun hh => hju hh.2)]
        · have hki : k ≠ i := fun e => hnot k hk' (by simp [e])
          rw [hcells k hki, afterR_prev, afterR_next, if_neg, if_neg]
          · exact ⟨rfl, rfl⟩
          · rintro ⟨hh, rfl⟩; exact hnot _ hk' (hpv hh)
          · rintro ⟨hh, rfl⟩; exact hnot _ hk' (hnx hh)
    · by_cases hji : j = i
      · subst hji; simp [upd_same, RNd.setUp, RNd.setPrev, RNd.setNext]
      · simp only [upd_other _ hji]
        have hj1' : (A.nd j).up = -1 := by
          simp only [Doc.set_nd, if_neg hji] at hj1
          split at hj1 <;> exact hj1
        have hf := h.free j hj hj1'
        have hnot : j ∉ l1 ++ i :: l2 := fun hh => h1 ((hk j hh).2.symm.trans hj1')
        rw [afterR_prev, afterR_next, if_neg, if_neg]
        · exact hf
        · rintro ⟨hh, rfl⟩; exact hnot (hnx hh)
        · rintro ⟨hh, rfl⟩; exact hnot (hpv hh)

theorem take_n : (A.take i).n = A.n := by unfold Doc.take; split <;> rfl
theorem take_lim : (A.take i).lim = A.lim := by unfold Doc.take; split <;> rfl
theorem take_in {j : Int} : (A.take i).In j ↔ A.In j := by unfold Doc.In; rw [take_n]
theorem take_up {j : Int} : ((A.take i).nd j).up = if j = i then -1 else (A.nd j).up := by
  unfold Doc.take
  split
  · rename_i h; split
    · rename_i e; rw [e, h]
    · rfl
  · simp only [Doc.set_nd, Nd.setUp, Nd.setKids]
    repeat' split
    all_goals rfl
theorem take_kids (w : WFT A) {j : Int} (hj : A.In j) : ((A.take i).nd j).kids = (A.nd j).kids.erase i := by
  have hno : j ≠ (A.nd i).up → (A.nd j).kids.erase i = (A.nd j).kids := fun hne => List.erase_of_not_mem fun hm => hne ((w.kin j hj i hm).2).symm
  unfold Doc.take
  split
  · rename_i h; exact (hno (by rw [h]; exact neg_of_in hj)).symm
  · simp only [Doc.set_nd, Nd.setUp, Nd.setKids]
    by_cases hju : j = (A.nd i).up
    · rw [if_pos hju]; split <;> rfl
    · rw [hno hju, if_neg hju]; split <;> rfl
/-- all but up and kids -/
def Nd.rest (x : Nd) : Nd := { x with up := 0, kids := [] }
theorem take_rest {j : Int} : ((A.take i).nd j).rest = (A.nd j).rest := by
  unfold Doc.take
  split
  · rfl
  · simp only [Doc.set_nd, Nd.setUp, Nd.setKids]
    repeat' split
    all_goals rfl
theorem rest_host {x y : Nd} (h : x.rest = y.rest) : x.host = y.host := by have := congrArg Nd.host h; exact this
theorem put_n : (A.put up i before).n = A.n := take_n
theorem put_lim : (A.put up i before).lim = A.lim := take_lim
theorem put_in {j : Int} : (A.put up i before).In j ↔ A.In j := by unfold Doc.In; rw [put_n]
theorem put_rest {j : Int} : ((A.put up i before).nd j).rest = (A.nd j).rest := by
  unfold Doc.put
  simp only [Doc.set_nd, Nd.setUp, Nd.setKids]
  repeat' split
  all_goals exact take_rest
theorem put_up {j : Int} : ((A.put up i before).nd j).up = if j = i then up else (A.nd j).up := by
  unfold Doc.put
  simp only [Doc.set_nd, Nd.setUp, Nd.setKids]
  by_cases h : j = i
  · simp [h]
  · simp only [if_neg h]; split <;> simp only [take_up, if_neg h]
theorem put_kids (w : WFT A) {j : Int} (hj : A.In j) : ((A.put up i before).nd j).kids = if j = up then Doc.ahead before i ((A.nd j).kids.erase i) else (A.nd j).kids.erase i := by
  unfold Doc.put
  simp only [Doc.set_nd, Nd.setUp, Nd.setKids]
  by_cases h : j = up
  · rw [if_pos h, if_pos h]; split <;> simp only [take_kids w hj]
  · rw [if_neg h, if_neg h]; split <;> simp only [take_kids w hj]

theorem WFT.take (w : WFT A) (hi : A.In i) : WFT (A.take i) := by
  refine ⟨fun j hj => ?_, fun j hj => ?_, fun j hj k hk => ?_, fun j hj hu => ?_, fun j hj => ?_⟩
  · rw [take_in] at hj
    rw [take_n, take_up]
    split
    · exact .none
    · exact w.up j hj
  · rw [take_in] at hj
    rw [take_n, rest_host take_rest]; exact w.host j hj
  · rw [take_in] at hj ⊢
    rw [take_kids w hj] at hk
    have hk1 := w.kin j hj k (List.mem_of_mem_erase hk)
    refine ⟨hk1.1, ?_⟩
    rw [take_up, if_neg]
    · exact hk1.2
    · rintro rfl
      exact (List.Nodup.mem_erase_iff (w.nod j hj)).1 hk |>.1 rfl
  · rw [take_in] at hj
    rw [take_up] at hu ⊢
    by_cases e : j = i
    · rw [if_pos e] at hu; exact absurd rfl hu
    · rw [if_neg e] at hu ⊢
      rw [take_kids w (in_of_ok (w.up j hj) hu)]
      exact (List.mem_erase_of_ne e).2 (w.upk j hj hu)
  · rw [take_in] at hj
    rw [take_kids w hj]; exact (w.nod j hj).erase i

theorem mem_ahead {l : List Int} {x : Int} (hd : l.Nodup) (hb : before = -1 ∨ before ∈ l) : x ∈ Doc.ahead before i l ↔ x = i ∨ x ∈ l := by
  obtain ⟨l1, l2, rfl, h, _⟩ := ahead_split (i := i) hb hd
  rw [h]; simp only [List.mem_append, List.mem_cons]
  constructor
  · rintro (h | h | h) <;> simp [h]
  · rintro (h | h | h) <;> simp [h]
theorem nodup_ahead {l : List Int} (hd : l.Nodup) (hb : before = -1 ∨ before ∈ l) (hi : i ∉ l) : (Doc.ahead before i l).Nodup := by
  obtain ⟨l1, l2, rfl, h, _⟩ := ahead_split (i := i) hb hd
  rw [h]
  rw [List.nodup_append] at hd ⊢
  simp only [List.mem_append, not_or] at hi
  refine ⟨hd.1, List.nodup_cons.2 ⟨hi.2, hd.2.1⟩, fun a ha b hb => ?_⟩
  rcases List.mem_cons.1 hb with rfl | hb
  · rintro rfl; exact hi.1 ha
  · exact hd.2.2 a ha b hb

/-- what a node is put ahead of -/
def Before (A : Doc) (up i before : Int) : Prop := before = -1 ∨ A.In before ∧ (A.nd before).up = up ∧ before ≠ i
theorem Before.mem (w : WFT A) (hu : A.In up) (hb : Before A up i before) : before = -1 ∨ before ∈ (A.nd up).kids.erase i := by
  rcases hb with h | ⟨h1, h2, h3⟩
  · exact .inl h
  · exact .inr ((List.mem_erase_of_ne h3).2 (h2 ▸ w.upk before h1 (h2 ▸ neg_of_in hu)))

theorem WFT.put (w : WFT A) (hu : A.In up) (hi : A.In i) (hb : Before A up i before) : WFT (A.put up i before) := by
  have hbm := hb.mem w hu
  have hni : ∀ j, A.In j → i ∉ (A.nd j).kids.erase i := fun j hj hh => (List.Nodup.mem_erase_iff (w.nod j hj)).1 hh |>.1 rfl
  refine ⟨fun j hj => ?_, fun j hj => ?_, fun j hj k hk => ?_, fun j hj hu' => ?_, fun j hj => ?_⟩
  · rw [put_in] at hj
    rw [put_n, put_up]
    split
    · exact .inr hu
    · exact w.up j hj
  · rw [put_in] at hj
    rw [put_n, rest_host put_rest]; exact w.host j hj
  · rw [put_in] at hj ⊢
    rw [put_kids w hj] at hk
    rw [put_up]
    split at hk
    · rename_i e
      subst e
      rcases (mem_ahead ((w.nod _ hj).erase i) hbm).1 hk with rfl | hk
      · rw [if_pos rfl]; exact ⟨hi, rfl⟩
      · have hk1 := w.kin _ hj k (List.mem_of_mem_erase hk)
        rw [if_neg (fun e => by subst e; exact hni _ hj hk)]; exact hk1
    · have hk1 := w.kin _ hj k (List.mem_of_mem_erase hk)
      rw [if_neg (fun e => by subst e; exact hni _ hj hk)]; exact hk1
  · rw [put_in] at hj
    rw [put_up] at hu' ⊢
    by_cases e : j = i
    · rw [if_pos e, put_kids w hu, if_pos rfl, e]
      exact (mem_ahead ((w.nod _ hu).erase i) hbm).2 (.inl rfl)
    · rw [if_neg e] at hu' ⊢
      rw [put_kids w (in_of_ok (w.up j hj) hu')]
      have hm := (List.mem_erase_of_ne e).2 (w.upk j hj hu')
      split
      · rename_i e2
        rw [e2] at hm ⊢
        exact (mem_ahead ((w.nod _ hu).erase i) hbm).2 (.inr hm)
      · exact hm
  · rw [put_in] at hj
    rw [put_kids w hj]
    split
    · rename_i e; subst e; exact nodup_ahead ((w.nod _ hj).erase i) hbm (hni _ hj)
    · exact (w.nod j hj).erase i

theorem Link.put (h : Link A R) (w : WFT A) (hu : A.In up) (hi : A.In i) (hui : up ≠ i) (hb : Before A up i before) : Link (A.put up i before) (putR R up i before) := by
  have h1 := h.take w hi
  have w1 := w.take hi
  have hu1 : (A.take i).In up := take_in.2 hu
  have hi1 : (A.take i).In i := take_in.2 hi
  have hbm : before = -1 ∨ before ∈ ((A.take i).nd up).kids := by rw [take_kids w hu]; exact hb.mem w hu
  obtain ⟨l1, l2, hl, hah, hhd, hnil⟩ := ahead_split (i := i) hbm (w1.nod up hu1)
  have hin : i ∉ ((A.take i).nd up).kids := by
    rw [take_kids w hu]; exact fun hh => (List.Nodup.mem_erase_iff (w.nod up hu)).1 hh |>.1 rfl
  have hiup : ((A.take i).nd i).up = -1 := by rw [take_up, if_pos rfl]
  have hK := h1.kin up hu1
  have hkin := w1.kin up hu1
  rw [hl] at hK hin hkin
  have hi0 := neg_of_in hi
  -- what stands ahead of it
  have hprev : (if before = -1 then (takeR R i up).last else (takeR R i before).prev) = l1.getLastD (-1) := by
    split
    · rename_i e
      rw [hK.last, hnil e, List.append_nil]
    · rename_i e
      obtain ⟨_, hs⟩ := (Seg.append _ _ _ _).1 hK.seg
      cases l2 with
      | nil => exact absurd hhd.symm e
      | cons b t =>
        simp only [List.headD_cons] at hhd
        subst hhd
        exact hs.1
  have hR : putR R up i before = afterR (afterR (upd (takeR R i) i (.setUp up)) up (l1.getLastD (-1)) i) up i (l2.headD (-1)) := by
    simp only [putR, hprev, hhd]
  rw [hR]
  have hrest : ∀ j, (afterR (afterR (upd (takeR R i) i (.setUp up)) up (l1.getLastD (-1)) i) up i (l2.headD (-1)) j).rest = (upd (takeR R i) i (.setUp up) j).rest := fun j => afterR_rest.trans afterR_rest
  have hK2 : Kin (upd (takeR R i) i (.setUp up)) up (l1 ++ l2) := hK.congr (by rw [upd_other _ hui]) (by rw [upd_other _ hui]) fun k hk => by
    rw [upd_other]; exact ⟨rfl, rfl⟩; rintro rfl; exact hin hk
  have hnd : (l1 ++ l2).Nodup := by rw [← hl]; exact w1.nod up hu1
  have hlink := hK2.link hnd hin hi0 fun k hk => neg_of_in (hkin k hk).1
  have hl1m : l1.getLastD (-1) ≠ -1 → l1.getLastD (-1) ∈ l1 ++ l2 := fun hne => List.mem_append_left _ (getLastD_mem (fun e => by simp [e] at hne) _)
  have hl2m : l2.headD (-1) ≠ -1 → l2.headD (-1) ∈ l1 ++ l2 := fun hne => List.mem_append_right _ (headD_mem (fun e => by simp [e] at hne) _)
  refine ⟨fun j hj => ?_, fun j hj => ?_, fun j hj hj1 => ?_⟩
  · have hj' : (A.take i).In j := take_in.2 (put_in.1 hj)
    have hs : Same ((A.put up i before).nd j) (upd (takeR R i) i (.setUp up) j) := by
      obtain ⟨s1, s2, s3, s4, s5, s6, s7, s8, s9, s10, s11⟩ := h1.same j hj'
      unfold Doc.put
      by_cases hji : j = i
      · subst hji
        simp only [Doc.set_nd, if_true, upd_same, if_neg (Ne.symm hui)]
        exact ⟨s1, s2, s3, s4, s5, rfl, s7, s8, s9, s10, s11⟩
      · simp only [Doc.set_nd, if_neg hji, upd_other _ hji]
        split
        · exact ⟨s1, s2, s3, s4, s5, s6, s7, s8, s9, s10, s11⟩
        · exact ⟨s1, s2, s3, s4, s5, s6, s7, s8, s9, s10, s11⟩
    exact hs.of_rest (hrest j)
  · have hj0 : A.In j := put_in.1 hj
    have hj' : (A.take i).In j := take_in.2 hj0
    by_cases hju : j = up
    · subst hju
      have : ((A.put j i before).nd j).kids = l1 ++ i :: l2 := by rw [put_kids w hj0, if_pos rfl, ← take_kids w hj0, hah]
      rw [this]; exact hlink
    · have ek : ((A.put up i before).nd j).kids = ((A.take i).nd j).kids := by rw [put_kids w hj0, if_neg hju, take_kids w hj0]
      rw [ek]
      have hkj := w1.kin j hj'
      have hnot : ∀ k ∈ ((A.take i).nd j).kids, k ∉ l1 ++ l2 := fun k hk' hk2 => hju ((hkj k hk').2.symm.trans (hkin k hk2).2)
      have hki : ∀ k ∈ ((A.take i).nd j).kids, k ≠ i := fun k hk' e => by
        subst e; exact neg_of_in hj' ((hkj k hk').2.symm.trans hiup)
      have hup : ∀ k, (upd (takeR R i) i (.setUp up) k).first = (takeR R i k).first ∧ (upd (takeR R i) i (.setUp up) k).last = (takeR R i k).last := fun k => by
        unfold upd; split <;> exact ⟨rfl, rfl⟩
      refine (h1.kin j hj').congr ?_ ?_ fun k hk' => ?_
      · rw [afterR_first, if_neg (fun hh => hju hh.2), afterR_first, if_neg (fun hh => hju hh.2), (hup j).1]
      · rw [afterR_last, if_neg (fun hh => hju hh.2), afterR_last, if_neg (fun hh => hju hh.2), (hup j).2]
      · rw [afterR_prev, if_neg, afterR_prev, if_neg, afterR_next, if_neg, afterR_next, if_neg, upd_other _ (hki k hk')]
        · exact ⟨rfl, rfl⟩
        · rintro ⟨hh, rfl⟩; exact hnot _ hk' (hl1m hh)
        · rintro ⟨_, rfl⟩; exact hki _ hk' rfl
        · rintro ⟨_, rfl⟩; exact hki _ hk' rfl
        · rintro ⟨hh, rfl⟩; exact hnot _ hk' (hl2m hh)
  · have hj0 : A.In j := put_in.1 hj
    have hj' : (A.take i).In j := take_in.2 hj0
    rw [put_up] at hj1
    by_cases hji : j = i
    · rw [if_pos hji] at hj1; exact absurd hj1 (neg_of_in hu)
    · rw [if_neg hji] at hj1
      have hf := h1.free j hj' (by rw [take_up, if_neg hji]; exact hj1)
      have hnot : j ∉ l1 ++ l2 := fun hh => by
        have := (hkin j hh).2
        rw [take_up, if_neg hji, hj1] at this
        exact neg_of_in hu this.symm
      rw [afterR_prev, if_neg, afterR_prev, if_neg, afterR_next, if_neg, afterR_next, if_neg, upd_other _ hji]
      · exact hf
      · rintro ⟨hh, rfl⟩; exact hnot (hl1m hh)
      · rintro ⟨_, rfl⟩; exact hji rfl
      · rintro ⟨_, rfl⟩; exact hji rfl
      · rintro ⟨hh, rfl⟩; exact hnot (hl2m hh)
end
end Go.Proofs.YtehjhigaebpfkaaDoor
