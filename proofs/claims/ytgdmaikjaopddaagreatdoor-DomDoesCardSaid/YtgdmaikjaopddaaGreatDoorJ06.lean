/- Chains of links: a list of kids, as first, last, next and previous say it. What taking out and putting in makes of them. No program is in sight. -/
import Derived.Test.YtgdmaikjaopddaaGreatDoorJ01
namespace Go.Proofs.YtgdmaikjaopddaaGreatDoor

/-- l stands in order, behind p and ahead of q -/
def Seg (R : Int → RNd) : Int → List Int → Int → Prop
  | _, [], _ => True
  | p, k :: t, q => (R k).prev = p ∧ (R k).next = t.headD q ∧ Seg R k t q

theorem headD_append (a b : List Int) (q : Int) : (a ++ b).headD q = a.headD (b.headD q) := by cases a <;> simp
theorem getLastD_cons (k p : Int) (t : List Int) : (k :: t).getLastD p = t.getLastD k := by cases t <;> rfl
theorem getLastD_snoc (t : List Int) (k p : Int) : (t ++ [k]).getLastD p = k := by simp
theorem getLastD_mem {l : List Int} (h : l ≠ []) (p : Int) : l.getLastD p ∈ l := by
  rw [List.getLastD_eq_getLast?, List.getLast?_eq_some_getLast h]; exact List.getLast_mem h
theorem headD_mem {l : List Int} (h : l ≠ []) (p : Int) : l.headD p ∈ l := by cases l <;> simp_all

theorem Seg.append {R : Int → RNd} : ∀ (a b : List Int) (p q : Int), Seg R p (a ++ b) q ↔ Seg R p a (b.headD q) ∧ Seg R (a.getLastD p) b q
  | [], b, p, q => by simp [Seg]
  | k :: t, b, p, q => by
    simp only [List.cons_append, Seg, headD_append, getLastD_cons, Seg.append t b k q, and_assoc]
theorem Seg.congr {R R' : Int → RNd} : ∀ {l : List Int} {p q : Int}, (∀ k ∈ l, (R' k).prev = (R k).prev ∧ (R' k).next = (R k).next) → Seg R p l q → Seg R' p l q
  | [], _, _, _, _ => trivial
  | k :: t, p, q, hk, ⟨h1, h2, h3⟩ => ⟨(hk k (by simp)).1.trans h1, (hk k (by simp)).2.trans h2, Seg.congr (fun x hx => hk x (by simp [hx])) h3⟩
/-- another end -/
theorem Seg.end_ {R R' : Int → RNd} : ∀ {l : List Int} {p q q' : Int}, l.Nodup → (∀ k ∈ l, (R' k).prev = (R k).prev) → (∀ k ∈ l, k ≠ l.getLastD p → (R' k).next = (R k).next) → (l ≠ [] → (R' (l.getLastD p)).next = q') →
    Seg R p l q → Seg R' p l q'
  | [], _, _, _, _, _, _, _, _ => trivial
  | [k], p, q, q', _, hp, _, hl, ⟨h1, _, _⟩ => ⟨(hp k (by simp)).trans h1, by simpa using hl (by simp), trivial⟩
  | k :: x :: t, p, q, q', hd, hp, hn, hl, ⟨h1, h2, h3⟩ => by
    rw [getLastD_cons] at hn hl
    have hne : k ≠ (x :: t).getLastD k := fun e => (List.nodup_cons.1 hd).1 (e ▸ getLastD_mem (by simp) k)
    exact ⟨(hp k (by simp)).trans h1, ((hn k (by simp) hne).trans h2).trans (by simp), Seg.end_ (List.nodup_cons.1 hd).2 (fun y hy => hp y (by simp [hy])) (fun y hy hy' => hn y (List.mem_cons_of_mem _ hy) hy') (fun _ => hl (by simp)) h3⟩
/-- another begin -/
theorem Seg.start {R R' : Int → RNd} {l : List Int} {p p' q : Int} (hd : l.Nodup) (hn : ∀ k ∈ l, (R' k).next = (R k).next) (hp : ∀ k ∈ l, k ≠ l.headD q → (R' k).prev = (R k).prev) (hl : l ≠ [] → (R' (l.headD q)).prev = p') (h : Seg R p l q) : Seg R' p' l q := by
  cases l with
  | nil => trivial
  | cons k t =>
    obtain ⟨_, h2, h3⟩ := h
    have hk : k ∉ t := (List.nodup_cons.1 hd).1
    exact ⟨by simpa using hl (by simp), (hn k (by simp)).trans h2, h3.congr fun x hx => ⟨hp x (by simp [hx]) (by simp; rintro rfl; exact hk hx), hn x (by simp [hx])⟩⟩

section
variable {R : Int → RNd} {up a b i j : Int}
theorem upd_same (f : RNd → RNd) : upd R i f i = f (R i) := by simp [upd]
theorem upd_other (f : RNd → RNd) (h : j ≠ i) : upd R i f j = R j := by simp [upd, h]
theorem afterR_next : (afterR R up a b j).next = if a ≠ -1 ∧ j = a then b else (R j).next := by
  unfold afterR upd; by_cases ha : a = -1 <;> by_cases hb : b = -1 <;> simp [ha, hb] <;> (repeat' split) <;> simp_all [RNd.setFirst, RNd.setLast, RNd.setNext, RNd.setPrev]
theorem afterR_prev : (afterR R up a b j).prev = if b ≠ -1 ∧ j = b then a else (R j).prev := by
  unfold afterR upd; by_cases ha : a = -1 <;> by_cases hb : b = -1 <;> simp [ha, hb] <;> (repeat' split) <;> simp_all [RNd.setFirst, RNd.setLast, RNd.setNext, RNd.setPrev]
theorem afterR_first : (afterR R up a b j).first = if a = -1 ∧ j = up then b else (R j).first := by
  unfold afterR upd; by_cases ha : a = -1 <;> by_cases hb : b = -1 <;> simp [ha, hb] <;> (repeat' split) <;> simp_all [RNd.setFirst, RNd.setLast, RNd.setNext, RNd.setPrev]
theorem afterR_last : (afterR R up a b j).last = if b = -1 ∧ j = up then a else (R j).last := by
  unfold afterR upd; by_cases ha : a = -1 <;> by_cases hb : b = -1 <;> simp [ha, hb] <;> (repeat' split) <;> simp_all [RNd.setFirst, RNd.setLast, RNd.setNext, RNd.setPrev]
/-- all but the links -/
def RNd.rest (x : RNd) : RNd := { x with first := 0, last := 0, next := 0, prev := 0 }
theorem afterR_rest : (afterR R up a b j).rest = (R j).rest := by
  unfold afterR upd; by_cases ha : a = -1 <;> by_cases hb : b = -1 <;> simp [ha, hb] <;> (repeat' split) <;> simp_all [RNd.rest, RNd.setFirst, RNd.setLast, RNd.setNext, RNd.setPrev]
end

/-- the kids of a node, as its links say them -/
structure Kin (R : Int → RNd) (u : Int) (l : List Int) : Prop where
  first : (R u).first = l.headD (-1)
  last : (R u).last = l.getLastD (-1)
  seg : Seg R (-1) l (-1)

theorem Kin.congr {R R' : Int → RNd} {u : Int} {l : List Int} (h : Kin R u l) (h1 : (R' u).first = (R u).first) (h2 : (R' u).last = (R u).last) (hk : ∀ k ∈ l, (R' k).prev = (R k).prev ∧ (R' k).next = (R k).next) : Kin R' u l :=
  ⟨h1.trans h.first, h2.trans h.last, h.seg.congr hk⟩

/-- a kid is unlinked -/
theorem Kin.unlink {R : Int → RNd} {u i : Int} {l1 l2 : List Int} (h : Kin R u (l1 ++ i :: l2)) (hd : (l1 ++ i :: l2).Nodup) (hne : ∀ k ∈ l1 ++ i :: l2, k ≠ -1) :
    Kin (afterR R u (R i).prev (R i).next) u (l1 ++ l2) := by
  obtain ⟨hs1, hp, hn, hs2⟩ := (Seg.append _ _ _ _).1 h.seg
  simp only [List.headD_cons] at hs1
  have hd1 : l1.Nodup := (List.nodup_append.1 hd).1
  have hd2 : l2.Nodup := (List.nodup_cons.1 (List.nodup_append.1 hd).2.1).2
  have hdis : ∀ x ∈ l1, ∀ y ∈ l2, x ≠ y := fun x hx y hy => (List.nodup_append.1 hd).2.2 x hx y (by simp [hy])
  have hl1 : l1 ≠ [] → l1.getLastD (-1) ≠ -1 := fun hl => hne _ (List.mem_append_left _ (getLastD_mem hl _))
  have hl2 : l2 ≠ [] → l2.headD (-1) ≠ -1 := fun hl => hne _ (List.mem_append_right _ (List.mem_cons_of_mem _ (headD_mem hl _)))
  rw [hp, hn]
  refine ⟨?_, ?_, (Seg.append _ _ _ _).2 ⟨?_, ?_⟩⟩
  · rw [afterR_first, h.first, headD_append, headD_append]
    cases l1 with
    | nil => simp
    | cons k t => rw [if_neg (fun hh => hl1 (by simp) hh.1)]; simp
  · rw [afterR_last, h.last]
    cases l2 with
    | nil => simp
    | cons k t =>
      rw [if_neg (fun hh => hl2 (by simp) hh.1)]
      simp [List.getLastD_eq_getLast?, List.getLast?_append, List.getLast?_cons]
  · refine Seg.end_ hd1 (fun k hk => ?_) (fun k hk hk' => ?_) (fun hl => ?_) hs1
    · rw [afterR_prev, if_neg]
      rintro ⟨hh, rfl⟩
      have : l2 ≠ [] := fun e => by simp [e] at hh
      exact hdis _ hk _ (headD_mem this _) rfl
    · rw [afterR_next, if_neg (fun hh => hk' hh.2)]
    · rw [afterR_next, if_pos ⟨hl1 hl, rfl⟩]
  · refine Seg.start hd2 (fun k hk => ?_) (fun k hk hk' => ?_) (fun hl => ?_) hs2
    · rw [afterR_next, if_neg]
      rintro ⟨hh, rfl⟩
      have : l1 ≠ [] := fun e => by simp [e] at hh
      exact hdis _ (getLastD_mem this _) _ hk rfl
    · rw [afterR_prev, if_neg (fun hh => hk' hh.2)]
    · rw [afterR_prev, if_pos ⟨hl2 hl, rfl⟩]

/-- a node is linked in -/
theorem Kin.link {R : Int → RNd} {u i : Int} {l1 l2 : List Int} (h : Kin R u (l1 ++ l2)) (hd : (l1 ++ l2).Nodup) (hi : i ∉ l1 ++ l2) (hi0 : i ≠ -1) (hne : ∀ k ∈ l1 ++ l2, k ≠ -1) :
    Kin (afterR (afterR R u (l1.getLastD (-1)) i) u i (l2.headD (-1))) u (l1 ++ i :: l2) := by
  obtain ⟨hs1, hs2⟩ := (Seg.append _ _ _ _).1 h.seg
  have hd1 : l1.Nodup := (List.nodup_append.1 hd).1
  have hd2 : l2.Nodup := (List.nodup_append.1 hd).2.1
  have hdis : ∀ x ∈ l1, ∀ y ∈ l2, x ≠ y := (List.nodup_append.1 hd).2.2
  have hi1 : i ∉ l1 := fun hh => hi (by simp [hh])
  have hi2 : i ∉ l2 := fun hh => hi (by simp [hh])
  have hl1 : l1 ≠ [] → l1.getLastD (-1) ≠ -1 := fun hl => hne _ (List.mem_append_left _ (getLastD_mem hl _))
  have hl2 : l2 ≠ [] → l2.headD (-1) ≠ -1 := fun hl => hne _ (List.mem_append_right _ (headD_mem hl _))
  refine ⟨?_, ?_, (Seg.append _ _ _ _).2 ⟨?_, ?_, ?_, ?_⟩⟩
  · rw [afterR_first, if_neg (fun hh => hi0 hh.1), afterR_first, h.first]
    cases l1 with
    | nil => simp
    | cons k t => rw [if_neg (fun hh => hl1 (by simp) hh.1)]; simp
  · rw [afterR_last, afterR_last, if_neg (fun hh : i = -1 ∧ _ => hi0 hh.1), h.last]
    cases l2 with
    | nil => simp
    | cons k t =>
      rw [if_neg (fun hh => hl2 (by simp) hh.1)]
      simp [List.getLastD_eq_getLast?, List.getLast?_append, List.getLast?_cons]
  · simp only [List.headD_cons]
    refine Seg.end_ hd1 (fun k hk => ?_) (fun k hk hk' => ?_) (fun hl => ?_) hs1
    · rw [afterR_prev, if_neg, afterR_prev, if_neg]
      · rintro ⟨_, rfl⟩; exact hi1 hk
      · rintro ⟨hh, rfl⟩
        have : l2 ≠ [] := fun e => by simp [e] at hh
        exact hdis _ hk _ (headD_mem this _) rfl
    · rw [afterR_next, if_neg, afterR_next, if_neg (fun hh => hk' hh.2)]
      rintro ⟨_, rfl⟩; exact hi1 hk
    · rw [afterR_next, if_neg, afterR_next, if_pos ⟨hl1 hl, rfl⟩]
      rintro ⟨_, e⟩; exact hi1 (e ▸ getLastD_mem hl _)
  · rw [afterR_prev, if_neg, afterR_prev, if_pos ⟨hi0, rfl⟩]
    rintro ⟨hh, e⟩
    have : l2 ≠ [] := fun e => by simp [e] at hh
    exact hi2 (e ▸ headD_mem this _)
  · rw [afterR_next, if_pos ⟨hi0, rfl⟩]
  · refine Seg.start hd2 (fun k hk => ?_) (fun k hk hk' => ?_) (fun hl => ?_) hs2
    · rw [afterR_next, if_neg, afterR_next, if_neg]
      · rintro ⟨hh, rfl⟩
        have : l1 ≠ [] := fun e => by simp [e] at hh
        exact hdis _ (getLastD_mem this _) _ hk rfl
      · rintro ⟨_, rfl⟩; exact hi2 hk
    · rw [afterR_prev, if_neg (fun hh => hk' hh.2), afterR_prev, if_neg]
      rintro ⟨_, rfl⟩; exact hi2 hk
    · rw [afterR_prev, if_pos ⟨hl2 hl, rfl⟩]
end Go.Proofs.YtgdmaikjaopddaaGreatDoor

/- A document as its chapter tells it (each node with the list of its kids), what taking out and putting in makes of it, and how the links of the program stand to it. No program is in sight. -/
namespace Go.Proofs.YtgdmaikjaopddaaGreatDoor

structure Nd where
  kind : Int
  name : ByteArray
  data : ByteArray
  attrs : List Attr
  fl : Fl
  up : Int
  kids : List Int
  shadow : Int
  host : Int
  own : Int
  slot : Int
  given : List Int

structure Doc where
  n : Nat
  lim : Int
  nd : Int → Nd

namespace Doc
def In (A : Doc) (i : Int) : Prop := 0 ≤ i ∧ i < A.n
def par (A : Doc) (i : Int) : Int := if (A.nd i).up ≠ -1 then (A.nd i).up else (A.nd i).host
def set (A : Doc) (i : Int) (f : Nd → Nd) : Doc := { A with nd := fun j => if j = i then f (A.nd j) else A.nd j }
end Doc

namespace Nd
def setUp (v : Int) (x : Nd) : Nd := { x with up := v }
def setKids (l : List Int) (x : Nd) : Nd := { x with kids := l }
end Nd

/-- the tree: who is in whom -/
structure WFT (A : Doc) : Prop where
  up : ∀ i, A.In i → Ok A.n (A.nd i).up
  host : ∀ i, A.In i → Ok A.n (A.nd i).host
  kin : ∀ i, A.In i → ∀ k ∈ (A.nd i).kids, A.In k ∧ (A.nd k).up = i
  upk : ∀ i, A.In i → (A.nd i).up ≠ -1 → i ∈ (A.nd (A.nd i).up).kids
  nod : ∀ i, A.In i → (A.nd i).kids.Nodup

/-- what the program keeps besides the links is what the document says -/
structure Same (x : Nd) (y : RNd) : Prop where
  kind : y.kind = x.kind
  name : y.name = x.name
  data : y.data = x.data
  attrs : y.attrs = x.attrs
  fl : y.fl = x.fl
  up : y.up = x.up
  shadow : y.shadow = x.shadow
  host : y.host = x.host
  own : y.own = x.own
  slot : y.slot = x.slot
  given : y.given = x.given

structure Link (A : Doc) (R : Int → RNd) : Prop where
  same : ∀ i, A.In i → Same (A.nd i) (R i)
  kin : ∀ i, A.In i → Kin R i (A.nd i).kids
  free : ∀ i, A.In i → (A.nd i).up = -1 → (R i).next = -1 ∧ (R i).prev = -1

theorem Same.of_rest {x : Nd} {y z : RNd} (h : Same x y) (e : z.rest = y.rest) : Same x z := by
  have f := fun (g : RNd → Prop) (hg : g y.rest) => e ▸ hg
  obtain ⟨h1, h2, h3, h4, h5, h6, h7, h8, h9, h10, h11⟩ := h
  cases y; cases z
  simp only [RNd.rest, RNd.mk.injEq] at e
  simp_all
  constructor <;> simp_all

theorem neg_of_in {A : Doc} {k : Int} (h : A.In k) : k ≠ -1 := by have := h.1; omega
theorem in_of_ok {A : Doc} {k : Int} (h : Ok A.n k) (hk : k ≠ -1) : A.In k := h.resolve_left hk

namespace Doc
variable {A : Doc} {R : Int → RNd}
theorem set_nd (A : Doc) (i j : Int) (f : Nd → Nd) : (A.set i f).nd j = if j = i then f (A.nd j) else A.nd j := rfl
theorem set_n (A : Doc) (i : Int) (f : Nd → Nd) : (A.set i f).n = A.n := rfl

/-- a node is taken out of where it is -/
def take (A : Doc) (i : Int) : Doc :=
  if (A.nd i).up = -1 then A else (A.set (A.nd i).up (fun x => x.setKids (x.kids.erase i))).set i (.setUp (-1))
/-- ahead of b (-1: at the end) -/
def ahead (b i : Int) (l : List Int) : List Int := if b = -1 then l ++ [i] else l.flatMap fun y => if y = b then [i, y] else [y]
def put (A : Doc) (up i before : Int) : Doc :=
  ((A.take i).set up (fun x => x.setKids (ahead before i x.kids))).set i (.setUp up)
end Doc

theorem erase_mid {l1 l2 : List Int} {i : Int} (h : i ∉ l1) : (l1 ++ i :: l2).erase i = l1 ++ l2 := by
  rw [List.erase_append_right _ h]; simp
theorem mem_split {l : List Int} {i : Int} (h : i ∈ l) (hd : l.Nodup) : ∃ l1 l2, l = l1 ++ i :: l2 ∧ i ∉ l1 ∧ i ∉ l2 := by
  obtain ⟨l1, l2, rfl⟩ := List.append_of_mem h
  refine ⟨l1, l2, rfl, fun hh => ?_, (List.nodup_cons.1 (List.nodup_append.1 hd).2.1).1⟩
  exact (List.nodup_append.1 hd).2.2 i hh i (by simp) rfl
theorem flatMap_id {l : List Int} {b i : Int} (h : b ∉ l) : (l.flatMap fun y => if y = b then [i, y] else [y]) = l := by
  induction l with
  | nil => rfl
  | cons k t ih =>
    simp only [List.mem_cons, not_or] at h
    rw [List.flatMap_cons, ih h.2, if_neg (fun e => h.1 e.symm)]; rfl
theorem ahead_split {l : List Int} {b i : Int} (hb : b = -1 ∨ b ∈ l) (hd : l.Nodup) : ∃ l1 l2, l = l1 ++ l2 ∧ Doc.ahead b i l = l1 ++ i :: l2 ∧ l2.headD (-1) = b ∧ (b = -1 → l2 = []) := by
  by_cases h : b = -1
  · exact ⟨l, [], by simp, by simp [Doc.ahead, h], by simp [h], fun _ => rfl⟩
  · obtain ⟨l1, l2, rfl, h1, h2⟩ := mem_split (hb.resolve_left h) hd
    refine ⟨l1, b :: l2, rfl, ?_, by simp, fun e => absurd e h⟩
    simp only [Doc.ahead, if_neg h, List.flatMap_append, List.flatMap_cons, flatMap_id h1, flatMap_id h2, if_true, List.cons_append, List.nil_append]

section
variable {A : Doc} {R : Int → RNd} {i up before : Int}

theorem Link.take (h : Link A R) (w : WFT A) (hi : A.In i) : Link (A.take i) (takeR R i) := by
  unfold Doc.take takeR
  have hu := (h.same i hi).up
  by_cases h1 : (A.nd i).up = -1
  · rw [if_pos h1, if_pos (hu.trans h1)]
    have hf := h.free i hi h1
    have e : upd (upd (upd R i (.setUp (-1))) i (.setPrev (-1))) i (.setNext (-1)) = R := by
      funext j
      by_cases hj : j = i
      · subst hj
        simp only [upd_same, RNd.setUp, RNd.setPrev, RNd.setNext]
        have := hu.trans h1
        cases hR : R j
        simp_all
      · simp [upd_other, hj]
    rw [e]; exact h
  · rw [if_neg h1, if_neg (fun e => h1 (hu.symm.trans e))]
    have hin : A.In (A.nd i).up := in_of_ok (w.up i hi) h1
    obtain ⟨l1, l2, hl, hi1, hi2⟩ := mem_split (w.upk i hi h1) (w.nod _ hin)
    have hk := w.kin _ hin
    have hU := h.kin _ hin
    rw [hl] at hU hk
    have hun := hU.unlink (by rw [← hl]; exact w.nod _ hin) (fun k hk' => neg_of_in (hk k hk').1)
    rw [hu]
    -- who stands beside it is a kid of the same
    have hpv : (R i).prev ≠ -1 → (R i).prev ∈ l1 ++ i :: l2 := by
      intro hne
      obtain ⟨_, hp, _, _⟩ := (Seg.append _ _ _ _).1 hU.seg
      rw [hp] at hne ⊢
      have : l1 ≠ [] := fun e => by simp [e] at hne
      exact List.mem_append_left _ (getLastD_mem this _)
    have hnx : (R i).next ≠ -1 → (R i).next ∈ l1 ++ i :: l2 := by
      intro hne
      obtain ⟨_, _, hp, _⟩ := (Seg.append _ _ _ _).1 hU.seg
      rw [hp] at hne ⊢
      have : l2 ≠ [] := fun e => by simp [e] at hne
      exact List.mem_append_right _ (List.mem_cons_of_mem _ (headD_mem this _))
    refine ⟨fun j hj => ?_, fun j hj => ?_, fun j hj hj1 => ?_⟩
    · have hs := (h.same j hj).of_rest (afterR_rest (R := R) (up := (A.nd i).up) (a := (R i).prev) (b := (R i).next) (j := j))
      obtain ⟨s1, s2, s3, s4, s5, s6, s7, s8, s9, s10, s11⟩ := hs
      by_cases hji : j = i
      · subst hji
        simp only [Doc.set_nd, if_true, upd_same]
        by_cases hju : j = (A.nd j).up
        · rw [if_pos hju]
          exact ⟨s1, s2, s3, s4, s5, rfl, s7, s8, s9, s10, s11⟩
        · rw [if_neg hju]
          exact ⟨s1, s2, s3, s4, s5, rfl, s7, s8, s9, s10, s11⟩
      · simp only [Doc.set_nd, if_neg hji, upd_other _ hji]
        split
        · exact ⟨s1, s2, s3, s4, s5, s6, s7, s8, s9, s10, s11⟩
        · exact ⟨s1, s2, s3, s4, s5, s6, s7, s8, s9, s10, s11⟩
    · -- the kids
      have hcells : ∀ k, k ≠ i → (upd (upd (upd (afterR R (A.nd i).up (R i).prev (R i).next) i (.setUp (-1))) i (.setPrev (-1))) i (.setNext (-1))) k = afterR R (A.nd i).up (R i).prev (R i).next k := fun k hk => by simp [upd_other, hk]
      have hfirst : ∀ k, ((upd (upd (upd (afterR R (A.nd i).up (R i).prev (R i).next) i (.setUp (-1))) i (.setPrev (-1))) i (.setNext (-1))) k).first = (afterR R (A.nd i).up (R i).prev (R i).next k).first := fun k => by
        by_cases hk : k = i
        · subst hk; simp [upd_same, RNd.setUp, RNd.setPrev, RNd.setNext]
        · rw [hcells k hk]
      have hlast : ∀ k, ((upd (upd (upd (afterR R (A.nd i).up (R i).prev (R i).next) i (.setUp (-1))) i (.setPrev (-1))) i (.setNext (-1))) k).last = (afterR R (A.nd i).up (R i).prev (R i).next k).last := fun k => by
        by_cases hk : k = i
        · subst hk; simp [upd_same, RNd.setUp, RNd.setPrev, RNd.setNext]
        · rw [hcells k hk]
      by_cases hju : j = (A.nd i).up
      · have e : ((A.set (A.nd i).up (fun x => x.setKids (x.kids.erase i))).set i (.setUp (-1))).nd j = if j = i then ((A.nd j).setKids ((A.nd j).kids.erase i)).setUp (-1) else (A.nd j).setKids ((A.nd j).kids.erase i) := by
          simp only [Doc.set_nd, if_pos hju]
        have ek : (((A.set (A.nd i).up (fun x => x.setKids (x.kids.erase i))).set i (.setUp (-1))).nd j).kids = l1 ++ l2 := by
          rw [e]; split <;> simp only [Nd.setKids, Nd.setUp] <;> rw [hju, hl, erase_mid hi1]
        rw [ek]
        rw [hju]
        exact hun.congr (hfirst _) (hlast _) fun k hk' => by
          have : k ≠ i := fun e => by subst e; exact (List.mem_append.1 hk').elim hi1 hi2
          rw [hcells k this]; exact ⟨rfl, rfl⟩
      · have ek : (((A.set (A.nd i).up (fun x => x.setKids (x.kids.erase i))).set i (.setUp (-1))).nd j).kids = (A.nd j).kids := by
          simp only [Doc.set_nd, if_neg hju]; split <;> rfl
        rw [ek]
        have hkj := w.kin j hj
        have hnot : ∀ k ∈ (A.nd j).kids, k ∉ l1 ++ i :: l2 := fun k hk' hk2 => hju ((hkj k hk').2.symm.trans (hk k hk2).2)
        refine (h.kin j hj).congr ?_ ?_ fun k hk' => ?_
        · rw [hfirst, afterR_first, if_neg (fun hh => hju hh.2)]
        · rw [hlast, afterR_last, if_neg (fun hh => hju hh.2)]
        · have hki : k ≠ i := fun e => hnot k hk' (by simp [e])
          rw [hcells k hki, afterR_prev, afterR_next, if_neg, if_neg]
          · exact ⟨rfl, rfl⟩
          · rintro ⟨hh, rfl⟩; exact hnot _ hk' (hpv hh)
          · rintro ⟨hh, rfl⟩; exact hnot _ hk' (hnx hh)
    · by_cases hji : j = i
      · subst hji; simp [upd_same, RNd.setUp, RNd.setPrev, RNd.setNext]
      · simp only [upd_other _ hji]
        have hj1' : (A.nd j).up = -1 := by
          simp only [Doc.set_nd, if_neg hji] at hj1
          split at hj1 <;> exact hj1
        have hf := h.free j hj hj1'
        have hnot : j ∉ l1 ++ i :: l2 := fun hh => h1 ((hk j hh).2.symm.trans hj1')
        rw [afterR_prev, afterR_next, if_neg, if_neg]
        · exact hf
        · rintro ⟨hh, rfl⟩; exact hnot (hnx hh)
        · rintro ⟨hh, rfl⟩; exact hnot (hpv hh)

theorem take_n : (A.take i).n = A.n := by unfold Doc.take; split <;> rfl
theorem take_lim : (A.take i).lim = A.lim := by unfold Doc.take; split <;> rfl
theorem take_in {j : Int} : (A.take i).In j ↔ A.In j := by unfold Doc.In; rw [take_n]
theorem take_up {j : Int} : ((A.take i).nd j).up = if j = i then -1 else (A.nd j).up := by
  unfold Doc.take
  split
  · rename_i h; split
    · rename_i e; rw [e, h]
    · rfl
  · simp only [Doc.set_nd, Nd.setUp, Nd.setKids]
    repeat' split
    all_goals rfl
theorem take_kids (w : WFT A) {j : Int} (hj : A.In j) : ((A.take i).nd j).kids = (A.nd j).kids.erase i := by
  have hno : j ≠ (A.nd i).up → (A.nd j).kids.erase i = (A.nd j).kids := fun hne => List.erase_of_not_mem fun hm => hne ((w.kin j hj i hm).2).symm
  unfold Doc.take
  split
  · rename_i h; exact (hno (by rw [h]; exact neg_of_in hj)).symm
  · simp only [Doc.set_nd, Nd.setUp, Nd.setKids]
    by_cases hju : j = (A.nd i).up
    · rw [if_pos hju]; split <;> rfl
    · rw [hno hju, if_neg hju]; split <;> rfl
/-- all but up and kids -/
def Nd.rest (x : Nd) : Nd := { x with up := 0, kids := [] }
theorem take_rest {j : Int} : ((A.take i).nd j).rest = (A.nd j).rest := by
  unfold Doc.take
  split
  · rfl
  · simp only [Doc.set_nd, Nd.setUp, Nd.setKids]
    repeat' split
    all_goals rfl
theorem rest_host {x y : Nd} (h : x.rest = y.rest) : x.host = y.host := by have := congrArg Nd.host h; exact this
theorem put_n : (A.put up i before).n = A.n := take_n
theorem put_lim : (A.put up i before).lim = A.lim := take_lim
theorem put_in {j : Int} : (A.put up i before).In j ↔ A.In j := by unfold Doc.In; rw [put_n]
theorem put_rest {j : Int} : ((A.put up i before).nd j).rest = (A.nd j).rest := by
  unfold Doc.put
  simp only [Doc.set_nd, Nd.setUp, Nd.setKids]
  repeat' split
  all_goals exact take_rest
theorem put_up {j : Int} : ((A.put up i before).nd j).up = if j = i then up else (A.nd j).up := by
  unfold Doc.put
  simp only [Doc.set_nd, Nd.setUp, Nd.setKids]
  by_cases h : j = i
  · simp [h]
  · simp only [if_neg h]; split <;> simp only [take_up, if_neg h]
theorem put_kids (w : WFT A) {j : Int} (hj : A.In j) : ((A.put up i before).nd j).kids = if j = up then Doc.ahead before i ((A.nd j).kids.erase i) else (A.nd j).kids.erase i := by
  unfold Doc.put
  simp only [Doc.set_nd, Nd.setUp, Nd.setKids]
  by_cases h : j = up
  · rw [if_pos h, if_pos h]; split <;> simp only [take_kids w hj]
  · rw [if_neg h, if_neg h]; split <;> simp only [take_kids w hj]

theorem WFT.take (w : WFT A) (hi : A.In i) : WFT (A.take i) := by
  refine ⟨fun j hj => ?_, fun j hj => ?_, fun j hj k hk => ?_, fun j hj hu => ?_, fun j hj => ?_⟩
  · rw [take_in] at hj
    rw [take_n, take_up]
    split
    · exact .none
    · exact w.up j hj
  · rw [take_in] at hj
    rw [take_n, rest_host take_rest]; exact w.host j hj
  · rw [take_in] at hj ⊢
    rw [take_kids w hj] at hk
    have hk1 := w.kin j hj k (List.mem_of_mem_erase hk)
    refine ⟨hk1.1, ?_⟩
    rw [take_up, if_neg]
    · exact hk1.2
    · rintro rfl
      exact (List.Nodup.mem_erase_iff (w.nod j hj)).1 hk |>.1 rfl
  · rw [take_in] at hj
    rw [take_up] at hu ⊢
    by_cases e : j = i
    · rw [if_pos e] at hu; exact absurd rfl hu
    · rw [if_neg e] at hu ⊢
      rw [take_kids w (in_of_ok (w.up j hj) hu)]
      exact (List.mem_erase_of_ne e).2 (w.upk j hj hu)
  · rw [take_in] at hj
    rw [take_kids w hj]; exact (w.nod j hj).erase i

theorem mem_ahead {l : List Int} {x : Int} (hd : l.Nodup) (hb : before = -1 ∨ before ∈ l) : x ∈ Doc.ahead before i l ↔ x = i ∨ x ∈ l := by
  obtain ⟨l1, l2, rfl, h, _⟩ := ahead_split (i := i) hb hd
  rw [h]; simp only [List.mem_append, List.mem_cons]
  constructor
  · rintro (h | h | h) <;> simp [h]
  · rintro (h | h | h) <;> simp [h]
theorem nodup_ahead {l : List Int} (hd : l.Nodup) (hb : before = -1 ∨ before ∈ l) (hi : i ∉ l) : (Doc.ahead before i l).Nodup := by
  obtain ⟨l1, l2, rfl, h, _⟩ := ahead_split (i := i) hb hd
  rw [h]
  rw [List.nodup_append] at hd ⊢
  simp only [List.mem_append, not_or] at hi
  refine ⟨hd.1, List.nodup_cons.2 ⟨hi.2, hd.2.1⟩, fun a ha b hb => ?_⟩
  rcases List.mem_cons.1 hb with rfl | hb
  · rintro rfl; exact hi.1 ha
  · exact hd.2.2 a ha b hb

/-- what a node is put ahead of -/
def Before (A : Doc) (up i before : Int) : Prop := before = -1 ∨ A.In before ∧ (A.nd before).up = up ∧ before ≠ i
theorem Before.mem (w : WFT A) (hu : A.In up) (hb : Before A up i before) : before = -1 ∨ before ∈ (A.nd up).kids.erase i := by
  rcases hb with h | ⟨h1, h2, h3⟩
  · exact .inl h
  · exact .inr ((List.mem_erase_of_ne h3).2 (h2 ▸ w.upk before h1 (h2 ▸ neg_of_in hu)))

theorem WFT.put (w : WFT A) (hu : A.In up) (hi : A.In i) (hb : Before A up i before) : WFT (A.put up i before) := by
  have hbm := hb.mem w hu
  have hni : ∀ j, A.In j → i ∉ (A.nd j).kids.erase i := fun j hj hh => (List.Nodup.mem_erase_iff (w.nod j hj)).1 hh |>.1 rfl
  refine ⟨fun j hj => ?_, fun j hj => ?_, fun j hj k hk => ?_, fun j hj hu' => ?_, fun j hj => ?_⟩
  · rw [put_in] at hj
    rw [put_n, put_up]
    split
    · exact .inr hu
    · exact w.up j hj
  · rw [put_in] at hj
    rw [put_n, rest_host put_rest]; exact w.host j hj
  · rw [put_in] at hj ⊢
    rw [put_kids w hj] at hk
    rw [put_up]
    split at hk
    · rename_i e
      subst e
      rcases (mem_ahead ((w.nod _ hj).erase i) hbm).1 hk with rfl | hk
      · rw [if_pos rfl]; exact ⟨hi, rfl⟩
      · have hk1 := w.kin _ hj k (List.mem_of_mem_erase hk)
        rw [if_neg (fun e => by subst e; exact hni _ hj hk)]; exact hk1
    · have hk1 := w.kin _ hj k (List.mem_of_mem_erase hk)
      rw [if_neg (fun e => by subst e; exact hni _ hj hk)]; exact hk1
  · rw [put_in] at hj
    rw [put_up] at hu' ⊢
    by_cases e : j = i
    · rw [if_pos e, put_kids w hu, if_pos rfl, e]
      exact (mem_ahead ((w.nod _ hu).erase i) hbm).2 (.inl rfl)
    · rw [if_neg e] at hu' ⊢
      rw [put_kids w (in_of_ok (w.up j hj) hu')]
      have hm := (List.mem_erase_of_ne e).2 (w.upk j hj hu')
      split
      · rename_i e2
        rw [e2] at hm ⊢
        exact (mem_ahead ((w.nod _ hu).erase i) hbm).2 (.inr hm)
      · exact hm
  · rw [put_in] at hj
    rw [put_kids w hj]
    split
    · rename_i e; subst e; exact nodup_ahead ((w.nod _ hj).erase i) hbm (hni _ hj)
    · exact (w.nod j hj).erase i

theorem Link.put (h : Link A R) (w : WFT A) (hu : A.In up) (hi : A.In i) (hui : up ≠ i) (hb : Before A up i before) : Link (A.put up i before) (putR R up i before) := by
  have h1 := h.take w hi
  have w1 := w.take hi
  have hu1 : (A.take i).In up := take_in.2 hu
  have hi1 : (A.take i).In i := take_in.2 hi
  have hbm : before = -1 ∨ before ∈ ((A.take i).nd up).kids := by rw [take_kids w hu]; exact hb.mem w hu
  obtain ⟨l1, l2, hl, hah, hhd, hnil⟩ := ahead_split (i := i) hbm (w1.nod up hu1)
  have hin : i ∉ ((A.take i).nd up).kids := by
    rw [take_kids w hu]; exact fun hh => (List.Nodup.mem_erase_iff (w.nod up hu)).1 hh |>.1 rfl
  have hiup : ((A.take i).nd i).up = -1 := by rw [take_up, if_pos rfl]
  have hK := h1.kin up hu1
  have hkin := w1.kin up hu1
  rw [hl] at hK hin hkin
  have hi0 := neg_of_in hi
  -- what stands ahead of it
  have hprev : (if before = -1 then (takeR R i up).last else (takeR R i before).prev) = l1.getLastD (-1) := by
    split
    · rename_i e
      rw [hK.last, hnil e, List.append_nil]
    · rename_i e
      obtain ⟨_, hs⟩ := (Seg.append _ _ _ _).1 hK.seg
      cases l2 with
      | nil => exact absurd hhd.symm e
      | cons b t =>
        simp only [List.headD_cons] at hhd
        subst hhd
        exact hs.1
  have hR : putR R up i before = afterR (afterR (upd (takeR R i) i (.setUp up)) up (l1.getLastD (-1)) i) up i (l2.headD (-1)) := by
    simp only [putR, hprev, hhd]
  rw [hR]
  have hrest : ∀ j, (afterR (afterR (upd (takeR R i) i (.setUp up)) up (l1.getLastD (-1)) i) up i (l2.headD (-1)) j).rest = (upd (takeR R i) i (.setUp up) j).rest := fun j => afterR_rest.trans afterR_rest
  have hK2 : Kin (upd (takeR R i) i (.setUp up)) up (l1 ++ l2) := hK.congr (by rw [upd_other _ hui]) (by rw [upd_other _ hui]) fun k hk => by
    rw [upd_other]; exact ⟨rfl, rfl⟩; rintro rfl; exact hin hk
  have hnd : (l1 ++ l2).Nodup := by rw [← hl]; exact w1.nod up hu1
  have hlink := hK2.link hnd hin hi0 fun k hk => neg_of_in (hkin k hk).1
  have hl1m : l1.getLastD (-1) ≠ -1 → l1.getLastD (-1) ∈ l1 ++ l2 := fun hne => List.mem_append_left _ (getLastD_mem (fun e => by simp [e] at hne) _)
  have hl2m : l2.headD (-1) ≠ -1 → l2.headD (-1) ∈ l1 ++ l2 := fun hne => List.mem_append_right _ (headD_mem (fun e => by simp [e] at hne) _)
  refine ⟨fun j hj => ?_, fun j hj => ?_, fun j hj hj1 => ?_⟩
  · have hj' : (A.take i).In j := take_in.2 (put_in.1 hj)
    have hs : Same ((A.put up i before).nd j) (upd (takeR R i) i (.setUp up) j) := by
      obtain ⟨s1, s2, s3, s4, s5, s6, s7, s8, s9, s10, s11⟩ := h1.same j hj'
      unfold Doc.put
      by_cases hji : j = i
      · subst hji
        simp only [Doc.set_nd, if_true, upd_same, if_neg (Ne.symm hui)]
        exact ⟨s1, s2, s3, s4, s5, rfl, s7, s8, s9, s10, s11⟩
      · simp only [Doc.set_nd, if_neg hji, upd_other _ hji]
        split
        · exact ⟨s1, s2, s3, s4, s5, s6, s7, s8, s9, s10, s11⟩
        · exact ⟨s1, s2, s3, s4, s5, s6, s7, s8, s9, s10, s11⟩
    exact hs.of_rest (hrest j)
  · have hj0 : A.In j := put_in.1 hj
    have hj' : (A.take i).In j := take_in.2 hj0
    by_cases hju : j = up
    · subst hju
      have : ((A.put j i before).nd j).kids = l1 ++ i :: l2 := by rw [put_kids w hj0, if_pos rfl, ← take_kids w hj0, hah]
      rw [this]; exact hlink
    · have ek : ((A.put up i before).nd j).kids = ((A.take i).nd j).kids := by rw [put_kids w hj0, if_neg hju, take_kids w hj0]
      rw [ek]
      have hkj := w1.kin j hj'
      have hnot : ∀ k ∈ ((A.take i).nd j).kids, k ∉ l1 ++ l2 := fun k hk' hk2 => hju ((hkj k hk').2.symm.trans (hkin k hk2).2)
      have hki : ∀ k ∈ ((A.take i).nd j).kids, k ≠ i := fun k hk' e => by
        subst e; exact neg_of_in hj' ((hkj k hk').2.symm.trans hiup)
      have hup : ∀ k, (upd (takeR R i) i (.setUp up) k).first = (takeR R i k).first ∧ (upd (takeR R i) i (.setUp up) k).last = (takeR R i k).last := fun k => by
        unfold upd; split <;> exact ⟨rfl, rfl⟩
      refine (h1.kin j hj').congr ?_ ?_ fun k hk' => ?_
      · rw [afterR_first, if_neg (fun hh => hju hh.2), afterR_first, if_neg (fun hh => hju hh.2), (hup j).1]
      · rw [afterR_last, if_neg (fun hh => hju hh.2), afterR_last, if_neg (fun hh => hju hh.2), (hup j).2]
      · rw [afterR_prev, if_neg, afterR_prev, if_neg, afterR_next, if_neg, afterR_next, if_neg, upd_other _ (hki k hk')]
        · exact ⟨rfl, rfl⟩
        · rintro ⟨hh, rfl⟩; exact hnot _ hk' (hl1m hh)
        · rintro ⟨_, rfl⟩; exact hki _ hk' rfl
        · rintro ⟨_, rfl⟩; exact hki _ hk' rfl
        · rintro ⟨hh, rfl⟩; exact hnot _ hk' (hl2m hh)
  · have hj0 : A.In j := put_in.1 hj
    have hj' : (A.take i).In j := take_in.2 hj0
    rw [put_up] at hj1
    by_cases hji : j = i
    · rw [if_pos hji] at hj1; exact absurd hj1 (neg_of_in hu)
    · rw [if_neg hji] at hj1
      have hf := h1.free j hj' (by rw [take_up, if_neg hji]; exact hj1)
      have hnot : j ∉ l1 ++ l2 := fun hh => by
        have := (hkin j hh).2
        rw [take_up, if_neg hji, hj1] at this
        exact neg_of_in hu this.symm
      rw [afterR_prev, if_neg, afterR_prev, if_neg, afterR_next, if_neg, afterR_next, if_neg, upd_other _ hji]
      · exact hf
      · rintro ⟨hh, rfl⟩; exact hnot (hl1m hh)
      · rintro ⟨_, rfl⟩; exact hji rfl
      · rintro ⟨_, rfl⟩; exact hji rfl
      · rintro ⟨hh, rfl⟩; exact hnot (hl2m hh)
end
end Go.Proofs.YtgdmaikjaopddaaGreatDoor

/- What holds of every document, and what making nodes and giving shadow roots makes of it. No program is in sight. -/
namespace Go.Proofs.YtgdmaikjaopddaaGreatDoor

structure WF (A : Doc) : Prop extends WFT A where
  pos : 0 < A.n
  le : (A.n : Int) ≤ A.lim
  lim : A.lim ≤ 5000
  shadow : ∀ i, A.In i → Ok A.n (A.nd i).shadow
  own : ∀ i, A.In i → Ok A.n (A.nd i).own
  slot : ∀ i, A.In i → Ok A.n (A.nd i).slot
  att : ∀ i, A.In i → (A.nd i).attrs.length ≤ 50
  hup : ∀ i, A.In i → (A.nd i).host ≠ -1 → (A.nd i).up = -1
  gin : ∀ i, A.In i → ∀ k ∈ (A.nd i).given, A.In k ∧ (A.nd k).slot = i
  gnod : ∀ i, A.In i → (A.nd i).given.Nodup
  sgiv : ∀ i, A.In i → (A.nd i).slot ≠ -1 → i ∈ (A.nd (A.nd i).slot).given
  rank : ∃ rk : Int → Nat, ∀ i, A.In i → A.par i ≠ -1 → rk (A.par i) < rk i

theorem Ok.more {n m : Nat} {x : Int} (h : Ok n x) (hm : n ≤ m) : Ok m x := h.imp id fun h => ⟨h.1, by omega⟩

/-- a new node, in nothing -/
def newNd (k : Int) (nm da : ByteArray) (l : List Attr) (fl : Fl) : Nd := ⟨k, nm, da, l, fl, -1, [], -1, -1, -1, -1, []⟩
def newR (k : Int) (nm da : ByteArray) (l : List Attr) (fl : Fl) : RNd := ⟨k, nm, da, l, fl, -1, -1, -1, -1, -1, -1, -1, -1, -1, []⟩
def addR (R : Int → RNd) (n : Nat) (x : RNd) : Int → RNd := fun j => if j = n then x else R j
def noFl : Fl := ⟨false, false, false, false, false⟩

namespace Nd
def setOwn (v : Int) (x : Nd) : Nd := { x with own := v }
def setShadow (v : Int) (x : Nd) : Nd := { x with shadow := v }
def setHost (v : Int) (x : Nd) : Nd := { x with host := v }
end Nd

def Doc.new (lim : Int) : Doc := ⟨1, lim, fun _ => newNd 4 .empty .empty [] noFl⟩
def Doc.add (A : Doc) (x : Nd) : Doc := { A with n := A.n + 1, nd := fun j => if j = A.n then x else A.nd j }

section
variable {A : Doc} {R : Int → RNd}
theorem add_nd_old {x : Nd} {j : Int} (hj : A.In j) : (A.add x).nd j = A.nd j := by
  have := hj.2
  simp only [Doc.add]; rw [if_neg (by omega)]
theorem add_nd_new (x : Nd) : (A.add x).nd A.n = x := by simp [Doc.add]
theorem add_in {x : Nd} {j : Int} : (A.add x).In j ↔ A.In j ∨ j = A.n := by
  unfold Doc.In Doc.add; simp only; omega

theorem Link.add (h : Link A R) (w : WF A) (k : Int) (nm da : ByteArray) (l : List Attr) (fl : Fl) : Link (A.add (newNd k nm da l fl)) (addR R A.n (newR k nm da l fl)) := by
  have hold : ∀ j, A.In j → addR R A.n (newR k nm da l fl) j = R j := fun j hj => by unfold addR; rw [if_neg]; have := hj.2; omega
  have hnew : addR R A.n (newR k nm da l fl) A.n = newR k nm da l fl := by unfold addR; rw [if_pos rfl]
  refine ⟨fun j hj => ?_, fun j hj => ?_, fun j hj hu => ?_⟩
  · rcases add_in.1 hj with hj | rfl
    · rw [add_nd_old hj, hold j hj]; exact h.same j hj
    · rw [add_nd_new, hnew]; exact ⟨rfl, rfl, rfl, rfl, rfl, rfl, rfl, rfl, rfl, rfl, rfl⟩
  · rcases add_in.1 hj with hj | rfl
    · rw [add_nd_old hj]
      refine (h.kin j hj).congr (by rw [hold j hj]) (by rw [hold j hj]) fun x hx => ?_
      rw [hold x (w.kin j hj x hx).1]; exact ⟨rfl, rfl⟩
    · rw [add_nd_new]
      exact ⟨by rw [hnew]; rfl, by rw [hnew]; rfl, trivial⟩
  · rcases add_in.1 hj with hj | rfl
    · rw [add_nd_old hj] at hu
      rw [hold j hj]; exact h.free j hj hu
    · rw [hnew]; exact ⟨rfl, rfl⟩

theorem WF.add (w : WF A) (hl : (A.n : Int) < A.lim) (k : Int) (nm da : ByteArray) (l : List Attr) (fl : Fl) (ha : l.length ≤ 50) : WF (A.add (newNd k nm da l fl)) := by
  have hm : A.n ≤ (A.add (newNd k nm da l fl)).n := Nat.le_succ _
  have hn1 : Ok (A.add (newNd k nm da l fl)).n (-1) := .inl rfl
  have go : ∀ (g : Nd → Int), g (newNd k nm da l fl) = -1 → (∀ i, A.In i → Ok A.n (g (A.nd i))) → ∀ i, (A.add (newNd k nm da l fl)).In i → Ok (A.add (newNd k nm da l fl)).n (g ((A.add (newNd k nm da l fl)).nd i)) := by
    intro g hg hall i hi
    rcases add_in.1 hi with hi | rfl
    · rw [add_nd_old hi]; exact (hall i hi).more hm
    · rw [add_nd_new, hg]; exact hn1
  have hpar : ∀ i, A.In i → (A.add (newNd k nm da l fl)).par i = A.par i := fun i hi => by unfold Doc.par; rw [add_nd_old hi]
  refine { up := go Nd.up rfl w.up, host := go Nd.host rfl w.host, shadow := go Nd.shadow rfl w.shadow, own := go Nd.own rfl w.own, slot := go Nd.slot rfl w.slot, pos := Nat.succ_pos _, le := ?_, lim := w.lim, kin := ?_, upk := ?_, nod := ?_, att := ?_, hup := ?_, gin := ?_, gnod := ?_, sgiv := ?_, rank := ?_ }
  · intro i hi x hx
    rcases add_in.1 hi with hi | rfl
    · rw [add_nd_old hi] at hx
      have := w.kin i hi x hx
      exact ⟨add_in.2 (.inl this.1), by rw [add_nd_old this.1]; exact this.2⟩
    · rw [add_nd_new] at hx; cases hx
  · intro i hi hu
    rcases add_in.1 hi with hi | rfl
    · rw [add_nd_old hi] at hu ⊢
      rw [add_nd_old (in_of_ok (w.up i hi) hu)]; exact w.upk i hi hu
    · rw [add_nd_new] at hu; exact absurd rfl hu
  · intro i hi
    rcases add_in.1 hi with hi | rfl
    · rw [add_nd_old hi]; exact w.nod i hi
    · rw [add_nd_new]; exact List.nodup_nil
  · show ((A.n + 1 : Nat) : Int) ≤ A.lim; omega
  · intro i hi
    rcases add_in.1 hi with hi | rfl
    · rw [add_nd_old hi]; exact w.att i hi
    · rw [add_nd_new]; exact ha
  · intro i hi hh
    rcases add_in.1 hi with hi | rfl
    · rw [add_nd_old hi] at hh ⊢; exact w.hup i hi hh
    · rw [add_nd_new]; rfl
  · intro i hi x hx
    rcases add_in.1 hi with hi | rfl
    · rw [add_nd_old hi] at hx
      have := w.gin i hi x hx
      exact ⟨add_in.2 (.inl this.1), by rw [add_nd_old this.1]; exact this.2⟩
    · rw [add_nd_new] at hx; cases hx
  · intro i hi
    rcases add_in.1 hi with hi | rfl
    · rw [add_nd_old hi]; exact w.gnod i hi
    · rw [add_nd_new]; exact List.nodup_nil
  · intro i hi hu
    rcases add_in.1 hi with hi | rfl
    · rw [add_nd_old hi] at hu ⊢
      rw [add_nd_old (in_of_ok (w.slot i hi) hu)]; exact w.sgiv i hi hu
    · rw [add_nd_new] at hu; exact absurd rfl hu
  · obtain ⟨rk, hrk⟩ := w.rank
    refine ⟨rk, fun i hi hp => ?_⟩
    rcases add_in.1 hi with hi | rfl
    · rw [hpar i hi] at hp ⊢; exact hrk i hi hp
    · exfalso; apply hp; unfold Doc.par; rw [add_nd_new]; rfl

theorem WF.new {lim : Int} (h1 : 1 ≤ lim) (h2 : lim ≤ 5000) : WF (Doc.new lim) := by
  refine { up := fun _ _ => .inl rfl, host := fun _ _ => .inl rfl, shadow := fun _ _ => .inl rfl, own := fun _ _ => .inl rfl, slot := fun _ _ => .inl rfl, pos := Nat.one_pos, le := h1, lim := h2, kin := fun _ _ _ hx => (List.not_mem_nil hx).elim, upk := fun _ _ h => (h rfl).elim, nod := fun _ _ => List.nodup_nil, att := fun _ _ => Nat.zero_le _, hup := fun _ _ _ => rfl, gin := fun _ _ _ hx => (List.not_mem_nil hx).elim, gnod := fun _ _ => List.nodup_nil, sgiv := fun _ _ h => (h rfl).elim, rank := ⟨fun _ => 0, fun _ _ h => (h rfl).elim⟩ }
theorem Link.new {lim : Int} {R : Int → RNd} (h : R 0 = newR 4 .empty .empty [] noFl) : Link (Doc.new lim) R := by
  have h0 : ∀ j, (Doc.new lim).In j → j = 0 := fun j hj => by have h1 := hj.1; have h2 : j < 1 := hj.2; omega
  refine ⟨fun j hj => ?_, fun j hj => ?_, fun j hj _ => ?_⟩ <;> rw [h0 j hj]
  · rw [h]; exact ⟨rfl, rfl, rfl, rfl, rfl, rfl, rfl, rfl, rfl, rfl, rfl⟩
  · exact ⟨by rw [h]; rfl, by rw [h]; rfl, trivial⟩
  · rw [h]; exact ⟨rfl, rfl⟩

/-- fields that are no links -/
theorem Link.set (h : Link A R) {i : Int} (f : Nd → Nd) (g : RNd → RNd) (hs : ∀ x y, Same x y → Same (f x) (g y)) (hk : ∀ x, (f x).kids = x.kids) (hu : ∀ x, (f x).up = x.up)
    (hg : ∀ y, (g y).first = y.first ∧ (g y).last = y.last ∧ (g y).next = y.next ∧ (g y).prev = y.prev) : Link (A.set i f) (upd R i g) := by
  have hl : ∀ j, (upd R i g j).first = (R j).first ∧ (upd R i g j).last = (R j).last ∧ (upd R i g j).next = (R j).next ∧ (upd R i g j).prev = (R j).prev := fun j => by
    unfold upd; split
    · exact hg _
    · exact ⟨rfl, rfl, rfl, rfl⟩
  refine ⟨fun j hj => ?_, fun j hj => ?_, fun j hj h1 => ?_⟩
  · unfold upd; rw [Doc.set_nd]; split
    · exact hs _ _ (h.same j hj)
    · exact h.same j hj
  · have : ((A.set i f).nd j).kids = (A.nd j).kids := by rw [Doc.set_nd]; split <;> simp only [hk]
    rw [this]
    exact (h.kin j hj).congr (hl j).1 (hl j).2.1 fun k _ => ⟨(hl k).2.2.2, (hl k).2.2.1⟩
  · have : ((A.set i f).nd j).up = (A.nd j).up := by rw [Doc.set_nd]; split <;> simp only [hu]
    rw [this] at h1
    rw [(hl j).2.2.1, (hl j).2.2.2]
    exact h.free j hj h1

/-- a node with no kids, in nothing and of nobody, becomes somebody's content or shadow root -/
theorem WF.adopt (w : WF A) {i c : Int} (hi : A.In i) (hic : i ≠ c) (f : Nd → Nd) (hf : ∀ x, (f x).up = x.up ∧ (f x).host = x.host ∧ (f x).kids = x.kids ∧ (f x).slot = x.slot ∧ (f x).attrs = x.attrs ∧ (f x).given = x.given)
    (hf2 : ∀ x, Ok A.n x.shadow → Ok A.n (f x).shadow) (hf3 : ∀ x, Ok A.n x.own → Ok A.n (f x).own) (hu : (A.nd c).up = -1) (hk : (A.nd c).kids = []) (hh : ∀ j, A.In j → (A.nd j).host ≠ c) :
    WF ((A.set i f).set c (.setHost i)) := by
  have e : ∀ j, ((A.set i f).set c (.setHost i)).nd j = if j = c then (A.nd j).setHost i else if j = i then f (A.nd j) else A.nd j := fun j => by
    simp only [Doc.set_nd]; by_cases h1 : j = c
    · rw [if_pos h1, if_pos h1, if_neg (fun h2 => hic (h2.symm.trans h1))]
    · rw [if_neg h1, if_neg h1]
  have g : ∀ {α : Type} (g : Nd → α), (∀ x, g (Nd.setHost i x) = g x) → (∀ x, g (f x) = g x) → ∀ j, g (((A.set i f).set c (.setHost i)).nd j) = g (A.nd j) := fun g h1 h2 j => by
    rw [e]; split
    · exact h1 _
    · split
      · exact h2 _
      · rfl
  have gu := g Nd.up (fun _ => rfl) (fun x => (hf x).1)
  have gk := g Nd.kids (fun _ => rfl) (fun x => (hf x).2.2.1)
  have gs := g Nd.slot (fun _ => rfl) (fun x => (hf x).2.2.2.1)
  have ga := g Nd.attrs (fun _ => rfl) (fun x => (hf x).2.2.2.2.1)
  have gg := g Nd.given (fun _ => rfl) (fun x => (hf x).2.2.2.2.2)
  have gh : ∀ j, j ≠ c → (((A.set i f).set c (.setHost i)).nd j).host = (A.nd j).host := fun j hj => by
    rw [e, if_neg hj]; split
    · exact (hf _).2.1
    · rfl
  have ghc : (((A.set i f).set c (.setHost i)).nd c).host = i := by rw [e, if_pos rfl]; rfl
  refine { up := fun j hj => by rw [gu]; exact w.up j hj, host := fun j hj => ?_, shadow := fun j hj => ?_, own := fun j hj => ?_, slot := fun j hj => by rw [gs]; exact w.slot j hj, pos := w.pos, le := w.le, lim := w.lim, kin := fun j hj x hx => ?_, upk := fun j hj h => ?_, nod := fun j hj => by rw [gk]; exact w.nod j hj, att := fun j hj => by rw [ga]; exact w.att j hj, hup := fun j hj h => ?_, gin := fun j hj x hx => by rw [gg] at hx; rw [gs]; exact w.gin j hj x hx, gnod := fun j hj => by rw [gg]; exact w.gnod j hj, sgiv := fun j hj h => by rw [gs] at h ⊢; rw [gg]; exact w.sgiv j hj h, rank := ?_ }
  · by_cases hj' : j = c
    · rw [hj', ghc]; exact .inr hi
    · rw [gh j hj']; exact w.host j hj
  · rw [gk] at hx; rw [gu]; exact w.kin j hj x hx
  · rw [gu] at h ⊢; rw [gk]; exact w.upk j hj h
  · rw [e]; split
    · exact w.shadow j hj
    · split
      · exact hf2 _ (w.shadow j hj)
      · exact w.shadow j hj
  · rw [e]; split
    · exact w.own j hj
    · split
      · exact hf3 _ (w.own j hj)
      · exact w.own j hj
  · by_cases hj' : j = c
    · rw [hj', gu]; exact hu
    · rw [gh j hj'] at h; rw [gu]; exact w.hup j hj h
  · obtain ⟨rk, hrk⟩ := w.rank
    refine ⟨fun x => if x = c then rk i + 1 else rk x, fun j hj hp => ?_⟩
    by_cases hj' : j = c
    · have : ((A.set i f).set c (.setHost i)).par j = i := by unfold Doc.par; rw [gu, hj', hu, ghc]; rfl
      show (if _ = c then rk i + 1 else rk _) < (if j = c then rk i + 1 else rk j)
      rw [this, if_pos hj', if_neg hic]; exact Nat.lt_succ_self _
    · have hpar : ((A.set i f).set c (.setHost i)).par j = A.par j := by unfold Doc.par; rw [gu, gh j hj']
      rw [hpar] at hp
      have hne : A.par j ≠ c := by
        unfold Doc.par
        split
        · rename_i h
          intro e2
          have := w.upk j hj h
          rw [e2, hk] at this
          cases this
        · exact hh j hj
      show (if _ = c then rk i + 1 else rk _) < (if j = c then rk i + 1 else rk j)
      rw [hpar, if_neg hne, if_neg hj']
      exact hrk j hj hp

def tmplB (k : Int) (nm : ByteArray) : Bool := k == 1 && (nm.toList == [116, 101, 109, 112, 108, 97, 116, 101])
/-- Make: what it answers -/
def Doc.makeNo (A : Doc) (k : Int) (nm : ByteArray) : Bool := decide (A.lim < A.n + 1) || tmplB k nm && decide (A.lim < A.n + 2)
def Doc.made (A : Doc) (k : Int) (nm da : ByteArray) (l : List Attr) : Doc :=
  if tmplB k nm then (((A.add (newNd k nm da l noFl)).add (newNd 4 .empty .empty [] noFl)).set A.n (.setOwn (A.n + 1))).set (A.n + 1) (.setHost A.n) else A.add (newNd k nm da l noFl)

theorem WF.made (w : WF A) {k : Int} {nm : ByteArray} (h : A.makeNo k nm = false) (da : ByteArray) (l : List Attr) (ha : l.length ≤ 50) : WF (A.made k nm da l) := by
  unfold Doc.makeNo at h
  rw [Bool.or_eq_false_iff] at h
  have h1 : (A.n : Int) < A.lim := by have := h.1; simp at this; omega
  have w1 := w.add h1 k nm da l noFl ha
  unfold Doc.made
  cases ht : tmplB k nm
  · exact w1
  · have h2 : (A.n : Int) + 1 < A.lim := by have := h.2; rw [ht] at this; simp at this; omega
    have w2 := w1.add (by show ((A.n + 1 : Nat) : Int) < A.lim; omega) 4 .empty .empty [] noFl (Nat.zero_le _)
    have e1 : (A.add (newNd k nm da l noFl)).n = A.n + 1 := rfl
    have hin : ∀ j, ((A.add (newNd k nm da l noFl)).add (newNd 4 .empty .empty [] noFl)).In j ↔ A.In j ∨ j = A.n ∨ j = A.n + 1 := fun j => by
      rw [add_in, add_in, e1]; constructor
      · rintro ((h | h) | h)
        · exact .inl h
        · exact .inr (.inl h)
        · exact .inr (.inr (by omega))
      · rintro (h | h | h)
        · exact .inl (.inl h)
        · exact .inl (.inr h)
        · exact .inr (by omega)
    have hnew : ((A.add (newNd k nm da l noFl)).add (newNd 4 .empty .empty [] noFl)).nd (A.n + 1) = newNd 4 .empty .empty [] noFl := by
      have := add_nd_new (A := A.add (newNd k nm da l noFl)) (newNd 4 .empty .empty [] noFl)
      rw [e1] at this
      exact (congrArg _ (by omega : (A.n : Int) + 1 = ((A.n + 1 : Nat) : Int))).trans this
    refine w2.adopt ((hin _).2 (.inr (.inl rfl))) (by omega) _ (fun _ => ⟨rfl, rfl, rfl, rfl, rfl, rfl⟩) (fun _ h => h) (fun _ _ => .inr ⟨by show (0 : Int) ≤ A.n + 1; omega, by show (A.n : Int) + 1 < ((A.n + 1 + 1 : Nat) : Int); omega⟩) (by rw [hnew]; rfl) (by rw [hnew]; rfl) fun j hj => ?_
    rcases (hin j).1 hj with hj | hj | hj
    · rw [add_nd_old (add_in.2 (.inl hj)), add_nd_old hj]
      intro e2
      have := w.host j hj
      rw [e2] at this
      rcases this with h | h <;> omega
    · have : ((A.add (newNd k nm da l noFl)).add (newNd 4 .empty .empty [] noFl)).nd j = newNd k nm da l noFl := by rw [hj, add_nd_old (add_in.2 (.inr rfl)), add_nd_new]
      rw [this]; show (-1 : Int) ≠ _; omega
    · rw [hj, hnew]; show (-1 : Int) ≠ _; omega
end

/-- one comes from i up to j -/
inductive Climb (f : Int → Int) : Int → Int → Prop
  | here (i : Int) : Climb f i i
  | up {i j : Int} : f i ≠ -1 → Climb f (f i) j → Climb f i j

noncomputable def climbB (f : Int → Int) (i j : Int) : Bool := @decide (Climb f i j) (Classical.propDecidable _)

theorem climbB_iff {f : Int → Int} {i j : Int} : climbB f i j = true ↔ Climb f i j := by
  unfold climbB
  exact @decide_eq_true_iff _ (Classical.propDecidable _)
theorem climbB_not {f : Int → Int} {i j : Int} : climbB f i j = false ↔ ¬ Climb f i j := by rw [← climbB_iff]; simp
theorem climb_step {f : Int → Int} {i j : Int} (h : i ≠ j) : Climb f i j ↔ f i ≠ -1 ∧ Climb f (f i) j :=
  ⟨fun c => by cases c with
    | here => exact absurd rfl h
    | up h1 h2 => exact ⟨h1, h2⟩, fun ⟨h1, h2⟩ => .up h1 h2⟩


section
variable {A : Doc} {R : Int → RNd} {up i before : Int}
theorem put_host {j : Int} : ((A.put up i before).nd j).host = (A.nd j).host := rest_host put_rest
theorem put_par {j : Int} (hu : up ≠ -1) : (A.put up i before).par j = if j = i then up else A.par j := by
  unfold Doc.par
  rw [put_up, put_host]
  by_cases h : j = i
  · rw [if_pos h, if_pos h, if_pos hu]
  · rw [if_neg h, if_neg h]

theorem WF.put (w : WF A) (hu : A.In up) (hi : A.In i) (hh : (A.nd i).host = -1) (hc : ¬ Climb A.par up i) (hb : Before A up i before) : WF (A.put up i before) := by
  have hui : up ≠ i := fun e => hc (e ▸ .here _)
  have f : ∀ {α : Type} (g : Nd → α), (∀ x, g x.rest = g x) → ∀ j, g ((A.put up i before).nd j) = g (A.nd j) := fun g hg j => by
    rw [← hg, put_rest, hg]
  have w1 := w.toWFT.put hu hi hb
  refine { toWFT := w1, pos := by rw [put_n]; exact w.pos, le := by rw [put_n, put_lim]; exact w.le, lim := by rw [put_lim]; exact w.lim, shadow := fun j hj => ?_, own := fun j hj => ?_, slot := fun j hj => ?_, att := fun j hj => ?_, hup := fun j hj h => ?_, gin := fun j hj x hx => by rw [f Nd.given (fun _ => rfl)] at hx; rw [f Nd.slot (fun _ => rfl), put_in]; exact w.gin j (put_in.1 hj) x hx, gnod := fun j hj => by rw [f Nd.given (fun _ => rfl)]; exact w.gnod j (put_in.1 hj), sgiv := fun j hj h => by rw [f Nd.slot (fun _ => rfl)] at h ⊢; rw [f Nd.given (fun _ => rfl)]; exact w.sgiv j (put_in.1 hj) h, rank := ?_ }
  · rw [put_n, f Nd.shadow (fun _ => rfl)]; exact w.shadow j (put_in.1 hj)
  · rw [put_n, f Nd.own (fun _ => rfl)]; exact w.own j (put_in.1 hj)
  · rw [put_n, f Nd.slot (fun _ => rfl)]; exact w.slot j (put_in.1 hj)
  · rw [f Nd.attrs (fun _ => rfl)]; exact w.att j (put_in.1 hj)
  · rw [put_host] at h
    rw [put_up, if_neg (fun e => by subst e; exact h hh)]
    exact w.hup j (put_in.1 hj) h
  · obtain ⟨rk, hrk⟩ := w.rank
    refine ⟨fun x => @ite _ (Climb A.par x i) (Classical.propDecidable _) (rk x + rk up + 1) (rk x), fun j hj hp => ?_⟩
    have hj' := put_in.1 hj
    rw [put_par (neg_of_in hu)] at hp ⊢
    by_cases e : j = i
    · rw [if_pos e] at hp ⊢
      subst e
      have hh2 : Climb A.par j j := .here j
      simp only [if_neg hc, if_pos hh2]
      omega
    · rw [if_neg e] at hp ⊢
      have h1 := hrk j hj' hp
      by_cases hcl : Climb A.par j i
      · have h2 := ((climb_step e).1 hcl).2
        simp only [if_pos h2, if_pos hcl]; omega
      · have h2 : ¬ Climb A.par (A.par j) i := fun h => hcl (.up hp h)
        simp only [if_neg h2, if_neg hcl]; exact h1

theorem WF.take (w : WF A) (hi : A.In i) : WF (A.take i) := by
  have f : ∀ {α : Type} (g : Nd → α), (∀ x, g x.rest = g x) → ∀ j, g ((A.take i).nd j) = g (A.nd j) := fun g hg j => by
    rw [← hg, take_rest, hg]
  have w1 := w.toWFT.take hi
  refine { toWFT := w1, pos := by rw [take_n]; exact w.pos, le := by rw [take_n, take_lim]; exact w.le, lim := by rw [take_lim]; exact w.lim, shadow := fun j hj => ?_, own := fun j hj => ?_, slot := fun j hj => ?_, att := fun j hj => ?_, hup := fun j hj h => ?_, gin := fun j hj x hx => by rw [f Nd.given (fun _ => rfl)] at hx; rw [f Nd.slot (fun _ => rfl), take_in]; exact w.gin j (take_in.1 hj) x hx, gnod := fun j hj => by rw [f Nd.given (fun _ => rfl)]; exact w.gnod j (take_in.1 hj), sgiv := fun j hj h => by rw [f Nd.slot (fun _ => rfl)] at h ⊢; rw [f Nd.given (fun _ => rfl)]; exact w.sgiv j (take_in.1 hj) h, rank := ?_ }
  · rw [take_n, f Nd.shadow (fun _ => rfl)]; exact w.shadow j (take_in.1 hj)
  · rw [take_n, f Nd.own (fun _ => rfl)]; exact w.own j (take_in.1 hj)
  · rw [take_n, f Nd.slot (fun _ => rfl)]; exact w.slot j (take_in.1 hj)
  · rw [f Nd.attrs (fun _ => rfl)]; exact w.att j (take_in.1 hj)
  · rw [rest_host take_rest] at h
    rw [take_up]; split
    · rfl
    · exact w.hup j (take_in.1 hj) h
  · obtain ⟨rk, hrk⟩ := w.rank
    refine ⟨rk, fun j hj hp => ?_⟩
    have hj' := take_in.1 hj
    have e : (A.take i).par j = A.par j ∨ (A.take i).par j = -1 ∨ (A.take i).par j = (A.nd j).host ∧ (A.nd j).up ≠ -1 := by
      unfold Doc.par
      rw [take_up, rest_host take_rest]
      by_cases h : j = i
      · rw [if_pos h]
        by_cases h2 : (A.nd j).up = -1
        · left; simp [h2]
        · right; right; simp [h2]
      · rw [if_neg h]; exact .inl rfl
    rcases e with e | e | ⟨e, h2⟩
    · rw [e] at hp ⊢; exact hrk j hj' hp
    · exact absurd e hp
    · rw [e] at hp
      exact absurd (w.hup j hj' hp) h2

/-- what stands behind a node in a list; -1: nothing -/
def nextIn : List Int → Int → Int
  | [], _ => -1
  | k :: t, i => if k = i then t.headD (-1) else nextIn t i
theorem nextIn_mid {l1 l2 : List Int} (h : i ∉ l1) : nextIn (l1 ++ i :: l2) i = l2.headD (-1) := by
  induction l1 with
  | nil => simp [nextIn]
  | cons k t ih =>
    simp only [List.mem_cons, not_or] at h
    rw [List.cons_append, nextIn, if_neg (fun e => h.1 e.symm), ih h.2]
theorem Link.next (h : Link A R) (w : WF A) (hi : A.In i) (hu : (A.nd i).up ≠ -1) : (R i).next = nextIn (A.nd (A.nd i).up).kids i := by
  have hui := in_of_ok (w.up i hi) hu
  obtain ⟨l1, l2, he, h1, _⟩ := mem_split (w.upk i hi hu) (w.nod _ hui)
  have hK := (h.kin _ hui).seg
  rw [he] at hK ⊢
  obtain ⟨_, _, hn, _⟩ := (Seg.append _ _ _ _).1 hK
  rw [hn, nextIn_mid h1]
theorem Before.next (w : WF A) (hi : A.In i) (hu : A.In up) (hiu : (A.nd i).up = up) : Before A up i (nextIn (A.nd up).kids i) := by
  subst hiu
  obtain ⟨l1, l2, he, h1, h2⟩ := mem_split (w.upk i hi (neg_of_in hu)) (w.nod _ hu)
  have hk := w.kin _ hu
  rw [he] at hk ⊢
  rw [nextIn_mid h1]
  cases l2 with
  | nil => exact .inl rfl
  | cons k t =>
    have := hk k (by simp)
    exact .inr ⟨this.1, this.2, fun e => h2 (by rw [List.headD_cons] at e; simp [e])⟩
end
end Go.Proofs.YtgdmaikjaopddaaGreatDoor
