/- Chains of links: a list of kids, as first, last, next and previous say it. What taking out and putting in makes of them. No program is in sight. -/
import Derived.Test.YtehjhigaebpfkaaDoorNodes
namespace Go.Proofs.YtehjhigaebpfkaaDoor

/-- l stands in order, behind p and ahead of q -/
def Seg (R : Int → RNd) : Int → List Int → Int → Prop
  | _, [], _ => True
  | p, k :: t, q => (R k).prev = p ∧ (R k).next = t.headD q ∧ Seg R k t q

theorem headD_append (a b : List Int) (q : Int) : (a ++ b).headD q = a.headD (b.headD q) := by cases a <;> simp
theorem getLastD_cons (k p : Int) (t : List Int) : (k :: t).getLastD p = t.getLastD k := by cases t <;> rfl
theorem getLastD_snoc (t : List Int) (k p : Int) : (t ++ [k]).getLastD p = k := by simp
theorem getLastD_mem {l : List Int} (h : l ≠ []) (p : Int) : l.getLastD p ∈ l := by
  rw [List.getLastD_eq_getLast?, List.getLast?_eq_some_getLast h]; exact List.getLast_mem h
theorem headD_mem {l : List Int} (h : l ≠ []) (p : Int) : l.headD p ∈ l := by cases l <;> simp_all

theorem Seg.append {R : Int → RNd} : ∀ (a b : List Int) (p q : Int), Seg R p (a ++ b) q ↔ Seg R p a (b.headD q) ∧ Seg R (a.getLastD p) b q
  | [], b, p, q => by simp [Seg]
  | k :: t, b, p, q => by
    simp only [List.cons_append, Seg, headD_append, getLastD_cons, Seg.append t b k q, and_assoc]
theorem Seg.congr {R R' : Int → RNd} : ∀ {l : List Int} {p q : Int}, (∀ k ∈ l, (R' k).prev = (R k).prev ∧ (R' k).next = (R k).next) → Seg R p l q → Seg R' p l q
  | [], _, _, _, _ => trivial
  | k :: t, p, q, hk, ⟨h1, h2, h3⟩ => ⟨(hk k (by simp)).1.trans h1, (hk k (by simp)).2.trans h2, Seg.congr (fun x hx => hk x (by simp [hx])) h3⟩
/-- another end -/
theorem Seg.end_ {R R' : Int → RNd} : ∀ {l : List Int} {p q q' : Int}, l.Nodup → (∀ k ∈ l, (R' k).prev = (R k).prev) → (∀ k ∈ l, k ≠ l.getLastD p → (R' k).next = (R k).next) → (l ≠ [] → (R' (l.getLastD p)).next = q') →
    Seg R p l q → Seg R' p l q'
  | [], _, _, _, _, _, _, _, _ => trivial
  | [k], p, q, q', _, hp, _, hl, ⟨h1, _, _⟩ => ⟨(hp k (by simp)).trans h1, by simpa using hl (by simp), trivial⟩
  | k :: x :: t, p, q, q', hd, hp, hn, hl, ⟨h1, h2, h3⟩ => by
    rw [getLastD_cons] at hn hl
    have hne : k ≠ (x :: t).getLastD k := fun e => (List.nodup_cons.1 hd).1 (e ▸ getLastD_mem (by simp) k)
    exact ⟨(hp k (by simp)).trans h1, ((hn k (by simp) hne).trans h2).trans (by simp), Seg.end_ (List.nodup_cons.1 hd).2 (fun y hy => hp y (by simp [hy])) (fun y hy hy' => hn y (List.mem_cons_of_mem _ hy) hy') (fun _ => hl (by simp)) h3⟩
/-- another begin -/
theorem Seg.start {R R' : Int → RNd} {l : List Int} {p p' q : Int} (hd : l.Nodup) (hn : ∀ k ∈ l, (R' k).next = (R k).next) (hp : ∀ k ∈ l, k ≠ l.headD q → (R' k).prev = (R k).prev) (hl : l ≠ [] → (R' (l.headD q)).prev = p') (h : Seg R p l q) : Seg R' p' l q := by
  cases l with
  | nil => trivial
  | cons k t =>
    obtain ⟨_, h2, h3⟩ := h
    have hk : k ∉ t := (List.nodup_cons.1 hd).1
    exact ⟨by simpa using hl (by simp), (hn k (by simp)).trans h2, h3.congr fun x hx => ⟨hp x (by simp [hx]) (by simp; rintro rfl; exact hk hx), hn x (by simp [hx])⟩⟩

section
variable {R : Int → RNd} {up a b i j : Int}
theorem upd_same (f : RNd → RNd) : upd R i f i = f (R i) := by simp [upd]
theorem upd_other (f : RNd → RNd) (h : j ≠ i) : upd R i f j = R j := by simp [upd, h]
theorem afterR_next : (afterR R up a b j).next = if a ≠ -1 ∧ j = a then b else (R j).next := by
  unfold afterR upd; by_cases ha : a = -1 <;> by_cases hb : b = -1 <;> simp [ha, hb] <;> (repeat' split) <;> simp_all [RNd.setFirst, RNd.setLast, RNd.setNext, RNd.setPrev]
theorem afterR_prev : (afterR R up a b j).prev = if b ≠ -1 ∧ j = b then a else (R j).prev := by
  unfold afterR upd; by_cases ha : a = -1 <;> by_cases hb : b = -1 <;> simp [ha, hb] <;> (repeat' split) <;> simp_all [RNd.setFirst, RNd.setLast, RNd.setNext, RNd.setPrev]
theorem afterR_first : (afterR R up a b j).first = if a = -1 ∧ j = up then b else (R j).first := by
  unfold afterR upd; by_cases ha : a = -1 <;> by_cases hb : b = -1 <;> simp [ha, hb] <;> (repeat' split) <;> simp_all [RNd.setFirst, RNd.setLast, RNd.setNext, RNd.setPrev]
theorem afterR_last : (afterR R up a b j).last = if b = -1 ∧ j = up then a else (R j).last := by
  unfold afterR upd; by_cases ha : a = -1 <;> by_cases hb : b = -1 <;> simp [ha, hb] <;> (repeat' split) <;> simp_all [RNd.setFirst, RNd.setLast, RNd.setNext, RNd.setPrev]
/-- all but the links -/
def RNd.rest (x : RNd) : RNd := { x with first := 0, last := 0, next := 0, prev := 0 }
theorem afterR_rest : (afterR R up a b j).rest = (R j).rest := by
  unfold afterR upd; by_cases ha : a = -1 <;> by_cases hb : b = -1 <;> simp [ha, hb] <;> (repeat' split) <;> simp_all [RNd.rest, RNd.setFirst, RNd.setLast, RNd.setNext, RNd.setPrev]
end

/-- the kids of a node, as its links say them -/
structure Kin (R : Int → RNd) (u : Int) (l : List Int) : Prop where
  first : (R u).first = l.headD (-1)
  last : (R u).last = l.getLastD (-1)
  seg : Seg R (-1) l (-1)

theorem Kin.congr {R R' : Int → RNd} {u : Int} {l : List Int} (h : Kin R u l) (h1 : (R' u).first = (R u).first) (h2 : (R' u).last = (R u).last) (hk : ∀ k ∈ l, (R' k).prev = (R k).prev ∧ (R' k).next = (R k).next) : Kin R' u l :=
  ⟨h1.trans h.first, h2.trans h.last, h.seg.congr hk⟩

/-- a kid is unlinked -/
theorem Kin.unlink {R : Int → RNd} {u i : Int} {l1 l2 : List Int} (h : Kin R u (l1 ++ i :: l2)) (hd : (l1 ++ i :: l2).Nodup) (hne : ∀ k ∈ l1 ++ i :: l2, k ≠ -1) :
    Kin (afterR R u (R i).prev (R i).next) u (l1 ++ l2) := by
  obtain ⟨hs1, hp, hn, hs2⟩ := (Seg.append _ _ _ _).1 h.seg
  simp only [List.headD_cons] at hs1
  have hd1 : l1.Nodup := (List.nodup_append.1 hd).1
  have hd2 : l2.Nodup := (List.nodup_cons.1 (List.nodup_append.1 hd).2.1).2
  have hdis : ∀ x ∈ l1, ∀ y ∈ l2, x ≠ y := fun x hx y hy => (List.nodup_append.1 hd).2.2 x hx y (by simp [hy])
  have hl1 : l1 ≠ [] → l1.getLastD (-1) ≠ -1 := fun hl => hne _ (List.mem_append_left _ (getLastD_mem hl _))
  have hl2 : l2 ≠ [] → l2.headD (-1) ≠ -1 := fun hl => hne _ (List.mem_append_right _ (List.mem_cons_of_mem _ (headD_mem hl _)))
  rw [hp, hn]
  refine ⟨?_, ?_, (Seg.append _ _ _ _).2 ⟨?_, ?_⟩⟩
  · rw [afterR_first, h.first, headD_append, headD_append]
    cases l1 with
    | nil => simp
    | cons k t => rw [if_neg (fun hh => hl1 (by simp) hh.1)]; simp
  · rw [afterR_last, h.last]
    cases l2 with
    | nil => simp
    | cons k t =>
      rw [if_neg (fun hh => hl2 (by simp) hh.1)]
      simp [List.getLastD_eq_getLast?, List.getLast?_append, List.getLast?_cons]
  · refine Seg.end_ hd1 (fun k hk => ?_) (fun k hk hk' => ?_) (fun hl => ?_) hs1
    · rw [afterR_prev, if_neg]
      rintro ⟨hh, rfl⟩
      have : l2 ≠ [] := fun e => by simp [e] at hh
      exact hdis _ hk _ (headD_mem this _) rfl
    · rw [afterR_next, if_neg (fun hh => hk' hh.2)]
    · rw [afterR_next, if_pos ⟨hl1 hl, rfl⟩]
  · refine Seg.start hd2 (fun k hk => ?_) (fun k hk hk' => ?_) (fun hl => ?_) hs2
    · rw [afterR_next, if_neg]
      rintro ⟨hh, rfl⟩
      have : l1 ≠ [] := fun e => by simp [e] at hh
      exact hdis _ (getLastD_mem this _) _ hk rfl
    · rw [afterR_prev, if_neg (fun hh => hk' hh.2)]
    · rw [afterR_prev, if_pos ⟨hl2 hl, rfl⟩]

/-- a node is linked in -/
theorem Kin.link {R : Int → RNd} {u i : Int} {l1 l2 : List Int} (h : Kin R u (l1 ++ l2)) (hd : (l1 ++ l2).Nodup) (hi : i ∉ l1 ++ l2) (hi0 : i ≠ -1) (hne : ∀ k ∈ l1 ++ l2, k ≠ -1) :
    Kin (afterR (afterR R u (l1.getLastD (-1)) i) u i (l2.headD (-1))) u (l1 ++ i :: l2) := by
  obtain ⟨hs1, hs2⟩ := (Seg.append _ _ _ _).1 h.seg
  have hd1 : l1.Nodup := (List.nodup_append.1 hd).1
  have hd2 : l2.Nodup := (List.nodup_append.1 hd).2.1
  have hdis : ∀ x ∈ l1, ∀ y ∈ l2, x ≠ y := (List.nodup_append.1 hd).2.2
  have hi1 : i ∉ l1 := fun hh => hi (by simp [hh])
  have hi2 : i ∉ l2 := fun hh => hi (by simp [hh])
  have hl1 : l1 ≠ [] → l1.getLastD (-1) ≠ -1 := fun hl => hne _ (List.mem_append_left _ (getLastD_mem hl _))
  have hl2 : l2 ≠ [] → l2.headD (-1) ≠ -1 := fun hl => hne _ (List.mem_append_right _ (headD_mem hl _))
  refine ⟨?_, ?_, (Seg.append _ _ _ _).2 ⟨?_, ?_, ?_, ?_⟩⟩
  · rw [afterR_first, if_neg (fun hh => hi0 hh.1), afterR_first, h.first]
    cases l1 with
    | nil => simp
    | cons k t => rw [if_neg (fun hh => hl1 (by simp) hh.1)]; simp
  · rw [afterR_last, afterR_last, if_neg (fun hh : i = -1 ∧ _ => hi0 hh.1), h.last]
    cases l2 with
    | nil => simp
    | cons k t =>
      rw [if_neg (fun hh => hl2 (by simp) hh.1)]
      simp [List.getLastD_eq_getLast?, List.getLast?_append, List.getLast?_cons]
  · simp only [List.headD_cons]
    refine Seg.end_ hd1 (fun k hk => ?_) (fun k hk hk' => ?_) (fun hl => ?_) hs1
    · rw [afterR_prev, if_neg, afterR_prev, if_neg]
      · rintro ⟨_, rfl⟩; exact hi1 hk
      · rintro ⟨hh, rfl⟩
        have : l2 ≠ [] := fun e => by simp [e] at hh
        exact hdis _ hk _ (headD_mem this _) rfl
    · rw [afterR_next, if_neg, afterR_next, if_neg (fun hh => hk' hh.2)]
      rintro ⟨_, rfl⟩; exact hi1 hk
    · rw [afterR_next, if_neg, afterR_next, if_pos ⟨hl1 hl, rfl⟩]
      rintro ⟨_, e⟩; exact hi1 (e ▸ getLastD_mem hl _)
  · rw [afterR_prev, if_neg, afterR_prev, if_pos ⟨hi0, rfl⟩]
    rintro ⟨hh, e⟩
    have : l2 ≠ [] := fun e => by simp [e] at hh
    exact hi2 (e ▸ headD_mem this _)
  · rw [afterR_next, if_pos ⟨hi0, rfl⟩]
  · refine Seg.start hd2 (fun k hk => ?_) (fun k hk hk' => ?_) (fun hl => ?_) hs2
    · rw [afterR_next, if_neg, afterR_next, if_neg]
      · rintro ⟨hh, rfl⟩
        have : l1 ≠ [] := fun e => by simp [e] at hh
        exact hdis _ (getLastD_mem this _) _ hk rfl
      · rintro ⟨_, rfl⟩; exact hi2 hk
    · rw [afterR_prev, if_neg (fun hh => hk' hh.2), afterR_prev, if_neg]
      rintro ⟨_, rfl⟩; exact hi2 hk
    · rw [afterR_prev, if_pos ⟨hl2 hl, rfl⟩]
end Go.Proofs.YtehjhigaebpfkaaDoor
