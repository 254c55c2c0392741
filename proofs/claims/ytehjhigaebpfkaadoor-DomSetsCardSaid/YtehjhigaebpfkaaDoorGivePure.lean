/- Giving nodes to a slot: what it makes of a document. No program is in sight. -/
import Derived.Test.YtehjhigaebpfkaaDoorGives
namespace Go.Proofs.YtehjhigaebpfkaaDoor

/-- all but what is given -/
def Nd.nogive (x : Nd) : Nd := { x with slot := 0, given := [] }
def Doc.free (A : Doc) (i : Int) : Doc := (if (A.nd i).slot = -1 then A else A.set (A.nd i).slot (fun x => x.setGiven (x.given.erase i))).set i (.setSlot (-1))
def Doc.giveTo (A : Doc) (s i : Int) : Doc := (A.set i (.setSlot s)).set s (fun x => x.setGiven (x.given ++ [i]))
def giveToR (R : Int → RNd) (s i : Int) : Int → RNd := upd (upd R i (.setSlot s)) s (fun x => x.setGiven (x.given ++ [i]))
def Doc.giveOne (A : Doc) (s i : Int) : Doc := if (A.nd i).slot = s then A else (A.free i).giveTo s i
def freeAll : List Int → Doc → Doc
  | [], A => A
  | x :: t, A => freeAll t (A.free x)
def giveAll (s : Int) : List Int → Doc → Doc
  | [], A => A
  | x :: t, A => giveAll s t (A.giveOne s x)
def Doc.giveA (A : Doc) (s : Int) (l : List Int) : Doc := giveAll s l (freeAll (A.nd s).given A)

section
variable {A : Doc} {R : Int → RNd} {i s : Int}
theorem WF.regive (w : WF A) {D : Doc} (hn : D.n = A.n) (hl : D.lim = A.lim) (hr : ∀ j, (D.nd j).nogive = (A.nd j).nogive) (h1 : ∀ j, A.In j → Ok A.n (D.nd j).slot)
    (h2 : ∀ j, A.In j → ∀ k ∈ (D.nd j).given, A.In k ∧ (D.nd k).slot = j) (h3 : ∀ j, A.In j → (D.nd j).given.Nodup) (h4 : ∀ j, A.In j → (D.nd j).slot ≠ -1 → j ∈ (D.nd (D.nd j).slot).given) : WF D := by
  have hin : ∀ j, D.In j ↔ A.In j := fun j => by unfold Doc.In; rw [hn]
  have f : ∀ {α : Type} (g : Nd → α), (∀ x, g x.nogive = g x) → ∀ j, g (D.nd j) = g (A.nd j) := fun g hg j => by rw [← hg, hr, hg]
  have fu := f Nd.up (fun _ => rfl)
  have fk := f Nd.kids (fun _ => rfl)
  have fh := f Nd.host (fun _ => rfl)
  have hpar : ∀ j, D.par j = A.par j := fun j => by unfold Doc.par; rw [fu, fh]
  refine { up := fun j hj => by rw [fu, hn]; exact w.up j ((hin j).1 hj), host := fun j hj => by rw [fh, hn]; exact w.host j ((hin j).1 hj), kin := fun j hj k hk => ?_, upk := fun j hj hu => ?_, nod := fun j hj => by rw [fk]; exact w.nod j ((hin j).1 hj), pos := by rw [hn]; exact w.pos, le := by rw [hn, hl]; exact w.le, lim := by rw [hl]; exact w.lim, shadow := fun j hj => by rw [f Nd.shadow (fun _ => rfl), hn]; exact w.shadow j ((hin j).1 hj), own := fun j hj => by rw [f Nd.own (fun _ => rfl), hn]; exact w.own j ((hin j).1 hj), slot := fun j hj => by rw [hn]; exact h1 j ((hin j).1 hj), att := fun j hj => by rw [f Nd.attrs (fun _ => rfl)]; exact w.att j ((hin j).1 hj), hup := fun j hj h => by rw [fh] at h; rw [fu]; exact w.hup j ((hin j).1 hj) h, gin := fun j hj k hk => by rw [hin]; exact h2 j ((hin j).1 hj) k hk, gnod := fun j hj => h3 j ((hin j).1 hj), sgiv := fun j hj h => h4 j ((hin j).1 hj) h, rank := ?_ }
  · rw [fk] at hk; rw [fu, hin]; exact w.kin j ((hin j).1 hj) k hk
  · rw [fu] at hu ⊢; rw [fk]; exact w.upk j ((hin j).1 hj) hu
  · obtain ⟨rk, hrk⟩ := w.rank
    exact ⟨rk, fun j hj hp => by rw [hpar] at hp ⊢; exact hrk j ((hin j).1 hj) hp⟩

theorem free_n : (A.free i).n = A.n := by unfold Doc.free; split <;> rfl
theorem free_lim : (A.free i).lim = A.lim := by unfold Doc.free; split <;> rfl
theorem free_in {j : Int} : (A.free i).In j ↔ A.In j := by unfold Doc.In; rw [free_n]
theorem free_nogive (j : Int) : ((A.free i).nd j).nogive = (A.nd j).nogive := by
  unfold Doc.free
  split
  · simp only [Doc.set_nd]; split <;> rfl
  · simp only [Doc.set_nd]
    repeat' split
    all_goals rfl
theorem free_slot (j : Int) : ((A.free i).nd j).slot = if j = i then -1 else (A.nd j).slot := by
  unfold Doc.free
  split
  · simp only [Doc.set_nd]; split <;> rfl
  · simp only [Doc.set_nd]
    by_cases h : j = i
    · simp only [if_pos h]; split <;> rfl
    · simp only [if_neg h]; split <;> rfl
theorem free_given (w : WF A) {j : Int} (hj : A.In j) : ((A.free i).nd j).given = (A.nd j).given.erase i := by
  have hno : j ≠ (A.nd i).slot → (A.nd j).given.erase i = (A.nd j).given := fun hne => List.erase_of_not_mem fun hm => hne (w.gin j hj i hm).2.symm
  unfold Doc.free
  split
  · rename_i h
    rw [hno (by rw [h]; exact neg_of_in hj)]
    simp only [Doc.set_nd]; split <;> rfl
  · simp only [Doc.set_nd]
    by_cases hs : j = (A.nd i).slot
    · rw [if_pos hs]; split <;> rfl
    · rw [if_neg hs, hno hs]; split <;> rfl
theorem WF.free (w : WF A) (i : Int) : WF (A.free i) := by
  refine w.regive free_n free_lim free_nogive (fun j hj => ?_) (fun j hj k hk => ?_) (fun j hj => ?_) (fun j hj h => ?_)
  · rw [free_slot]; split
    · exact .none
    · exact w.slot j hj
  · rw [free_given w hj] at hk
    have hki : k ≠ i := ((List.Nodup.mem_erase_iff (w.gnod j hj)).1 hk).1
    have := w.gin j hj k (List.mem_of_mem_erase hk)
    exact ⟨this.1, by rw [free_slot, if_neg hki]; exact this.2⟩
  · rw [free_given w hj]; exact (w.gnod j hj).erase i
  · rw [free_slot] at h ⊢
    by_cases e : j = i
    · rw [if_pos e] at h; exact absurd rfl h
    · rw [if_neg e] at h ⊢
      rw [free_given w (in_of_ok (w.slot j hj) h)]
      exact (List.mem_erase_of_ne e).2 (w.sgiv j hj h)
theorem Link.freed (h : Link A R) (hi : A.In i) : Link (A.free i) (freeR R i) := by
  have e := (h.same i hi).slot
  unfold Doc.free freeR
  have h2 : ∀ {D : Doc} {Q : Int → RNd}, Link D Q → Link (D.set i (.setSlot (-1))) (upd Q i (.setSlot (-1))) := fun hl => hl.set (.setSlot (-1)) (.setSlot (-1)) (fun x y s => ⟨s.kind, s.name, s.data, s.attrs, s.fl, s.up, s.shadow, s.host, s.own, rfl, s.given⟩) (fun _ => rfl) (fun _ => rfl) (fun _ => ⟨rfl, rfl, rfl, rfl⟩)
  rw [e]
  split
  · exact h2 h
  · exact h2 (h.set (i := (A.nd i).slot) (fun x => x.setGiven (x.given.erase i)) (fun x => x.setGiven (x.given.erase i)) (fun x y s => ⟨s.kind, s.name, s.data, s.attrs, s.fl, s.up, s.shadow, s.host, s.own, s.slot, by show y.given.erase i = x.given.erase i; rw [s.given]⟩) (fun _ => rfl) (fun _ => rfl) (fun _ => ⟨rfl, rfl, rfl, rfl⟩))

theorem giveTo_n : (A.giveTo s i).n = A.n := rfl
theorem giveTo_lim : (A.giveTo s i).lim = A.lim := rfl
theorem giveTo_nogive (j : Int) : ((A.giveTo s i).nd j).nogive = (A.nd j).nogive := by
  unfold Doc.giveTo
  simp only [Doc.set_nd]
  repeat' split
  all_goals rfl
theorem giveTo_slot (j : Int) : ((A.giveTo s i).nd j).slot = if j = i then s else (A.nd j).slot := by
  unfold Doc.giveTo
  simp only [Doc.set_nd]
  by_cases h : j = i
  · simp only [if_pos h]; split <;> rfl
  · simp only [if_neg h]; split <;> rfl
theorem giveTo_given (j : Int) : ((A.giveTo s i).nd j).given = if j = s then (A.nd j).given ++ [i] else (A.nd j).given := by
  unfold Doc.giveTo
  simp only [Doc.set_nd]
  by_cases h : j = s
  · simp only [if_pos h]; split <;> rfl
  · simp only [if_neg h]; split <;> rfl
theorem WF.giveTo (w : WF A) (hs : A.In s) (hi : A.In i) (h0 : (A.nd i).slot = -1) : WF (A.giveTo s i) := by
  have hni : ∀ j, A.In j → i ∉ (A.nd j).given := fun j hj hm => by
    have := (w.gin j hj i hm).2
    rw [h0] at this
    exact neg_of_in hj this.symm
  refine w.regive giveTo_n giveTo_lim giveTo_nogive (fun j hj => ?_) (fun j hj k hk => ?_) (fun j hj => ?_) (fun j hj h => ?_)
  · rw [giveTo_slot]; split
    · exact .inr hs
    · exact w.slot j hj
  · rw [giveTo_given] at hk
    rw [giveTo_slot]
    by_cases hjs : j = s
    · rw [if_pos hjs] at hk
      rcases List.mem_append.1 hk with hk | hk
      · have := w.gin j hj k hk
        rw [if_neg (show ¬ k = i from fun e => hni j hj (e ▸ hk))]; exact this
      · rw [List.mem_singleton] at hk
        subst hk
        rw [if_pos rfl]; exact ⟨hi, hjs.symm⟩
    · rw [if_neg hjs] at hk
      have := w.gin j hj k hk
      rw [if_neg (show ¬ k = i from fun e => hni j hj (e ▸ hk))]; exact this
  · rw [giveTo_given]; split
    · rw [List.nodup_append]
      exact ⟨w.gnod j hj, by simp, fun a ha b hb => by rw [List.mem_singleton] at hb; subst hb; rintro rfl; exact hni j hj ha⟩
    · exact w.gnod j hj
  · rw [giveTo_slot] at h ⊢
    by_cases e : j = i
    · rw [if_pos e, giveTo_given, if_pos rfl, e]; simp
    · rw [if_neg e] at h ⊢
      rw [giveTo_given]
      have := w.sgiv j hj h
      split
      · exact List.mem_append_left _ this
      · exact this
theorem Link.giveTo (h : Link A R) : Link (A.giveTo s i) (giveToR R s i) := by
  unfold Doc.giveTo giveToR
  have h1 := h.set (i := i) (.setSlot s) (.setSlot s) (fun x y t => ⟨t.kind, t.name, t.data, t.attrs, t.fl, t.up, t.shadow, t.host, t.own, rfl, t.given⟩) (fun _ => rfl) (fun _ => rfl) (fun _ => ⟨rfl, rfl, rfl, rfl⟩)
  exact h1.set (i := s) (fun x => x.setGiven (x.given ++ [i])) (fun x => x.setGiven (x.given ++ [i])) (fun x y t => ⟨t.kind, t.name, t.data, t.attrs, t.fl, t.up, t.shadow, t.host, t.own, t.slot, by show y.given ++ [i] = x.given ++ [i]; rw [t.given]⟩) (fun _ => rfl) (fun _ => rfl) (fun _ => ⟨rfl, rfl, rfl, rfl⟩)

theorem giveOne_n : (A.giveOne s i).n = A.n := by
  unfold Doc.giveOne
  split
  · rfl
  · exact free_n
theorem giveOne_lim : (A.giveOne s i).lim = A.lim := by
  unfold Doc.giveOne
  split
  · rfl
  · exact free_lim
theorem giveOne_in {j : Int} : (A.giveOne s i).In j ↔ A.In j := by unfold Doc.In; rw [giveOne_n]
theorem giveOne_nogive (j : Int) : ((A.giveOne s i).nd j).nogive = (A.nd j).nogive := by
  unfold Doc.giveOne
  split
  · rfl
  · exact (giveTo_nogive j).trans (free_nogive j)
theorem giveOne_slot (j : Int) : ((A.giveOne s i).nd j).slot = if j = i then s else (A.nd j).slot := by
  unfold Doc.giveOne
  split
  · rename_i h
    split
    · rename_i e; rw [e]; exact h
    · rfl
  · rw [giveTo_slot, free_slot]
    by_cases h : j = i <;> simp [h]
theorem WF.giveOne (w : WF A) (hs : A.In s) (hi : A.In i) : WF (A.giveOne s i) := by
  unfold Doc.giveOne
  split
  · exact w
  · exact (w.free i).giveTo (free_in.2 hs) (free_in.2 hi) (by rw [free_slot, if_pos rfl])
end

section
variable {s : Int}
theorem freeAll_n : ∀ (l : List Int) (A : Doc), (freeAll l A).n = A.n
  | [], _ => rfl
  | x :: t, A => (freeAll_n t (A.free x)).trans free_n
theorem freeAll_lim : ∀ (l : List Int) (A : Doc), (freeAll l A).lim = A.lim
  | [], _ => rfl
  | x :: t, A => (freeAll_lim t (A.free x)).trans free_lim
theorem freeAll_nogive (j : Int) : ∀ (l : List Int) (A : Doc), ((freeAll l A).nd j).nogive = (A.nd j).nogive
  | [], _ => rfl
  | x :: t, A => (freeAll_nogive j t (A.free x)).trans (free_nogive j)
theorem freeAll_slot (j : Int) : ∀ (l : List Int) (A : Doc), ((freeAll l A).nd j).slot = if j ∈ l then -1 else (A.nd j).slot
  | [], _ => by simp [freeAll]
  | x :: t, A => by
    rw [freeAll, freeAll_slot j t (A.free x), free_slot]
    by_cases h1 : j ∈ t <;> by_cases h2 : j = x <;> simp [h1, h2]
theorem WF.freeAll : ∀ (l : List Int) {A : Doc}, WF A → WF (freeAll l A)
  | [], _, w => w
  | x :: t, _, w => WF.freeAll t (w.free x)
theorem giveAll_n : ∀ (l : List Int) (A : Doc), (giveAll s l A).n = A.n
  | [], _ => rfl
  | x :: t, A => (giveAll_n t (A.giveOne s x)).trans giveOne_n
theorem giveAll_lim : ∀ (l : List Int) (A : Doc), (giveAll s l A).lim = A.lim
  | [], _ => rfl
  | x :: t, A => (giveAll_lim t (A.giveOne s x)).trans giveOne_lim
theorem giveAll_nogive (j : Int) : ∀ (l : List Int) (A : Doc), ((giveAll s l A).nd j).nogive = (A.nd j).nogive
  | [], _ => rfl
  | x :: t, A => (giveAll_nogive j t (A.giveOne s x)).trans (giveOne_nogive j)
theorem giveAll_slot (j : Int) : ∀ (l : List Int) (A : Doc), ((giveAll s l A).nd j).slot = if j ∈ l then s else (A.nd j).slot
  | [], _ => by simp [giveAll]
  | x :: t, A => by
    rw [giveAll, giveAll_slot j t (A.giveOne s x), giveOne_slot]
    by_cases h1 : j ∈ t <;> by_cases h2 : j = x <;> simp [h1, h2]
theorem WF.giveAll : ∀ (l : List Int) {A : Doc}, WF A → A.In s → (∀ x ∈ l, A.In x) → WF (giveAll s l A)
  | [], _, w, _, _ => w
  | x :: t, _, w, hs, hl => WF.giveAll t (w.giveOne hs (hl x (by simp))) (giveOne_in.2 hs) fun y hy => giveOne_in.2 (hl y (by simp [hy]))
theorem freeAll_snoc : ∀ (l : List Int) (x : Int) (A : Doc), freeAll (l ++ [x]) A = (freeAll l A).free x
  | [], _, _ => rfl
  | y :: t, x, A => freeAll_snoc t x (A.free y)
theorem giveAll_snoc : ∀ (l : List Int) (x : Int) (A : Doc), giveAll s (l ++ [x]) A = (giveAll s l A).giveOne s x
  | [], _, _ => rfl
  | y :: t, x, A => giveAll_snoc t x (A.giveOne s y)
end
section
variable {A : Doc} {s : Int} {l : List Int}
theorem giveA_n : (A.giveA s l).n = A.n := (giveAll_n _ _).trans (freeAll_n _ _)
theorem giveA_lim : (A.giveA s l).lim = A.lim := (giveAll_lim _ _).trans (freeAll_lim _ _)
theorem giveA_nogive (j : Int) : ((A.giveA s l).nd j).nogive = (A.nd j).nogive := (giveAll_nogive j _ _).trans (freeAll_nogive j _ _)
theorem giveA_slot (w : WF A) (hs : A.In s) {j : Int} (hj : A.In j) : ((A.giveA s l).nd j).slot = if j ∈ l then s else if (A.nd j).slot = s then -1 else (A.nd j).slot := by
  unfold Doc.giveA
  rw [giveAll_slot, freeAll_slot]
  have e : j ∈ (A.nd s).given ↔ (A.nd j).slot = s := ⟨fun h => (w.gin s hs j h).2, fun h => by
    have := w.sgiv j hj (by rw [h]; exact neg_of_in hs)
    rw [h] at this; exact this⟩
  by_cases h : (A.nd j).slot = s
  · rw [if_pos (e.2 h), if_pos h]
  · rw [if_neg (fun hm => h (e.1 hm)), if_neg h]
end
end Go.Proofs.YtehjhigaebpfkaaDoor
