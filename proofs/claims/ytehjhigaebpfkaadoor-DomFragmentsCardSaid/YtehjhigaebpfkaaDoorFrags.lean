/- What is in a Fragment is put in: the kids then, told plainly. No program is in sight. -/
import Derived.Test.YtehjhigaebpfkaaDoorPlain
namespace Go.Proofs.YtehjhigaebpfkaaDoor

theorem ahead_at {l1 l2 : List Int} {b i : Int} (hd : (l1 ++ l2).Nodup) (hh : l2.headD (-1) = b) (hn : b = -1 → l2 = []) : Doc.ahead b i (l1 ++ l2) = l1 ++ i :: l2 := by
  by_cases h : b = -1
  · rw [hn h]; simp [Doc.ahead, h]
  · cases l2 with
    | nil => exact absurd hh.symm h
    | cons c t =>
      simp only [List.headD_cons] at hh
      subst hh
      have h1 : c ∉ l1 := fun hm => (List.nodup_append.1 hd).2.2 c hm c (by simp) rfl
      have h2 : c ∉ t := (List.nodup_cons.1 (List.nodup_append.1 hd).2.1).1
      simp only [Doc.ahead, if_neg h, List.flatMap_append, List.flatMap_cons, flatMap_id h1, flatMap_id h2, if_true, List.cons_append, List.nil_append]

section
variable {up i b k : Int} {A : Doc} {t : List Int}
theorem put_step (hw : WF A) (hu : A.In up) (hb : b = -1 ∨ A.In b ∧ (A.nd b).up = up ∧ b ∉ k :: t) (hk : ∀ x ∈ k :: t, A.In x ∧ (A.nd x).host = -1 ∧ ¬ Climb A.par up x) :
    WF (A.put up k b) ∧ (b = -1 ∨ (A.put up k b).In b ∧ ((A.put up k b).nd b).up = up ∧ b ∉ t) ∧ ∀ x ∈ t, (A.put up k b).In x ∧ ((A.put up k b).nd x).host = -1 ∧ ¬ Climb (A.put up k b).par up x := by
  obtain ⟨hk0, hk1, hk2⟩ := hk k (by simp)
  have hB : Before A up k b := hb.imp id fun h => ⟨h.1, h.2.1, fun e => h.2.2 (by simp [e])⟩
  have hu0 : up ≠ -1 := neg_of_in hu
  have hup : (A.nd b).up = up → ((A.put up k b).nd b).up = up := fun h => by
    rw [put_up]; split
    · rfl
    · exact h
  refine ⟨hw.put hu hk0 hk1 hk2 hB, hb.imp id fun h => ⟨put_in.2 h.1, hup h.2.1, fun e => h.2.2 (by simp [e])⟩, fun x hx => ?_⟩
  obtain ⟨h0, h1, h2⟩ := hk x (by simp [hx])
  refine ⟨put_in.2 h0, by rw [put_host]; exact h1, fun hc => h2 ?_⟩
  refine climb_congr (S := fun x => Climb A.par up x) (fun y hy => ?_) (fun y hy hp => ?_) (.here up) hc
  · have : y ≠ k := fun e => hk2 (e ▸ hy)
    rw [put_par hu0, if_neg this]
  · have : y ≠ k := fun e => hk2 (e ▸ hy)
    rw [put_par hu0, if_neg this] at hp ⊢
    exact hy.trans (.up hp (.here _))
end

theorem putAll_n {up b : Int} : ∀ (l : List Int) (A : Doc), (putAll up b l A).n = A.n
  | [], _ => rfl
  | k :: t, A => (putAll_n t (A.put up k b)).trans put_n
theorem putAll_tells {up i b : Int} (hui : up ≠ i) : ∀ (l : List Int) {A : Doc} {l1 l2 : List Int}, WF A → A.In up → A.In i → (b = -1 ∨ A.In b ∧ (A.nd b).up = up ∧ b ∉ l) → (∀ k ∈ l, A.In k ∧ (A.nd k).host = -1 ∧ ¬ Climb A.par up k) →
    (A.nd up).kids = l1 ++ l2 → l2.headD (-1) = b → (b = -1 → l2 = []) → (A.nd i).kids = l → i ∉ l →
    ((putAll up b l A).nd up).kids = l1 ++ l ++ l2 ∧ ((putAll up b l A).nd i).kids = [] ∧ ((putAll up b l A).nd i).up = (A.nd i).up
  | [], A, l1, l2, _, _, _, _, _, h1, _, _, h2, _ => ⟨by simpa [putAll] using h1, h2, rfl⟩
  | k :: t, A, l1, l2, hw, hu, hi, hb, hk, h1, hh, hn, h2, hil => by
    obtain ⟨w1, hb1, hk1⟩ := put_step hw hu hb hk
    have hku : (A.nd k).up = i := (hw.kin i hi k (by rw [h2]; simp)).2
    have hnk : k ∉ (A.nd up).kids := fun hm => hui ((hw.kin up hu k hm).2.symm.trans hku)
    have e1 : ((A.put up k b).nd up).kids = (l1 ++ [k]) ++ l2 := by
      rw [put_kids hw.toWFT hu, if_pos rfl, List.erase_of_not_mem hnk, h1, ahead_at (by rw [← h1]; exact hw.nod up hu) hh hn]
      simp
    have e2 : ((A.put up k b).nd i).kids = t := by
      rw [put_kids hw.toWFT hi, if_neg (Ne.symm hui), h2]; simp
    have e3 : ((A.put up k b).nd i).up = (A.nd i).up := by
      rw [put_up, if_neg]; rintro rfl; exact hil (by simp)
    obtain ⟨r1, r2, r3⟩ := putAll_tells hui t w1 (put_in.2 hu) (put_in.2 hi) hb1 hk1 e1 hh hn e2 (fun hm => hil (by simp [hm]))
    exact ⟨by rw [putAll, r1]; simp, r2, r3.trans e3⟩

/-- s, s + 1, .. -/
def fromL (s j : Nat) : List Int := (List.range j).map fun i => ((s + i : Nat) : Int)
theorem fromL_succ (s j : Nat) : fromL s (j + 1) = fromL s j ++ [((s + j : Nat) : Int)] := by simp [fromL, List.range_succ]
theorem fromL_len (s j : Nat) : (fromL s j).length = j := by simp [fromL]
theorem fromL_mem {s j : Nat} {x : Int} : x ∈ fromL s j → (s : Int) ≤ x := by
  unfold fromL
  rw [List.mem_map]
  rintro ⟨i, _, rfl⟩
  omega

/-- elements side by side, and a Fragment with texts -/
structure Frag (A : Doc) (k j : Nat) : Prop where
  n : A.n = k + 2 + j
  lim : A.lim = 300
  top : A.nd 0 = (newNd 4 .empty .empty [] noFl).setKids (upto k)
  nd : ∀ x : Int, 1 ≤ x → x ≤ k → A.nd x = (newNd 1 divS .empty [] noFl).setUp 0
  frag : A.nd ((k : Int) + 1) = (newNd 4 .empty .empty [] noFl).setKids (fromL (k + 2) j)
theorem text_no_tmpl : tmplB 2 .empty = false := by kernel_rfl
theorem frag_no_tmpl : tmplB 4 .empty = false := by kernel_rfl
theorem Frag.start {A : Doc} {k : Nat} (h : Flat A k) : Frag (A.made 4 .empty .empty []) k 0 := by
  have hn := h.n
  refine ⟨by rw [made_n1 frag_no_tmpl, hn], by rw [made_lim, h.lim], ?_, fun x h1 h2 => ?_, ?_⟩
  · rw [made_old frag_no_tmpl (by omega)]; exact h.top
  · rw [made_old frag_no_tmpl (by omega)]; exact h.nd x h1 h2
  · have e : ((k : Int) + 1) = (A.n : Int) := by omega
    rw [e, made_new frag_no_tmpl]
    rfl
theorem Frag.grow {A : Doc} {k j : Nat} (h : Frag A k j) (hw : WF A) : (A.made 2 .empty xS []).insertE ((k : Int) + 1) A.n (-1) = 0 ∧ Frag ((A.made 2 .empty xS []).insertA ((k : Int) + 1) A.n (-1)) k (j + 1) := by
  have hn := h.n
  have ht := text_no_tmpl
  obtain ⟨h1, h2⟩ := grow_ins (up := (k : Int) + 1) (k := 2) (nm := .empty) (da := xS) hw ⟨by omega, by omega⟩ ht (by decide) (by rw [h.frag]; exact top_takes)
  refine ⟨h1, ?_⟩
  rw [h2]
  refine ⟨by rw [grow_n ht, hn]; omega, by rw [grow_lim, h.lim], ?_, fun x x1 x2 => ?_, ?_⟩
  · rw [grow_nd ht (by omega), if_neg (by omega), if_neg (by omega)]; exact h.top
  · rw [grow_nd ht (by omega), if_neg (by omega), if_neg (by omega)]; exact h.nd x x1 x2
  · rw [grow_nd ht (by omega), if_neg (by omega), if_pos rfl, h.frag, fromL_succ, hn]
    rfl
theorem Frag.room {A : Doc} {k j : Nat} (h : Frag A k j) (hk : k + j < 290) : A.makeNo 2 .empty = false := makeNo_no text_no_tmpl (by rw [h.n, h.lim]; omega)
theorem Flat.roomF {A : Doc} {k : Nat} (h : Flat A k) (hk : k < 290) : A.makeNo 4 .empty = false := makeNo_no frag_no_tmpl (by rw [h.n, h.lim]; omega)

/-- the kids that are wanted -/
def wanted (k at_ : Nat) (own : List Int) : List Int := if at_ < k then upto at_ ++ own ++ (upto k).drop at_ else upto k ++ own
/-- the kids that are wanted, as far as the loop has come -/
def wantAt (at_ : Nat) (own : List Int) (i : Nat) : List Int := if at_ < i then upto at_ ++ own ++ (upto i).drop at_ else upto i
def beforeAt (at_ i : Nat) : Int := if at_ < i then (at_ : Int) + 1 else -1
theorem drop_upto {a i : Nat} (h : a ≤ i) : (upto (i + 1)).drop a = (upto i).drop a ++ [(i : Int) + 1] := by
  rw [upto_succ, List.drop_append_of_le_length (by rw [upto_len]; exact h)]
theorem want_hit (own : List Int) (i : Nat) : wantAt i own (i + 1) = (wantAt i own i ++ own) ++ [(i : Int) + 1] := by
  unfold wantAt
  rw [if_pos (by omega), if_neg (by omega), drop_upto (Nat.le_refl i), List.drop_of_length_le (by rw [upto_len]; exact Nat.le_refl _)]
  simp
theorem want_miss (own : List Int) {a i : Nat} (h : i ≠ a) : wantAt a own (i + 1) = wantAt a own i ++ [(i : Int) + 1] := by
  unfold wantAt
  by_cases h1 : a < i
  · rw [if_pos (by omega), if_pos h1, drop_upto (by omega)]; simp
  · rw [if_neg (by omega), if_neg h1, upto_succ]
theorem before_hit (i : Nat) : beforeAt i (i + 1) = (i : Int) + 1 := by unfold beforeAt; rw [if_pos (by omega)]
theorem before_miss {a i : Nat} (h : i ≠ a) : beforeAt a (i + 1) = beforeAt a i := by unfold beforeAt; by_cases h1 : a < i <;> simp [h1] <;> omega
theorem wantAt_len (a : Nat) (own : List Int) (i : Nat) : (wantAt a own i).length ≤ i + own.length := by
  unfold wantAt
  split
  · simp [upto_len]; omega
  · simp [upto_len]
theorem wanted_yes {k a : Nat} (own : List Int) (h : a < k) : wanted k a own = wantAt a own k ∧ beforeAt a k = (a : Int) + 1 := by unfold wanted wantAt beforeAt; simp [h]
theorem wanted_no {k a : Nat} (own : List Int) (h : ¬ a < k) : wanted k a own = wantAt a own k ++ own ∧ beforeAt a k = -1 := by unfold wanted wantAt beforeAt; simp [h]

theorem upto_split {a k : Nat} (h : a ≤ k) : upto k = upto a ++ (upto k).drop a := by
  induction k with
  | zero =>
    have : a = 0 := by omega
    subst this; rfl
  | succ k ih =>
    by_cases e : a = k + 1
    · subst e; rw [List.drop_of_length_le (by rw [upto_len]; exact Nat.le_refl _)]; simp
    · rw [drop_upto (by omega), ← List.append_assoc, ← ih (by omega), ← upto_succ]

/-- the Fragment is put in -/
theorem Frag.into {A : Doc} {k j : Nat} (h : Frag A k j) (hw : WF A) (a : Nat) :
    A.insertE 0 ((k : Int) + 1) (beforeAt a k) = 0 ∧ ((A.insertA 0 ((k : Int) + 1) (beforeAt a k)).nd 0).kids = wanted k a (fromL (k + 2) j) ∧ ((A.insertA 0 ((k : Int) + 1) (beforeAt a k)).nd ((k : Int) + 1)).kids = [] ∧
      ((A.insertA 0 ((k : Int) + 1) (beforeAt a k)).nd ((k : Int) + 1)).up = -1 ∧ (A.insertA 0 ((k : Int) + 1) (beforeAt a k)).In 0 ∧ (A.insertA 0 ((k : Int) + 1) (beforeAt a k)).In ((k : Int) + 1) := by
  have hn := h.n
  have h0 : A.In 0 := ⟨by omega, by omega⟩
  have hf : A.In ((k : Int) + 1) := ⟨by omega, by omega⟩
  have hbef : beforeAt a k = -1 ∨ A.In (beforeAt a k) ∧ (A.nd (beforeAt a k)).up = 0 := by
    unfold beforeAt
    split
    · right
      refine ⟨⟨by omega, by omega⟩, ?_⟩
      rw [h.nd _ (by omega) (by omega)]; rfl
    · exact .inl rfl
  have hfit : A.fitsB 0 ((k : Int) + 1) = true := by
    refine Doc.fits_of (by rw [h.top]; exact top_takes) (by omega) (by rw [h.frag]; rfl) (not_climb_top ?_ (by omega))
    unfold Doc.par; rw [h.top]; rfl
  have he : A.insertE 0 ((k : Int) + 1) (beforeAt a k) = 0 := Doc.insertE_ok h0 hf (hbef.imp id (·.1)) hfit (hbef.imp id (·.2))
  obtain ⟨q1, q2⟩ := kids_fit hw h0 hf hfit hbef
  have hA : A.insertA 0 ((k : Int) + 1) (beforeAt a k) = putAll 0 (beforeAt a k) (A.nd ((k : Int) + 1)).kids A := by
    unfold Doc.insertA; rw [if_pos he, if_pos (by rw [h.frag]; rfl)]
  obtain ⟨l1, l2, hl, hhd, hnl, hwn⟩ : ∃ l1 l2, upto k = l1 ++ l2 ∧ l2.headD (-1) = beforeAt a k ∧ (beforeAt a k = -1 → l2 = []) ∧ wanted k a (fromL (k + 2) j) = l1 ++ fromL (k + 2) j ++ l2 := by
    by_cases hak : a < k
    · refine ⟨upto a, (upto k).drop a, upto_split (by omega), ?_, ?_, ?_⟩
      · rw [(wanted_yes [] hak).2, List.headD_eq_head?_getD, List.head?_drop, upto_at hak]; rfl
      · rw [(wanted_yes [] hak).2]; intro h; omega
      · unfold wanted; rw [if_pos hak]
    · refine ⟨upto k, [], by simp, ?_, fun _ => rfl, ?_⟩
      · rw [(wanted_no [] hak).2]; rfl
      · unfold wanted; rw [if_neg hak]; simp
  have hfk : (A.nd ((k : Int) + 1)).kids = fromL (k + 2) j := by rw [h.frag]; rfl
  obtain ⟨r1, r2, r3⟩ := putAll_tells (up := 0) (i := (k : Int) + 1) (by omega) (A.nd ((k : Int) + 1)).kids (l1 := l1) (l2 := l2) hw h0 hf q1 q2 (by rw [h.top]; exact hl) hhd hnl rfl
    (by rw [hfk]; intro hm; have := fromL_mem hm; omega)
  have hin : ∀ x, (A.insertA 0 ((k : Int) + 1) (beforeAt a k)).In x ↔ A.In x := fun x => by
    rw [hA]
    unfold Doc.In
    rw [putAll_n]
  rw [hA] at *
  refine ⟨he, by rw [r1, hwn, hfk], r2, by rw [r3, h.frag]; rfl, (hin 0).2 h0, (hin _).2 hf⟩
end Go.Proofs.YtehjhigaebpfkaaDoor
