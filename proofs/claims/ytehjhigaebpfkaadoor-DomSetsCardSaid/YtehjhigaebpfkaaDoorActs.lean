/- The calls on a document, each for every document: what it answers, and the document behind it. -/
import Derived.Test.YtehjhigaebpfkaaDoorInsert
import Derived.Test.YtehjhigaebpfkaaDoorCopy
namespace Go.Proofs.YtehjhigaebpfkaaDoor
open Go.RowKit

instance (A : Doc) (i : Int) : Decidable (A.In i) := inferInstanceAs (Decidable (_ ∧ _))

/-- an api.Node, of a node -/
def ndCells (x : Nd) (av kv : Value) : Array Value :=
  #[.int .u8 x.kind, .string x.name, .string x.data, av, int x.up, kv, int x.shadow, int x.host, int x.own, .bool x.fl.closed, .bool x.fl.manual, .bool x.fl.delegates, .bool x.fl.serial, .bool x.fl.clonable]
def ndVal (x : Nd) (av kv : Value) : Value := .agg (ndCells x av kv)
theorem Same.val {x : Nd} {y : RNd} (h : Same x y) (a k : Value) : nodeVal y a k = ndVal x a k := by
  unfold nodeVal ndVal ndCells
  rw [h.kind, h.name, h.data, h.fl, h.up, h.shadow, h.host, h.own]

theorem Climb.trans {f : Int → Int} {i j k : Int} (h : Climb f i j) (g : Climb f j k) : Climb f i k := by
  induction h with
  | here => exact g
  | up h1 _ ih => exact .up h1 (ih g)

/-- nodes are put in, one behind the other -/
def putAll (up b : Int) : List Int → Doc → Doc
  | [], A => A
  | k :: t, A => putAll up b t (A.put up k b)
def putAllR (up b : Int) : List Int → (Int → RNd) → Int → RNd
  | [], R => R
  | k :: t, R => putAllR up b t (putR R up k b)

noncomputable def Doc.insertE (A : Doc) (up i b : Int) : Int :=
  if A.In up ∧ A.In i ∧ (b = -1 ∨ A.In b) then (if A.fitsB up i = true ∧ (b = -1 ∨ (A.nd b).up = up) then 0 else 81) else 80
noncomputable def Doc.insertA (A : Doc) (up i b : Int) : Doc :=
  if A.insertE up i b = 0 then (if (A.nd i).kind = 4 then putAll up b (A.nd i).kids A else A.put up i (if b = i then nextIn (A.nd up).kids i else b)) else A

section
variable {A : Doc} {R : Int → RNd} {up i b : Int}
theorem Doc.fits_parts (h : A.fitsB up i = true) : i ≠ 0 ∧ (A.nd i).host = -1 ∧ ¬ Climb A.par up i := by
  unfold Doc.fitsB at h
  simp only [Bool.and_eq_true, bne_iff_ne, beq_iff_eq, Bool.not_eq_true', ne_eq] at h
  exact ⟨h.2.1.1, h.2.1.2, climbB_not.1 h.2.2⟩
theorem Doc.insert_ok (h : A.insertE up i b = 0) : A.In up ∧ A.In i ∧ (b = -1 ∨ A.In b) ∧ A.fitsB up i = true ∧ (b = -1 ∨ (A.nd b).up = up) := by
  unfold Doc.insertE at h
  split at h
  · rename_i h1
    split at h
    · rename_i h2; exact ⟨h1.1, h1.2.1, h1.2.2, h2⟩
    · exact absurd h (by decide)
  · exact absurd h (by decide)

theorem putAll_ok : ∀ (l : List Int) {A : Doc} {R : Int → RNd}, WF A → Link A R → A.In up → (b = -1 ∨ A.In b ∧ (A.nd b).up = up ∧ b ∉ l) → (∀ k ∈ l, A.In k ∧ (A.nd k).host = -1 ∧ ¬ Climb A.par up k) →
    WF (putAll up b l A) ∧ Link (putAll up b l A) (putAllR up b l R) ∧ (putAll up b l A).n = A.n ∧ (putAll up b l A).lim = A.lim
  | [], _, _, hw, hl, _, _, _ => ⟨hw, hl, rfl, rfl⟩
  | k :: t, A, R, hw, hl, hu, hb, hk => by
    obtain ⟨hk0, hk1, hk2⟩ := hk k (by simp)
    have hB : Before A up k b := hb.imp id fun h => ⟨h.1, h.2.1, fun e => h.2.2 (by simp [e])⟩
    have hne : up ≠ k := fun e => hk2 (e ▸ .here _)
    have hw1 := hw.put hu hk0 hk1 hk2 hB
    have hl1 := hl.put hw.toWFT hu hk0 hne hB
    have hu0 : up ≠ -1 := neg_of_in hu
    have hup : (A.nd b).up = up → ((A.put up k b).nd b).up = up := fun h => by
      rw [put_up]; split
      · rfl
      · exact h
    have := putAll_ok t hw1 hl1 (put_in.2 hu) (hb.imp id fun h => ⟨put_in.2 h.1, hup h.2.1, fun e => h.2.2 (by simp [e])⟩) fun x hx => by
      obtain ⟨h0, h1, h2⟩ := hk x (by simp [hx])
      refine ⟨put_in.2 h0, by rw [put_host]; exact h1, fun hc => h2 ?_⟩
      refine climb_congr (S := fun x => Climb A.par up x) (fun y hy => ?_) (fun y hy hp => ?_) (.here up) hc
      · have : y ≠ k := fun e => hk2 (e ▸ hy)
        rw [put_par hu0, if_neg this]
      · have : y ≠ k := fun e => hk2 (e ▸ hy)
        rw [put_par hu0, if_neg this] at hp ⊢
        exact hy.trans (.up hp (.here _))
    exact ⟨this.1, this.2.1, this.2.2.1.trans put_n, this.2.2.2.trans put_lim⟩

/-- what is in a Fragment may be put in -/
theorem kids_fit (hw : WF A) (_hu : A.In up) (hi : A.In i) (hf : A.fitsB up i = true) (hb : b = -1 ∨ A.In b ∧ (A.nd b).up = up) :
    (b = -1 ∨ A.In b ∧ (A.nd b).up = up ∧ b ∉ (A.nd i).kids) ∧ ∀ k ∈ (A.nd i).kids, A.In k ∧ (A.nd k).host = -1 ∧ ¬ Climb A.par up k := by
  obtain ⟨_, _, hc⟩ := Doc.fits_parts hf
  refine ⟨hb.imp id fun h => ⟨h.1, h.2, fun hm => hc ?_⟩, fun k hk => ?_⟩
  · have := (hw.kin i hi b hm).2
    rw [h.2] at this
    exact this ▸ .here _
  · obtain ⟨h1, h2⟩ := hw.kin i hi k hk
    have hne : (A.nd k).up ≠ -1 := by rw [h2]; exact neg_of_in hi
    refine ⟨h1, Classical.byContradiction fun hh => hne (hw.hup k h1 hh), fun hcl => hc (hcl.trans ?_)⟩
    have hp : A.par k = i := by unfold Doc.par; rw [if_pos hne, h2]
    exact .up (by rw [hp]; exact neg_of_in hi) (by rw [hp]; exact .here _)

theorem WF.given_len (hw : WF A) (hi : A.In i) : (A.nd i).given.length ≤ A.n := length_le_of_nodup _ _ (hw.gnod i hi) fun x hx => (hw.gin i hi x hx).1
theorem not_in (h : ¬ A.In i) : i < 0 ∨ (A.n : Int) ≤ i := by unfold Doc.In at h; omega
end

section
variable {W w : World} {rs : List Res} {p B n : Nat} {lim : Int} {A : Doc} {R : Int → RNd}

theorem copy_doc (h : Sep W w (docA p A :: rs)) : Calls Tryd.prog 45 #[ptr p] w fun e w' => ∃ p', e = .returned (ptr p') ∧ Sep W w' (docA p' A :: docA p A :: rs) := by
  obtain ⟨hw, B, R, hl, hs⟩ := docA_open h
  obtain ⟨cap, av, gv, Fa, Fg, hC, _⟩ := docR_step hs
  have hn := hw.n_le
  have hin : ∀ j : Nat, j < A.n → A.In j := fun j hj => ⟨by omega, by omega⟩
  refine (Copy_any hC hw.pos (by omega) (fun i hi => ?_) (fun i hi => ?_)).mono ?_
  · rw [(hl.same i (hin i hi)).attrs]; have := hw.att i (hin i hi); omega
  · rw [(hl.same i (hin i hi)).given]; have := hw.given_len (hin i hi); omega
  · rintro e w' ⟨p', B', rfl, hf⟩
    exact ⟨p', rfl, docA_close hw hl (h.fresh hf)⟩

theorem node_doc (h : Sep W w (docA p A :: rs)) (i : Int) (hi : A.In i) :
    Calls Tryd.prog 16 #[ptr p, int i] w fun e w' => ∃ a k, e = .returned (.tuple #[ndVal (A.nd i) a k, .int .u16 0]) ∧ Sep W w' (irow k (A.nd i).kids :: arow a (A.nd i).attrs :: docA p A :: rs) := by
  obtain ⟨hw, B, R, hl, hs⟩ := docA_open h
  obtain ⟨cap, av, gv, Fa, Fg, hC, _⟩ := docR_step hs
  have hn := hw.n_le
  have h1 := hw.kids_len hi
  have h2 := hw.att i hi
  have e := (hl.same i hi).attrs
  refine (node_yes hC i hi.1 hi.2 _ (hl.from hw hi) (by omega) (by rw [e]; omega)).mono ?_
  rintro _ w' ⟨a, k, rfl, hf⟩
  rw [e] at hf
  exact ⟨a, k, by rw [(hl.same i hi).val], h.fresh hf⟩

set_option maxRecDepth 100000 in
theorem len_doc (h : Sep W w (docA p A :: rs)) : Calls Tryd.prog 20 #[ptr p] w fun e w' => e = .returned (int A.n) ∧ w = w' := by
  obtain ⟨hw, B, R, hl, hs⟩ := docA_open h
  obtain ⟨cap, av, gv, c0, _⟩ := cell_sep hs
  clear h hs hl hw
  go_enter Tryd.func20, Tryd.ntmps20
  go_wp2
  go_ret
  exact ⟨rfl, rfl⟩

theorem lacks_doc_no (h : Sep W w (docA p A :: rs)) (i : Int) (hi : A.In i) : Calls Tryd.prog 41 #[ptr p, int i] w fun e w' => e = .returned (.bool false) ∧ w = w' := by
  obtain ⟨_, B, R, _, hs⟩ := docA_open h
  exact lacks_sep_no hs i hi.1 hi.2
theorem lacks_doc_yes (h : Sep W w (docA p A :: rs)) (i : Int) (hi : ¬ A.In i) : Calls Tryd.prog 41 #[ptr p, int i] w fun e w' => e = .returned (.bool true) ∧ w = w' := by
  obtain ⟨_, B, R, _, hs⟩ := docA_open h
  exact lacks_sep_yes hs i (not_in hi)
theorem fits_doc (h : Sep W w (docA p A :: rs)) (hT : Laid W) (up i : Int) (hu : A.In up) (hi : A.In i) :
    Calls Tryd.prog 42 #[ptr p, int up, int i] w fun e w' => e = .returned (.bool (A.fitsB up i)) ∧ Sep W w' (docA p A :: rs) := by
  obtain ⟨hw, B, R, hl, hs⟩ := docA_open h
  exact (fits_sep hs hw hl hT up i hu hi).mono fun e w' ⟨he, h'⟩ => ⟨he, docA_close hw hl h'⟩
/-- the cells of a document's nodes -/
theorem cell_doc (h : Sep W w (docA p A :: rs)) : ∃ (B cap : Nat) (R : Int → RNd) (av gv : Nat → Value), Link A R ∧ w.cell? ⟨p, 0, none⟩ = some (.slice (some ⟨B, 0, none⟩) A.n cap) ∧ ∀ i k : Nat, i < A.n → k < 19 → ∀ u, (ncell (R i) (av i) (gv i))[k]? = some u → w.cell? ⟨B, i * 19 + k, none⟩ = some u := by
  obtain ⟨_, B, R, hl, hs⟩ := docA_open h
  obtain ⟨cap, av, gv, hc⟩ := cell_sep hs
  exact ⟨B, cap, R, av, gv, hl, hc⟩

set_option maxRecDepth 100000 in
set_option maxHeartbeats 1000000 in
theorem insert_80a (h : Sep W w (docA p A :: rs)) (up i b : Int) (hu : ¬ A.In up) :
    Calls Tryd.prog 15 #[ptr p, int up, int i, int b] w fun e w' => e = .returned (.int .u16 80) ∧ w = w' := by
  go_enter Tryd.func15, Tryd.ntmps15
  go_wp2_with fail
  refine (lacks_doc_yes h up hu).mono ?_
  rintro e w' ⟨rfl, rfl⟩
  go_wp2
  go_ret
  exact ⟨rfl, rfl⟩
set_option maxRecDepth 100000 in
set_option maxHeartbeats 1000000 in
theorem insert_80b (h : Sep W w (docA p A :: rs)) (up i b : Int) (hu : A.In up) (hi : ¬ A.In i) :
    Calls Tryd.prog 15 #[ptr p, int up, int i, int b] w fun e w' => e = .returned (.int .u16 80) ∧ w = w' := by
  go_enter Tryd.func15, Tryd.ntmps15
  go_wp2_with fail
  refine (lacks_doc_no h up hu).mono ?_
  rintro e w' ⟨rfl, rfl⟩
  go_wp2_with fail
  refine (lacks_doc_yes h i hi).mono ?_
  rintro e w' ⟨rfl, rfl⟩
  go_wp2
  go_ret
  exact ⟨rfl, rfl⟩
set_option maxRecDepth 100000 in
set_option maxHeartbeats 1000000 in
theorem insert_80c (h : Sep W w (docA p A :: rs)) (up i b : Int) (hu : A.In up) (hi : A.In i) (hb1 : b ≠ -1) (hb : ¬ A.In b) :
    Calls Tryd.prog 15 #[ptr p, int up, int i, int b] w fun e w' => e = .returned (.int .u16 80) ∧ w = w' := by
  have e1 : (b != -1) = true := by simpa using hb1
  go_enter Tryd.func15, Tryd.ntmps15
  go_wp2_with fail
  refine (lacks_doc_no h up hu).mono ?_
  rintro e w' ⟨rfl, rfl⟩
  go_wp2_with fail
  refine (lacks_doc_no h i hi).mono ?_
  rintro e w' ⟨rfl, rfl⟩
  go_wp2_with fail
  refine (lacks_doc_yes h b hb).mono ?_
  rintro e w' ⟨rfl, rfl⟩
  go_wp2
  go_ret
  exact ⟨rfl, rfl⟩
set_option maxRecDepth 100000 in
set_option maxHeartbeats 1000000 in
theorem insert_81a (h : Sep W w (docA p A :: rs)) (hT : Laid W) (up i b : Int) (hu : A.In up) (hi : A.In i) (hb : b = -1 ∨ A.In b) (hf : A.fitsB up i = false) :
    Calls Tryd.prog 15 #[ptr p, int up, int i, int b] w fun e w' => e = .returned (.int .u16 81) ∧ Sep W w' (docA p A :: rs) := by
  have H := Lib.hid h
  have HF := Lib.hid hf
  have HT := Lib.hid hT
  clear h hf hT
  rcases hb with rfl | hb
  · go_enter Tryd.func15, Tryd.ntmps15
    go_wp2_with fail
    refine (lacks_doc_no H.out up hu).mono ?_
    rintro e w' ⟨rfl, rfl⟩
    go_wp2_with fail
    refine (lacks_doc_no H.out i hi).mono ?_
    rintro e w' ⟨rfl, rfl⟩
    go_wp2_with fail
    refine (fits_doc H.out HT.out up i hu hi).mono ?_
    rintro e w1 ⟨rfl, h1⟩
    rw [HF.out]
    have H1 := Lib.hid h1
    clear h1
    go_wp2
    go_ret
    exact ⟨rfl, H1.out⟩
  · have e1 : (b != -1) = true := by simpa using neg_of_in hb
    go_enter Tryd.func15, Tryd.ntmps15
    go_wp2_with fail
    refine (lacks_doc_no H.out up hu).mono ?_
    rintro e w' ⟨rfl, rfl⟩
    go_wp2_with fail
    refine (lacks_doc_no H.out i hi).mono ?_
    rintro e w' ⟨rfl, rfl⟩
    go_wp2_with fail
    refine (lacks_doc_no H.out b hb).mono ?_
    rintro e w' ⟨rfl, rfl⟩
    go_wp2_with fail
    refine (fits_doc H.out HT.out up i hu hi).mono ?_
    rintro e w1 ⟨rfl, h1⟩
    rw [HF.out]
    have H1 := Lib.hid h1
    clear h1
    go_wp2
    go_ret
    exact ⟨rfl, H1.out⟩
set_option maxRecDepth 100000 in
set_option maxHeartbeats 1000000 in
theorem insert_81b (h : Sep W w (docA p A :: rs)) (hT : Laid W) (up i : Int) (b : Nat) (hu : A.In up) (hi : A.In i) (hb : b < A.n) (hf : A.fitsB up i = true) (hbu : (A.nd b).up ≠ up) :
    Calls Tryd.prog 15 #[ptr p, int up, int i, int b] w fun e w' => e = .returned (.int .u16 81) ∧ Sep W w' (docA p A :: rs) := by
  have hIb : A.In b := ⟨by omega, by omega⟩
  have e1 : ((b : Int) != -1) = true := by simp
  have H := Lib.hid h
  have HF := Lib.hid hf
  have HT := Lib.hid hT
  clear h hf hT
  go_enter Tryd.func15, Tryd.ntmps15
  go_wp2_with fail
  refine (lacks_doc_no H.out up hu).mono ?_
  rintro e w' ⟨rfl, rfl⟩
  go_wp2_with fail
  refine (lacks_doc_no H.out i hi).mono ?_
  rintro e w' ⟨rfl, rfl⟩
  go_wp2_with fail
  refine (lacks_doc_no H.out b hIb).mono ?_
  rintro e w' ⟨rfl, rfl⟩
  go_wp2_with fail
  refine (fits_doc H.out HT.out up i hu hi).mono ?_
  rintro e w1 ⟨rfl, h1⟩
  rw [HF.out]
  have H1 := Lib.hid h1
  obtain ⟨B, cap, R, av, gv, hl, c0, hc⟩ := cell_doc h1
  have ub := hc b 9 hb (by omega) _ rfl
  rw [(hl.same b hIb).up] at ub
  have e2 : ((A.nd b).up != up) = true := by simpa using hbu
  clear h1 hc hl hbu
  go_wp2
  go_ret
  exact ⟨rfl, H1.out⟩
end
end Go.Proofs.YtehjhigaebpfkaaDoor
