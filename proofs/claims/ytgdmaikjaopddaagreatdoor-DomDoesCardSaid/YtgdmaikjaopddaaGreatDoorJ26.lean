/- Insert of a Fragment, Insert for every document and any numbers; Remove. -/
import Derived.Test.YtgdmaikjaopddaaGreatDoorJ08
namespace Go.Proofs.YtgdmaikjaopddaaGreatDoor
open Go.RowKit

theorem putAllR_snoc (up b : Int) : ∀ (l : List Int) (k : Int) (R : Int → RNd), putAllR up b (l ++ [k]) R = putR (putAllR up b l R) up k b
  | [], _, _ => rfl
  | x :: t, k, R => putAllR_snoc up b t k (putR R up x b)
theorem Rng.putAll {n : Nat} {up b : Int} (hu : 0 ≤ up ∧ up < n) (hb : Ok n b) : ∀ (l : List Int) {R : Int → RNd}, Rng n R → (∀ k ∈ l, 0 ≤ k ∧ k < n) → Rng n (putAllR up b l R)
  | [], _, h, _ => h
  | x :: t, _, h, hl => Rng.putAll hu hb t (h.put hu (hl x (by simp)) hb) fun k hk => hl k (by simp [hk])

section
variable {W w : World} {rs : List Res} {p B n : Nat} {lim : Int} {A : Doc} {R : Int → RNd}

set_option maxRecDepth 100000 in
set_option maxHeartbeats 1000000 in
theorem insert_f1 (h : Sep W w (docR p B A.n A.lim R :: rs)) (hw : WF A) (hl : Link A R) (hT : Laid W) (up i : Nat) (hu : up < A.n) (hi : i < A.n) (hf : A.fitsB up i = true) (hk : (A.nd i).kind = 4) :
    Calls Tryz.prog 14 #[ptr p, int up, int i, int (-1)] w fun e w' => e = .returned (.int .u16 0) ∧ Sep W w' (docR p B A.n A.lim (putAllR up (-1) (A.nd i).kids R) :: rs) := by
  have hIu : A.In up := ⟨by omega, by omega⟩
  have hIi : A.In i := ⟨by omega, by omega⟩
  have H := Lib.hid h
  have HF := Lib.hid hf
  have ek : ((R i).kind == 4) = true := by rw [(hl.same i hIi).kind]; simpa using hk
  have hfr := hl.from hw hIi
  have hle := hw.kids_len hIi
  have hn := hw.n_le
  have Hin := Lib.hid (fun x hx => (hw.kin i hIi x hx).1 : ∀ x ∈ (A.nd i).kids, A.In x)
  have Hrg := Lib.hid (hl.rng hw)
  have Hfr := Lib.hid hfr
  have Hw := Lib.hid hw
  have Hl := Lib.hid hl
  have HT := Lib.hid hT
  generalize hkl : (A.nd i).kids = l at *
  have hle' : l.length ≤ 1000000 := by omega
  clear h hf hk hw hl hT hfr
  go_enter Tryz.func14, Tryz.ntmps14
  go_wp2_with fail
  refine (lacks_sep_no H.out up (by omega) (by omega)).mono ?_
  rintro e w' ⟨rfl, rfl⟩
  go_wp2_with fail
  refine (lacks_sep_no H.out i (by omega) (by omega)).mono ?_
  rintro e w' ⟨rfl, rfl⟩
  go_wp2_with fail
  refine (fits_sep H.out Hw.out Hl.out HT.out up i hIu hIi).mono ?_
  rintro e w1 ⟨rfl, h1⟩
  rw [HF.out]
  have H1 := Lib.hid h1
  obtain ⟨cap, av, gv, Fa, Fg, hC, _⟩ := docR_step h1
  have HC := Lib.hid hC
  have c0 := hC.cell0
  have u0 : w1.cell? ⟨B, i * 19, none⟩ = _ := hC.cell (i := i) hi (k := 0) (by omega) rfl
  clear h1 hC
  go_wp2_with fail
  refine (kids_any HC.out i (by omega) (by omega) l Hfr.out hle').mono ?_
  rintro e w2 ⟨v, rfl, hf2⟩
  have h2 := H1.out.fresh hf2
  obtain ⟨A1, c1, rfl⟩ := row_form h2
  have H2 := Lib.hid h2
  clear h2 hf2 HC H1 c0 u0
  go_wp2_with fail
  go_loopw [59] (fun v wr => ∃ j : Nat, v = int j ∧ j ≤ l.length ∧ Sep W wr (irow (.slice A1 l.length c1) l :: docR p B A.n A.lim (putAllR up (-1) (l.take j) R) :: rs))
    (fun v _ => l.length - (intOf v).toNat)
  case atStart => exact ⟨0, rfl, Nat.zero_le _, H2.out⟩
  case round =>
    obtain ⟨j, rfl, hj, hS⟩ := hrel
    have HS := Lib.hid hS
    by_cases hjl : j < l.length
    · obtain ⟨G, hG⟩ := hS.head
      obtain ⟨g, cp, hv, _, _, _, hcell⟩ := rowHolds.cells hG (by omega)
      obtain ⟨rfl, rfl⟩ : A1 = some ⟨g, 0, none⟩ ∧ c1 = cp := by injection hv with h1 _ h3; exact ⟨h1, h3⟩
      clear hv
      have c1' : wr.cell? ⟨g, j, none⟩ = some (int l[j]) := hcell j _ (by simp [icells, hjl])
      have t1 : decide ((j : Int) < l.length) = true := by simp; omega
      have hij := Hin.out l[j] (List.getElem_mem hjl)
      have hRj := Hrg.out.putAll (up := up) (b := -1) ⟨by omega, by omega⟩ .none (l.take j) (fun k hk => Hin.out k (List.mem_of_mem_take hk))
      have HRj := Lib.hid hRj
      have hwr : IntKind.i64.wrap ((j : Int) + 1) = ((j + 1 : Nat) : Int) := by rw [IntKind.wrap_i64]; omega
      clear hS hG hcell hRj
      go_wp2_with fail
      refine (put_any HS.out.swap HRj.out up l[j] (-1) ⟨by omega, by omega⟩ hij .none).mono ?_
      rintro e w3 ⟨rfl, h3⟩
      have H3 := Lib.hid h3.swap
      clear h3
      go_wp2_with fail
      go_roundw
      case rel =>
        refine ⟨j + 1, rfl, hjl, ?_⟩
        rw [List.take_succ_eq_append_getElem hjl, putAllR_snoc]
        exact H3.out
      case measure => simp [intOf]; omega
    · obtain rfl : j = l.length := by omega
      have t1 : decide ((l.length : Int) < l.length) = false := by simp
      clear hS
      go_wp2
      go_ret
      have := HS.out.tail
      rw [List.take_length] at this
      exact ⟨rfl, this⟩

set_option maxRecDepth 100000 in
set_option maxHeartbeats 1000000 in
theorem insert_f2 (h : Sep W w (docR p B A.n A.lim R :: rs)) (hw : WF A) (hl : Link A R) (hT : Laid W) (up i : Nat) (hu : up < A.n) (hi : i < A.n) (b : Nat) (hb : b < A.n) (hbu : (A.nd b).up = up) (hf : A.fitsB up i = true) (hk : (A.nd i).kind = 4) :
    Calls Tryz.prog 14 #[ptr p, int up, int i, int b] w fun e w' => e = .returned (.int .u16 0) ∧ Sep W w' (docR p B A.n A.lim (putAllR up b (A.nd i).kids R) :: rs) := by
  have hIu : A.In up := ⟨by omega, by omega⟩
  have hIi : A.In i := ⟨by omega, by omega⟩
  have H := Lib.hid h
  have HF := Lib.hid hf
  have ek : ((R i).kind == 4) = true := by rw [(hl.same i hIi).kind]; simpa using hk
  have eb : ((b : Int) != -1) = true := by simp
  have hRb : (R b).up = up := (hl.same b ⟨by omega, by omega⟩).up.trans hbu
  have HRb := Lib.hid hRb
  clear hRb hbu
  have hfr := hl.from hw hIi
  have hle := hw.kids_len hIi
  have hn := hw.n_le
  have Hin := Lib.hid (fun x hx => (hw.kin i hIi x hx).1 : ∀ x ∈ (A.nd i).kids, A.In x)
  have Hrg := Lib.hid (hl.rng hw)
  have Hfr := Lib.hid hfr
  have Hw := Lib.hid hw
  have Hl := Lib.hid hl
  have HT := Lib.hid hT
  generalize hkl : (A.nd i).kids = l at *
  have hle' : l.length ≤ 1000000 := by omega
  clear h hf hk hw hl hT hfr
  go_enter Tryz.func14, Tryz.ntmps14
  go_wp2_with fail
  refine (lacks_sep_no H.out up (by omega) (by omega)).mono ?_
  rintro e w' ⟨rfl, rfl⟩
  go_wp2_with fail
  refine (lacks_sep_no H.out i (by omega) (by omega)).mono ?_
  rintro e w' ⟨rfl, rfl⟩
  go_wp2_with fail
  refine (lacks_sep_no H.out b (by omega) (by omega)).mono ?_
  rintro e w' ⟨rfl, rfl⟩
  go_wp2_with fail
  refine (fits_sep H.out Hw.out Hl.out HT.out up i hIu hIi).mono ?_
  rintro e w1 ⟨rfl, h1⟩
  rw [HF.out]
  have H1 := Lib.hid h1
  obtain ⟨cap, av, gv, Fa, Fg, hC, _⟩ := docR_step h1
  have HC := Lib.hid hC
  have c0 := hC.cell0
  have u0 : w1.cell? ⟨B, i * 19, none⟩ = _ := hC.cell (i := i) hi (k := 0) (by omega) rfl
  have ub := hC.cell (i := b) hb (k := 9) (by omega) rfl
  rw [HRb.out] at ub
  clear h1 hC
  go_wp2_with fail
  refine (kids_any HC.out i (by omega) (by omega) l Hfr.out hle').mono ?_
  rintro e w2 ⟨v, rfl, hf2⟩
  have h2 := H1.out.fresh hf2
  obtain ⟨A1, c1, rfl⟩ := row_form h2
  have H2 := Lib.hid h2
  clear h2 hf2 HC H1 c0 u0 ub
  go_wp2_with fail
  go_loopw [59] (fun v wr => ∃ j : Nat, v = int j ∧ j ≤ l.length ∧ Sep W wr (irow (.slice A1 l.length c1) l :: docR p B A.n A.lim (putAllR up b (l.take j) R) :: rs))
    (fun v _ => l.length - (intOf v).toNat)
  case atStart => exact ⟨0, rfl, Nat.zero_le _, H2.out⟩
  case round =>
    obtain ⟨j, rfl, hj, hS⟩ := hrel
    have HS := Lib.hid hS
    by_cases hjl : j < l.length
    · obtain ⟨G, hG⟩ := hS.head
      obtain ⟨g, cp, hv, _, _, _, hcell⟩ := rowHolds.cells hG (by omega)
      obtain ⟨rfl, rfl⟩ : A1 = some ⟨g, 0, none⟩ ∧ c1 = cp := by injection hv with h1 _ h3; exact ⟨h1, h3⟩
      clear hv
      have c1' : wr.cell? ⟨g, j, none⟩ = some (int l[j]) := hcell j _ (by simp [icells, hjl])
      have t1 : decide ((j : Int) < l.length) = true := by simp; omega
      have hij := Hin.out l[j] (List.getElem_mem hjl)
      have hRj := Hrg.out.putAll (up := up) (b := b) ⟨by omega, by omega⟩ (.inr ⟨by omega, by omega⟩) (l.take j) (fun k hk => Hin.out k (List.mem_of_mem_take hk))
      have HRj := Lib.hid hRj
      have hwr : IntKind.i64.wrap ((j : Int) + 1) = ((j + 1 : Nat) : Int) := by rw [IntKind.wrap_i64]; omega
      clear hS hG hcell hRj
      go_wp2_with fail
      refine (put_any HS.out.swap HRj.out up l[j] b ⟨by omega, by omega⟩ hij (.inr ⟨by omega, by omega⟩)).mono ?_
      rintro e w3 ⟨rfl, h3⟩
      have H3 := Lib.hid h3.swap
      clear h3
      go_wp2_with fail
      go_roundw
      case rel =>
        refine ⟨j + 1, rfl, hjl, ?_⟩
        rw [List.take_succ_eq_append_getElem hjl, putAllR_snoc]
        exact H3.out
      case measure => simp [intOf]; omega
    · obtain rfl : j = l.length := by omega
      have t1 : decide ((l.length : Int) < l.length) = false := by simp
      clear hS
      go_wp2
      go_ret
      have := HS.out.tail
      rw [List.take_length] at this
      exact ⟨rfl, this⟩

theorem ins_nat {up i b : Int} (hu : A.In up) (hi : A.In i) (hb : b = -1 ∨ A.In b) : ∃ u j : Nat, up = u ∧ i = j ∧ u < A.n ∧ j < A.n ∧ (b = -1 ∨ ∃ c : Nat, b = c ∧ c < A.n) := by
  obtain ⟨u, rfl, h1⟩ := icast hu.1 hu.2
  obtain ⟨j, rfl, h2⟩ := icast hi.1 hi.2
  refine ⟨u, j, rfl, rfl, h1, h2, hb.imp id fun h => ?_⟩
  obtain ⟨c, rfl, h3⟩ := icast h.1 h.2
  exact ⟨c, rfl, h3⟩

theorem insert_fine (hw : WF A) (hl : Link A R) {up i b : Int} (h0 : A.insertE up i b = 0) :
    ∃ R', Link (A.insertA up i b) R' ∧ WF (A.insertA up i b) ∧ (A.insertA up i b).n = A.n ∧ (A.insertA up i b).lim = A.lim ∧ R' = (if (A.nd i).kind = 4 then putAllR up b (A.nd i).kids R else putR R up i (if b = i then nextIn (A.nd up).kids i else b)) := by
  obtain ⟨hu, hi, hb, hf, hbu⟩ := Doc.insert_ok h0
  obtain ⟨_, hh, hc⟩ := Doc.fits_parts hf
  unfold Doc.insertA
  rw [if_pos h0]
  by_cases hk : (A.nd i).kind = 4
  · rw [if_pos hk, if_pos hk]
    have hbb : b = -1 ∨ A.In b ∧ (A.nd b).up = up := by
      rcases hb with h | h
      · exact .inl h
      · exact hbu.imp id fun h' => ⟨h, h'⟩
    obtain ⟨h1, h2⟩ := kids_fit hw hu hi hf hbb
    obtain ⟨k1, k2, k3, k4⟩ := putAll_ok (A.nd i).kids hw hl hu h1 h2
    exact ⟨_, k2, k1, k3, k4, rfl⟩
  · rw [if_neg hk, if_neg hk]
    have hB : Before A up i (if b = i then nextIn (A.nd up).kids i else b) := by
      split
      · rename_i e
        have : (A.nd i).up = up := by
          rcases hbu with h | h
          · exact absurd (e ▸ h) (neg_of_in hi)
          · exact e ▸ h
        exact Before.next hw hi hu this
      · rename_i e
        rcases hb with h | h
        · exact .inl h
        · rcases hbu with h' | h'
          · exact .inl h'
          · exact .inr ⟨h, h', e⟩
    exact ⟨_, hl.put hw.toWFT hu hi (fun e => hc (e ▸ .here _)) hB, hw.put hu hi hh hc hB, put_n, put_lim, rfl⟩

/-- Insert, whatever the numbers -/
theorem insert_doc (h : Sep W w (docA p A :: rs)) (hT : Laid W) (up i b : Int) :
    Calls Tryz.prog 14 #[ptr p, int up, int i, int b] w fun e w' => e = .returned (.int .u16 (A.insertE up i b)) ∧ Sep W w' (docA p (A.insertA up i b) :: rs) := by
  by_cases h0 : A.insertE up i b = 0
  · rw [h0]
    obtain ⟨hw, B, R, hl, hS⟩ := docA_open h
    obtain ⟨R', l', w', en, el, hR⟩ := insert_fine hw hl h0
    have key : Calls Tryz.prog 14 #[ptr p, int up, int i, int b] w fun e w' => e = .returned (.int .u16 0) ∧ Sep W w' (docR p B A.n A.lim R' :: rs) := by
      obtain ⟨hu, hi, hb, hf, hbu⟩ := Doc.insert_ok h0
      obtain ⟨u, j, rfl, rfl, hu', hj', hc⟩ := ins_nat hu hi hb
      rw [hR]
      by_cases hk : (A.nd j).kind = 4
      · rw [if_pos hk]
        rcases hc with rfl | ⟨c, rfl, hc⟩
        · exact insert_f1 hS hw hl hT u j hu' hj' hf hk
        · exact insert_f2 hS hw hl hT u j hu' hj' c hc (hbu.resolve_left (by omega)) hf hk
      · rw [if_neg hk]
        rcases hc with rfl | ⟨c, rfl, hc⟩
        · rw [if_neg (by omega)]
          exact insert_n hS hw hl hT u j hu' hj' hf hk
        · have hbu' := hbu.resolve_left (by omega)
          by_cases e : (c : Int) = j
          · rw [if_pos e, e]
            rw [e] at hbu'
            exact insert_i hS hw hl hT u j hu' hj' hbu' hf hk
          · rw [if_neg e]
            exact insert_b hS hw hl hT u j hu' hj' c hc hbu' e hf hk
    refine key.mono fun e w1 ⟨he, h1⟩ => ⟨he, ?_⟩
    rw [← en, ← el] at h1
    exact docA_close w' l' h1
  · have hA : A.insertA up i b = A := by unfold Doc.insertA; rw [if_neg h0]
    rw [hA]
    unfold Doc.insertE at h0 ⊢
    by_cases h1 : A.In up ∧ A.In i ∧ (b = -1 ∨ A.In b)
    · rw [if_pos h1] at h0 ⊢
      by_cases h2 : A.fitsB up i = true ∧ (b = -1 ∨ (A.nd b).up = up)
      · rw [if_pos h2] at h0; exact absurd rfl h0
      · rw [if_neg h2]
        obtain ⟨hu, hi, hb⟩ := h1
        cases hf : A.fitsB up i
        · exact insert_81a h hT up i b hu hi hb hf
        · obtain ⟨u, j, rfl, rfl, hu', hj', hc⟩ := ins_nat hu hi hb
          rcases hc with rfl | ⟨c, rfl, hc⟩
          · exact absurd ⟨hf, .inl rfl⟩ h2
          · exact insert_81b h hT u j c hu hi hc hf fun e => h2 ⟨hf, .inr e⟩
    · rw [if_neg h1]
      have same : ∀ {e : Ending} {w' : World}, (e = .returned (.int .u16 80) ∧ w = w') → e = .returned (.int .u16 80) ∧ Sep W w' (docA p A :: rs) := fun ⟨he, hw⟩ => ⟨he, hw ▸ h⟩
      by_cases hu : A.In up
      · by_cases hi : A.In i
        · have hb : ¬ (b = -1 ∨ A.In b) := fun hb => h1 ⟨hu, hi, hb⟩
          exact (insert_80c h up i b hu hi (fun e => hb (.inl e)) (fun e => hb (.inr e))).mono fun _ _ => same
        · exact (insert_80b h up i b hu hi).mono fun _ _ => same
      · exact (insert_80a h up i b hu).mono fun _ _ => same
end
end Go.Proofs.YtgdmaikjaopddaaGreatDoor
