/- What the small functions of package dom do to a document in memory: links are set, a node is taken out and put in. -/
import Derived.Test.YtehjhigaebpfkaaDoorDom0
namespace Go.Proofs.YtehjhigaebpfkaaDoor
open Go.RowKit


section
variable {W w : World} {rs : List Res} {p B n : Nat} {lim : Int} {R : Int → RNd}

theorem docR_step (h : Sep W w (docR p B n lim R :: rs)) : ∃ cap av gv Fa Fg, DocC p B cap n lim R av gv Fa Fg w ∧ W.heap.size ≤ p ∧ W.heap.size ≤ B ∧ B < w.heap.size ∧ p < w.heap.size ∧
    (∀ (w' : World) (R' : Int → RNd), Only (Foot p B n Fa Fg) w w' → DocC p B cap n lim R' av gv Fa Fg w' → Sep W w' (docR p B n lim R' :: rs)) := by
  obtain ⟨G, ⟨cap, av, gv, Fa, Fg, hC, hG⟩, hlt, hstep⟩ := h.step
  have hp := hlt p ((hG p).2 (.inl rfl))
  have hb := hlt B ((hG B).2 (.inr (.inl rfl)))
  refine ⟨cap, av, gv, Fa, Fg, hC, hp.1, hb.1, hb.2, hp.2, fun w' R' ho hC' => ?_⟩
  exact hstep w' G (docR p B n lim R') (ho.mono fun k _ hk => (hG k).2 hk) ⟨cap, av, gv, Fa, Fg, hC', hG⟩ fun k hk => .inl hk

set_option maxHeartbeats 1000000 in
theorem after_any (h : Sep W w (docR p B n lim R :: rs)) (up a b : Int) (hu : 0 ≤ up) (hu' : up < n) (ha : a = -1 ∨ 0 ≤ a ∧ a < n) (hb : b = -1 ∨ 0 ≤ b ∧ b < n) :
    Calls Tryd.prog 64 #[ptr p, int up, int a, int b] w fun e w' => e = .returned (.tuple #[]) ∧ Sep W w' (docR p B n lim (afterR R up a b) :: rs) := by
  obtain ⟨cap, av, gv, Fa, Fg, hC, _, _, _, _, hfin⟩ := docR_step h
  obtain ⟨up, rfl⟩ := Int.eq_ofNat_of_zero_le hu
  replace hu' : up < n := by omega
  have h0 := hC.cell0
  have f0 := hC.frozenB
  have hpb : p ≠ B := hC.pb
  have hon : Only (Foot p B n Fa Fg) w w := .refl _ _
  have hin : ∀ i k : Nat, (⟨B, i * 19 + k, none⟩ : Addr).block = B := fun _ _ => rfl
  rcases ha with rfl | ⟨ha0, ha1⟩
  · rcases hb with rfl | ⟨hb0, hb1⟩
    · have u1 := hC.cell hu' (k := 13) (by omega) rfl
      have u2 := hC.cell hu' (k := 14) (by omega) rfl
      have fin := (hC.set hu' (k := 13) (by omega) (int (-1)) (.setFirst (-1)) (fun _ _ _ => rfl) (fun _ => rfl) (fun _ => rfl)).set hu' (k := 14) (by omega) (int (-1)) (.setLast (-1)) (fun _ _ _ => rfl) (fun _ => rfl) (fun _ => rfl)
      have Fin := Lib.hid fin
      clear fin hC h
      go_enter Tryd.func64, Tryd.ntmps64
      go_wp2
      go_end0
      exact ⟨rfl, hfin _ _ ((hon.setCell (.inl (.inr (.inl rfl))) _).setCell (.inl (.inr (.inl rfl))) _) Fin.out⟩
    · obtain ⟨b, rfl⟩ := Int.eq_ofNat_of_zero_le hb0
      replace hb1 : b < n := by omega
      have eb : ((b : Int) == -1) = false := by simp
      have u1 := hC.cell hu' (k := 13) (by omega) rfl
      have u2 := hC.cell hb1 (k := 16) (by omega) rfl
      have fin := (hC.set hu' (k := 13) (by omega) (int b) (.setFirst b) (fun _ _ _ => rfl) (fun _ => rfl) (fun _ => rfl)).set hb1 (k := 16) (by omega) (int (-1)) (.setPrev (-1)) (fun _ _ _ => rfl) (fun _ => rfl) (fun _ => rfl)
      have Fin := Lib.hid fin
      clear fin hC h
      go_enter Tryd.func64, Tryd.ntmps64
      go_wp2
      go_end0
      exact ⟨rfl, hfin _ _ ((hon.setCell (.inl (.inr (.inl rfl))) _).setCell (.inl (.inr (.inl rfl))) _) Fin.out⟩
  · obtain ⟨a, rfl⟩ := Int.eq_ofNat_of_zero_le ha0
    replace ha1 : a < n := by omega
    have ea : ((a : Int) == -1) = false := by simp
    rcases hb with rfl | ⟨hb0, hb1⟩
    · have u1 := hC.cell ha1 (k := 15) (by omega) rfl
      have u2 := hC.cell hu' (k := 14) (by omega) rfl
      have fin := (hC.set ha1 (k := 15) (by omega) (int (-1)) (.setNext (-1)) (fun _ _ _ => rfl) (fun _ => rfl) (fun _ => rfl)).set hu' (k := 14) (by omega) (int a) (.setLast a) (fun _ _ _ => rfl) (fun _ => rfl) (fun _ => rfl)
      have Fin := Lib.hid fin
      clear fin hC h
      go_enter Tryd.func64, Tryd.ntmps64
      go_wp2
      go_end0
      exact ⟨rfl, hfin _ _ ((hon.setCell (.inl (.inr (.inl rfl))) _).setCell (.inl (.inr (.inl rfl))) _) Fin.out⟩
    · obtain ⟨b, rfl⟩ := Int.eq_ofNat_of_zero_le hb0
      replace hb1 : b < n := by omega
      have eb : ((b : Int) == -1) = false := by simp
      have u1 := hC.cell ha1 (k := 15) (by omega) rfl
      have u2 := hC.cell hb1 (k := 16) (by omega) rfl
      have fin := (hC.set ha1 (k := 15) (by omega) (int b) (.setNext b) (fun _ _ _ => rfl) (fun _ => rfl) (fun _ => rfl)).set hb1 (k := 16) (by omega) (int a) (.setPrev a) (fun _ _ _ => rfl) (fun _ => rfl) (fun _ => rfl)
      have Fin := Lib.hid fin
      clear fin hC h
      go_enter Tryd.func64, Tryd.ntmps64
      go_wp2
      go_end0
      exact ⟨rfl, hfin _ _ ((hon.setCell (.inl (.inr (.inl rfl))) _).setCell (.inl (.inr (.inl rfl))) _) Fin.out⟩

set_option maxRecDepth 100000 in
set_option maxHeartbeats 1000000 in
theorem take_any (h : Sep W w (docR p B n lim R :: rs)) (i : Int) (hi : 0 ≤ i) (hi' : i < n) (hu : (R i).up = -1 ∨ 0 ≤ (R i).up ∧ (R i).up < n) (ha : (R i).prev = -1 ∨ 0 ≤ (R i).prev ∧ (R i).prev < n)
    (hb : (R i).next = -1 ∨ 0 ≤ (R i).next ∧ (R i).next < n) :
    Calls Tryd.prog 63 #[ptr p, int i] w fun e w' => e = .returned (.tuple #[]) ∧ Sep W w' (docR p B n lim (takeR R i) :: rs) := by
  obtain ⟨cap, av, gv, Fa, Fg, hC, _, _, _, _, hfin⟩ := docR_step h
  obtain ⟨i, rfl⟩ := Int.eq_ofNat_of_zero_le hi
  replace hi' : i < n := by omega
  have h0 := hC.cell0
  have f0 := hC.frozenB
  have hpb : p ≠ B := hC.pb
  have u9 := hC.cell hi' (k := 9) (by omega) rfl
  have u15 := hC.cell hi' (k := 15) (by omega) rfl
  have u16 := hC.cell hi' (k := 16) (by omega) rfl
  rcases hu with hu | ⟨hu0, hu1⟩
  · have fin := ((hC.set hi' (k := 9) (by omega) (int (-1)) (.setUp (-1)) (fun _ _ _ => rfl) (fun _ => rfl) (fun _ => rfl)).set hi' (k := 16) (by omega) (int (-1)) (.setPrev (-1)) (fun _ _ _ => rfl) (fun _ => rfl) (fun _ => rfl)).set hi' (k := 15) (by omega) (int (-1)) (.setNext (-1)) (fun _ _ _ => rfl) (fun _ => rfl) (fun _ => rfl)
    have Fin := Lib.hid fin
    have hon : Only (Foot p B n Fa Fg) w w := .refl _ _
    rw [hu] at u9
    have Hu := Lib.hid hu
    clear fin hC h hu
    go_enter Tryd.func63, Tryd.ntmps63
    go_wp2
    go_end0
    refine ⟨rfl, hfin _ _ (((hon.setCell (.inl (.inr (.inl rfl))) _).setCell (.inl (.inr (.inl rfl))) _).setCell (.inl (.inr (.inl rfl))) _) ?_⟩
    unfold takeR; rw [if_pos Hu.out]; exact Fin.out
  · have eu : (((R i).up) == -1) = false := by simp; omega
    go_enter Tryd.func63, Tryd.ntmps63
    go_wp2
    go_still_tail 13, (by kernel_rfl)
    change wpList _ _ _ _ _ w.drew
    have hd := h.drew
    generalize w.drew = w2 at hd ⊢
    have Hd := Lib.hid hd
    clear hd h hC h0 f0 u9 u15 u16
    go_wp2_with fail
    refine (after_any Hd.out (R ↑i).up (R ↑i).prev (R ↑i).next hu0 hu1 ha hb).mono ?_
    rintro e w3 ⟨rfl, h3⟩
    obtain ⟨cap, av, gv, Fa, Fg, hC, _, _, _, _, hfin⟩ := docR_step h3
    have h0 := hC.cell0
    have f0 := hC.frozenB
    have hpb : p ≠ B := hC.pb
    have u9 := hC.cell hi' (k := 9) (by omega) rfl
    have u15 := hC.cell hi' (k := 15) (by omega) rfl
    have u16 := hC.cell hi' (k := 16) (by omega) rfl
    have fin := ((hC.set hi' (k := 9) (by omega) (int (-1)) (.setUp (-1)) (fun _ _ _ => rfl) (fun _ => rfl) (fun _ => rfl)).set hi' (k := 16) (by omega) (int (-1)) (.setPrev (-1)) (fun _ _ _ => rfl) (fun _ => rfl) (fun _ => rfl)).set hi' (k := 15) (by omega) (int (-1)) (.setNext (-1)) (fun _ _ _ => rfl) (fun _ => rfl) (fun _ => rfl)
    have Fin := Lib.hid fin
    have hon : Only (Foot p B n Fa Fg) w3 w3 := .refl _ _
    clear fin hC h3
    go_wp2
    go_end0
    refine ⟨rfl, hfin _ _ (((hon.setCell (.inl (.inr (.inl rfl))) _).setCell (.inl (.inr (.inl rfl))) _).setCell (.inl (.inr (.inl rfl))) _) ?_⟩
    unfold takeR; rw [if_neg (by omega)]; exact Fin.out

set_option maxRecDepth 100000 in
set_option maxHeartbeats 1000000 in
theorem put_any (h : Sep W w (docR p B n lim R :: rs)) (hr : Rng n R) (up i before : Int) (hu : 0 ≤ up ∧ up < n) (hi : 0 ≤ i ∧ i < n) (hb : Ok n before) :
    Calls Tryd.prog 44 #[ptr p, int up, int i, int before] w fun e w' => e = .returned (.tuple #[]) ∧ Sep W w' (docR p B n lim (putR R up i before) :: rs) := by
  have hr1 := hr.take hi
  have Hr := Lib.hid hr
  have Hr1 := Lib.hid hr1
  have H := Lib.hid h
  have Hi := Lib.hid hi
  obtain ⟨u, rfl⟩ := Int.eq_ofNat_of_zero_le hu.1
  have hu' : u < n := by omega
  have k0 := hr i hi.1 hi.2
  have L := Lib.hid k0
  clear hr hr1 h k0
  rcases hb with rfl | ⟨hb0, hb1⟩
  · go_enter Tryd.func44, Tryd.ntmps44
    go_wp2_with fail
    refine (take_any H.out i hi.1 hi.2 L.out.up L.out.prev L.out.next).mono ?_
    rintro e w1 ⟨rfl, h1⟩
    obtain ⟨cap, av, gv, Fa, Fg, hC, _, _, _, _, hfin⟩ := docR_step h1
    have h0 := hC.cell0
    have f0 := hC.frozenB
    have hpb : p ≠ B := hC.pb
    have u14 := hC.cell hu' (k := 14) (by omega) rfl
    obtain ⟨j, rfl⟩ := Int.eq_ofNat_of_zero_le hi.1
    have hj : j < n := by omega
    have u9 := hC.cell hj (k := 9) (by omega) rfl
    have fin := (hC.set hj (k := 9) (by omega) (int u) (.setUp u) (fun _ _ _ => rfl) (fun _ => rfl) (fun _ => rfl))
    have Fin := Lib.hid (hfin _ _ ((Only.refl _ w1).setCell (.inl (.inr (.inl rfl))) _) fin)
    clear hC hfin h1 fin
    go_wp2_with fail
    refine (after_any Fin.out u (takeR R ↑j ↑u).last j hu.1 hu.2 (Hr1.out _ hu.1 hu.2).last (.inr hi)).mono ?_
    rintro e w2 ⟨rfl, h2⟩
    have H2 := Lib.hid h2
    clear h2 Fin
    go_wp2_with fail
    refine (after_any H2.out u j (-1) hu.1 hu.2 (.inr hi) Ok.none).mono ?_
    rintro e w3 ⟨rfl, h3⟩
    have H3 := Lib.hid h3
    clear h3 H2
    go_wp2
    go_end0
    refine ⟨rfl, ?_⟩
    simpa [putR] using H3.out
  · obtain ⟨c, rfl⟩ := Int.eq_ofNat_of_zero_le hb0
    have hc' : c < n := by omega
    have ec : ((c : Int) == -1) = false := by simp
    go_enter Tryd.func44, Tryd.ntmps44
    go_wp2_with fail
    refine (take_any H.out i hi.1 hi.2 L.out.up L.out.prev L.out.next).mono ?_
    rintro e w1 ⟨rfl, h1⟩
    obtain ⟨cap, av, gv, Fa, Fg, hC, _, _, _, _, hfin⟩ := docR_step h1
    have h0 := hC.cell0
    have f0 := hC.frozenB
    have hpb : p ≠ B := hC.pb
    have u14 := hC.cell hu' (k := 14) (by omega) rfl
    have u16 := hC.cell hc' (k := 16) (by omega) rfl
    obtain ⟨j, rfl⟩ := Int.eq_ofNat_of_zero_le hi.1
    have hj : j < n := by omega
    have u9 := hC.cell hj (k := 9) (by omega) rfl
    have fin := (hC.set hj (k := 9) (by omega) (int u) (.setUp u) (fun _ _ _ => rfl) (fun _ => rfl) (fun _ => rfl))
    have Fin := Lib.hid (hfin _ _ ((Only.refl _ w1).setCell (.inl (.inr (.inl rfl))) _) fin)
    clear hC hfin h1 fin
    go_wp2_with fail
    refine (after_any Fin.out u (takeR R ↑j ↑c).prev j hu.1 hu.2 (Hr1.out _ hb0 hb1).prev (.inr hi)).mono ?_
    rintro e w2 ⟨rfl, h2⟩
    have H2 := Lib.hid h2
    clear h2 Fin
    go_wp2_with fail
    refine (after_any H2.out u j (↑c) hu.1 hu.2 (.inr hi) (.inr ⟨hb0, hb1⟩)).mono ?_
    rintro e w3 ⟨rfl, h3⟩
    have H3 := Lib.hid h3
    clear h3 H2
    go_wp2
    go_end0
    refine ⟨rfl, ?_⟩
    simpa [putR] using H3.out
end
end Go.Proofs.YtehjhigaebpfkaaDoor
