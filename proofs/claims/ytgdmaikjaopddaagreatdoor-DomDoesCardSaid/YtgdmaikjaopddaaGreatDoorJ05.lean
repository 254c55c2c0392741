/- What the small functions of package dom do to a document in memory: links are set, a node is taken out and put in. -/
import Derived.Test.YtgdmaikjaopddaaGreatDoorJ02
namespace Go.Proofs.YtgdmaikjaopddaaGreatDoor
open Go.RowKit


section
variable {W w : World} {rs : List Res} {p B n : Nat} {lim : Int} {R : Int → RNd}

theorem docR_step (h : Sep W w (docR p B n lim R :: rs)) : ∃ cap av gv Fa Fg, DocC p B cap n lim R av gv Fa Fg w ∧ W.heap.size ≤ p ∧ W.heap.size ≤ B ∧ B < w.heap.size ∧ p < w.heap.size ∧
    (∀ (w' : World) (R' : Int → RNd), Only (Foot p B n Fa Fg) w w' → DocC p B cap n lim R' av gv Fa Fg w' → Sep W w' (docR p B n lim R' :: rs)) := by
  obtain ⟨G, ⟨cap, av, gv, Fa, Fg, hC, hG⟩, hlt, hstep⟩ := h.step
  have hp := hlt p ((hG p).2 (.inl rfl))
  have hb := hlt B ((hG B).2 (.inr (.inl rfl)))
  refine ⟨cap, av, gv, Fa, Fg, hC, hp.1, hb.1, hb.2, hp.2, fun w' R' ho hC' => ?_⟩
  exact hstep w' G (docR p B n lim R') (ho.mono fun k _ hk => (hG k).2 hk) ⟨cap, av, gv, Fa, Fg, hC', hG⟩ fun k hk => .inl hk

set_option maxHeartbeats 1000000 in
theorem after_any (h : Sep W w (docR p B n lim R :: rs)) (up a b : Int) (hu : 0 ≤ up) (hu' : up < n) (ha : a = -1 ∨ 0 ≤ a ∧ a < n) (hb : b = -1 ∨ 0 ≤ b ∧ b < n) :
    Calls Tryz.prog 70 #[ptr p, int up, int a, int b] w fun e w' => e = .returned (.tuple #[]) ∧ Sep W w' (docR p B n lim (afterR R up a b) :: rs) := by
  obtain ⟨cap, av, gv, Fa, Fg, hC, _, _, _, _, hfin⟩ := docR_step h
  obtain ⟨up, rfl⟩ := Int.eq_ofNat_of_zero_le hu
  replace hu' : up < n := by omega
  have h0 := hC.cell0
  have f0 := hC.frozenB
  have hpb : p ≠ B := hC.pb
  have hon : Only (Foot p B n Fa Fg) w w := .refl _ _
  have hin : ∀ i k : Nat, (⟨B, i * 19 + k, none⟩ : Addr).block = B := fun _ _ => rfl
  rcases ha with rfl | ⟨ha0, ha1⟩
  · rcases hb with rfl | ⟨hb0, hb1⟩
    · have u1 := hC.cell hu' (k := 13) (by omega) rfl
      have u2 := hC.cell hu' (k := 14) (by omega) rfl
      have fin := (hC.set hu' (k := 13) (by omega) (int (-1)) (.setFirst (-1)) (fun _ _ _ => rfl) (fun _ => rfl) (fun _ => rfl)).set hu' (k := 14) (by omega) (int (-1)) (.setLast (-1)) (fun _ _ _ => rfl) (fun _ => rfl) (fun _ => rfl)
      have Fin := Lib.hid fin
      clear fin hC h
      go_enter Tryz.func70, Tryz.ntmps70
      go_wp2
      go_end0
      exact ⟨rfl, hfin _ _ ((hon.setCell (.inl (.inr (.inl rfl))) _).setCell (.inl (.inr (.inl rfl))) _) Fin.out⟩
    · obtain ⟨b, rfl⟩ := Int.eq_ofNat_of_zero_le hb0
      replace hb1 : b < n := by omega
      have eb : ((b : Int) == -1) = false := by simp
      have u1 := hC.cell hu' (k := 13) (by omega) rfl
      have u2 := hC.cell hb1 (k := 16) (by omega) rfl
      have fin := (hC.set hu' (k := 13) (by omega) (int b) (.setFirst b) (fun _ _ _ => rfl) (fun _ => rfl) (fun _ => rfl)).set hb1 (k := 16) (by omega) (int (-1)) (.setPrev (-1)) (fun _ _ _ => rfl) (fun _ => rfl) (fun _ => rfl)
      have Fin := Lib.hid fin
      clear fin hC h
      go_enter Tryz.func70, Tryz.ntmps70
      go_wp2
      go_end0
      exact ⟨rfl, hfin _ _ ((hon.setCell (.inl (.inr (.inl rfl))) _).setCell (.inl (.inr (.inl rfl))) _) Fin.out⟩
  · obtain ⟨a, rfl⟩ := Int.eq_ofNat_of_zero_le ha0
    replace ha1 : a < n := by omega
    have ea : ((a : Int) == -1) = false := by simp
    rcases hb with rfl | ⟨hb0, hb1⟩
    · have u1 := hC.cell ha1 (k := 15) (by omega) rfl
      have u2 := hC.cell hu' (k := 14) (by omega) rfl
      have fin := (hC.set ha1 (k := 15) (by omega) (int (-1)) (.setNext (-1)) (fun _ _ _ => rfl) (fun _ => rfl) (fun _ => rfl)).set hu' (k := 14) (by omega) (int a) (.setLast a) (fun _ _ _ => rfl) (fun _ => rfl) (fun _ => rfl)
      have Fin := Lib.hid fin
      clear fin hC h
      go_enter Tryz.func70, Tryz.ntmps70
      go_wp2
      go_end0
      exact ⟨rfl, hfin _ _ ((hon.setCell (.inl (.inr (.inl rfl))) _).setCell (.inl (.inr (.inl rfl))) _) Fin.out⟩
    · obtain ⟨b, rfl⟩ := Int.eq_ofNat_of_zero_le hb0
      replace hb1 : b < n := by omega
      have eb : ((b : Int) == -1) = false := by simp
      have u1 := hC.cell ha1 (k := 15) (by omega) rfl
      have u2 := hC.cell hb1 (k := 16) (by omega) rfl
      have fin := (hC.set ha1 (k := 15) (by omega) (int b) (.setNext b) (fun _ _ _ => rfl) (fun _ => rfl) (fun _ => rfl)).set hb1 (k := 16) (by omega) (int a) (.setPrev a) (fun _ _ _ => rfl) (fun _ => rfl) (fun _ => rfl)
      have Fin := Lib.hid fin
      clear fin hC h
      go_enter Tryz.func70, Tryz.ntmps70
      go_wp2
      go_end0
      exact ⟨rfl, hfin _ _ ((hon.setCell (.inl (.inr (.inl rfl))) _).setCell (.inl (.inr (.inl rfl))) _) Fin.out⟩

set_option maxRecDepth 100000 in
set_option maxHeartbeats 1000000 in
theorem take_any (h : Sep W w (docR p B n lim R :: rs)) (i : Int) (hi : 0 ≤ i) (hi' : i < n) (hu : (R i).up = -1 ∨ 0 ≤ (R i).up ∧ (R i).up < n) (ha : (R i).prev = -1 ∨ 0 ≤ (R i).prev ∧ (R i).prev < n)
    (hb : (R i).next = -1 ∨ 0 ≤ (R i).next ∧ (R i).next < n) :
    Calls Tryz.prog 37 #[ptr p, int i] w fun e w' => e = .returned (.tuple #[]) ∧ Sep W w' (docR p B n lim (takeR R i) :: rs) := by
  obtain ⟨cap, av, gv, Fa, Fg, hC, _, _, _, _, hfin⟩ := docR_step h
  obtain ⟨i, rfl⟩ := Int.eq_ofNat_of_zero_le hi
  replace hi' : i < n := by omega
  have h0 := hC.cell0
  have f0 := hC.frozenB
  have hpb : p ≠ B := hC.pb
  have u9 := hC.cell hi' (k := 9) (by omega) rfl
  have u15 := hC.cell hi' (k := 15) (by omega) rfl
  have u16 := hC.cell hi' (k := 16) (by omega) rfl
  rcases hu with hu | ⟨hu0, hu1⟩
  · have fin := ((hC.set hi' (k := 9) (by omega) (int (-1)) (.setUp (-1)) (fun _ _ _ => rfl) (fun _ => rfl) (fun _ => rfl)).set hi' (k := 16) (by omega) (int (-1)) (.setPrev (-1)) (fun _ _ _ => rfl) (fun _ => rfl) (fun _ => rfl)).set hi' (k := 15) (by omega) (int (-1)) (.setNext (-1)) (fun _ _ _ => rfl) (fun _ => rfl) (fun _ => rfl)
    have Fin := Lib.hid fin
    have hon : Only (Foot p B n Fa Fg) w w := .refl _ _
    rw [hu] at u9
    have Hu := Lib.hid hu
    clear fin hC h hu
    go_enter Tryz.func37, Tryz.ntmps37
    go_wp2
    go_end0
    refine ⟨rfl, hfin _ _ (((hon.setCell (.inl (.inr (.inl rfl))) _).setCell (.inl (.inr (.inl rfl))) _).setCell (.inl (.inr (.inl rfl))) _) ?_⟩
    unfold takeR; rw [if_pos Hu.out]; exact Fin.out
  · have eu : (((R i).up) == -1) = false := by simp; omega
    go_enter Tryz.func37, Tryz.ntmps37
    go_wp2
    go_still_tail 13, (by kernel_rfl)
    change wpList _ _ _ _ _ w.drew
    have hd := h.drew
    generalize w.drew = w2 at hd ⊢
    have Hd := Lib.hid hd
    clear hd h hC h0 f0 u9 u15 u16
    go_wp2_with fail
    refine (after_any Hd.out (R ↑i).up (R ↑i).prev (R ↑i).next hu0 hu1 ha hb).mono ?_
    rintro e w3 ⟨rfl, h3⟩
    obtain ⟨cap, av, gv, Fa, Fg, hC, _, _, _, _, hfin⟩ := docR_step h3
    have h0 := hC.cell0
    have f0 := hC.frozenB
    have hpb : p ≠ B := hC.pb
    have u9 := hC.cell hi' (k := 9) (by omega) rfl
    have u15 := hC.cell hi' (k := 15) (by omega) rfl
    have u16 := hC.cell hi' (k := 16) (by omega) rfl
    have fin := ((hC.set hi' (k := 9) (by omega) (int (-1)) (.setUp (-1)) (fun _ _ _ => rfl) (fun _ => rfl) (fun _ => rfl)).set hi' (k := 16) (by omega) (int (-1)) (.setPrev (-1)) (fun _ _ _ => rfl) (fun _ => rfl) (fun _ => rfl)).set hi' (k := 15) (by omega) (int (-1)) (.setNext (-1)) (fun _ _ _ => rfl) (fun _ => rfl) (fun _ => rfl)
    have Fin := Lib.hid fin
    have hon : Only (Foot p B n Fa Fg) w3 w3 := .refl _ _
    clear fin hC h3
    go_wp2
    go_end0
    refine ⟨rfl, hfin _ _ (((hon.setCell (.inl (.inr (.inl rfl))) _).setCell (.inl (.inr (.inl rfl))) _).setCell (.inl (.inr (.inl rfl))) _) ?_⟩
    unfold takeR; rw [if_neg (by omega)]; exact Fin.out

set_option maxRecDepth 100000 in
set_option maxHeartbeats 1000000 in
theorem put_any (h : Sep W w (docR p B n lim R :: rs)) (hr : Rng n R) (up i before : Int) (hu : 0 ≤ up ∧ up < n) (hi : 0 ≤ i ∧ i < n) (hb : Ok n before) :
    Calls Tryz.prog 36 #[ptr p, int up, int i, int before] w fun e w' => e = .returned (.tuple #[]) ∧ Sep W w' (docR p B n lim (putR R up i before) :: rs) := by
  have hr1 := hr.take hi
  have Hr := Lib.hid hr
  have Hr1 := Lib.hid hr1
  have H := Lib.hid h
  have Hi := Lib.hid hi
  obtain ⟨u, rfl⟩ := Int.eq_ofNat_of_zero_le hu.1
  have hu' : u < n := by omega
  have k0 := hr i hi.1 hi.2
  have L := Lib.hid k0
  clear hr hr1 h k0
  rcases hb with rfl | ⟨hb0, hb1⟩
  · go_enter Tryz.func36, Tryz.ntmps36
    go_wp2_with fail
    refine (take_any H.out i hi.1 hi.2 L.out.up L.out.prev L.out.next).mono ?_
    rintro e w1 ⟨rfl, h1⟩
    obtain ⟨cap, av, gv, Fa, Fg, hC, _, _, _, _, hfin⟩ := docR_step h1
    have h0 := hC.cell0
    have f0 := hC.frozenB
    have hpb : p ≠ B := hC.pb
    have u14 := hC.cell hu' (k := 14) (by omega) rfl
    obtain ⟨j, rfl⟩ := Int.eq_ofNat_of_zero_le hi.1
    have hj : j < n := by omega
    have u9 := hC.cell hj (k := 9) (by omega) rfl
    have fin := (hC.set hj (k := 9) (by omega) (int u) (.setUp u) (fun _ _ _ => rfl) (fun _ => rfl) (fun _ => rfl))
    have Fin := Lib.hid (hfin _ _ ((Only.refl _ w1).setCell (.inl (.inr (.inl rfl))) _) fin)
    clear hC hfin h1 fin
    go_wp2_with fail
    refine (after_any Fin.out u (takeR R ↑j ↑u).last j hu.1 hu.2 (Hr1.out _ hu.1 hu.2).last (.inr hi)).mono ?_
    rintro e w2 ⟨rfl, h2⟩
    have H2 := Lib.hid h2
    clear h2 Fin
    go_wp2_with fail
    refine (after_any H2.out u j (-1) hu.1 hu.2 (.inr hi) Ok.none).mono ?_
    rintro e w3 ⟨rfl, h3⟩
    have H3 := Lib.hid h3
    clear h3 H2
    go_wp2
    go_end0
    refine ⟨rfl, ?_⟩
    simpa [putR] using H3.out
  · obtain ⟨c, rfl⟩ := Int.eq_ofNat_of_zero_le hb0
    have hc' : c < n := by omega
    have ec : ((c : Int) == -1) = false := by simp
    go_enter Tryz.func36, Tryz.ntmps36
    go_wp2_with fail
    refine (take_any H.out i hi.1 hi.2 L.out.up L.out.prev L.out.next).mono ?_
    rintro e w1 ⟨rfl, h1⟩
    obtain ⟨cap, av, gv, Fa, Fg, hC, _, _, _, _, hfin⟩ := docR_step h1
    have h0 := hC.cell0
    have f0 := hC.frozenB
    have hpb : p ≠ B := hC.pb
    have u14 := hC.cell hu' (k := 14) (by omega) rfl
    have u16 := hC.cell hc' (k := 16) (by omega) rfl
    obtain ⟨j, rfl⟩ := Int.eq_ofNat_of_zero_le hi.1
    have hj : j < n := by omega
    have u9 := hC.cell hj (k := 9) (by omega) rfl
    have fin := (hC.set hj (k := 9) (by omega) (int u) (.setUp u) (fun _ _ _ => rfl) (fun _ => rfl) (fun _ => rfl))
    have Fin := Lib.hid (hfin _ _ ((Only.refl _ w1).setCell (.inl (.inr (.inl rfl))) _) fin)
    clear hC hfin h1 fin
    go_wp2_with fail
    refine (after_any Fin.out u (takeR R ↑j ↑c).prev j hu.1 hu.2 (Hr1.out _ hb0 hb1).prev (.inr hi)).mono ?_
    rintro e w2 ⟨rfl, h2⟩
    have H2 := Lib.hid h2
    clear h2 Fin
    go_wp2_with fail
    refine (after_any H2.out u j (↑c) hu.1 hu.2 (.inr hi) (.inr ⟨hb0, hb1⟩)).mono ?_
    rintro e w3 ⟨rfl, h3⟩
    have H3 := Lib.hid h3
    clear h3 H2
    go_wp2
    go_end0
    refine ⟨rfl, ?_⟩
    simpa [putR] using H3.out
end
end Go.Proofs.YtgdmaikjaopddaaGreatDoor

/- Copies of lists, and what a node is: calls that change nothing and hand back what is new. -/
namespace Go.Proofs.YtgdmaikjaopddaaGreatDoor
open Go.RowKit

theorem infoAttr : (Tryz.prog.info? TAttr).map (fun i => (i.zero, i.size, i.bytes)) = some (some (.agg #[.string .empty, .string .empty]), 2, 32) := by kernel_rfl
theorem infoInt : (Tryz.prog.info? TInt).map (fun i => (i.zero, i.size, i.bytes)) = some (some (.int .i64 0), 1, 8) := by kernel_rfl

set_option maxRecDepth 100000 in
set_option maxHeartbeats 1000000 in
theorem cloneInts (v : Value) (l : List Int) (w : World) (F : Nat → Prop) (h : (irow v l).holds w F) (hl : l.length * 8 ≤ 140737488355328) :
    Calls Tryz.prog 50 #[v] w fun e w' => ∃ v', e = .returned v' ∧ Fresh w w' [irow v' l] := by
  have h' : rowHolds TInt 1 v l.length (icells l) w F := h
  obtain ⟨a, cap, rfl, hc, hm⟩ := h'.form
  have H := Lib.hid h'
  clear h h'
  have hs : Sep w w [] := Sep.start w
  have e1 := fun (w : World) (a : Option Addr) (n c : Nat) => Lib.run_eql_slice_nil (P := Tryz.prog) w 31 TInt a n c 0 0 Tryz.underlying31
  obtain ⟨i0, hi, hz0, hz1, hz2⟩ := info_parts infoInt
  have hones : ∀ u ∈ icells l, u.oneCell' = true := by intro u hu; obtain ⟨x, _, rfl⟩ := List.mem_map.1 hu; rfl
  cases a with
  | none =>
    have hl0 : l = [] := by
      rcases H.out.2 with ⟨h, _⟩ | ⟨g, _, _, h, _⟩
      · exact List.length_eq_zero_iff.1 h
      · cases h
    subst hl0
    go_enter Tryz.func50, Tryz.ntmps50
    go_wp2
    go_ret
    exact ⟨_, rfl, hs.nilRow _ _ _⟩
  | some a =>
    have hb1 : 0 + l.length ≤ maxLen := by rw [Nat.zero_add]; exact Nat.le_trans hc hm
    have hb2 : (0 + l.length) * 8 ≤ 140737488355328 := by rw [Nat.zero_add]; exact hl
    go_enter Tryz.func50, Tryz.ntmps50
    go_wp2_with (at_builtin; go_loud (refine wpList_app rfl _ _ 31 rfl Tryz.underlying31 hi hz0 hz1 hz2 rfl (by decide) rfl ((hs.alloc _).nilRow _ _ _) _ _ _ (icells l) rfl (rowHolds.src (Res.alloc (r := irow _ l) H.out _)) hones hb1 hb2 ?_; intro v' w' h'))
    go_ret
    refine ⟨_, rfl, ?_⟩
    show Sep w w' [irow v' l]
    simpa [irow] using h'
set_option maxRecDepth 100000 in
set_option maxHeartbeats 1000000 in
theorem cloneAttrs (v : Value) (l : List Attr) (w : World) (F : Nat → Prop) (h : (arow v l).holds w F) (hl : l.length * 32 ≤ 140737488355328) :
    Calls Tryz.prog 33 #[v] w fun e w' => ∃ v', e = .returned v' ∧ Fresh w w' [arow v' l] := by
  have h' : rowHolds TAttr 2 v l.length (acells l) w F := h
  obtain ⟨a, cap, rfl, hc, hm⟩ := h'.form
  have H := Lib.hid h'
  clear h h'
  have hs : Sep w w [] := Sep.start w
  have e1 := fun (w : World) (a : Option Addr) (n c : Nat) => Lib.run_eql_slice_nil (P := Tryz.prog) w 30 TAttr a n c 0 0 Tryz.underlying30
  obtain ⟨i0, hi, hz0, hz1, hz2⟩ := info_parts infoAttr
  have hones : ∀ u ∈ acells l, u.oneCell' = true := by intro u hu; obtain ⟨x, _, hx⟩ := List.mem_flatMap.1 hu; simp at hx; rcases hx with rfl | rfl <;> rfl
  cases a with
  | none =>
    have hl0 : l = [] := by
      rcases H.out.2 with ⟨h, _⟩ | ⟨g, _, _, h, _⟩
      · exact List.length_eq_zero_iff.1 h
      · cases h
    subst hl0
    go_enter Tryz.func33, Tryz.ntmps33
    go_wp2
    go_ret
    exact ⟨_, rfl, hs.nilRow _ _ _⟩
  | some a =>
    have hb1 : 0 + l.length ≤ maxLen := by rw [Nat.zero_add]; exact Nat.le_trans hc hm
    have hb2 : (0 + l.length) * 32 ≤ 140737488355328 := by rw [Nat.zero_add]; exact hl
    go_enter Tryz.func33, Tryz.ntmps33
    go_wp2_with (at_builtin; go_loud (refine wpList_app rfl _ _ 30 rfl Tryz.underlying30 hi hz0 hz1 hz2 rfl (by decide) rfl ((hs.alloc _).nilRow _ _ _) _ _ _ (acells l) rfl (rowHolds.src (Res.alloc (r := arow _ l) H.out _)) hones hb1 hb2 ?_; intro v' w' h'))
    go_ret
    refine ⟨_, rfl, ?_⟩
    show Sep w w' [arow v' l]
    simpa [arow] using h'

def lenOf : Value → Nat
  | .slice _ n _ => n
  | _ => 0
theorem src_new (w : World) (u : Value) (e : Nat) : Src (w.alloc (.cells #[u] e)) 1 (some ⟨w.heap.size, 0, none⟩) 1 [u] :=
  ⟨rfl, fun _ => ⟨_, rfl, World.news_of_block (cs := #[u]) (t := e) (fr := (0, 0)) (heap_alloc_new w _)⟩⟩
theorem irow_len {W w : World} {v : Value} {l : List Int} {rs : List Res} (h : Sep W w (irow v l :: rs)) : lenOf v = l.length := by
  obtain ⟨G, hG⟩ := h.head
  obtain ⟨a, cap, rfl, _⟩ := rowHolds.form hG
  rfl
theorem icells_snoc (l : List Int) (x : Int) : icells (l ++ [x]) = icells l ++ [int x] := by simp [icells, int]

set_option maxRecDepth 100000 in
set_option maxHeartbeats 1000000 in
theorem kids_any {p B cap n : Nat} {lim : Int} {R : Int → RNd} {av gv : Nat → Value} {Fa Fg : Nat → Nat → Prop} {w : World} (hC : DocC p B cap n lim R av gv Fa Fg w) (i : Int) (hi : 0 ≤ i) (hi' : i < n) (l : List Int)
    (hf : From n R (R i).first l) (hl : l.length ≤ 1000000) :
    Calls Tryz.prog 34 #[ptr p, int i] w fun e w' => ∃ v, e = .returned v ∧ Fresh w w' [irow v l] := by
  obtain ⟨i, rfl⟩ := Int.eq_ofNat_of_zero_le hi
  replace hi' : i < n := by omega
  have h0 := hC.cell0
  have u13 := hC.cell hi' (k := 13) (by omega) rfl
  have hpw : p < w.heap.size := (docR p B n lim R).lt ⟨cap, av, gv, Fa, Fg, hC, fun _ => Iff.rfl⟩ (.inl rfl)
  have hBw : B < w.heap.size := (docR p B n lim R).lt ⟨cap, av, gv, Fa, Fg, hC, fun _ => Iff.rfl⟩ (.inr (.inl rfl))
  have HF := Lib.hid hf
  obtain ⟨i0, hi0, hz0, hz1, hz2⟩ := info_parts infoInt
  clear hf
  go_enter Tryz.func34, Tryz.ntmps34
  go_wp2
  go_loopw [5, 6] (fun v k wr => ∃ done rest, done ++ rest = l ∧ (∃ x, k = int x ∧ From n R x rest) ∧ Sep w wr [irow v done])
    (fun v _ _ => l.length - lenOf v)
  case atStart => exact ⟨[], l, rfl, ⟨_, rfl, HF.out⟩, (Sep.start w).nilRow _ _ _⟩
  case round =>
    obtain ⟨done, rest, hdr, ⟨x, rfl, hfr⟩, hS⟩ := hrel
    have HS := Lib.hid hS
    have HD := Lib.hid hdr
    have hb := hS.below
    cases rest with
    | nil =>
      obtain rfl : x = -1 := hfr
      clear hS hdr
      go_wp2
      go_ret
      rw [List.append_nil] at HD
      rw [HD.out] at HS
      exact ⟨_, rfl, HS.out⟩
    | cons k t =>
      obtain ⟨rfl, hk0, hk1, hft⟩ := hfr
      obtain ⟨k, rfl, hk⟩ := icast hk0 hk1
      have u15 := hC.cell hk (k := 15) (by omega) rfl
      have ek : ((k : Int) != -1) = true := by simp
      have hl1 : done.length + 1 ≤ l.length := by rw [← hdr]; simp
      have hb1 : done.length + 1 ≤ maxLen := by unfold maxLen; omega
      have hb2 : (done.length + 1) * 8 ≤ 140737488355328 := by omega
      have hn1 : ∀ u ∈ [int (k : Int)], u.oneCell' = true := by intro u hu; rw [List.mem_singleton.1 hu]; rfl
      have hlen := irow_len hS
      have HL := Lib.hid hlen
      have HFT := Lib.hid hft
      clear hS hdr hft hC hlen
      go_wp2_with (at_builtin; refine wpList_app rfl _ _ 31 rfl Tryz.underlying31 hi0 hz0 hz1 hz2 rfl (by decide) rfl (HS.out.alloc _) _ _ _ [int k] rfl (src_new _ _ _) hn1 hb1 hb2 ?_; intro v' w' h'; have hb' := h'.below; have c0 := (hb'.cell (p := ⟨p, 0, none⟩) hpw).trans h0; have c15 := (hb'.cell (p := ⟨B, k * 19 + 15, none⟩) hBw).trans u15; have H' := Lib.hid h'; clear h')
      go_roundw
      case rel => exact ⟨done ++ [(k : Int)], t, by rw [← HD.out]; simp, ⟨_, rfl, HFT.out⟩, by simpa [irow, icells_snoc] using H'.out⟩
      case measure =>
        have := irow_len (l := done ++ [(k : Int)]) (by simpa [irow, icells_snoc] using H'.out)
        rw [HL.out, this]; simp; omega
end Go.Proofs.YtgdmaikjaopddaaGreatDoor

/- What a node is: Node, and the small questions ahead of it. -/
namespace Go.Proofs.YtgdmaikjaopddaaGreatDoor
open Go.RowKit

section
variable {W w : World} {rs : List Res} {p B cap n : Nat} {lim : Int} {R : Int → RNd} {av gv : Nat → Value} {Fa Fg : Nat → Nat → Prop}

set_option maxRecDepth 100000 in
theorem lacks_no (hC : DocC p B cap n lim R av gv Fa Fg w) (i : Int) (hi : 0 ≤ i) (hi' : i < n) :
    Calls Tryz.prog 32 #[ptr p, int i] w fun e w' => e = .returned (.bool false) ∧ w = w' := by
  have h0 := hC.cell0
  have t1 : decide (i < 0) = false := by simp; omega
  have t2 : decide (i ≥ (n : Int)) = false := by simp; omega
  clear hC
  go_enter Tryz.func32, Tryz.ntmps32
  go_wp2
  go_ret
  exact ⟨rfl, rfl⟩
set_option maxRecDepth 100000 in
theorem lacks_yes (hC : DocC p B cap n lim R av gv Fa Fg w) (i : Int) (hi : i < 0 ∨ n ≤ i) :
    Calls Tryz.prog 32 #[ptr p, int i] w fun e w' => e = .returned (.bool true) ∧ w = w' := by
  have h0 := hC.cell0
  clear hC
  rcases hi with hi | hi
  · have t1 : decide (i < 0) = true := by simp; omega
    go_enter Tryz.func32, Tryz.ntmps32
    go_wp2
    go_ret
    exact ⟨rfl, rfl⟩
  · have t1 : decide (i < 0) = false := by simp; omega
    have t2 : decide (i ≥ (n : Int)) = true := by simp; omega
    go_enter Tryz.func32, Tryz.ntmps32
    go_wp2
    go_ret
    exact ⟨rfl, rfl⟩

/-- an api.Node -/
def nodeVal (x : RNd) (av kv : Value) : Value :=
  .agg #[.int .u8 x.kind, .string x.name, .string x.data, av, int x.up, kv, int x.shadow, int x.host, int x.own, .bool x.fl.closed, .bool x.fl.manual, .bool x.fl.delegates, .bool x.fl.serial, .bool x.fl.clonable]
def noNode : Value := .agg #[.int .u8 0, .string .empty, .string .empty, .slice none 0 0, int 0, .slice none 0 0, int 0, int 0, int 0, .bool false, .bool false, .bool false, .bool false, .bool false]

def isRow (v : Value) : Prop := ∃ A n c, v = .slice A n c
theorem irow_form {w w' : World} {v : Value} {l : List Int} (h : Fresh w w' [irow v l]) : isRow v := by
  obtain ⟨G, hG⟩ := Sep.head (Fresh.sep h)
  obtain ⟨a, cap, h, _⟩ := rowHolds.form hG
  exact ⟨a, _, cap, h⟩
theorem arow_form {w w' : World} {v : Value} {l : List Attr} (h : Fresh w w' [arow v l]) : isRow v := by
  obtain ⟨G, hG⟩ := Sep.head (Fresh.sep h)
  obtain ⟨a, cap, h, _⟩ := rowHolds.form hG
  exact ⟨a, _, cap, h⟩

theorem box14_cell {w : World} {g j : Nat} (h : boxAt w g 14) (hj : j < 14) : w.cell? ⟨g, j, none⟩ = some (got w g j) := h.cell hj
theorem box14_frozen {w : World} {g j : Nat} (h : boxAt w g 14) : w.frozen? ⟨g, j, none⟩ = false := h.frozen j
theorem box14_setCell {w : World} {g j : Nat} {v : Value} (h : boxAt w g 14) : boxAt (w.setCell ⟨g, j, none⟩ v) g 14 := h.setCell j v
theorem got14_set {w : World} {g j : Nat} {v : Value} (h : boxAt w g 14) (hj : j < 14) : got (w.setCell ⟨g, j, none⟩ v) g j = v := got_set h hj v
theorem got14_set_ne {w : World} {g j k : Nat} {v : Value} (h : boxAt w g 14) (hjk : j ≠ k) : got (w.setCell ⟨g, k, none⟩ v) g j = got w g j := got_set_ne h hjk v
theorem nodeS {w0 w' : World} {g i : Nat} (hC : DocC p B cap n lim R av gv Fa Fg w') (hi : i < n) (h : Beside w0 g 14 w') : Only (fun k => k = g) w0 w' ∧ w'.cell? ⟨p, 0, none⟩ = some (.slice (some ⟨B, 0, none⟩) n cap) ∧ w'.cell? ⟨B, i * 19, none⟩ = some (.int .u8 (R i).kind) ∧ w'.cell? ⟨B, i * 19 + 1, none⟩ = some (.string (R i).name) ∧ w'.cell? ⟨B, i * 19 + 2, none⟩ = some (.string (R i).data) ∧ w'.cell? ⟨B, i * 19 + 3, none⟩ = some (av i) ∧ w'.cell? ⟨B, i * 19 + 4, none⟩ = some (.bool (R i).fl.closed) ∧ w'.cell? ⟨B, i * 19 + 5, none⟩ = some (.bool (R i).fl.manual) ∧ w'.cell? ⟨B, i * 19 + 6, none⟩ = some (.bool (R i).fl.delegates) ∧ w'.cell? ⟨B, i * 19 + 7, none⟩ = some (.bool (R i).fl.serial) ∧ w'.cell? ⟨B, i * 19 + 8, none⟩ = some (.bool (R i).fl.clonable) ∧ w'.cell? ⟨B, i * 19 + 9, none⟩ = some (int (R i).up) ∧ w'.cell? ⟨B, i * 19 + 10, none⟩ = some (int (R i).shadow) ∧ w'.cell? ⟨B, i * 19 + 11, none⟩ = some (int (R i).host) ∧ w'.cell? ⟨B, i * 19 + 12, none⟩ = some (int (R i).own) ∧ boxAt w' g 14 :=
  ⟨h.1, hC.cell0, hC.cell hi (k := 0) (by omega) rfl, hC.cell hi (k := 1) (by omega) rfl, hC.cell hi (k := 2) (by omega) rfl, hC.cell hi (k := 3) (by omega) rfl, hC.cell hi (k := 4) (by omega) rfl, hC.cell hi (k := 5) (by omega) rfl, hC.cell hi (k := 6) (by omega) rfl, hC.cell hi (k := 7) (by omega) rfl, hC.cell hi (k := 8) (by omega) rfl, hC.cell hi (k := 9) (by omega) rfl, hC.cell hi (k := 10) (by omega) rfl, hC.cell hi (k := 11) (by omega) rfl, hC.cell hi (k := 12) (by omega) rfl, h.2.2⟩
attribute [local go_sem] box14_cell box14_frozen box14_setCell in
set_option maxRecDepth 100000 in
set_option maxHeartbeats 4000000 in
theorem node_yes (hC : DocC p B cap n lim R av gv Fa Fg w) (i : Int) (hi : 0 ≤ i) (hi' : i < n) (l : List Int)
    (hf : From n R (R i).first l) (hl : l.length ≤ 1000000) (hla : (R i).attrs.length ≤ 1000000) :
    Calls Tryz.prog 12 #[ptr p, int i] w fun e w' => ∃ a k, e = .returned (.tuple #[nodeVal (R i) a k, .int .u16 0]) ∧ Fresh w w' [irow k l, arow a (R i).attrs] := by
  have HC0 := Lib.hid hC
  have HF := Lib.hid hf
  obtain ⟨i, rfl, hi''⟩ := icast hi hi'
  have hl32 : (R ↑i).attrs.length * 32 ≤ 140737488355328 := by omega
  clear hC hf
  go_enter Tryz.func12, Tryz.ntmps12
  go_wp2_with fail
  refine (lacks_no (HC0.out.alloc _) _ hi hi').mono ?_
  rintro e w0 ⟨rfl, hw0⟩
  have hC : DocC p B cap n lim R av gv Fa Fg w0 := hw0 ▸ HC0.out.alloc _
  have hbw : Below w.heap.size w w0 := hw0 ▸ (Below.refl _ _).alloc (Nat.le_refl _) _
  have hg : w0.heap[w.heap.size]? = some (.cells #[.int .u8 0, .string .empty, .string .empty, .slice none 0 0, int 0, .slice none 0 0, int 0, int 0, int 0, .bool false, .bool false, .bool false, .bool false, .bool false] 35 (0, 0)) := by rw [← hw0]; exact heap_alloc_new w _
  have hgl : w.heap.size < w0.heap.size := by rw [← hw0]; simp
  clear hw0
  generalize hG : w.heap.size = g at hg hgl hbw ⊢
  have HG := Lib.hid hG
  clear hG
  have HC := Lib.hid hC
  have HA := Lib.hid (hC.attrs i hi'')
  have h0 := hC.cell0
  have hpw := hC.pw
  have hBw := hC.Bw
  have u0 : w0.cell? ⟨B, i * 19, none⟩ = _ := hC.cell hi'' (k := 0) (by omega) rfl
  have u1 := hC.cell hi'' (k := 1) (by omega) rfl
  have u2 := hC.cell hi'' (k := 2) (by omega) rfl
  have u3 := hC.cell hi'' (k := 3) (by omega) rfl
  have u4 := hC.cell hi'' (k := 4) (by omega) rfl
  have u5 := hC.cell hi'' (k := 5) (by omega) rfl
  have u6 := hC.cell hi'' (k := 6) (by omega) rfl
  have u7 := hC.cell hi'' (k := 7) (by omega) rfl
  have u8 := hC.cell hi'' (k := 8) (by omega) rfl
  have u9 := hC.cell hi'' (k := 9) (by omega) rfl
  have u10 := hC.cell hi'' (k := 10) (by omega) rfl
  have u11 := hC.cell hi'' (k := 11) (by omega) rfl
  have u12 := hC.cell hi'' (k := 12) (by omega) rfl
  have hbx : boxAt w0 g 14 := ⟨_, _, hg, rfl⟩
  have hdoc : ∀ w', Beside w0 g 14 w' → DocC p B cap n lim R av gv Fa Fg w' := fun w' h => hC.only h.1 fun k _ hk e => by
    have := HC0.out.lt hk
    rw [HG.out] at this; omega
  have Hdoc := Lib.hid hdoc
  clear hC hg hdoc hpw hBw
  have hbw2 := Lib.hid hbw
  clear hbw
  have Hbx := Lib.hid (Beside.drew hbx)
  go_wp2_with fail
  clear hbx
  go_region_held3 (fun w' => Only (fun k => k = g) w0 w' ∧ w'.cell? ⟨p, 0, none⟩ = some (.slice (some ⟨B, 0, none⟩) n cap) ∧ w'.cell? ⟨B, i * 19, none⟩ = some (.int .u8 (R i).kind) ∧ w'.cell? ⟨B, i * 19 + 1, none⟩ = some (.string (R i).name) ∧ w'.cell? ⟨B, i * 19 + 2, none⟩ = some (.string (R i).data) ∧ w'.cell? ⟨B, i * 19 + 3, none⟩ = some (av i) ∧ w'.cell? ⟨B, i * 19 + 4, none⟩ = some (.bool (R i).fl.closed) ∧ w'.cell? ⟨B, i * 19 + 5, none⟩ = some (.bool (R i).fl.manual) ∧ w'.cell? ⟨B, i * 19 + 6, none⟩ = some (.bool (R i).fl.delegates) ∧ w'.cell? ⟨B, i * 19 + 7, none⟩ = some (.bool (R i).fl.serial) ∧ w'.cell? ⟨B, i * 19 + 8, none⟩ = some (.bool (R i).fl.clonable) ∧ w'.cell? ⟨B, i * 19 + 9, none⟩ = some (int (R i).up) ∧ w'.cell? ⟨B, i * 19 + 10, none⟩ = some (int (R i).shadow) ∧ w'.cell? ⟨B, i * 19 + 11, none⟩ = some (int (R i).host) ∧ w'.cell? ⟨B, i * 19 + 12, none⟩ = some (int (R i).own) ∧ boxAt w' g 14)
    (first
      | with_reducible exact nodeS (Hdoc.out _ Hbx.out) hi'' Hbx.out
      | with_reducible exact nodeS (Hdoc.out _ (Hbs.out.fresh hfk)) hi'' (Hbs.out.fresh hfk)
      | with_reducible exact nodeS (Hdoc.out _ (Hbx.out.fresh hfa)) hi'' (Hbx.out.fresh hfa)
      | with_reducible exact nodeS (Hdoc.out _ (((((((((((((((Hbs.out.fresh hfk).setCell 0 _).setCell 1 _).setCell 2 _).setCell 3 _).setCell 4 _).setCell 5 _).setCell 6 _).setCell 7 _).setCell 8 _).setCell 9 _).setCell 10 _).setCell 11 _).setCell 12 _).setCell 13 _)) hi'' (((((((((((((((Hbs.out.fresh hfk).setCell 0 _).setCell 1 _).setCell 2 _).setCell 3 _).setCell 4 _).setCell 5 _).setCell 6 _).setCell 7 _).setCell 8 _).setCell 9 _).setCell 10 _).setCell 11 _).setCell 12 _).setCell 13 _))
    ((first
      | (go_at_call 33; refine (cloneAttrs _ _ _ _ ((Hdoc.out _ Hbx.out).attrs i hi'') hl32).mono ?_; rintro e w2 ⟨va, rfl, hfa⟩; obtain ⟨A1, n1, c1, rfl⟩ := arow_form hfa; have Hbs := Lib.hid (Hbx.out.fresh hfa))
      | (go_at_call 34; refine (kids_any (Hdoc.out _ Hbs.out) _ hi hi' l HF.out hl).mono ?_; rintro e w3 ⟨vk, rfl, hfk⟩; obtain ⟨A2, n2, c2, rfl⟩ := irow_form hfk)))
  have hb3 := (Hbs.out.fresh hfk).2.2
  clear HA HF
  go_wp2
  refine bodyPost_ret (v := .tuple #[nodeVal (R ↑i) (.slice A1 n1 c1) (.slice A2 n2 c2), .int .u16 0]) ?_ rfl ?_
  · simp [results, Tryz.results12, go_sem, nodeVal, hb3, got14_set]
  · refine ⟨_, _, rfl, ?_⟩
    have hf := Fresh.trans hfa hfk
    refine Fresh.boxed (F := fun k => k = g) (w0 := w0) (by rw [HG.out]; exact hbw2.out) (fun k hk => ⟨by rw [HG.out]; omega, by rw [hk]; exact hgl⟩) (Fresh.trans (Fresh.same (Below.refl _ _).drew) hf) ?_
    exact (((((((((((((((Only.refl (fun k => k = g) w3).setCell (p := ⟨g, 0, none⟩) (.inl rfl) _).setCell (p := ⟨g, 1, none⟩) (.inl rfl) _).setCell (p := ⟨g, 2, none⟩) (.inl rfl) _).setCell (p := ⟨g, 3, none⟩) (.inl rfl) _).setCell (p := ⟨g, 4, none⟩) (.inl rfl) _).setCell (p := ⟨g, 5, none⟩) (.inl rfl) _).setCell (p := ⟨g, 6, none⟩) (.inl rfl) _).setCell (p := ⟨g, 7, none⟩) (.inl rfl) _).setCell (p := ⟨g, 8, none⟩) (.inl rfl) _).setCell (p := ⟨g, 9, none⟩) (.inl rfl) _).setCell (p := ⟨g, 10, none⟩) (.inl rfl) _).setCell (p := ⟨g, 11, none⟩) (.inl rfl) _).setCell (p := ⟨g, 12, none⟩) (.inl rfl) _).setCell (p := ⟨g, 13, none⟩) (.inl rfl) _)
end
end Go.Proofs.YtgdmaikjaopddaaGreatDoor
