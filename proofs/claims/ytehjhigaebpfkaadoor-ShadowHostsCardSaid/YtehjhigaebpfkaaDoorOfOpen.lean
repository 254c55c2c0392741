/- The root of a tree; the shadow root in which a node is; the open shadow root. -/
import Derived.Test.YtehjhigaebpfkaaDoorAttach
import Derived.Deep.LoopGhost
namespace Go.Proofs.YtehjhigaebpfkaaDoor
open Go.RowKit

section
variable {W w : World} {rs : List Res} {p : Nat} {A : Doc}

theorem Top.in {n : Nat} {i r : Int} (h : Top A n i r) : A.In i := by cases h <;> assumption
theorem Top.out {n : Nat} {i r : Int} (h : Top A n i r) : A.In r ∧ (A.nd r).up = -1 := by
  induction h with
  | here h1 h2 => exact ⟨h1, h2⟩
  | up _ _ _ ih => exact ih

set_option maxRecDepth 100000 in
set_option maxHeartbeats 1000000 in
theorem rootOf_yes (h : Sep W w (docA p A :: rs)) {n : Nat} {i r : Int} (ht : Top A n i r) :
    Calls Tryd.prog 55 #[ptr p, int i] w fun e w' => e = .returned (int r) ∧ Sep W w' (docA p A :: rs) := by
  have H := Lib.hid h
  have HT := Lib.hid ht
  clear h ht
  go_enter Tryd.func55, Tryd.ntmps55
  go_wp2_with fail
  go_loopg [1] n (fun g v wr => ∃ x : Int, v = int x ∧ Top A g x r ∧ Sep W wr (docA p A :: rs))
  case atStart => exact ⟨i, rfl, HT.out, H.out⟩
  case round =>
    obtain ⟨x, rfl, hx, hS⟩ := hrel
    have HS := Lib.hid hS
    have hin := hx.in
    clear hS
    go_wp2_with fail
    refine (node_doc HS.out x hin).mono ?_
    rintro e w1 ⟨va, vk, rfl, h1⟩
    obtain ⟨k1, kc1, rfl⟩ := h1.irow_form
    obtain ⟨a1, ac1, rfl⟩ := h1.tail.arow_form
    have hb := h1.tail.tail.blk_new (ndCells (A.nd x) (.slice a1 (A.nd x).attrs.length ac1) (.slice k1 (A.nd x).kids.length kc1)) 33
    obtain ⟨w2, hw2⟩ : ∃ w2, w2 = w1.alloc (.cells (ndCells (A.nd x) (.slice a1 (A.nd x).attrs.length ac1) (.slice k1 (A.nd x).kids.length kc1)) 33) := ⟨_, rfl⟩
    rw [← hw2] at hb
    have Hw2 := Lib.hid hw2
    have c4 := hb.box_up
    have HB := Lib.hid hb.tail
    clear h1 hb hw2 HS
    cases hx with
    | here h1 h2 =>
      rw [h2] at c4
      clear h1 h2 hin
      go_wp2_with (refine wpList_store_node rfl _ _ rfl rfl rfl rfl ?_; rw [← Hw2.out]; refine halt ?_)
      refine Halt.go ?_
      clear Hw2
      go_wp2
      go_ret
      exact ⟨rfl, HB.out⟩
    | @up m _ _ h1 h2 h3 =>
      have t1 : ((A.nd x).up == -1) = false := by simpa using h2
      have H3 := Lib.hid h3
      clear h1 h2 h3 hin
      go_wp2_with (refine wpList_store_node rfl _ _ rfl rfl rfl rfl ?_; rw [← Hw2.out]; refine halt ?_)
      refine Halt.go ?_
      clear Hw2
      go_wp2_with fail
      go_roundg m
      case measure => omega
      case rel => exact ⟨_, rfl, H3.out, HB.out⟩

set_option maxRecDepth 100000 in
set_option maxHeartbeats 1000000 in
theorem rootOf_no (h : Sep W w (docA p A :: rs)) (i : Int) (hi : ¬ A.In i) :
    Calls Tryd.prog 55 #[ptr p, int i] w fun e w' => e = .returned (int (-1)) ∧ Sep W w' (docA p A :: rs) := by
  have H := Lib.hid h
  clear h
  go_enter Tryd.func55, Tryd.ntmps55
  go_wp2_with fail
  refine wp_loop_rounds 1 ?_
  rw [rounds_succ]
  go_wp2_with fail
  refine (node_no H.out i hi).mono ?_
  rintro e w1 ⟨rfl, h1⟩
  have H1 := Lib.hid (h1.alloc (.cells noCells 33))
  clear h1 H
  go_wp2_with (refine wpList_store_new (cells := noCells) rfl 33 _ _ rfl rfl rfl nd_info rfl (by simp [noCells, Value.oneCell', Value.cells]) ?_)
  go_ret
  exact ⟨rfl, H1.out⟩

set_option maxRecDepth 100000 in
set_option maxHeartbeats 1000000 in
theorem of_yes (h : Sep W w (docA p A :: rs)) {n : Nat} {i r : Int} (ht : Top A n i r) (v : Int) (hv : v = if (A.nd r).kind = 5 then r else -1) :
    Calls Tryd.prog 29 #[ptr p, int i] w fun e w' => e = .returned (int v) ∧ Sep W w' (docA p A :: rs) := by
  have H := Lib.hid h
  have HT := Lib.hid ht
  have HV := Lib.hid hv
  have hin := ht.out.1
  clear h ht hv
  go_enter Tryd.func29, Tryd.ntmps29
  go_wp2_with fail
  refine (rootOf_yes H.out HT.out).mono ?_
  rintro e w1 ⟨rfl, h1⟩
  have H1 := Lib.hid h1
  clear h1 H
  go_wp2_with fail
  refine (node_doc H1.out r hin).mono ?_
  rintro e w3 ⟨va, vk, rfl, h1⟩
  obtain ⟨k1, kc1, rfl⟩ := h1.irow_form
  obtain ⟨a1, ac1, rfl⟩ := h1.tail.arow_form
  have hb := h1.tail.tail.blk_new (ndCells (A.nd r) (.slice a1 (A.nd r).attrs.length ac1) (.slice k1 (A.nd r).kids.length kc1)) 33
  obtain ⟨w4, hw2⟩ : ∃ w2, w2 = w3.alloc (.cells (ndCells (A.nd r) (.slice a1 (A.nd r).attrs.length ac1) (.slice k1 (A.nd r).kids.length kc1)) 33) := ⟨_, rfl⟩
  rw [← hw2] at hb
  have Hw2 := Lib.hid hw2
  have c0 := hb.box_kind
  have HB := Lib.hid hb.tail
  clear h1 hb hw2 H1
  by_cases hk : (A.nd r).kind = 5
  · rw [hk] at c0
    have hv : v = r := by rw [HV.out, if_pos hk]
    have HV2 := Lib.hid hv
    clear hv hk
    go_wp2_with (refine wpList_store_node rfl _ _ rfl rfl rfl rfl ?_; rw [← Hw2.out]; refine halt ?_)
    refine Halt.go ?_
    clear Hw2
    go_wp2
    go_ret
    exact ⟨by rw [HV2.out]; rfl, HB.out⟩
  · have t1 : ((A.nd r).kind != 5) = true := by simpa using hk
    have hv : v = -1 := by rw [HV.out, if_neg hk]
    have HV2 := Lib.hid hv
    clear hv hk
    go_wp2_with (refine wpList_store_node rfl _ _ rfl rfl rfl rfl ?_; rw [← Hw2.out]; refine halt ?_)
    refine Halt.go ?_
    clear Hw2
    go_wp2
    go_ret
    exact ⟨by rw [HV2.out]; rfl, HB.out⟩

set_option maxRecDepth 100000 in
set_option maxHeartbeats 1000000 in
theorem open_no (h : Sep W w (docA p A :: rs)) (i : Int) (hi : A.In i) (hs : ¬ A.In (A.nd i).shadow) :
    Calls Tryd.prog 36 #[ptr p, int i] w fun e w' => e = .returned (int (-1)) ∧ Sep W w' (docA p A :: rs) := by
  have H := Lib.hid h
  clear h
  go_enter Tryd.func36, Tryd.ntmps36
  go_wp2_with fail
  refine (node_doc H.out i hi).mono ?_
  rintro e w3 ⟨va, vk, rfl, h1⟩
  obtain ⟨k1, kc1, rfl⟩ := h1.irow_form
  obtain ⟨a1, ac1, rfl⟩ := h1.tail.arow_form
  have hb := h1.tail.tail.blk_new (ndCells (A.nd i) (.slice a1 (A.nd i).attrs.length ac1) (.slice k1 (A.nd i).kids.length kc1)) 33
  obtain ⟨w4, hw2⟩ : ∃ w2, w2 = w3.alloc (.cells (ndCells (A.nd i) (.slice a1 (A.nd i).attrs.length ac1) (.slice k1 (A.nd i).kids.length kc1)) 33) := ⟨_, rfl⟩
  rw [← hw2] at hb
  have Hw2 := Lib.hid hw2
  have c6 := hb.box_shadow
  have HB := Lib.hid hb.tail
  clear h1 hb hw2 H
  go_wp2_with (refine wpList_store_node rfl _ _ rfl rfl rfl rfl ?_; rw [← Hw2.out]; refine halt ?_)
  refine Halt.go ?_
  clear Hw2
  go_wp2_with fail
  refine (node_no HB.out _ hs).mono ?_
  rintro e w5 ⟨rfl, h5⟩
  have H5 := Lib.hid (h5.alloc (.cells noCells 33))
  clear h5 HB c6
  go_wp2_with (refine wpList_store_new (cells := noCells) rfl 33 _ _ rfl rfl rfl nd_info rfl (by simp [noCells, Value.oneCell', Value.cells]) ?_)
  go_ret
  exact ⟨rfl, H5.out⟩

set_option maxRecDepth 100000 in
set_option maxHeartbeats 1000000 in
theorem open_yes (h : Sep W w (docA p A :: rs)) (i s : Int) (hi : A.In i) (hs : (A.nd i).shadow = s) (hin : A.In s) (v : Int) (hv : v = if (A.nd s).fl.closed = true then -1 else s) :
    Calls Tryd.prog 36 #[ptr p, int i] w fun e w' => e = .returned (int v) ∧ Sep W w' (docA p A :: rs) := by
  have H := Lib.hid h
  have HV := Lib.hid hv
  have HSs := Lib.hid hs
  clear h hv hs
  go_enter Tryd.func36, Tryd.ntmps36
  go_wp2_with fail
  refine (node_doc H.out i hi).mono ?_
  rintro e w3 ⟨va, vk, rfl, h1⟩
  obtain ⟨k1, kc1, rfl⟩ := h1.irow_form
  obtain ⟨a1, ac1, rfl⟩ := h1.tail.arow_form
  have hb := h1.tail.tail.blk_new (ndCells (A.nd i) (.slice a1 (A.nd i).attrs.length ac1) (.slice k1 (A.nd i).kids.length kc1)) 33
  obtain ⟨w4, hw2⟩ : ∃ w2, w2 = w3.alloc (.cells (ndCells (A.nd i) (.slice a1 (A.nd i).attrs.length ac1) (.slice k1 (A.nd i).kids.length kc1)) 33) := ⟨_, rfl⟩
  rw [← hw2] at hb
  have Hw2 := Lib.hid hw2
  have c6 := hb.box_shadow
  rw [HSs.out] at c6
  have HB := Lib.hid hb.swap
  clear h1 hb hw2 H
  go_wp2_with (refine wpList_store_node rfl _ _ rfl rfl rfl rfl ?_; rw [← Hw2.out]; refine halt ?_)
  refine Halt.go ?_
  clear Hw2
  go_wp2_with fail
  refine (node_doc HB.out s hin).mono ?_
  rintro e w5 ⟨va, vk, rfl, h1⟩
  obtain ⟨k1, kc1, rfl⟩ := h1.irow_form
  obtain ⟨a1, ac1, rfl⟩ := h1.tail.arow_form
  have hb := h1.tail.tail.blk_new (ndCells (A.nd s) (.slice a1 (A.nd s).attrs.length ac1) (.slice k1 (A.nd s).kids.length kc1)) 33
  obtain ⟨w6, hw2⟩ : ∃ w2, w2 = w5.alloc (.cells (ndCells (A.nd s) (.slice a1 (A.nd s).attrs.length ac1) (.slice k1 (A.nd s).kids.length kc1)) 33) := ⟨_, rfl⟩
  rw [← hw2] at hb
  have Hw2 := Lib.hid hw2
  have c9 := hb.box_closed
  have d6 := hb.tail.swap.box_shadow
  rw [HSs.out] at d6
  have HB2 := Lib.hid hb.tail.swap.tail
  clear h1 hb hw2 HB c6
  cases hc : (A.nd s).fl.closed
  · rw [hc] at c9
    have hv : v = s := by rw [HV.out, hc]; rfl
    have HV2 := Lib.hid hv
    clear hv hc
    go_wp2_with (refine wpList_store_node rfl _ _ rfl rfl rfl rfl ?_; rw [← Hw2.out]; refine halt ?_)
    refine Halt.go ?_
    clear Hw2
    go_wp2
    go_ret
    exact ⟨by rw [HV2.out]; rfl, HB2.out⟩
  · rw [hc] at c9
    have hv : v = -1 := by rw [HV.out, hc]; rfl
    have HV2 := Lib.hid hv
    clear hv hc
    go_wp2_with (refine wpList_store_node rfl _ _ rfl rfl rfl rfl ?_; rw [← Hw2.out]; refine halt ?_)
    refine Halt.go ?_
    clear Hw2
    go_wp2
    go_ret
    exact ⟨by rw [HV2.out]; rfl, HB2.out⟩
end
end Go.Proofs.YtehjhigaebpfkaaDoor
