/- Root (a shadow root is given), and package shadow: Attach, Of, Open. -/
import Derived.Test.YtehjhigaebpfkaaDoorHosts
import Derived.Test.YtehjhigaebpfkaaDoorPlain
namespace Go.Proofs.YtehjhigaebpfkaaDoor
open Go.RowKit

namespace RNd
theorem setShadow_cells (v : Int) (x : RNd) (a g : Value) : ncell (x.setShadow v) a g = (ncell x a g).set 10 (int v) := rfl
end RNd

noncomputable def Doc.rootE (A : Doc) (h : Int) : Int :=
  if A.In h then (if (A.nd h).kind = 1 then (if (A.nd h).shadow = -1 then (if (A.n : Int) + 1 ≤ A.lim then 0 else 3) else 101) else 100) else 80
def Doc.rooted (A : Doc) (h : Int) (fl : Fl) : Doc := ((A.add (newNd 5 .empty .empty [] fl)).set h (.setShadow A.n)).set A.n (.setHost h)

section
variable {A : Doc} {R : Int → RNd} {h : Int} {fl : Fl}
theorem rooted_n : (A.rooted h fl).n = A.n + 1 := rfl
theorem rooted_lim : (A.rooted h fl).lim = A.lim := rfl
theorem rooted_nd (hh : h ≠ A.n) (j : Int) : (A.rooted h fl).nd j = if j = A.n then (newNd 5 .empty .empty [] fl).setHost h else if j = h then (A.nd j).setShadow A.n else A.nd j := by
  unfold Doc.rooted
  simp only [Doc.set_nd, Doc.add]
  by_cases h1 : j = A.n
  · rw [if_pos h1, if_pos h1, if_pos h1, if_neg (fun e => hh (e.symm.trans h1))]
  · rw [if_neg h1, if_neg h1, if_neg h1]
theorem WF.rooted (hw : WF A) (hi : A.In h) (hl : (A.n : Int) + 1 ≤ A.lim) : WF (A.rooted h fl) := by
  have w1 := hw.add (by omega) 5 .empty .empty [] fl (by simp)
  have hnew : (A.add (newNd 5 .empty .empty [] fl)).nd A.n = newNd 5 .empty .empty [] fl := add_nd_new _
  refine w1.adopt (add_in.2 (.inl hi)) (by have := hi.2; omega) _ (fun _ => ⟨rfl, rfl, rfl, rfl, rfl, rfl⟩) (fun _ _ => .inr ⟨by show (0 : Int) ≤ A.n; omega, by show (A.n : Int) < ((A.n + 1 : Nat) : Int); omega⟩) (fun _ h => h) (by rw [hnew]; rfl) (by rw [hnew]; rfl) fun j hj => ?_
  rcases add_in.1 hj with hj | hj
  · rw [add_nd_old hj]
    intro e
    have := hw.host j hj
    rw [e] at this
    rcases this with h | h <;> omega
  · rw [hj, hnew]; show (-1 : Int) ≠ _; omega
theorem Link.rooted (hl : Link A R) (hw : WF A) : Link (A.rooted h fl) (upd (upd (addR R A.n (newR 5 .empty .empty [] fl)) h (.setShadow A.n)) A.n (.setHost h)) := by
  have l1 := hl.add hw 5 .empty .empty [] fl
  have l2 := l1.set (i := h) (.setShadow A.n) (.setShadow A.n) (fun x y s => ⟨s.kind, s.name, s.data, s.attrs, s.fl, s.up, rfl, s.host, s.own, s.slot, s.given⟩) (fun _ => rfl) (fun _ => rfl) (fun _ => ⟨rfl, rfl, rfl, rfl⟩)
  exact l2.set (i := (A.n : Int)) (.setHost h) (.setHost h) (fun x y s => ⟨s.kind, s.name, s.data, s.attrs, s.fl, s.up, s.shadow, rfl, s.own, s.slot, s.given⟩) (fun _ => rfl) (fun _ => rfl) (fun _ => ⟨rfl, rfl, rfl, rfl⟩)
end

def flVal (fl : Fl) : Value := .agg #[.bool fl.closed, .bool fl.manual, .bool fl.delegates, .bool fl.serial, .bool fl.clonable]

section
variable {W w : World} {rs : List Res} {p B n : Nat} {lim : Int} {A : Doc} {R : Int → RNd}

set_option maxRecDepth 100000 in
theorem node_no (h : Sep W w (docA p A :: rs)) (i : Int) (hi : ¬ A.In i) :
    Calls Tryd.prog 16 #[ptr p, int i] w fun e w' => e = .returned (.tuple #[noNode, .int .u16 80]) ∧ Sep W w' (docA p A :: rs) := by
  have H := Lib.hid (h.alloc (.cells #[.int .u8 0, .string .empty, .string .empty, .slice none 0 0, int 0, .slice none 0 0, int 0, int 0, int 0, .bool false, .bool false, .bool false, .bool false, .bool false] 33))
  clear h
  go_enter Tryd.func16, Tryd.ntmps16
  go_wp2_with fail
  refine (lacks_doc_yes H.out i hi).mono ?_
  rintro e w' ⟨rfl, rfl⟩
  go_wp2_with (refine wpList_store_new rfl 33 _ _ rfl rfl rfl nd_info rfl (by rfl) ?_)
  refine bodyPost_ret (v := .tuple #[noNode, .int .u16 80]) ?_ rfl ?_
  · exact results_cell_tmp Tryd.results16 _ _ w.heap.size 33 _ (0, 0) _ rfl (heap_alloc_new w _) Tryd.underlying33 rfl nd_info
  · exact ⟨rfl, H.out⟩

set_option maxRecDepth 100000 in
set_option maxHeartbeats 1000000 in
theorem root_core (h : Sep W w (docR p B n lim R :: rs)) (i : Nat) (hi : i < n) (hn : n ≤ 5000) (hl : (n : Int) + 1 ≤ lim) (fl : Fl) (hk : (R i).kind = 1) (hs : (R i).shadow = -1) :
    Calls Tryd.prog 30 #[ptr p, int i, flVal fl] w fun e w' => e = .returned (.tuple #[int n, .int .u16 0]) ∧ ∃ B', Sep W w' (docR p B' (n + 1) lim (upd (upd (addR R n (newR 5 .empty .empty [] fl)) i (.setShadow n)) n (.setHost i)) :: rs) := by
  have H := Lib.hid (h.alloc (.cells #[.bool fl.closed, .bool fl.manual, .bool fl.delegates, .bool fl.serial, .bool fl.clonable] 31))
  have t1 : decide ((n : Int) + 1 ≤ lim) = true := by simpa using hl
  have T1 := Lib.hid t1
  have hK := Lib.hid hk
  have hSh := Lib.hid hs
  unfold flVal
  clear h t1 hk hs
  go_enter Tryd.func30, Tryd.ntmps30
  go_wp2_with fail
  refine (lacks_sep_no H.out i (by omega) (by omega)).mono ?_
  rintro e w1 ⟨rfl, hw1⟩
  have h1 : Sep W w1 _ := hw1 ▸ H.out
  have cf : ∀ j, w1.cell? ⟨w.heap.size, j, none⟩ = _ := fun j => hw1 ▸ cell_alloc_new w #[.bool fl.closed, .bool fl.manual, .bool fl.delegates, .bool fl.serial, .bool fl.clonable] 31 j
  have c0' := cf 0
  have c1' := cf 1
  have c2' := cf 2
  have c3' := cf 3
  have c4' := cf 4
  simp only [List.getElem?_toArray, List.getElem?_cons_zero, List.getElem?_cons_succ] at c0' c1' c2' c3' c4'
  obtain ⟨cap, av, gv, Fa, Fg, hC, _⟩ := docR_step h1
  have d0 := hC.cell0
  have u0 : w1.cell? ⟨B, i * 19, none⟩ = _ := hC.cell (i := i) hi (k := 0) (by omega) rfl
  rw [hK.out] at u0
  have u10 := hC.cell (i := i) hi (k := 10) (by omega) rfl
  rw [hSh.out] at u10
  have H1 := Lib.hid h1
  clear h1 hC hw1 cf H
  go_wp2_with fail
  refine (room_sep H1.out 1 (by omega) (by omega) (by omega)).mono ?_
  rintro e w2 ⟨rfl, m, rfl⟩
  rw [T1.out]
  have e0 : (w1.drewN m).cell? ⟨w.heap.size, 0, none⟩ = some (.bool fl.closed) := c0'
  have e1 : (w1.drewN m).cell? ⟨w.heap.size, 1, none⟩ = some (.bool fl.manual) := c1'
  have e2 : (w1.drewN m).cell? ⟨w.heap.size, 2, none⟩ = some (.bool fl.delegates) := c2'
  have e3 : (w1.drewN m).cell? ⟨w.heap.size, 3, none⟩ = some (.bool fl.serial) := c3'
  have e4 : (w1.drewN m).cell? ⟨w.heap.size, 4, none⟩ = some (.bool fl.clonable) := c4'
  have H2 := Lib.hid (H1.out.drewN m)
  clear c0' c1' c2' c3' c4' u0 u10 d0 H1
  generalize w1.drewN m = w2 at *
  go_wp2_with fail
  refine (add_sep (Aa := none) (an := 0) (ac := 0) (l := []) (H2.out.nilRow _ _ _) 5 .empty .empty fl 0 0 0 0 0 0 0 0 0 (by omega)).mono ?_
  rintro e w5 ⟨rfl, ⟨B5, h5⟩, _⟩
  obtain ⟨cap, av, gv, Fa, Fg, hC, _, _, _, _, hfin⟩ := docR_step h5
  have hi1 : i < n + 1 := by omega
  have hn1 : n < n + 1 := by omega
  have h0 := hC.cell0
  have f0 := hC.frozenB
  have hpb : p ≠ B5 := hC.pb
  have fin := (hC.set (i := i) hi1 (k := 10) (by omega) (int (n : Int)) (.setShadow (n : Int)) (fun _ _ _ => rfl) (fun _ => rfl) (fun _ => rfl)).set (i := n) hn1 (k := 11) (by omega) (int i) (.setHost i) (fun _ _ _ => rfl) (fun _ => rfl) (fun _ => rfl)
  have Fin := Lib.hid (hfin _ _ (((Only.refl _ w5).setCell (.inl (.inr (.inl rfl))) _).setCell (.inl (.inr (.inl rfl))) _) fin)
  have u10 := hC.cell (i := i) hi1 (k := 10) (by omega) rfl
  have hC2 := hC.set (i := i) hi1 (k := 10) (by omega) (int (n : Int)) (.setShadow (n : Int)) (fun _ _ _ => rfl) (fun _ => rfl) (fun _ => rfl)
  have h02 := hC2.cell0
  have f02 := hC2.frozenB
  have u11 := hC2.cell (i := n) hn1 (k := 11) (by omega) rfl
  clear hC hfin h5 fin hC2 e0 e1 e2 e3 e4 H2
  go_wp2
  go_ret2
  exact ⟨rfl, B5, Fin.out⟩

theorem root_yes (h : Sep W w (docA p A :: rs)) (i : Int) (fl : Fl) (he : A.rootE i = 0) :
    Calls Tryd.prog 30 #[ptr p, int i, flVal fl] w fun e w' => e = .returned (.tuple #[int A.n, .int .u16 0]) ∧ Sep W w' (docA p (A.rooted i fl) :: rs) := by
  obtain ⟨hw, B, R, hl, hS⟩ := docA_open h
  have hn := hw.n_le
  unfold Doc.rootE at he
  split at he
  · rename_i hi
    split at he
    · rename_i hk
      split at he
      · rename_i hs
        split at he
        · rename_i hlim
          obtain ⟨j, rfl, hj⟩ := icast hi.1 hi.2
          refine (root_core hS j hj hn hlim fl ((hl.same j hi).kind.trans hk) ((hl.same j hi).shadow.trans hs)).mono ?_
          rintro e w' ⟨rfl, B', h'⟩
          exact ⟨rfl, docA_close (hw.rooted hi hlim) (hl.rooted hw) h'⟩
        · exact absurd he (by decide)
      · exact absurd he (by decide)
    · exact absurd he (by decide)
  · exact absurd he (by decide)

set_option maxRecDepth 100000 in
set_option maxHeartbeats 1000000 in
theorem root_no (h : Sep W w (docA p A :: rs)) (i : Int) (fl : Fl) (he : A.rootE i ≠ 0) :
    Calls Tryd.prog 30 #[ptr p, int i, flVal fl] w fun e w' => e = .returned (.tuple #[int 0, .int .u16 (A.rootE i)]) ∧ Sep W w' (docA p A :: rs) := by
  have H := Lib.hid (h.alloc (.cells #[.bool fl.closed, .bool fl.manual, .bool fl.delegates, .bool fl.serial, .bool fl.clonable] 31))
  have hw := (docA_open h).1
  have hn := hw.n_le
  unfold flVal
  clear h
  unfold Doc.rootE at he ⊢
  by_cases hi : A.In i
  · obtain ⟨j, rfl, hj⟩ := icast hi.1 hi.2
    rw [if_pos hi] at he ⊢
    by_cases hk : (A.nd j).kind = 1
    · rw [if_pos hk] at he ⊢
      by_cases hs : (A.nd j).shadow = -1
      · rw [if_pos hs] at he ⊢
        have hlim : ¬ (A.n : Int) + 1 ≤ A.lim := fun h => he (if_pos h)
        rw [if_neg hlim]
        have t1 : decide ((A.n : Int) + 1 ≤ A.lim) = false := by simpa using hlim
        have T1 := Lib.hid t1
        have hK := Lib.hid hk
        have hSh := Lib.hid hs
        clear he hlim t1 hk hs
        go_enter Tryd.func30, Tryd.ntmps30
        go_wp2_with fail
        refine (lacks_doc_no H.out j hi).mono ?_
        rintro e w1 ⟨rfl, hw1⟩
        have h1 : Sep W w1 (docA p A :: rs) := hw1 ▸ H.out
        obtain ⟨_, B, R, hl, hS⟩ := docA_open h1
        obtain ⟨cap, av, gv, d0, hc⟩ := cell_sep hS
        have u0 : w1.cell? ⟨B, j * 19, none⟩ = _ := hc j 0 hj (by omega) _ rfl
        rw [(hl.same j hi).kind, hK.out] at u0
        have u10 := hc j 10 hj (by omega) _ rfl
        rw [(hl.same j hi).shadow, hSh.out] at u10
        have H1 := Lib.hid h1
        have HS := Lib.hid hS
        clear h1 hS hc hl hw1 H
        go_wp2_with fail
        refine (room_sep HS.out 1 (by omega) (by omega) (by omega)).mono ?_
        rintro e w2 ⟨rfl, m, rfl⟩
        rw [T1.out]
        go_wp2
        go_ret2
        exact ⟨rfl, H1.out.drewN _⟩
      · rw [if_neg hs] at he ⊢
        have t1 : ((A.nd j).shadow != -1) = true := by simpa using hs
        have hK := Lib.hid hk
        clear he hk hs
        go_enter Tryd.func30, Tryd.ntmps30
        go_wp2_with fail
        refine (lacks_doc_no H.out j hi).mono ?_
        rintro e w1 ⟨rfl, hw1⟩
        have h1 : Sep W w1 (docA p A :: rs) := hw1 ▸ H.out
        obtain ⟨B, cap, R, av, gv, hl, d0, hc⟩ := cell_doc h1
        have u0 : w1.cell? ⟨B, j * 19, none⟩ = _ := hc j 0 hj (by omega) _ rfl
        rw [(hl.same j hi).kind, hK.out] at u0
        have u10 := hc j 10 hj (by omega) _ rfl
        rw [(hl.same j hi).shadow] at u10
        have H1 := Lib.hid h1
        clear h1 hc hl hw1 H
        go_wp2
        go_ret2
        exact ⟨rfl, H1.out⟩
    · rw [if_neg hk] at he ⊢
      have t1 : ((A.nd j).kind != 1) = true := by simpa using hk
      clear he hk
      go_enter Tryd.func30, Tryd.ntmps30
      go_wp2_with fail
      refine (lacks_doc_no H.out j hi).mono ?_
      rintro e w1 ⟨rfl, hw1⟩
      have h1 : Sep W w1 (docA p A :: rs) := hw1 ▸ H.out
      obtain ⟨B, cap, R, av, gv, hl, d0, hc⟩ := cell_doc h1
      have u0 : w1.cell? ⟨B, j * 19, none⟩ = _ := hc j 0 hj (by omega) _ rfl
      rw [(hl.same j hi).kind] at u0
      have H1 := Lib.hid h1
      clear h1 hc hl hw1 H
      go_wp2
      go_ret2
      exact ⟨rfl, H1.out⟩
  · rw [if_neg hi]
    clear he
    go_enter Tryd.func30, Tryd.ntmps30
    go_wp2_with fail
    refine (lacks_doc_yes H.out i hi).mono ?_
    rintro e w1 ⟨rfl, hw1⟩
    have H1 := Lib.hid (hw1 ▸ H.out : Sep W w1 (docA p A :: rs))
    clear hw1 H
    go_wp2
    go_ret2
    exact ⟨rfl, H1.out⟩
end
end Go.Proofs.YtehjhigaebpfkaaDoor
