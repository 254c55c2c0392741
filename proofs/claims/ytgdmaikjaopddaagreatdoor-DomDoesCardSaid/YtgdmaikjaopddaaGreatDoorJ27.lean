/- The chapter's example: known answers true, wherever it is called. -/
import Derived.Test.YtgdmaikjaopddaaGreatDoorJ26
import Derived.Test.YtgdmaikjaopddaaGreatDoorJ20
import Derived.Test.YtgdmaikjaopddaaGreatDoorJ09
namespace Go.Proofs.YtgdmaikjaopddaaGreatDoor
open Go.RowKit

section
variable {A : Doc} {up i b : Int}
theorem Doc.fits_of (hk : takesB (A.nd up).kind (A.nd up).name = true) (hi : i ≠ 0) (hh : (A.nd i).host = -1) (hc : ¬ Climb A.par up i) : A.fitsB up i = true := by
  unfold Doc.fitsB
  simp only [hk, Bool.true_and, Bool.and_eq_true, bne_iff_ne, ne_eq, beq_iff_eq, Bool.not_eq_true']
  exact ⟨⟨hi, hh⟩, climbB_not.2 hc⟩
theorem Doc.insertE_ok (hu : A.In up) (hi : A.In i) (hb : b = -1 ∨ A.In b) (hf : A.fitsB up i = true) (hbu : b = -1 ∨ (A.nd b).up = up) : A.insertE up i b = 0 := by
  unfold Doc.insertE; rw [if_pos ⟨hu, hi, hb⟩, if_pos ⟨hf, hbu⟩]
theorem Doc.insertE_81 (hu : A.In up) (hi : A.In i) (hb : b = -1 ∨ A.In b) (hf : A.fitsB up i = false) : A.insertE up i b = 81 := by
  unfold Doc.insertE; rw [if_pos ⟨hu, hi, hb⟩, if_neg (fun h => by rw [hf] at h; exact absurd h.1 (by decide))]
theorem Doc.insertA_put (h : A.insertE up i b = 0) (hk : (A.nd i).kind ≠ 4) (hb : b ≠ i) : A.insertA up i b = A.put up i b := by
  unfold Doc.insertA; rw [if_pos h, if_neg hk, if_neg hb]
theorem Doc.insertA_end (h : A.insertE up i (-1) = 0) (hi : A.In i) (hk : (A.nd i).kind ≠ 4) : A.insertA up i (-1) = A.put up i (-1) := Doc.insertA_put h hk (Ne.symm (neg_of_in hi))
theorem Doc.fits_not (hk : takesB (A.nd up).kind (A.nd up).name = false) : A.fitsB up i = false := by unfold Doc.fitsB; rw [hk]; rfl
theorem not_climb_top {f : Int → Int} {i j : Int} (h : f i = -1) (hne : i ≠ j) : ¬ Climb f i j := fun c => ((climb_step hne).1 c).1 h
theorem not_climb_step {f : Int → Int} {i j : Int} (hne : i ≠ j) (h : ¬ Climb f (f i) j) : ¬ Climb f i j := fun c => h ((climb_step hne).1 c).2
end

def divS : ByteArray := ⟨#[100, 105, 118]⟩
def xS : ByteArray := ⟨#[120]⟩
/-- a node that is made of its kind, its name and its data -/
def arg (k : Int) (nm da : ByteArray) : Arg := ⟨k, nm, da, 0, none, 0, 0, 0, 0, 0, noFl⟩
theorem div_may : mayB 1 divS .empty = true := by kernel_rfl
theorem x_may : mayB 2 .empty xS = true := by kernel_rfl
theorem div_takes : takesB 1 divS = true := by kernel_rfl

def K0 : Doc := Doc.new 9
def K1 : Doc := K0.made 1 divS .empty []
def K2 : Doc := K1.made 2 .empty xS []
def K3 : Doc := K2.put 0 1 (-1)
def K4 : Doc := K3.put 1 2 (-1)
theorem k0_n : (K0.n : Int) = 1 := by kernel_rfl
theorem k1_n : (K1.n : Int) = 2 := by kernel_rfl
theorem k4_n : (K4.n : Int) = 3 := by kernel_rfl
theorem k2_ins : K2.insertE 0 1 (-1) = 0 :=
  Doc.insertE_ok (by decide +kernel) (by decide +kernel) (.inl rfl) (Doc.fits_of (by kernel_rfl) (by decide +kernel) (by kernel_rfl) (not_climb_top (by kernel_rfl) (by decide +kernel))) (.inl rfl)
theorem k3_ins : K3.insertE 1 2 (-1) = 0 :=
  Doc.insertE_ok (by decide +kernel) (by decide +kernel) (.inl rfl) (Doc.fits_of (by kernel_rfl) (by decide +kernel) (by kernel_rfl) (not_climb_step (by decide +kernel) (not_climb_top (by kernel_rfl) (by decide +kernel)))) (.inl rfl)
theorem k4_ins : K4.insertE 2 1 (-1) = 81 := Doc.insertE_81 (by decide +kernel) (by decide +kernel) (.inl rfl) (Doc.fits_not (by kernel_rfl))
theorem k2_insA : K2.insertA 0 1 (-1) = K3 := Doc.insertA_end k2_ins (by decide +kernel) (by decide +kernel)
theorem k3_insA : K3.insertA 1 2 (-1) = K4 := Doc.insertA_end k3_ins (by decide +kernel) (by decide +kernel)
theorem k4_insA : K4.insertA 2 1 (-1) = K4 := by unfold Doc.insertA; rw [if_neg (by rw [k4_ins]; decide)]
theorem k4_kids : (K4.nd 1).kids = [2] := by kernel_rfl
theorem k4_up : (K4.nd 1).up = 0 := by kernel_rfl
theorem k4_sh : (K4.nd 1).shadow = -1 := by kernel_rfl

section
variable {W w : World} {rs : List Res} {p : Nat}
set_option maxRecDepth 100000 in
set_option maxHeartbeats 2000000 in
theorem known_any (h : Sep W w rs) (hT : Laid W) : Calls Tryz.prog 9 #[] w fun e w' => e = .returned (.bool true) ∧ Sep W w' rs := by
  have H := Lib.hid h
  have HT := Lib.hid hT
  clear h hT
  go_enter Tryz.func9, Tryz.ntmps9
  go_wp2_with fail
  refine (New_yes H.out 9 (by omega) (by omega)).mono ?_
  rintro e w1 ⟨p, rfl, h1⟩
  have H1 := Lib.hid (show Sep W w1 (docA p K0 :: rs) from h1)
  clear h1 H
  go_wp2_with fail
  refine (make_yes H1.out HT.out (arg 1 divS .empty) (by decide) div_may (by decide +kernel)).mono ?_
  rintro e w2 ⟨rfl, h2⟩
  rw [k0_n]
  have H2 := Lib.hid (show Sep W w2 (docA p K1 :: rs) from h2)
  clear h2 H1
  go_wp2_with fail
  refine (make_yes H2.out HT.out (arg 2 .empty xS) (by decide) x_may (by decide +kernel)).mono ?_
  rintro e w3 ⟨rfl, h3⟩
  rw [k1_n]
  have H3 := Lib.hid (show Sep W w3 (docA p K2 :: rs) from h3)
  clear h3 H2
  go_wp2_with fail
  refine (insert_doc H3.out HT.out 0 1 (-1)).mono ?_
  rintro e w4 ⟨rfl, h4⟩
  rw [k2_ins]
  rw [k2_insA] at h4
  have H4 := Lib.hid h4
  clear h4 H3
  go_wp2_with fail
  refine (insert_doc H4.out HT.out 1 2 (-1)).mono ?_
  rintro e w5 ⟨rfl, h5⟩
  rw [k3_ins]
  rw [k3_insA] at h5
  have H5 := Lib.hid h5
  clear h5 H4
  go_wp2_with fail
  refine (node_doc H5.out 1 (by decide +kernel)).mono ?_
  rintro e w6 ⟨va, vk, rfl, h6⟩
  rw [k4_kids] at h6
  obtain ⟨g, c1, rfl, _⟩ := h6.irow_open (by decide)
  obtain ⟨aa, ca, rfl⟩ := h6.tail.arow_form
  have H6 := Lib.hid h6
  clear h6 H5
  go_wp2_with (refine wpList_store_node rfl _ _ rfl rfl rfl rfl ?_)
  refine (copy_doc (H6.out.blk_new _ _).fourth).mono ?_
  rintro e w7 ⟨p', rfl, h7⟩
  have hb := h7.third
  have c4 := hb.box_up
  rw [k4_up] at c4
  have c5 := hb.box_kids
  have c6 := hb.box_shadow
  rw [k4_sh] at c6
  obtain ⟨g7, c7, hv7, cg⟩ := h7.fourth.irow_open (by decide)
  obtain ⟨rfl, rfl⟩ : g = g7 ∧ c1 = c7 := by injection hv7 with h1 _ h3; injection h1 with h1; injection h1 with h1; exact ⟨h1, h3⟩
  have cg0 := cg 0 2 rfl
  have H7 := Lib.hid h7
  clear h7 hb cg hv7 H6
  go_wp2_with fail
  refine (insert_doc H7.out.swap HT.out 2 1 (-1)).mono ?_
  rintro e w8 ⟨rfl, h8⟩
  rw [k4_ins]
  rw [k4_insA] at h8
  have H8 := Lib.hid h8
  clear h8 H7 c4 c5 c6 cg0
  go_wp2_with fail
  refine (len_doc H8.out.swap).mono ?_
  rintro e w9 ⟨rfl, rfl⟩
  rw [k4_n]
  go_wp2_with fail
  refine (New_no 0 (by omega) _).mono ?_
  rintro e w9 ⟨rfl, rfl⟩
  go_wp2
  go_ret
  exact ⟨rfl, H8.out.tail.tail.tail.tail.tail⟩
end
end Go.Proofs.YtgdmaikjaopddaaGreatDoor

/- Root (a shadow root is given), and package shadow: Attach, Of, Open. -/
namespace Go.Proofs.YtgdmaikjaopddaaGreatDoor
open Go.RowKit

namespace RNd
theorem setShadow_cells (v : Int) (x : RNd) (a g : Value) : ncell (x.setShadow v) a g = (ncell x a g).set 10 (int v) := rfl
end RNd

noncomputable def Doc.rootE (A : Doc) (h : Int) : Int :=
  if A.In h then (if (A.nd h).kind = 1 then (if (A.nd h).shadow = -1 then (if (A.n : Int) + 1 ≤ A.lim then 0 else 3) else 101) else 100) else 80
def Doc.rooted (A : Doc) (h : Int) (fl : Fl) : Doc := ((A.add (newNd 5 .empty .empty [] fl)).set h (.setShadow A.n)).set A.n (.setHost h)

section
variable {A : Doc} {R : Int → RNd} {h : Int} {fl : Fl}
theorem rooted_n : (A.rooted h fl).n = A.n + 1 := rfl
theorem rooted_lim : (A.rooted h fl).lim = A.lim := rfl
theorem rooted_nd (hh : h ≠ A.n) (j : Int) : (A.rooted h fl).nd j = if j = A.n then (newNd 5 .empty .empty [] fl).setHost h else if j = h then (A.nd j).setShadow A.n else A.nd j := by
  unfold Doc.rooted
  simp only [Doc.set_nd, Doc.add]
  by_cases h1 : j = A.n
  · rw [if_pos h1, if_pos h1, if_pos h1, if_neg (fun e => hh (e.symm.trans h1))]
  · rw [if_neg h1, if_neg h1, if_neg h1]
theorem WF.rooted (hw : WF A) (hi : A.In h) (hl : (A.n : Int) + 1 ≤ A.lim) : WF (A.rooted h fl) := by
  have w1 := hw.add (by omega) 5 .empty .empty [] fl (by simp)
  have hnew : (A.add (newNd 5 .empty .empty [] fl)).nd A.n = newNd 5 .empty .empty [] fl := add_nd_new _
  refine w1.adopt (add_in.2 (.inl hi)) (by have := hi.2; omega) _ (fun _ => ⟨rfl, rfl, rfl, rfl, rfl, rfl⟩) (fun _ _ => .inr ⟨by show (0 : Int) ≤ A.n; omega, by show (A.n : Int) < ((A.n + 1 : Nat) : Int); omega⟩) (fun _ h => h) (by rw [hnew]; rfl) (by rw [hnew]; rfl) fun j hj => ?_
  rcases add_in.1 hj with hj | hj
  · rw [add_nd_old hj]
    intro e
    have := hw.host j hj
    rw [e] at this
    rcases this with h | h <;> omega
  · rw [hj, hnew]; show (-1 : Int) ≠ _; omega
theorem Link.rooted (hl : Link A R) (hw : WF A) : Link (A.rooted h fl) (upd (upd (addR R A.n (newR 5 .empty .empty [] fl)) h (.setShadow A.n)) A.n (.setHost h)) := by
  have l1 := hl.add hw 5 .empty .empty [] fl
  have l2 := l1.set (i := h) (.setShadow A.n) (.setShadow A.n) (fun x y s => ⟨s.kind, s.name, s.data, s.attrs, s.fl, s.up, rfl, s.host, s.own, s.slot, s.given⟩) (fun _ => rfl) (fun _ => rfl) (fun _ => ⟨rfl, rfl, rfl, rfl⟩)
  exact l2.set (i := (A.n : Int)) (.setHost h) (.setHost h) (fun x y s => ⟨s.kind, s.name, s.data, s.attrs, s.fl, s.up, s.shadow, rfl, s.own, s.slot, s.given⟩) (fun _ => rfl) (fun _ => rfl) (fun _ => ⟨rfl, rfl, rfl, rfl⟩)
end

def flVal (fl : Fl) : Value := .agg #[.bool fl.closed, .bool fl.manual, .bool fl.delegates, .bool fl.serial, .bool fl.clonable]

section
variable {W w : World} {rs : List Res} {p B n : Nat} {lim : Int} {A : Doc} {R : Int → RNd}

set_option maxRecDepth 100000 in
theorem node_no (h : Sep W w (docA p A :: rs)) (i : Int) (hi : ¬ A.In i) :
    Calls Tryz.prog 12 #[ptr p, int i] w fun e w' => e = .returned (.tuple #[noNode, .int .u16 80]) ∧ Sep W w' (docA p A :: rs) := by
  have H := Lib.hid (h.alloc (.cells #[.int .u8 0, .string .empty, .string .empty, .slice none 0 0, int 0, .slice none 0 0, int 0, int 0, int 0, .bool false, .bool false, .bool false, .bool false, .bool false] 35))
  clear h
  go_enter Tryz.func12, Tryz.ntmps12
  go_wp2_with fail
  refine (lacks_doc_yes H.out i hi).mono ?_
  rintro e w' ⟨rfl, rfl⟩
  go_wp2_with (refine wpList_store_new rfl 35 _ _ rfl rfl rfl nd_info rfl (by rfl) ?_)
  refine bodyPost_ret (v := .tuple #[noNode, .int .u16 80]) ?_ rfl ?_
  · exact results_cell_tmp Tryz.results12 _ _ w.heap.size 35 _ (0, 0) _ rfl (heap_alloc_new w _) Tryz.underlying35 rfl nd_info
  · exact ⟨rfl, H.out⟩

set_option maxRecDepth 100000 in
set_option maxHeartbeats 1000000 in
theorem root_core (h : Sep W w (docR p B n lim R :: rs)) (i : Nat) (hi : i < n) (hn : n ≤ 5000) (hl : (n : Int) + 1 ≤ lim) (fl : Fl) (hk : (R i).kind = 1) (hs : (R i).shadow = -1) :
    Calls Tryz.prog 26 #[ptr p, int i, flVal fl] w fun e w' => e = .returned (.tuple #[int n, .int .u16 0]) ∧ ∃ B', Sep W w' (docR p B' (n + 1) lim (upd (upd (addR R n (newR 5 .empty .empty [] fl)) i (.setShadow n)) n (.setHost i)) :: rs) := by
  have H := Lib.hid (h.alloc (.cells #[.bool fl.closed, .bool fl.manual, .bool fl.delegates, .bool fl.serial, .bool fl.clonable] 33))
  have t1 : decide ((n : Int) + 1 ≤ lim) = true := by simpa using hl
  have T1 := Lib.hid t1
  have hK := Lib.hid hk
  have hSh := Lib.hid hs
  unfold flVal
  clear h t1 hk hs
  go_enter Tryz.func26, Tryz.ntmps26
  go_wp2_with fail
  refine (lacks_sep_no H.out i (by omega) (by omega)).mono ?_
  rintro e w1 ⟨rfl, hw1⟩
  have h1 : Sep W w1 _ := hw1 ▸ H.out
  have cf : ∀ j, w1.cell? ⟨w.heap.size, j, none⟩ = _ := fun j => hw1 ▸ cell_alloc_new w #[.bool fl.closed, .bool fl.manual, .bool fl.delegates, .bool fl.serial, .bool fl.clonable] 33 j
  have c0' := cf 0
  have c1' := cf 1
  have c2' := cf 2
  have c3' := cf 3
  have c4' := cf 4
  simp only [List.getElem?_toArray, List.getElem?_cons_zero, List.getElem?_cons_succ] at c0' c1' c2' c3' c4'
  obtain ⟨cap, av, gv, Fa, Fg, hC, _⟩ := docR_step h1
  have d0 := hC.cell0
  have u0 : w1.cell? ⟨B, i * 19, none⟩ = _ := hC.cell (i := i) hi (k := 0) (by omega) rfl
  rw [hK.out] at u0
  have u10 := hC.cell (i := i) hi (k := 10) (by omega) rfl
  rw [hSh.out] at u10
  have H1 := Lib.hid h1
  clear h1 hC hw1 cf H
  go_wp2_with fail
  refine (room_sep H1.out 1 (by omega) (by omega) (by omega)).mono ?_
  rintro e w2 ⟨rfl, m, rfl⟩
  rw [T1.out]
  have e0 : (w1.drewN m).cell? ⟨w.heap.size, 0, none⟩ = some (.bool fl.closed) := c0'
  have e1 : (w1.drewN m).cell? ⟨w.heap.size, 1, none⟩ = some (.bool fl.manual) := c1'
  have e2 : (w1.drewN m).cell? ⟨w.heap.size, 2, none⟩ = some (.bool fl.delegates) := c2'
  have e3 : (w1.drewN m).cell? ⟨w.heap.size, 3, none⟩ = some (.bool fl.serial) := c3'
  have e4 : (w1.drewN m).cell? ⟨w.heap.size, 4, none⟩ = some (.bool fl.clonable) := c4'
  have H2 := Lib.hid (H1.out.drewN m)
  clear c0' c1' c2' c3' c4' u0 u10 d0 H1
  generalize w1.drewN m = w2 at *
  go_wp2_with fail
  refine (add_sep (Aa := none) (an := 0) (ac := 0) (l := []) (H2.out.nilRow _ _ _) 5 .empty .empty fl 0 0 0 0 0 0 0 0 0 (by omega)).mono ?_
  rintro e w5 ⟨rfl, ⟨B5, h5⟩, _⟩
  obtain ⟨cap, av, gv, Fa, Fg, hC, _, _, _, _, hfin⟩ := docR_step h5
  have hi1 : i < n + 1 := by omega
  have hn1 : n < n + 1 := by omega
  have h0 := hC.cell0
  have f0 := hC.frozenB
  have hpb : p ≠ B5 := hC.pb
  have fin := (hC.set (i := i) hi1 (k := 10) (by omega) (int (n : Int)) (.setShadow (n : Int)) (fun _ _ _ => rfl) (fun _ => rfl) (fun _ => rfl)).set (i := n) hn1 (k := 11) (by omega) (int i) (.setHost i) (fun _ _ _ => rfl) (fun _ => rfl) (fun _ => rfl)
  have Fin := Lib.hid (hfin _ _ (((Only.refl _ w5).setCell (.inl (.inr (.inl rfl))) _).setCell (.inl (.inr (.inl rfl))) _) fin)
  have u10 := hC.cell (i := i) hi1 (k := 10) (by omega) rfl
  have hC2 := hC.set (i := i) hi1 (k := 10) (by omega) (int (n : Int)) (.setShadow (n : Int)) (fun _ _ _ => rfl) (fun _ => rfl) (fun _ => rfl)
  have h02 := hC2.cell0
  have f02 := hC2.frozenB
  have u11 := hC2.cell (i := n) hn1 (k := 11) (by omega) rfl
  clear hC hfin h5 fin hC2 e0 e1 e2 e3 e4 H2
  go_wp2
  go_ret2
  exact ⟨rfl, B5, Fin.out⟩

theorem root_yes (h : Sep W w (docA p A :: rs)) (i : Int) (fl : Fl) (he : A.rootE i = 0) :
    Calls Tryz.prog 26 #[ptr p, int i, flVal fl] w fun e w' => e = .returned (.tuple #[int A.n, .int .u16 0]) ∧ Sep W w' (docA p (A.rooted i fl) :: rs) := by
  obtain ⟨hw, B, R, hl, hS⟩ := docA_open h
  have hn := hw.n_le
  unfold Doc.rootE at he
  split at he
  · rename_i hi
    split at he
    · rename_i hk
      split at he
      · rename_i hs
        split at he
        · rename_i hlim
          obtain ⟨j, rfl, hj⟩ := icast hi.1 hi.2
          refine (root_core hS j hj hn hlim fl ((hl.same j hi).kind.trans hk) ((hl.same j hi).shadow.trans hs)).mono ?_
          rintro e w' ⟨rfl, B', h'⟩
          exact ⟨rfl, docA_close (hw.rooted hi hlim) (hl.rooted hw) h'⟩
        · exact absurd he (by decide)
      · exact absurd he (by decide)
    · exact absurd he (by decide)
  · exact absurd he (by decide)

set_option maxRecDepth 100000 in
set_option maxHeartbeats 1000000 in
theorem root_no (h : Sep W w (docA p A :: rs)) (i : Int) (fl : Fl) (he : A.rootE i ≠ 0) :
    Calls Tryz.prog 26 #[ptr p, int i, flVal fl] w fun e w' => e = .returned (.tuple #[int 0, .int .u16 (A.rootE i)]) ∧ Sep W w' (docA p A :: rs) := by
  have H := Lib.hid (h.alloc (.cells #[.bool fl.closed, .bool fl.manual, .bool fl.delegates, .bool fl.serial, .bool fl.clonable] 33))
  have hw := (docA_open h).1
  have hn := hw.n_le
  unfold flVal
  clear h
  unfold Doc.rootE at he ⊢
  by_cases hi : A.In i
  · obtain ⟨j, rfl, hj⟩ := icast hi.1 hi.2
    rw [if_pos hi] at he ⊢
    by_cases hk : (A.nd j).kind = 1
    · rw [if_pos hk] at he ⊢
      by_cases hs : (A.nd j).shadow = -1
      · rw [if_pos hs] at he ⊢
        have hlim : ¬ (A.n : Int) + 1 ≤ A.lim := fun h => he (if_pos h)
        rw [if_neg hlim]
        have t1 : decide ((A.n : Int) + 1 ≤ A.lim) = false := by simpa using hlim
        have T1 := Lib.hid t1
        have hK := Lib.hid hk
        have hSh := Lib.hid hs
        clear he hlim t1 hk hs
        go_enter Tryz.func26, Tryz.ntmps26
        go_wp2_with fail
        refine (lacks_doc_no H.out j hi).mono ?_
        rintro e w1 ⟨rfl, hw1⟩
        have h1 : Sep W w1 (docA p A :: rs) := hw1 ▸ H.out
        obtain ⟨_, B, R, hl, hS⟩ := docA_open h1
        obtain ⟨cap, av, gv, d0, hc⟩ := cell_sep hS
        have u0 : w1.cell? ⟨B, j * 19, none⟩ = _ := hc j 0 hj (by omega) _ rfl
        rw [(hl.same j hi).kind, hK.out] at u0
        have u10 := hc j 10 hj (by omega) _ rfl
        rw [(hl.same j hi).shadow, hSh.out] at u10
        have H1 := Lib.hid h1
        have HS := Lib.hid hS
        clear h1 hS hc hl hw1 H
        go_wp2_with fail
        refine (room_sep HS.out 1 (by omega) (by omega) (by omega)).mono ?_
        rintro e w2 ⟨rfl, m, rfl⟩
        rw [T1.out]
        go_wp2
        go_ret2
        exact ⟨rfl, H1.out.drewN _⟩
      · rw [if_neg hs] at he ⊢
        have t1 : ((A.nd j).shadow != -1) = true := by simpa using hs
        have hK := Lib.hid hk
        clear he hk hs
        go_enter Tryz.func26, Tryz.ntmps26
        go_wp2_with fail
        refine (lacks_doc_no H.out j hi).mono ?_
        rintro e w1 ⟨rfl, hw1⟩
        have h1 : Sep W w1 (docA p A :: rs) := hw1 ▸ H.out
        obtain ⟨B, cap, R, av, gv, hl, d0, hc⟩ := cell_doc h1
        have u0 : w1.cell? ⟨B, j * 19, none⟩ = _ := hc j 0 hj (by omega) _ rfl
        rw [(hl.same j hi).kind, hK.out] at u0
        have u10 := hc j 10 hj (by omega) _ rfl
        rw [(hl.same j hi).shadow] at u10
        have H1 := Lib.hid h1
        clear h1 hc hl hw1 H
        go_wp2
        go_ret2
        exact ⟨rfl, H1.out⟩
    · rw [if_neg hk] at he ⊢
      have t1 : ((A.nd j).kind != 1) = true := by simpa using hk
      clear he hk
      go_enter Tryz.func26, Tryz.ntmps26
      go_wp2_with fail
      refine (lacks_doc_no H.out j hi).mono ?_
      rintro e w1 ⟨rfl, hw1⟩
      have h1 : Sep W w1 (docA p A :: rs) := hw1 ▸ H.out
      obtain ⟨B, cap, R, av, gv, hl, d0, hc⟩ := cell_doc h1
      have u0 : w1.cell? ⟨B, j * 19, none⟩ = _ := hc j 0 hj (by omega) _ rfl
      rw [(hl.same j hi).kind] at u0
      have H1 := Lib.hid h1
      clear h1 hc hl hw1 H
      go_wp2
      go_ret2
      exact ⟨rfl, H1.out⟩
  · rw [if_neg hi]
    clear he
    go_enter Tryz.func26, Tryz.ntmps26
    go_wp2_with fail
    refine (lacks_doc_yes H.out i hi).mono ?_
    rintro e w1 ⟨rfl, hw1⟩
    have H1 := Lib.hid (hw1 ▸ H.out : Sep W w1 (docA p A :: rs))
    clear hw1 H
    go_wp2
    go_ret2
    exact ⟨rfl, H1.out⟩
end
end Go.Proofs.YtgdmaikjaopddaaGreatDoor
