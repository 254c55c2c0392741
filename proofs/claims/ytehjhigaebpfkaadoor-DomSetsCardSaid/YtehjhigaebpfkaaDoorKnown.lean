/- The chapter's example: known answers true, wherever it is called. -/
import Derived.Test.YtehjhigaebpfkaaDoorFrag
import Derived.Test.YtehjhigaebpfkaaDoorMake3
import Derived.Test.YtehjhigaebpfkaaDoorBoxes
namespace Go.Proofs.YtehjhigaebpfkaaDoor
open Go.RowKit

section
variable {A : Doc} {up i b : Int}
theorem Doc.fits_of (hk : takesB (A.nd up).kind (A.nd up).name = true) (hi : i ≠ 0) (hh : (A.nd i).host = -1) (hc : ¬ Climb A.par up i) : A.fitsB up i = true := by
  unfold Doc.fitsB
  simp only [hk, Bool.true_and, Bool.and_eq_true, bne_iff_ne, ne_eq, beq_iff_eq, Bool.not_eq_true']
  exact ⟨⟨hi, hh⟩, climbB_not.2 hc⟩
theorem Doc.insertE_ok (hu : A.In up) (hi : A.In i) (hb : b = -1 ∨ A.In b) (hf : A.fitsB up i = true) (hbu : b = -1 ∨ (A.nd b).up = up) : A.insertE up i b = 0 := by
  unfold Doc.insertE; rw [if_pos ⟨hu, hi, hb⟩, if_pos ⟨hf, hbu⟩]
theorem Doc.insertE_81 (hu : A.In up) (hi : A.In i) (hb : b = -1 ∨ A.In b) (hf : A.fitsB up i = false) : A.insertE up i b = 81 := by
  unfold Doc.insertE; rw [if_pos ⟨hu, hi, hb⟩, if_neg (fun h => by rw [hf] at h; exact absurd h.1 (by decide))]
theorem Doc.insertA_put (h : A.insertE up i b = 0) (hk : (A.nd i).kind ≠ 4) (hb : b ≠ i) : A.insertA up i b = A.put up i b := by
  unfold Doc.insertA; rw [if_pos h, if_neg hk, if_neg hb]
theorem Doc.insertA_end (h : A.insertE up i (-1) = 0) (hi : A.In i) (hk : (A.nd i).kind ≠ 4) : A.insertA up i (-1) = A.put up i (-1) := Doc.insertA_put h hk (Ne.symm (neg_of_in hi))
theorem Doc.fits_not (hk : takesB (A.nd up).kind (A.nd up).name = false) : A.fitsB up i = false := by unfold Doc.fitsB; rw [hk]; rfl
theorem not_climb_top {f : Int → Int} {i j : Int} (h : f i = -1) (hne : i ≠ j) : ¬ Climb f i j := fun c => ((climb_step hne).1 c).1 h
theorem not_climb_step {f : Int → Int} {i j : Int} (hne : i ≠ j) (h : ¬ Climb f (f i) j) : ¬ Climb f i j := fun c => h ((climb_step hne).1 c).2
end

def divS : ByteArray := ⟨#[100, 105, 118]⟩
def xS : ByteArray := ⟨#[120]⟩
/-- a node that is made of its kind, its name and its data -/
def arg (k : Int) (nm da : ByteArray) : Arg := ⟨k, nm, da, 0, none, 0, 0, 0, 0, 0, noFl⟩
theorem div_may : mayB 1 divS .empty = true := by kernel_rfl
theorem x_may : mayB 2 .empty xS = true := by kernel_rfl
theorem div_takes : takesB 1 divS = true := by kernel_rfl

def K0 : Doc := Doc.new 9
def K1 : Doc := K0.made 1 divS .empty []
def K2 : Doc := K1.made 2 .empty xS []
def K3 : Doc := K2.put 0 1 (-1)
def K4 : Doc := K3.put 1 2 (-1)
theorem k0_n : (K0.n : Int) = 1 := by kernel_rfl
theorem k1_n : (K1.n : Int) = 2 := by kernel_rfl
theorem k4_n : (K4.n : Int) = 3 := by kernel_rfl
theorem k2_ins : K2.insertE 0 1 (-1) = 0 :=
  Doc.insertE_ok (by decide +kernel) (by decide +kernel) (.inl rfl) (Doc.fits_of (by kernel_rfl) (by decide +kernel) (by kernel_rfl) (not_climb_top (by kernel_rfl) (by decide +kernel))) (.inl rfl)
theorem k3_ins : K3.insertE 1 2 (-1) = 0 :=
  Doc.insertE_ok (by decide +kernel) (by decide +kernel) (.inl rfl) (Doc.fits_of (by kernel_rfl) (by decide +kernel) (by kernel_rfl) (not_climb_step (by decide +kernel) (not_climb_top (by kernel_rfl) (by decide +kernel)))) (.inl rfl)
theorem k4_ins : K4.insertE 2 1 (-1) = 81 := Doc.insertE_81 (by decide +kernel) (by decide +kernel) (.inl rfl) (Doc.fits_not (by kernel_rfl))
theorem k2_insA : K2.insertA 0 1 (-1) = K3 := Doc.insertA_end k2_ins (by decide +kernel) (by decide +kernel)
theorem k3_insA : K3.insertA 1 2 (-1) = K4 := Doc.insertA_end k3_ins (by decide +kernel) (by decide +kernel)
theorem k4_insA : K4.insertA 2 1 (-1) = K4 := by unfold Doc.insertA; rw [if_neg (by rw [k4_ins]; decide)]
theorem k4_kids : (K4.nd 1).kids = [2] := by kernel_rfl
theorem k4_up : (K4.nd 1).up = 0 := by kernel_rfl
theorem k4_sh : (K4.nd 1).shadow = -1 := by kernel_rfl

section
variable {W w : World} {rs : List Res} {p : Nat}
set_option maxRecDepth 100000 in
set_option maxHeartbeats 2000000 in
theorem known_any (h : Sep W w rs) (hT : Laid W) : Calls Tryd.prog 17 #[] w fun e w' => e = .returned (.bool true) ∧ Sep W w' rs := by
  have H := Lib.hid h
  have HT := Lib.hid hT
  clear h hT
  go_enter Tryd.func17, Tryd.ntmps17
  go_wp2_with fail
  refine (New_yes H.out 9 (by omega) (by omega)).mono ?_
  rintro e w1 ⟨p, rfl, h1⟩
  have H1 := Lib.hid (show Sep W w1 (docA p K0 :: rs) from h1)
  clear h1 H
  go_wp2_with fail
  refine (make_yes H1.out HT.out (arg 1 divS .empty) (by decide) div_may (by decide +kernel)).mono ?_
  rintro e w2 ⟨rfl, h2⟩
  rw [k0_n]
  have H2 := Lib.hid (show Sep W w2 (docA p K1 :: rs) from h2)
  clear h2 H1
  go_wp2_with fail
  refine (make_yes H2.out HT.out (arg 2 .empty xS) (by decide) x_may (by decide +kernel)).mono ?_
  rintro e w3 ⟨rfl, h3⟩
  rw [k1_n]
  have H3 := Lib.hid (show Sep W w3 (docA p K2 :: rs) from h3)
  clear h3 H2
  go_wp2_with fail
  refine (insert_doc H3.out HT.out 0 1 (-1)).mono ?_
  rintro e w4 ⟨rfl, h4⟩
  rw [k2_ins]
  rw [k2_insA] at h4
  have H4 := Lib.hid h4
  clear h4 H3
  go_wp2_with fail
  refine (insert_doc H4.out HT.out 1 2 (-1)).mono ?_
  rintro e w5 ⟨rfl, h5⟩
  rw [k3_ins]
  rw [k3_insA] at h5
  have H5 := Lib.hid h5
  clear h5 H4
  go_wp2_with fail
  refine (node_doc H5.out 1 (by decide +kernel)).mono ?_
  rintro e w6 ⟨va, vk, rfl, h6⟩
  rw [k4_kids] at h6
  obtain ⟨g, c1, rfl, _⟩ := h6.irow_open (by decide)
  obtain ⟨aa, ca, rfl⟩ := h6.tail.arow_form
  have H6 := Lib.hid h6
  clear h6 H5
  go_wp2_with (refine wpList_store_node rfl _ _ rfl rfl rfl rfl ?_)
  refine (copy_doc (H6.out.blk_new _ _).fourth).mono ?_
  rintro e w7 ⟨p', rfl, h7⟩
  have hb := h7.third
  have c4 := hb.box_up
  rw [k4_up] at c4
  have c5 := hb.box_kids
  have c6 := hb.box_shadow
  rw [k4_sh] at c6
  obtain ⟨g7, c7, hv7, cg⟩ := h7.fourth.irow_open (by decide)
  obtain ⟨rfl, rfl⟩ : g = g7 ∧ c1 = c7 := by injection hv7 with h1 _ h3; injection h1 with h1; injection h1 with h1; exact ⟨h1, h3⟩
  have cg0 := cg 0 2 rfl
  have H7 := Lib.hid h7
  clear h7 hb cg hv7 H6
  go_wp2_with fail
  refine (insert_doc H7.out.swap HT.out 2 1 (-1)).mono ?_
  rintro e w8 ⟨rfl, h8⟩
  rw [k4_ins]
  rw [k4_insA] at h8
  have H8 := Lib.hid h8
  clear h8 H7 c4 c5 c6 cg0
  go_wp2_with fail
  refine (len_doc H8.out.swap).mono ?_
  rintro e w9 ⟨rfl, rfl⟩
  rw [k4_n]
  go_wp2_with fail
  refine (New_no 0 (by omega) _).mono ?_
  rintro e w9 ⟨rfl, rfl⟩
  go_wp2
  go_ret
  exact ⟨rfl, H8.out.tail.tail.tail.tail.tail⟩
end
end Go.Proofs.YtehjhigaebpfkaaDoor
