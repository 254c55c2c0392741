/- ShadowHosts answers true, whatever the kinds and the flags; the example of chapter 10. -/
import Derived.Test.YtehjhigaebpfkaaDoorNested
namespace Go.Proofs.YtehjhigaebpfkaaDoor
open Go.RowKit

def J2 : Doc := (((Doc.new 9).made 1 divS .empty []).made 1 aS .empty [])
def J3 : Doc := J2.rooted 1 noFl
theorem j2_a : J2.attachE 1 = 0 := attachE_0 (by decide +kernel) (by kernel_rfl) (by kernel_rfl) (by kernel_rfl) (by decide +kernel)
theorem j3_a : J3.attachE 1 = 101 := attachE_101 (by decide +kernel) (by kernel_rfl) (by kernel_rfl) (by decide +kernel)
theorem j3_b : J3.attachE 2 = 100 := attachE_100 (by decide +kernel) (by kernel_rfl)
theorem j2_n : (J2.n : Int) = 3 := by kernel_rfl
theorem j3_in1 : J3.In 1 := by decide +kernel
theorem j3_in3 : J3.In 3 := by decide +kernel
theorem j3_sh : (J3.nd 1).shadow = 3 := by kernel_rfl
theorem j3_cl : (J3.nd 3).fl.closed = false := by kernel_rfl
theorem j3_k3 : (J3.nd 3).kind = 5 := by kernel_rfl
theorem j3_k1 : (J3.nd 1).kind = 1 := by kernel_rfl
theorem j3_t3 : Top J3 0 3 3 := .here j3_in3 (by kernel_rfl)
theorem j3_t1 : Top J3 0 1 1 := .here j3_in1 (by kernel_rfl)

section
variable {W w : World} {rs : List Res} {p : Nat}
set_option maxRecDepth 100000 in
set_option maxHeartbeats 1000000 in
theorem known10_any (h : Sep W w rs) (hT : Laid W) (hM : MaxIs W) : Calls Tryd.prog 27 #[] w fun e w' => e = .returned (.bool true) ∧ Sep W w' rs := by
  have H := Lib.hid h
  have HT := Lib.hid hT
  have HM := Lib.hid hM
  clear h hT hM
  go_enter Tryd.func27, Tryd.ntmps27
  go_wp2_with fail
  refine (New_yes H.out 9 (by omega) (by omega)).mono ?_
  rintro e w1 ⟨p, rfl, h1⟩
  have H1 := Lib.hid h1
  clear h1 H
  go_wp2_with fail
  refine (make_yes H1.out HT.out (arg 1 divS .empty) (by decide) div_may (by decide +kernel)).mono ?_
  rintro e w2 ⟨rfl, h2⟩
  have H2 := Lib.hid (show Sep W w2 (docA p ((Doc.new 9).made 1 divS .empty []) :: rs) from h2)
  clear h2 H1
  go_wp2_with fail
  refine (make_yes H2.out HT.out (arg 1 aS .empty) (by decide) a_may (by decide +kernel)).mono ?_
  rintro e w3 ⟨rfl, h3⟩
  have H3 := Lib.hid (show Sep W w3 (docA p J2 :: rs) from h3)
  clear h3 H2
  go_wp2_with fail
  refine (attach_ok H3.out HT.out HM.out 1 noFl j2_a).mono ?_
  rintro e w4 ⟨rfl, h4⟩
  rw [j2_n]
  have H4 := Lib.hid (show Sep W w4 (docA p J3 :: rs) from h4)
  clear h4 H3
  go_wp2_with fail
  refine (attach_er H4.out HT.out HM.out 1 noFl 101 j3_a (by decide)).mono ?_
  rintro e w5 ⟨rfl, h5⟩
  have H5 := Lib.hid h5
  clear h5 H4
  go_wp2_with fail
  refine (attach_er H5.out HT.out HM.out 2 noFl 100 j3_b (by decide)).mono ?_
  rintro e w6 ⟨rfl, h6⟩
  have H6 := Lib.hid h6
  clear h6 H5
  go_wp2_with fail
  refine (open_yes H6.out 1 3 j3_in1 j3_sh j3_in3 3 (by rw [j3_cl]; rfl)).mono ?_
  rintro e w7 ⟨rfl, h7⟩
  have H7 := Lib.hid h7
  clear h7 H6
  go_wp2_with fail
  refine (of_yes H7.out j3_t3 3 (by rw [j3_k3]; rfl)).mono ?_
  rintro e w8 ⟨rfl, h8⟩
  have H8 := Lib.hid h8
  clear h8 H7
  go_wp2_with fail
  refine (of_yes H8.out j3_t1 (-1) (by rw [j3_k1]; rfl)).mono ?_
  rintro e w9 ⟨rfl, h9⟩
  have H9 := Lib.hid h9
  clear h9 H8
  go_wp2
  go_ret
  exact ⟨rfl, H9.out.tail⟩

/-- as many nodes as there can be after so many rounds -/
structure Few (A : Doc) (i : Nat) : Prop where
  n : A.n ≤ 1 + 2 * i
  lim : A.lim = 300
theorem host_made {A : Doc} {i : Nat} (h : Few A i) (hw : WF A) (hi : i ≤ 60) {nm : ByteArray} (ht : tmplB 1 nm = false) : A.makeNo 1 nm = false ∧ (A.made 1 nm .empty []).n = A.n + 1 ∧ (A.made 1 nm .empty []).In A.n ∧ (A.made 1 nm .empty []).nd A.n = newNd 1 nm .empty [] noFl ∧ (A.made 1 nm .empty []).lim = 300 := by
  have := h.n
  have := h.lim
  exact ⟨makeNo_no ht (by omega), made_n1 ht, (made_in ht).2 (.inr rfl), made_new ht, by rw [made_lim, h.lim]⟩
theorem host_yes {A : Doc} {i : Nat} (h : Few A i) (hw : WF A) (hi : i < 60) {nm : ByteArray} (ht : tmplB 1 nm = false) (hh : hostB nm = true) (fl : Fl) :
    (A.made 1 nm .empty []).attachE A.n = 0 ∧ Few ((A.made 1 nm .empty []).rooted A.n fl) (i + 1) ∧ Top ((A.made 1 nm .empty []).rooted A.n fl) 0 ((A.n : Int) + 1) ((A.n : Int) + 1) ∧ (((A.made 1 nm .empty []).rooted A.n fl).nd ((A.n : Int) + 1)).kind = 5 := by
  obtain ⟨_, h2, h3, h4, h5⟩ := host_made h hw (by omega) (nm := nm) ht
  have hn := h.n
  have e2 : ((A.made 1 nm .empty []).n : Int) = (A.n : Int) + 1 := by rw [h2]; omega
  have hne : (A.n : Int) ≠ (A.made 1 nm .empty []).n := by omega
  have rs : ((A.made 1 nm .empty []).rooted A.n fl).nd ((A.n : Int) + 1) = (newNd 5 .empty .empty [] fl).setHost A.n := by rw [← e2, rooted_nd hne, if_pos rfl]
  refine ⟨attachE_0 h3 (by rw [h4]; rfl) (by rw [h4]; exact hh) (by rw [h4]; rfl) (by rw [h5]; omega), ⟨by rw [rooted_n, h2]; omega, by rw [rooted_lim, h5]⟩, .here ⟨by omega, by rw [rooted_n, h2]; omega⟩ (by rw [rs]; rfl), by rw [rs]; rfl⟩
theorem host_not {A : Doc} {i : Nat} (h : Few A i) (hw : WF A) (hi : i < 60) {nm : ByteArray} (ht : tmplB 1 nm = false) (hh : hostB nm = false) :
    (A.made 1 nm .empty []).attachE A.n = 100 ∧ Few (A.made 1 nm .empty []) (i + 1) := by
  obtain ⟨_, h2, h3, h4, h5⟩ := host_made h hw (by omega) (nm := nm) ht
  have hn := h.n
  exact ⟨attachE_100 h3 (by rw [h4]; exact hh), ⟨by rw [h2]; omega, h5⟩⟩
def h0S : ByteArray := ⟨#[100, 105, 118]⟩
theorem h0_may : mayB 1 h0S .empty = true := by kernel_rfl
theorem h0_t : tmplB 1 h0S = false := by kernel_rfl
theorem h0_h : hostB h0S = true := by kernel_rfl
theorem h0_a : (h0S.toList == [97]) = false := by kernel_rfl
theorem h0_br : (h0S.toList == [98, 114]) = false := by kernel_rfl
theorem h0_b : (h0S.toList == [98]) = false := by kernel_rfl
theorem h0_slot : (h0S.toList == [115, 108, 111, 116]) = false := by kernel_rfl
def h1S : ByteArray := ⟨#[97]⟩
theorem h1_may : mayB 1 h1S .empty = true := by kernel_rfl
theorem h1_t : tmplB 1 h1S = false := by kernel_rfl
theorem h1_h : hostB h1S = false := by kernel_rfl
theorem h1_a : (h1S.toList == [97]) = true := by kernel_rfl
theorem h1_br : (h1S.toList == [98, 114]) = false := by kernel_rfl
theorem h1_b : (h1S.toList == [98]) = false := by kernel_rfl
theorem h1_slot : (h1S.toList == [115, 108, 111, 116]) = false := by kernel_rfl
def h2S : ByteArray := ⟨#[115, 112, 97, 110]⟩
theorem h2_may : mayB 1 h2S .empty = true := by kernel_rfl
theorem h2_t : tmplB 1 h2S = false := by kernel_rfl
theorem h2_h : hostB h2S = true := by kernel_rfl
theorem h2_a : (h2S.toList == [97]) = false := by kernel_rfl
theorem h2_br : (h2S.toList == [98, 114]) = false := by kernel_rfl
theorem h2_b : (h2S.toList == [98]) = false := by kernel_rfl
theorem h2_slot : (h2S.toList == [115, 108, 111, 116]) = false := by kernel_rfl
def h3S : ByteArray := ⟨#[120, 45, 113]⟩
theorem h3_may : mayB 1 h3S .empty = true := by kernel_rfl
theorem h3_t : tmplB 1 h3S = false := by kernel_rfl
theorem h3_h : hostB h3S = true := by kernel_rfl
theorem h3_a : (h3S.toList == [97]) = false := by kernel_rfl
theorem h3_br : (h3S.toList == [98, 114]) = false := by kernel_rfl
theorem h3_b : (h3S.toList == [98]) = false := by kernel_rfl
theorem h3_slot : (h3S.toList == [115, 108, 111, 116]) = false := by kernel_rfl
def h4S : ByteArray := ⟨#[98, 114]⟩
theorem h4_may : mayB 1 h4S .empty = true := by kernel_rfl
theorem h4_t : tmplB 1 h4S = false := by kernel_rfl
theorem h4_h : hostB h4S = false := by kernel_rfl
theorem h4_a : (h4S.toList == [97]) = false := by kernel_rfl
theorem h4_br : (h4S.toList == [98, 114]) = true := by kernel_rfl
theorem h4_b : (h4S.toList == [98]) = false := by kernel_rfl
theorem h4_slot : (h4S.toList == [115, 108, 111, 116]) = false := by kernel_rfl
def h5S : ByteArray := ⟨#[112]⟩
theorem h5_may : mayB 1 h5S .empty = true := by kernel_rfl
theorem h5_t : tmplB 1 h5S = false := by kernel_rfl
theorem h5_h : hostB h5S = true := by kernel_rfl
theorem h5_a : (h5S.toList == [97]) = false := by kernel_rfl
theorem h5_br : (h5S.toList == [98, 114]) = false := by kernel_rfl
theorem h5_b : (h5S.toList == [98]) = false := by kernel_rfl
theorem h5_slot : (h5S.toList == [115, 108, 111, 116]) = false := by kernel_rfl
def h6S : ByteArray := ⟨#[98]⟩
theorem h6_may : mayB 1 h6S .empty = true := by kernel_rfl
theorem h6_t : tmplB 1 h6S = false := by kernel_rfl
theorem h6_h : hostB h6S = false := by kernel_rfl
theorem h6_a : (h6S.toList == [97]) = false := by kernel_rfl
theorem h6_br : (h6S.toList == [98, 114]) = false := by kernel_rfl
theorem h6_b : (h6S.toList == [98]) = true := by kernel_rfl
theorem h6_slot : (h6S.toList == [115, 108, 111, 116]) = false := by kernel_rfl
def h7S : ByteArray := ⟨#[115, 108, 111, 116]⟩
theorem h7_may : mayB 1 h7S .empty = true := by kernel_rfl
theorem h7_t : tmplB 1 h7S = false := by kernel_rfl
theorem h7_h : hostB h7S = false := by kernel_rfl
theorem h7_a : (h7S.toList == [97]) = false := by kernel_rfl
theorem h7_br : (h7S.toList == [98, 114]) = false := by kernel_rfl
theorem h7_b : (h7S.toList == [98]) = false := by kernel_rfl
theorem h7_slot : (h7S.toList == [115, 108, 111, 116]) = true := by kernel_rfl
def h8S : ByteArray := ⟨#[104, 49]⟩
theorem h8_may : mayB 1 h8S .empty = true := by kernel_rfl
theorem h8_t : tmplB 1 h8S = false := by kernel_rfl
theorem h8_h : hostB h8S = true := by kernel_rfl
theorem h8_a : (h8S.toList == [97]) = false := by kernel_rfl
theorem h8_br : (h8S.toList == [98, 114]) = false := by kernel_rfl
theorem h8_b : (h8S.toList == [98]) = false := by kernel_rfl
theorem h8_slot : (h8S.toList == [115, 108, 111, 116]) = false := by kernel_rfl

set_option maxRecDepth 100000 in
set_option maxHeartbeats 4000000 in
theorem hosts_walk (h : Sep W w rs) (hT : Laid W) (hM : MaxIs W) (v : Value) (l : List Int) (hl : ArgInts .u8 W v l) (fl : Fl) :
    Calls Tryd.prog 9 #[v, flVal fl] w fun e w' => e = .returned (.bool true) ∧ Sep W w' rs := by
  have H := Lib.hid (h.blk_new (flCells fl) 31)
  have HT := Lib.hid hT
  have HM := Lib.hid hM
  have HL := Lib.hid hl
  obtain ⟨a0, c0, rfl⟩ := hl.form
  unfold flVal
  clear h hT hM hl
  by_cases hbig : 60 < l.length
  · have t1 : decide ((l.length : Int) > 60) = true := by simp; omega
    go_enter Tryd.func9, Tryd.ntmps9
    go_wp2_with fail
    refine (known10_any H.out HT.out HM.out).mono ?_
    rintro e w2 ⟨rfl, h2⟩
    have H2 := Lib.hid h2
    clear h2
    go_wp2
    go_ret
    exact ⟨rfl, H2.out.tail⟩
  · have t1 : decide ((l.length : Int) > 60) = false := by simp; omega
    go_enter Tryd.func9, Tryd.ntmps9
    go_wp2_with fail
    refine (known10_any H.out HT.out HM.out).mono ?_
    rintro e w2 ⟨rfl, h2⟩
    have H2 := Lib.hid h2
    clear h2 H
    go_wp2_with fail
    refine (New_yes H2.out 300 (by omega) (by omega)).mono ?_
    rintro e w3 ⟨p, rfl, h3⟩
    have H3 := Lib.hid h3
    generalize hg : w.heap.size = g at H3 ⊢
    clear h3 H2 hg
    go_wp2_with fail
    go_loopw [6] (fun v wr => ∃ (i : Nat) (A : Doc), v = int i ∧ i ≤ l.length ∧ Few A i ∧ Sep W wr (docA p A :: blk g 31 (flCells fl) :: rs)) (fun v _ => l.length - (intOf v).toNat)
    case atStart => exact ⟨0, Doc.new 300, rfl, Nat.zero_le _, ⟨Nat.le_refl _, rfl⟩, H3.out⟩
    case round =>
      obtain ⟨i, A, rfl, hi, hF, hS⟩ := hrel
      have hw := (docA_open hS).1
      have HS := Lib.hid hS
      clear H3
      by_cases hil : i < l.length
      · have t2 : decide ((i : Int) < l.length) = true := by simp; omega
        obtain ⟨b0, o0, rfl, hcell⟩ := HL.out.at (by omega)
        have hm : (Lit.int .u8 l[i]).wf = true := HL.out.1 _ (List.getElem_mem hil)
        have hmb := bounds_u8 hm
        have c1 := hcell i l[i] hS (by simp [hil])
        have hbl := cell_lt c1
        have hbn : b0 ≠ wr.heap.size := by omega
        generalize hml : l[i] = m at *
        have hwr : IntKind.i64.wrap ((i : Int) + 1) = ((i + 1 : Nat) : Int) := by rw [IntKind.wrap_i64]; omega
        have hr0 := Int.emod_nonneg m (by decide : (9 : Int) ≠ 0)
        have hr1 := Int.emod_lt_of_pos m (by decide : (0 : Int) < 9)
        have htm : m.tmod 9 = m % 9 := Int.tmod_eq_emod_of_nonneg hmb.1
        have hi60 : i < 60 := by omega
        have hcase : m % 9 = 0 ∨ m % 9 = 1 ∨ m % 9 = 2 ∨ m % 9 = 3 ∨ m % 9 = 4 ∨ m % 9 = 5 ∨ m % 9 = 6 ∨ m % 9 = 7 ∨ m % 9 = 8 := by omega
        have HF := Lib.hid hF
        have Hw := Lib.hid hw
        have hfc := hS.tail
        have Hfc := Lib.hid hfc
        clear hS hcell hm hml hF hw hfc hr0 hr1 HL
        rcases hcase with h9 | h9 | h9 | h9 | h9 | h9 | h9 | h9 | h9
        · have hq : m.tmod 9 = 0 := htm.trans h9
          have q1 := h0_a
          have q2 := h0_br
          have q3 := h0_b
          have q4 := h0_slot
          unfold h0S at q1 q2 q3 q4
          obtain ⟨s1, s2, s3, s4⟩ := host_yes HF.out Hw.out hi60 h0_t h0_h fl
          have s0 := (host_made HF.out Hw.out (by omega) h0_t).1
          have e2 : ((A.made 1 h0S .empty []).n : Int) = (A.n : Int) + 1 := by rw [made_n1 h0_t]; omega
          have S1 := Lib.hid s1
          have S2 := Lib.hid s2
          have S3 := Lib.hid s3
          have S4 := Lib.hid s4
          have E2 := Lib.hid e2
          have hAb : (A.n : Int) ≤ 200 := by have := HF.out.n; omega
          have hw1 : IntKind.i64.wrap ((A.n : Int) + 1) = (A.n : Int) + 1 := by rw [IntKind.wrap_i64]; omega
          have hle := Hw.out.le
          clear s1 s2 s3 s4 e2 htm h9 hle
          go_wp2_with fail
          refine (make_yes ((HS.out.alloc _)) HT.out (arg 1 h0S .empty) (by decide) h0_may s0).mono ?_
          rintro e w4 ⟨rfl, h4⟩
          have hfc := h4.tail
          have e0 := hfc.blk_cell 0
          have e1 := hfc.blk_cell 1
          have e2 := hfc.blk_cell 2
          have e3 := hfc.blk_cell 3
          have e4 := hfc.blk_cell 4
          simp only [flCells, List.getElem?_toArray, List.getElem?_cons_zero, List.getElem?_cons_succ] at e0 e1 e2 e3 e4
          have H4 := Lib.hid (show Sep W w4 (docA p (A.made 1 h0S .empty []) :: blk g 31 (flCells fl) :: rs) from h4)
          clear h4 hfc
          go_wp2_with fail
          refine (attach_ok H4.out HT.out HM.out A.n fl S1.out).mono ?_
          rintro e w5 ⟨rfl, h5⟩
          rw [E2.out]
          have H5 := Lib.hid h5
          clear h5 H4 e0 e1 e2 e3 e4
          go_wp2_with fail
          refine (of_yes H5.out S3.out ((A.n : Int) + 1) (by rw [S4.out]; rfl)).mono ?_
          rintro e w6 ⟨rfl, h6⟩
          have H6 := Lib.hid h6
          clear h6 H5
          go_wp2_with fail
          go_roundw
          case rel => exact ⟨i + 1, _, rfl, hil, S2.out, H6.out⟩
          case measure => simp [intOf]; omega
        · have hq : m.tmod 9 = 1 := htm.trans h9
          have q1 := h1_a
          have q2 := h1_br
          have q3 := h1_b
          have q4 := h1_slot
          unfold h1S at q1 q2 q3 q4
          obtain ⟨s1, s2⟩ := host_not HF.out Hw.out hi60 h1_t h1_h
          have s0 := (host_made HF.out Hw.out (by omega) h1_t).1
          have S1 := Lib.hid s1
          have S2 := Lib.hid s2
          clear s1 s2 htm h9
          go_wp2_with fail
          refine (make_yes ((HS.out.alloc _)) HT.out (arg 1 h1S .empty) (by decide) h1_may s0).mono ?_
          rintro e w4 ⟨rfl, h4⟩
          have hfc := h4.tail
          have e0 := hfc.blk_cell 0
          have e1 := hfc.blk_cell 1
          have e2 := hfc.blk_cell 2
          have e3 := hfc.blk_cell 3
          have e4 := hfc.blk_cell 4
          simp only [flCells, List.getElem?_toArray, List.getElem?_cons_zero, List.getElem?_cons_succ] at e0 e1 e2 e3 e4
          have H4 := Lib.hid (show Sep W w4 (docA p (A.made 1 h1S .empty []) :: blk g 31 (flCells fl) :: rs) from h4)
          clear h4 hfc
          go_wp2_with fail
          refine (attach_er H4.out HT.out HM.out A.n fl 100 S1.out (by decide)).mono ?_
          rintro e w5 ⟨rfl, h5⟩
          have H5 := Lib.hid h5
          clear h5 H4 e0 e1 e2 e3 e4
          go_wp2_with fail
          go_roundw
          case rel => exact ⟨i + 1, _, rfl, hil, S2.out, H5.out⟩
          case measure => simp [intOf]; omega
        · have hq : m.tmod 9 = 2 := htm.trans h9
          have q1 := h2_a
          have q2 := h2_br
          have q3 := h2_b
          have q4 := h2_slot
          unfold h2S at q1 q2 q3 q4
          obtain ⟨s1, s2, s3, s4⟩ := host_yes HF.out Hw.out hi60 h2_t h2_h fl
          have s0 := (host_made HF.out Hw.out (by omega) h2_t).1
          have e2 : ((A.made 1 h2S .empty []).n : Int) = (A.n : Int) + 1 := by rw [made_n1 h2_t]; omega
          have S1 := Lib.hid s1
          have S2 := Lib.hid s2
          have S3 := Lib.hid s3
          have S4 := Lib.hid s4
          have E2 := Lib.hid e2
          have hAb : (A.n : Int) ≤ 200 := by have := HF.out.n; omega
          have hw1 : IntKind.i64.wrap ((A.n : Int) + 1) = (A.n : Int) + 1 := by rw [IntKind.wrap_i64]; omega
          have hle := Hw.out.le
          clear s1 s2 s3 s4 e2 htm h9 hle
          go_wp2_with fail
          refine (make_yes ((HS.out.alloc _)) HT.out (arg 1 h2S .empty) (by decide) h2_may s0).mono ?_
          rintro e w4 ⟨rfl, h4⟩
          have hfc := h4.tail
          have e0 := hfc.blk_cell 0
          have e1 := hfc.blk_cell 1
          have e2 := hfc.blk_cell 2
          have e3 := hfc.blk_cell 3
          have e4 := hfc.blk_cell 4
          simp only [flCells, List.getElem?_toArray, List.getElem?_cons_zero, List.getElem?_cons_succ] at e0 e1 e2 e3 e4
          have H4 := Lib.hid (show Sep W w4 (docA p (A.made 1 h2S .empty []) :: blk g 31 (flCells fl) :: rs) from h4)
          clear h4 hfc
          go_wp2_with fail
          refine (attach_ok H4.out HT.out HM.out A.n fl S1.out).mono ?_
          rintro e w5 ⟨rfl, h5⟩
          rw [E2.out]
          have H5 := Lib.hid h5
          clear h5 H4 e0 e1 e2 e3 e4
          go_wp2_with fail
          refine (of_yes H5.out S3.out ((A.n : Int) + 1) (by rw [S4.out]; rfl)).mono ?_
          rintro e w6 ⟨rfl, h6⟩
          have H6 := Lib.hid h6
          clear h6 H5
          go_wp2_with fail
          go_roundw
          case rel => exact ⟨i + 1, _, rfl, hil, S2.out, H6.out⟩
          case measure => simp [intOf]; omega
        · have hq : m.tmod 9 = 3 := htm.trans h9
          have q1 := h3_a
          have q2 := h3_br
          have q3 := h3_b
          have q4 := h3_slot
          unfold h3S at q1 q2 q3 q4
          obtain ⟨s1, s2, s3, s4⟩ := host_yes HF.out Hw.out hi60 h3_t h3_h fl
          have s0 := (host_made HF.out Hw.out (by omega) h3_t).1
          have e2 : ((A.made 1 h3S .empty []).n : Int) = (A.n : Int) + 1 := by rw [made_n1 h3_t]; omega
          have S1 := Lib.hid s1
          have S2 := Lib.hid s2
          have S3 := Lib.hid s3
          have S4 := Lib.hid s4
          have E2 := Lib.hid e2
          have hAb : (A.n : Int) ≤ 200 := by have := HF.out.n; omega
          have hw1 : IntKind.i64.wrap ((A.n : Int) + 1) = (A.n : Int) + 1 := by rw [IntKind.wrap_i64]; omega
          have hle := Hw.out.le
          clear s1 s2 s3 s4 e2 htm h9 hle
          go_wp2_with fail
          refine (make_yes ((HS.out.alloc _)) HT.out (arg 1 h3S .empty) (by decide) h3_may s0).mono ?_
          rintro e w4 ⟨rfl, h4⟩
          have hfc := h4.tail
          have e0 := hfc.blk_cell 0
          have e1 := hfc.blk_cell 1
          have e2 := hfc.blk_cell 2
          have e3 := hfc.blk_cell 3
          have e4 := hfc.blk_cell 4
          simp only [flCells, List.getElem?_toArray, List.getElem?_cons_zero, List.getElem?_cons_succ] at e0 e1 e2 e3 e4
          have H4 := Lib.hid (show Sep W w4 (docA p (A.made 1 h3S .empty []) :: blk g 31 (flCells fl) :: rs) from h4)
          clear h4 hfc
          go_wp2_with fail
          refine (attach_ok H4.out HT.out HM.out A.n fl S1.out).mono ?_
          rintro e w5 ⟨rfl, h5⟩
          rw [E2.out]
          have H5 := Lib.hid h5
          clear h5 H4 e0 e1 e2 e3 e4
          go_wp2_with fail
          refine (of_yes H5.out S3.out ((A.n : Int) + 1) (by rw [S4.out]; rfl)).mono ?_
          rintro e w6 ⟨rfl, h6⟩
          have H6 := Lib.hid h6
          clear h6 H5
          go_wp2_with fail
          go_roundw
          case rel => exact ⟨i + 1, _, rfl, hil, S2.out, H6.out⟩
          case measure => simp [intOf]; omega
        · have hq : m.tmod 9 = 4 := htm.trans h9
          have q1 := h4_a
          have q2 := h4_br
          have q3 := h4_b
          have q4 := h4_slot
          unfold h4S at q1 q2 q3 q4
          obtain ⟨s1, s2⟩ := host_not HF.out Hw.out hi60 h4_t h4_h
          have s0 := (host_made HF.out Hw.out (by omega) h4_t).1
          have S1 := Lib.hid s1
          have S2 := Lib.hid s2
          clear s1 s2 htm h9
          go_wp2_with fail
          refine (make_yes ((HS.out.alloc _)) HT.out (arg 1 h4S .empty) (by decide) h4_may s0).mono ?_
          rintro e w4 ⟨rfl, h4⟩
          have hfc := h4.tail
          have e0 := hfc.blk_cell 0
          have e1 := hfc.blk_cell 1
          have e2 := hfc.blk_cell 2
          have e3 := hfc.blk_cell 3
          have e4 := hfc.blk_cell 4
          simp only [flCells, List.getElem?_toArray, List.getElem?_cons_zero, List.getElem?_cons_succ] at e0 e1 e2 e3 e4
          have H4 := Lib.hid (show Sep W w4 (docA p (A.made 1 h4S .empty []) :: blk g 31 (flCells fl) :: rs) from h4)
          clear h4 hfc
          go_wp2_with fail
          refine (attach_er H4.out HT.out HM.out A.n fl 100 S1.out (by decide)).mono ?_
          rintro e w5 ⟨rfl, h5⟩
          have H5 := Lib.hid h5
          clear h5 H4 e0 e1 e2 e3 e4
          go_wp2_with fail
          go_roundw
          case rel => exact ⟨i + 1, _, rfl, hil, S2.out, H5.out⟩
          case measure => simp [intOf]; omega
        · have hq : m.tmod 9 = 5 := htm.trans h9
          have q1 := h5_a
          have q2 := h5_br
          have q3 := h5_b
          have q4 := h5_slot
          unfold h5S at q1 q2 q3 q4
          obtain ⟨s1, s2, s3, s4⟩ := host_yes HF.out Hw.out hi60 h5_t h5_h fl
          have s0 := (host_made HF.out Hw.out (by omega) h5_t).1
          have e2 : ((A.made 1 h5S .empty []).n : Int) = (A.n : Int) + 1 := by rw [made_n1 h5_t]; omega
          have S1 := Lib.hid s1
          have S2 := Lib.hid s2
          have S3 := Lib.hid s3
          have S4 := Lib.hid s4
          have E2 := Lib.hid e2
          have hAb : (A.n : Int) ≤ 200 := by have := HF.out.n; omega
          have hw1 : IntKind.i64.wrap ((A.n : Int) + 1) = (A.n : Int) + 1 := by rw [IntKind.wrap_i64]; omega
          have hle := Hw.out.le
          clear s1 s2 s3 s4 e2 htm h9 hle
          go_wp2_with fail
          refine (make_yes ((HS.out.alloc _)) HT.out (arg 1 h5S .empty) (by decide) h5_may s0).mono ?_
          rintro e w4 ⟨rfl, h4⟩
          have hfc := h4.tail
          have e0 := hfc.blk_cell 0
          have e1 := hfc.blk_cell 1
          have e2 := hfc.blk_cell 2
          have e3 := hfc.blk_cell 3
          have e4 := hfc.blk_cell 4
          simp only [flCells, List.getElem?_toArray, List.getElem?_cons_zero, List.getElem?_cons_succ] at e0 e1 e2 e3 e4
          have H4 := Lib.hid (show Sep W w4 (docA p (A.made 1 h5S .empty []) :: blk g 31 (flCells fl) :: rs) from h4)
          clear h4 hfc
          go_wp2_with fail
          refine (attach_ok H4.out HT.out HM.out A.n fl S1.out).mono ?_
          rintro e w5 ⟨rfl, h5⟩
          rw [E2.out]
          have H5 := Lib.hid h5
          clear h5 H4 e0 e1 e2 e3 e4
          go_wp2_with fail
          refine (of_yes H5.out S3.out ((A.n : Int) + 1) (by rw [S4.out]; rfl)).mono ?_
          rintro e w6 ⟨rfl, h6⟩
          have H6 := Lib.hid h6
          clear h6 H5
          go_wp2_with fail
          go_roundw
          case rel => exact ⟨i + 1, _, rfl, hil, S2.out, H6.out⟩
          case measure => simp [intOf]; omega
        · have hq : m.tmod 9 = 6 := htm.trans h9
          have q1 := h6_a
          have q2 := h6_br
          have q3 := h6_b
          have q4 := h6_slot
          unfold h6S at q1 q2 q3 q4
          obtain ⟨s1, s2⟩ := host_not HF.out Hw.out hi60 h6_t h6_h
          have s0 := (host_made HF.out Hw.out (by omega) h6_t).1
          have S1 := Lib.hid s1
          have S2 := Lib.hid s2
          clear s1 s2 htm h9
          go_wp2_with fail
          refine (make_yes ((HS.out.alloc _)) HT.out (arg 1 h6S .empty) (by decide) h6_may s0).mono ?_
          rintro e w4 ⟨rfl, h4⟩
          have hfc := h4.tail
          have e0 := hfc.blk_cell 0
          have e1 := hfc.blk_cell 1
          have e2 := hfc.blk_cell 2
          have e3 := hfc.blk_cell 3
          have e4 := hfc.blk_cell 4
          simp only [flCells, List.getElem?_toArray, List.getElem?_cons_zero, List.getElem?_cons_succ] at e0 e1 e2 e3 e4
          have H4 := Lib.hid (show Sep W w4 (docA p (A.made 1 h6S .empty []) :: blk g 31 (flCells fl) :: rs) from h4)
          clear h4 hfc
          go_wp2_with fail
          refine (attach_er H4.out HT.out HM.out A.n fl 100 S1.out (by decide)).mono ?_
          rintro e w5 ⟨rfl, h5⟩
          have H5 := Lib.hid h5
          clear h5 H4 e0 e1 e2 e3 e4
          go_wp2_with fail
          go_roundw
          case rel => exact ⟨i + 1, _, rfl, hil, S2.out, H5.out⟩
          case measure => simp [intOf]; omega
        · have hq : m.tmod 9 = 7 := htm.trans h9
          have q1 := h7_a
          have q2 := h7_br
          have q3 := h7_b
          have q4 := h7_slot
          unfold h7S at q1 q2 q3 q4
          obtain ⟨s1, s2⟩ := host_not HF.out Hw.out hi60 h7_t h7_h
          have s0 := (host_made HF.out Hw.out (by omega) h7_t).1
          have S1 := Lib.hid s1
          have S2 := Lib.hid s2
          clear s1 s2 htm h9
          go_wp2_with fail
          refine (make_yes ((HS.out.alloc _)) HT.out (arg 1 h7S .empty) (by decide) h7_may s0).mono ?_
          rintro e w4 ⟨rfl, h4⟩
          have hfc := h4.tail
          have e0 := hfc.blk_cell 0
          have e1 := hfc.blk_cell 1
          have e2 := hfc.blk_cell 2
          have e3 := hfc.blk_cell 3
          have e4 := hfc.blk_cell 4
          simp only [flCells, List.getElem?_toArray, List.getElem?_cons_zero, List.getElem?_cons_succ] at e0 e1 e2 e3 e4
          have H4 := Lib.hid (show Sep W w4 (docA p (A.made 1 h7S .empty []) :: blk g 31 (flCells fl) :: rs) from h4)
          clear h4 hfc
          go_wp2_with fail
          refine (attach_er H4.out HT.out HM.out A.n fl 100 S1.out (by decide)).mono ?_
          rintro e w5 ⟨rfl, h5⟩
          have H5 := Lib.hid h5
          clear h5 H4 e0 e1 e2 e3 e4
          go_wp2_with fail
          go_roundw
          case rel => exact ⟨i + 1, _, rfl, hil, S2.out, H5.out⟩
          case measure => simp [intOf]; omega
        · have hq : m.tmod 9 = 8 := htm.trans h9
          have q1 := h8_a
          have q2 := h8_br
          have q3 := h8_b
          have q4 := h8_slot
          unfold h8S at q1 q2 q3 q4
          obtain ⟨s1, s2, s3, s4⟩ := host_yes HF.out Hw.out hi60 h8_t h8_h fl
          have s0 := (host_made HF.out Hw.out (by omega) h8_t).1
          have e2 : ((A.made 1 h8S .empty []).n : Int) = (A.n : Int) + 1 := by rw [made_n1 h8_t]; omega
          have S1 := Lib.hid s1
          have S2 := Lib.hid s2
          have S3 := Lib.hid s3
          have S4 := Lib.hid s4
          have E2 := Lib.hid e2
          have hAb : (A.n : Int) ≤ 200 := by have := HF.out.n; omega
          have hw1 : IntKind.i64.wrap ((A.n : Int) + 1) = (A.n : Int) + 1 := by rw [IntKind.wrap_i64]; omega
          have hle := Hw.out.le
          clear s1 s2 s3 s4 e2 htm h9 hle
          go_wp2_with fail
          refine (make_yes ((HS.out.alloc _)) HT.out (arg 1 h8S .empty) (by decide) h8_may s0).mono ?_
          rintro e w4 ⟨rfl, h4⟩
          have hfc := h4.tail
          have e0 := hfc.blk_cell 0
          have e1 := hfc.blk_cell 1
          have e2 := hfc.blk_cell 2
          have e3 := hfc.blk_cell 3
          have e4 := hfc.blk_cell 4
          simp only [flCells, List.getElem?_toArray, List.getElem?_cons_zero, List.getElem?_cons_succ] at e0 e1 e2 e3 e4
          have H4 := Lib.hid (show Sep W w4 (docA p (A.made 1 h8S .empty []) :: blk g 31 (flCells fl) :: rs) from h4)
          clear h4 hfc
          go_wp2_with fail
          refine (attach_ok H4.out HT.out HM.out A.n fl S1.out).mono ?_
          rintro e w5 ⟨rfl, h5⟩
          rw [E2.out]
          have H5 := Lib.hid h5
          clear h5 H4 e0 e1 e2 e3 e4
          go_wp2_with fail
          refine (of_yes H5.out S3.out ((A.n : Int) + 1) (by rw [S4.out]; rfl)).mono ?_
          rintro e w6 ⟨rfl, h6⟩
          have H6 := Lib.hid h6
          clear h6 H5
          go_wp2_with fail
          go_roundw
          case rel => exact ⟨i + 1, _, rfl, hil, S2.out, H6.out⟩
          case measure => simp [intOf]; omega
      · obtain rfl : i = l.length := by omega
        have t2 : decide ((l.length : Int) < l.length) = false := by simp
        clear hS hF
        go_wp2
        go_ret
        exact ⟨rfl, HS.out.tail.tail⟩
end
end Go.Proofs.YtehjhigaebpfkaaDoor
