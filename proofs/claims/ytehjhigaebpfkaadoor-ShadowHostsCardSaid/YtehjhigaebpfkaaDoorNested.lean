/- ShadowNested and ShadowHosts answer true, whatever is drawn; the example of chapter 10. -/
import Derived.Test.YtehjhigaebpfkaaDoorOfOpen
import Derived.Test.YtehjhigaebpfkaaDoorArgs
namespace Go.Proofs.YtehjhigaebpfkaaDoor
open Go.RowKit

theorem div_host : hostB divS = true := by kernel_rfl
def aS : ByteArray := ⟨#[97]⟩
theorem a_may : mayB 1 aS .empty = true := by kernel_rfl
theorem a_no_host : hostB aS = false := by kernel_rfl

section
variable {W w : World} {rs : List Res} {p : Nat} {A : Doc}
theorem attach_ok (h : Sep W w (docA p A :: rs)) (hT : Laid W) (hM : MaxIs W) (i : Int) (fl : Fl) (he : A.attachE i = 0) :
    Calls Tryd.prog 28 #[ptr p, int i, flVal fl] w fun e w' => e = .returned (.tuple #[int A.n, .int .u16 0]) ∧ Sep W w' (docA p (A.rooted i fl) :: rs) := by
  have := attach_doc h hT hM i fl
  rw [he] at this
  exact this
theorem attach_er (h : Sep W w (docA p A :: rs)) (hT : Laid W) (hM : MaxIs W) (i : Int) (fl : Fl) (E : Int) (he : A.attachE i = E) (hE : E ≠ 0) :
    Calls Tryd.prog 28 #[ptr p, int i, flVal fl] w fun e w' => e = .returned (.tuple #[int 0, .int .u16 E]) ∧ Sep W w' (docA p A :: rs) := by
  have := attach_doc h hT hM i fl
  rw [he, if_neg hE, if_neg hE] at this
  exact this
theorem attachE_0 {i : Int} (hi : A.In i) (hk : (A.nd i).kind = 1) (hh : hostB (A.nd i).name = true) (hs : (A.nd i).shadow = -1) (hl : (A.n : Int) + 1 ≤ A.lim) : A.attachE i = 0 := by
  unfold Doc.attachE Doc.rootE
  rw [if_pos hi, if_pos ⟨hk, hh⟩, if_pos hi, if_pos hk, if_pos hs, if_pos hl]
theorem attachE_101 {i : Int} (hi : A.In i) (hk : (A.nd i).kind = 1) (hh : hostB (A.nd i).name = true) (hs : (A.nd i).shadow ≠ -1) : A.attachE i = 101 := by
  unfold Doc.attachE Doc.rootE
  rw [if_pos hi, if_pos ⟨hk, hh⟩, if_pos hi, if_pos hk, if_neg hs]
theorem attachE_100 {i : Int} (hi : A.In i) (hh : hostB (A.nd i).name = false) : A.attachE i = 100 := by
  unfold Doc.attachE
  rw [if_pos hi, if_neg (fun h => by rw [hh] at h; exact absurd h.2 (by decide))]
end

/-- hosts within roots: where the next one is put, and in which root that is -/
structure Nest (A : Doc) (up last : Int) (i : Nat) : Prop where
  n : A.n = 1 + 2 * i
  lim : A.lim = 300
  inn : A.In up
  top : (A.nd up).up = -1
  kind : ((A.nd up).kind = 4 ∧ last = -1) ∨ ((A.nd up).kind = 5 ∧ last = up)
theorem Nest.new : Nest (Doc.new 300) 0 (-1) 0 := ⟨rfl, rfl, ⟨by decide, by decide⟩, rfl, .inl ⟨rfl, rfl⟩⟩
theorem Nest.step {A : Doc} {up last : Int} {i : Nat} (h : Nest A up last i) (hw : WF A) (hi : i < 100) (fl : Fl) :
    A.makeNo 1 divS = false ∧ (A.made 1 divS .empty []).insertE up A.n (-1) = 0 ∧ ((A.made 1 divS .empty []).insertA up A.n (-1)).n = A.n + 1 ∧ ((A.made 1 divS .empty []).insertA up A.n (-1)).attachE A.n = 0 ∧
      Top (((A.made 1 divS .empty []).insertA up A.n (-1)).rooted A.n fl) 1 A.n up ∧ last = (if ((((A.made 1 divS .empty []).insertA up A.n (-1)).rooted A.n fl).nd up).kind = 5 then up else -1) ∧
      (((A.made 1 divS .empty []).insertA up A.n (-1)).rooted A.n fl).In A.n ∧ ((((A.made 1 divS .empty []).insertA up A.n (-1)).rooted A.n fl).nd A.n).shadow = (A.n : Int) + 1 ∧ (((A.made 1 divS .empty []).insertA up A.n (-1)).rooted A.n fl).In ((A.n : Int) + 1) ∧
      ((((A.made 1 divS .empty []).insertA up A.n (-1)).rooted A.n fl).nd ((A.n : Int) + 1)).fl = fl ∧ Nest (((A.made 1 divS .empty []).insertA up A.n (-1)).rooted A.n fl) ((A.n : Int) + 1) ((A.n : Int) + 1) (i + 1) := by
  have ht := div_no_tmpl
  have hn := h.n
  have hu := h.inn
  have hun : up ≠ A.n := by have := hu.2; omega
  have hu0 : up ≠ -1 := neg_of_in hu
  have htk : takesB (A.nd up).kind (A.nd up).name = true := by rcases h.kind with ⟨e, _⟩ | ⟨e, _⟩ <;> rw [e] <;> simp [takesB]
  obtain ⟨g1, g2⟩ := grow_ins (up := up) (k := 1) (nm := divS) (da := .empty) hw hu ht (by decide) htk
  rw [g2]
  have n2 : ((A.made 1 divS .empty []).put up A.n (-1)).n = A.n + 1 := grow_n ht
  have l2 : ((A.made 1 divS .empty []).put up A.n (-1)).lim = 300 := by rw [grow_lim, h.lim]
  have nd2 := fun j => grow_nd (A := A) (up := up) (k := 1) (nm := divS) (da := .empty) ht hun j
  generalize (A.made 1 divS .empty []).put up A.n (-1) = B at *
  have ndn : B.nd A.n = (newNd 1 divS .empty [] noFl).setUp up := by rw [nd2, if_pos rfl]
  have ndu : B.nd up = (A.nd up).setKids ((A.nd up).kids ++ [(A.n : Int)]) := by rw [nd2, if_neg hun, if_pos rfl]
  have hne : (A.n : Int) ≠ B.n := by rw [n2]; omega
  have r := fun j => rooted_nd (A := B) (fl := fl) hne j
  have rn : (B.rooted A.n fl).n = A.n + 2 := by rw [rooted_n, n2]
  have e2 : (B.n : Int) = (A.n : Int) + 1 := by rw [n2]; omega
  have rnn : (B.rooted A.n fl).nd A.n = (B.nd A.n).setShadow B.n := by rw [r, if_neg hne, if_pos rfl]
  have rup : (B.rooted A.n fl).nd up = B.nd up := by rw [r, if_neg (by rw [n2]; have := hu.2; omega), if_neg hun]
  have rs : (B.rooted A.n fl).nd ((A.n : Int) + 1) = (newNd 5 .empty .empty [] fl).setHost A.n := by rw [← e2, r, if_pos rfl]
  have inn : (B.rooted A.n fl).In A.n := ⟨by omega, by rw [rn]; omega⟩
  have inu : (B.rooted A.n fl).In up := ⟨hu.1, by have := hu.2; rw [rn]; omega⟩
  have ins : (B.rooted A.n fl).In ((A.n : Int) + 1) := ⟨by omega, by rw [rn]; omega⟩
  have upn : ((B.rooted A.n fl).nd A.n).up = up := by rw [rnn, ndn]; rfl
  have upu : ((B.rooted A.n fl).nd up).up = -1 := by rw [rup, ndu]; exact h.top
  refine ⟨makeNo_no ht (by rw [h.lim]; omega), g1, n2, ?_, .up inn (by rw [upn]; exact hu0) (by rw [upn]; exact .here inu upu), ?_, inn, by rw [rnn]; exact e2, ins, by rw [rs]; rfl, ?_⟩
  · exact attachE_0 ⟨by omega, by rw [n2]; omega⟩ (by rw [ndn]; rfl) (by rw [ndn]; exact div_host) (by rw [ndn]; rfl) (by rw [n2, l2]; omega)
  · rw [rup, ndu]
    show last = if (A.nd up).kind = 5 then up else -1
    rcases h.kind with ⟨e, e'⟩ | ⟨e, e'⟩
    · rw [e, e']; rfl
    · rw [e, e']; rfl
  · exact ⟨by rw [rn]; omega, by rw [rooted_lim, l2], ins, by rw [rs]; rfl, .inr ⟨by rw [rs]; rfl, rfl⟩⟩

theorem maxOf {W : World} (h : W.ShapedOpen Tryd.prog) : MaxIs W := Tryd.laysM144.s1_3 W h

section
variable {W w : World} {rs : List Res} {p : Nat}
set_option maxRecDepth 100000 in
set_option maxHeartbeats 1000000 in
theorem nested_walk (h : Sep W w rs) (hT : Laid W) (hM : MaxIs W) (n : Int) (h0 : 0 ≤ n) (c : Bool) :
    Calls Tryd.prog 12 #[.int .u8 n, .bool c] w fun e w' => e = .returned (.bool true) ∧ Sep W w' rs := by
  have H := Lib.hid h
  have HT := Lib.hid hT
  have HM := Lib.hid hM
  obtain ⟨k, hk⟩ := Int.eq_ofNat_of_zero_le (Int.emod_nonneg n (by decide : (60 : Int) ≠ 0))
  have hk60 := Int.emod_lt_of_pos n (by decide : (0 : Int) < 60)
  have hk1 : Int.tmod n 60 = (k : Int) := (Int.tmod_eq_emod_of_nonneg h0).trans hk
  have hk2 : n % 60 = (k : Int) := hk
  have hkb : k < 60 := by omega
  clear h hT hM hk hk60
  go_enter Tryd.func12, Tryd.ntmps12
  go_wp2_with fail
  refine (New_yes H.out 300 (by omega) (by omega)).mono ?_
  rintro e w1 ⟨p, rfl, h1⟩
  have H1 := Lib.hid h1
  clear h1 H
  go_wp2_with fail
  go_loopw [6, 7, 8] (fun u l v wr => ∃ (i : Nat) (A : Doc) (up last : Int), v = int i ∧ i ≤ 1 + k ∧ u = int up ∧ l = int last ∧ Nest A up last i ∧ Sep W wr (docA p A :: rs)) (fun _ _ v _ => 1 + k - (intOf v).toNat)
  case atStart => exact ⟨0, Doc.new 300, 0, -1, rfl, Nat.zero_le _, rfl, rfl, Nest.new, H1.out⟩
  case round =>
    obtain ⟨i, A, up, last, rfl, hi, rfl, rfl, hN, hS⟩ := hrel
    have hw := (docA_open hS).1
    have HS := Lib.hid hS
    clear hS H1
    by_cases hij : i < 1 + k
    · have t1 : decide ((i : Int) < 1 + (k : Int)) = true := by simp; omega
      obtain ⟨s1, s2, s3, s4, s5, s6, s7, s8, s9, s10, s11⟩ := hN.step hw (by omega) ⟨c, false, false, false, false⟩
      have S2 := Lib.hid s2
      obtain ⟨B, hB⟩ : ∃ B, B = (A.made 1 divS .empty []).insertA up A.n (-1) := ⟨_, rfl⟩
      rw [← hB] at s3 s4 s5 s6 s7 s8 s9 s10 s11
      have HB := Lib.hid hB
      have e2 : (B.n : Int) = (A.n : Int) + 1 := by rw [s3]; omega
      obtain ⟨D, hD⟩ : ∃ D, D = B.rooted A.n ⟨c, false, false, false, false⟩ := ⟨_, rfl⟩
      rw [← hD] at s5 s6 s7 s8 s9 s10 s11
      rw [← e2] at s8 s9 s10 s11
      have HD := Lib.hid hD
      have S4 := Lib.hid s4
      have S5 := Lib.hid s5
      have S6 := Lib.hid s6
      have S7 := Lib.hid s7
      have S8 := Lib.hid s8
      have S9 := Lib.hid s9
      have S10 := Lib.hid s10
      have S11 := Lib.hid s11
      have hwr : IntKind.i64.wrap ((i : Int) + 1) = ((i + 1 : Nat) : Int) := by rw [IntKind.wrap_i64]; omega
      have hBm : (B.n : Int) ≠ -1 := by omega
      clear s2 s3 s4 s5 s6 s7 s8 s9 s10 s11 hB hD e2 hN
      go_wp2_with fail
      refine (make_yes HS.out HT.out (arg 1 divS .empty) (by decide) div_may s1).mono ?_
      rintro e w2 ⟨rfl, h2⟩
      have H2 := Lib.hid (show Sep W w2 (docA p (A.made 1 divS .empty []) :: rs) from h2)
      clear h2
      go_wp2_with fail
      refine (insert_doc H2.out HT.out up A.n (-1)).mono ?_
      rintro e w3 ⟨rfl, h3⟩
      rw [S2.out]
      rw [← HB.out] at h3
      have H3 := Lib.hid h3
      clear h3 H2
      go_wp2_with fail
      refine (attach_ok H3.out HT.out HM.out A.n ⟨c, false, false, false, false⟩ S4.out).mono ?_
      rintro e w4 ⟨rfl, h4⟩
      rw [← HD.out] at h4
      have H4 := Lib.hid h4
      clear h4 H3
      go_wp2_with fail
      refine (of_yes H4.out S5.out last S6.out).mono ?_
      rintro e w5 ⟨rfl, h5⟩
      have H5 := Lib.hid h5
      clear h5 H4
      cases c
      · go_wp2_with fail
        refine (open_yes H5.out A.n B.n S7.out S8.out S9.out B.n (by rw [S10.out]; rfl)).mono ?_
        rintro e w6 ⟨rfl, h6⟩
        have H6 := Lib.hid h6
        clear h6 H5
        go_wp2_with fail
        go_roundw
        case rel => exact ⟨i + 1, D, _, _, rfl, hij, rfl, rfl, S11.out, H6.out⟩
        case measure => simp [intOf]; omega
      · have t2 : ((-1 : Int) == (B.n : Int)) = false := by simp
        go_wp2_with fail
        refine (open_yes H5.out A.n B.n S7.out S8.out S9.out (-1) (by rw [S10.out]; rfl)).mono ?_
        rintro e w6 ⟨rfl, h6⟩
        have H6 := Lib.hid h6
        clear h6 H5
        go_wp2_with fail
        go_roundw
        case rel => exact ⟨i + 1, D, _, _, rfl, hij, rfl, rfl, S11.out, H6.out⟩
        case measure => simp [intOf]; omega
    · obtain rfl : i = 1 + k := by omega
      have t1 : decide (((1 + k : Nat) : Int) < 1 + (k : Int)) = false := by simp
      go_wp2
      go_ret
      exact ⟨rfl, HS.out.tail⟩
end
end Go.Proofs.YtehjhigaebpfkaaDoor
