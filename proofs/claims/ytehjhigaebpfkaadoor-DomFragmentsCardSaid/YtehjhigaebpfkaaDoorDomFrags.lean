/- DomFragments answers true, whatever the numbers. -/
import Derived.Test.YtehjhigaebpfkaaDoorFrags
import Derived.Test.YtehjhigaebpfkaaDoorSameInts
import Derived.Test.YtehjhigaebpfkaaDoorArgs
namespace Go.Proofs.YtehjhigaebpfkaaDoor
open Go.RowKit

theorem frag_may : mayB 4 .empty .empty = true := by kernel_rfl
theorem mod20 (x : Int) (h : 0 ≤ x) : ∃ k : Nat, Int.tmod x 20 = (k : Int) ∧ x % 20 = (k : Int) ∧ k < 20 := by
  obtain ⟨k, hk⟩ := Int.eq_ofNat_of_zero_le (Int.emod_nonneg x (by decide : (20 : Int) ≠ 0))
  have := Int.emod_lt_of_pos x (by decide : (0 : Int) < 20)
  exact ⟨k, (Int.tmod_eq_emod_of_nonneg h).trans hk, hk, by omega⟩

theorem icells_append (a b : List Int) : icells (a ++ b) = icells a ++ icells b := by simp [icells]
section
variable {W w : World} {rs : List Res} {p : Nat}
theorem Sep.snoc {v : Value} {l : List Int} {x : Int} (h : Sep W w (row TInt 1 v (l.length + 1) (icells l ++ [int x]) :: rs)) : Sep W w (irow v (l ++ [x]) :: rs) := by simpa [irow, icells_snoc] using h
theorem Sep.keep2 {a b c d e : Res} (h : Sep W w (a :: b :: c :: d :: e :: rs)) : Sep W w (a :: b :: rs) := h.third.tail.third.tail.third.tail
set_option maxRecDepth 100000 in
set_option maxHeartbeats 1000000 in
theorem frags_walk (h : Sep W w rs) (hT : Laid W) (n m a : Int) (h0 : 0 ≤ n) (m0 : 0 ≤ m) (a0 : 0 ≤ a) (a1 : a ≤ 255) :
    Calls Tryd.prog 3 #[.int .u8 n, .int .u8 m, .int .u8 a] w fun e w' => e = .returned (.bool true) ∧ Sep W w' rs := by
  have H := Lib.hid h
  have HT := Lib.hid hT
  obtain ⟨k, hk1, hk2, hk⟩ := mod20 n h0
  obtain ⟨j, hj1, hj2, hj⟩ := mod20 m m0
  obtain ⟨at_, rfl⟩ := Int.eq_ofNat_of_zero_le a0
  obtain ⟨i0, hi0, hz0, hz1, hz2⟩ := info_parts infoInt
  clear h hT
  go_enter Tryd.func3, Tryd.ntmps3
  go_wp2_with fail
  refine (plain_any H.out HT.out k (by omega)).mono ?_
  rintro e w1 ⟨p, A0, rfl, hF, h1⟩
  have H1 := Lib.hid h1
  have hno := hF.roomF (by omega)
  have hn0 := hF.n
  have HF := Lib.hid (Frag.start hF)
  clear h1 H hF
  go_wp2_with fail
  refine (make_yes H1.out HT.out (arg 4 .empty .empty) (by decide) frag_may hno).mono ?_
  rintro e w2 ⟨rfl, h2⟩
  have H2 := Lib.hid (show Sep W w2 (docA p (A0.made 4 .empty .empty []) :: rs) from h2)
  have hn1 : (A0.n : Int) = ((k + 1 : Nat) : Int) := by rw [hn0]
  rw [hn1]
  obtain ⟨f, hf⟩ : ∃ f, f = k + 1 := ⟨_, rfl⟩
  rw [← hf]
  have Hf := Lib.hid (show (f : Int) = (k : Int) + 1 by omega)
  have H2' := H2.out.nilRow TInt 1 none
  have H3 := Lib.hid (show Sep W w2 (irow (.slice none 0 0) [] :: docA p (A0.made 4 .empty .empty []) :: rs) from H2')
  clear h2 H1 H2 H2' hn1 hf hno hn0
  go_wp2_with fail
  go_loopw [10, 11] (fun o v wr => ∃ (i : Nat) (A : Doc), v = int i ∧ i ≤ j ∧ Frag A k i ∧ Sep W wr (irow o (fromL (k + 2) i) :: docA p A :: rs)) (fun _ v _ => j - (intOf v).toNat)
  case atStart => exact ⟨0, _, rfl, Nat.zero_le _, HF.out, H3.out⟩
  case round =>
    obtain ⟨i, A, rfl, hi, hFr, hS⟩ := hrel
    have hw := (docA_open hS.tail).1
    have HS := Lib.hid hS
    obtain ⟨ao, co, rfl⟩ := hS.irow_form
    clear H3 HF
    by_cases hij : i < j
    · have t1 : decide ((i : Int) < j) = true := by simp; omega
      obtain ⟨g1, g2⟩ := hFr.grow hw
      rw [← Hf.out] at g1 g2
      have hno := hFr.room (by omega)
      have hn := hFr.n
      have G1 := Lib.hid g1
      have G2 := Lib.hid g2
      have hwr : IntKind.i64.wrap ((i : Int) + 1) = ((i + 1 : Nat) : Int) := by rw [IntKind.wrap_i64]; omega
      have Hhd : (fromL (k + 2) i ++ [(A.n : Int)]) = fromL (k + 2) (i + 1) := by rw [fromL_succ, hn]
      have HL := Lib.hid Hhd
      have hb1 : (fromL (k + 2) i).length + 1 ≤ maxLen := by rw [fromL_len]; unfold maxLen; omega
      have hb2 : ((fromL (k + 2) i).length + 1) * 8 ≤ 140737488355328 := by rw [fromL_len]; omega
      have hn1 : ∀ u ∈ [int (A.n : Int)], u.oneCell' = true := by intro u hu; rw [List.mem_singleton.1 hu]; rfl
      clear g1 g2 hS Hhd hn
      go_wp2_with fail
      refine (make_yes HS.out.swap HT.out (arg 2 .empty xS) (by decide) x_may hno).mono ?_
      rintro e w3 ⟨rfl, h3⟩
      have H3 := Lib.hid (show Sep W w3 (docA p (A.made 2 .empty xS []) :: irow (.slice ao (fromL (k + 2) i).length co) (fromL (k + 2) i) :: rs) from h3)
      clear h3
      go_wp2_with fail
      refine (insert_doc H3.out HT.out f A.n (-1)).mono ?_
      rintro e w4 ⟨rfl, h4⟩
      rw [G1.out]
      have H4 := Lib.hid h4.swap
      clear h4 H3
      go_wp2_with (at_builtin; refine wpList_app rfl _ _ 29 rfl Tryd.underlying29 hi0 hz0 hz1 hz2 rfl (by decide) rfl (H4.out.alloc _) _ _ _ [int (A.n : Int)] rfl (src_new _ _ _) hn1 hb1 hb2 ?_; intro v' w' h'; have H5 := Lib.hid h'; clear h')
      go_roundw
      case rel =>
        refine ⟨i + 1, _, rfl, hij, G2.out, ?_⟩
        rw [← HL.out]
        simpa [irow, icells_snoc] using H5.out
      case measure => simp [intOf]; omega
    · obtain rfl : i = j := by omega
      have t1 : decide ((i : Int) < i) = false := by simp
      have hn := hFr.n
      have HFr := Lib.hid hFr
      have h00 : A.In 0 := ⟨by omega, by omega⟩
      clear hS hFr
      go_wp2_with fail
      refine (node_doc HS.out.swap 0 h00).mono ?_
      rintro e w3 ⟨va3, vk3, rfl, h3⟩
      have hk0 : (A.nd 0).kids = upto k := by rw [HFr.out.top]; rfl
      rw [hk0] at h3
      have hz0 := h3.swap.tail
      obtain ⟨k3, kc3, rfl⟩ := hz0.irow_form
      obtain ⟨a3, ac3, rfl⟩ := h3.tail.arow_form
      have hz := hz0.blk_new (ndCells (A.nd 0) (.slice a3 (A.nd 0).attrs.length ac3) (.slice k3 (upto k).length kc3)) 33
      obtain ⟨w4, hw4⟩ : ∃ w4, w4 = w3.alloc (.cells (ndCells (A.nd 0) (.slice a3 (A.nd 0).attrs.length ac3) (.slice k3 (upto k).length kc3)) 33) := ⟨_, rfl⟩
      rw [← hw4] at hz
      have Hw4 := Lib.hid hw4
      have HZ := Lib.hid (hz.fourth.nilRow TInt 1 none)
      clear h3 hz0 hz hw4 HS
      go_wp2_with (refine wpList_store_node rfl _ _ rfl rfl rfl rfl ?_; rw [← Hw4.out]; refine halt ?_)
      refine Halt.go ?_
      clear Hw4
      generalize hnd : ndCells (A.nd 0) (.slice a3 (A.nd 0).attrs.length ac3) (.slice k3 (upto k).length kc3) = cs at HZ
      have hcs : cs[5]? = some (.slice k3 k kc3) := by rw [← hnd, upto_len]; rfl
      rw [upto_len] at HZ
      clear hnd
      have HOL := Lib.hid (fromL_len (k + 2) i)
      go_wp2_with fail
      go_loopw [16, 17, 18] (fun bf wt v wr => ∃ q : Nat, v = int q ∧ q ≤ k ∧ bf = int (beforeAt at_ q) ∧ Sep W wr (irow wt (wantAt at_ (fromL (k + 2) i) q) :: irow (.slice ao (fromL (k + 2) i).length co) (fromL (k + 2) i) :: blk w3.heap.size 33 cs :: irow (.slice k3 k kc3) (upto k) :: docA p A :: rs)) (fun _ _ v _ => k - (intOf v).toNat)
      case atStart => exact ⟨0, rfl, Nat.zero_le _, rfl, HZ.out⟩
      case round =>
        obtain ⟨q, rfl, hq, rfl, hS⟩ := hrel
        have c5 := (hS.tail.tail.blk_cell 5).trans hcs
        have hwl := wantAt_len at_ (fromL (k + 2) i) q
        obtain ⟨aw, cw, rfl⟩ := hS.irow_form
        have HS := Lib.hid hS
        clear HZ
        obtain ⟨G0, hG0⟩ := hS.tail.head
        have hsrc : Src wr 1 ao (fromL (k + 2) i).length (icells (fromL (k + 2) i)) := rowHolds.src (show rowHolds TInt 1 (.slice ao (fromL (k + 2) i).length co) (fromL (k + 2) i).length (icells (fromL (k + 2) i)) wr G0 from hG0)
        have hno : ∀ u ∈ icells (fromL (k + 2) i), u.oneCell' = true := by intro u hu; obtain ⟨x, _, rfl⟩ := List.mem_map.1 hu; rfl
        have hb3 : (wantAt at_ (fromL (k + 2) i) q).length + (fromL (k + 2) i).length ≤ maxLen := by have := HOL.out; unfold maxLen; omega
        have hb4 : ((wantAt at_ (fromL (k + 2) i) q).length + (fromL (k + 2) i).length) * 8 ≤ 140737488355328 := by have := HOL.out; omega
        have Hsrc := Lib.hid hsrc
        have Hno := Lib.hid hno
        clear hsrc hno
        by_cases hqk : q < k
        · obtain ⟨g6, d6, hv6, hc6⟩ := hS.tail.tail.tail.irow_open (by rw [upto_len]; omega)
          obtain ⟨rfl, rfl⟩ : k3 = some ⟨g6, 0, none⟩ ∧ kc3 = d6 := by injection hv6 with h1 _ h3; exact ⟨h1, h3⟩
          have cl := hc6 q ((q : Int) + 1) (upto_at hqk)
          have t5 : decide ((q : Int) < k) = true := by simp; omega
          have hwr2 : IntKind.i64.wrap ((q : Int) + 1) = ((q + 1 : Nat) : Int) := by rw [IntKind.wrap_i64]; omega
          by_cases hqa : q = at_
          · have t6 : ((q : Int) == (at_ : Int)) = true := by simp [hqa]
            subst hqa
            have hstep := want_hit (fromL (k + 2) i) q
            have hbs := before_hit q
            have HST := Lib.hid hstep
            have HBS := Lib.hid hbs
            have hb1 : (wantAt q (fromL (k + 2) i) q ++ fromL (k + 2) i).length + 1 ≤ maxLen := by have := HOL.out; rw [List.length_append]; unfold maxLen; omega
            have hb2 : ((wantAt q (fromL (k + 2) i) q ++ fromL (k + 2) i).length + 1) * 8 ≤ 140737488355328 := by have := HOL.out; rw [List.length_append]; omega
            have hn1 : ∀ u ∈ [int ((q : Int) + 1)], u.oneCell' = true := by intro u hu; rw [List.mem_singleton.1 hu]; rfl
            clear hS hv6 hc6 hstep hbs hwl hG0
            go_wp2_with (at_builtin; refine wpList_app rfl _ _ 29 rfl Tryd.underlying29 hi0 hz0 hz1 hz2 rfl (by decide) rfl HS.out _ _ _ (icells (fromL (k + 2) i)) rfl Hsrc.out Hno.out hb3 hb4 ?_; intro v' w' h'; have H5 := Lib.hid h'; clear h'; refine halt ?_)
            have h6 : Sep W w' (irow v' (wantAt q (fromL (k + 2) i) q ++ fromL (k + 2) i) :: irow (.slice ao (fromL (k + 2) i).length co) (fromL (k + 2) i) :: blk w3.heap.size 33 cs :: irow (.slice (some ⟨g6, 0, none⟩) k kc3) (upto k) :: docA p A :: rs) := by simpa [irow, icells_append] using H5.out
            obtain ⟨aw2, cw2, rfl⟩ := h6.irow_form
            have d5 := (h6.tail.tail.blk_cell 5).trans hcs
            obtain ⟨g7, d7, hv7, hc7⟩ := h6.tail.tail.tail.irow_open (by rw [upto_len]; omega)
            obtain ⟨rfl, rfl⟩ : g6 = g7 ∧ kc3 = d7 := by injection hv7 with h1 _ h3; injection h1 with h1; injection h1 with h1; exact ⟨h1, h3⟩
            have dl := hc7 q ((q : Int) + 1) (upto_at hqk)
            have H6 := Lib.hid h6
            clear h6 hv7 hc7 H5 HS c5 cl
            refine Halt.go ?_
            go_wp2_with (at_builtin; refine wpList_app rfl _ _ 29 rfl Tryd.underlying29 hi0 hz0 hz1 hz2 rfl (by decide) rfl (H6.out.alloc _) _ _ _ [int ((q : Int) + 1)] rfl (src_new _ _ _) hn1 hb1 hb2 ?_; intro v2' w2' h'; have H7 := Lib.hid h'; clear h')
            go_roundw
            case rel =>
              refine ⟨q + 1, rfl, hqk, by rw [HBS.out], ?_⟩
              rw [HST.out]
              exact Sep.snoc H7.out
            case measure => simp [intOf]; omega
          · have t6 : ((q : Int) == (at_ : Int)) = false := by simpa using fun h => hqa (by omega)
            have hstep := want_miss (fromL (k + 2) i) hqa
            have hbs := before_miss hqa
            have HST := Lib.hid hstep
            have HBS := Lib.hid hbs
            have hb1 : (wantAt at_ (fromL (k + 2) i) q).length + 1 ≤ maxLen := by have := HOL.out; unfold maxLen; omega
            have hb2 : ((wantAt at_ (fromL (k + 2) i) q).length + 1) * 8 ≤ 140737488355328 := by have := HOL.out; omega
            have hn1 : ∀ u ∈ [int ((q : Int) + 1)], u.oneCell' = true := by intro u hu; rw [List.mem_singleton.1 hu]; rfl
            clear hS hv6 hc6 hstep hbs hwl hqa hG0
            go_wp2_with (at_builtin; refine wpList_app rfl _ _ 29 rfl Tryd.underlying29 hi0 hz0 hz1 hz2 rfl (by decide) rfl (HS.out.alloc _) _ _ _ [int ((q : Int) + 1)] rfl (src_new _ _ _) hn1 hb1 hb2 ?_; intro v' w' h'; have H5 := Lib.hid h'; clear h')
            go_roundw
            case rel =>
              refine ⟨q + 1, rfl, hqk, by rw [HBS.out], ?_⟩
              rw [HST.out]
              simpa [irow, icells_snoc] using H5.out
            case measure => simp [intOf]; omega
        · obtain rfl : q = k := by omega
          have t5 : decide ((q : Int) < q) = false := by simp
          have hfin := HFr.out.into (docA_open hS.tail.tail.tail.tail).1 at_
          rw [← Hf.out] at hfin
          obtain ⟨D, hD⟩ : ∃ D, D = A.insertA 0 f (beforeAt at_ q) := ⟨_, rfl⟩
          rw [← hD] at hfin
          obtain ⟨f1, f2, f3, f4, f5, f6⟩ := hfin
          have GE := Lib.hid f1
          have GK := Lib.hid (show (D.nd 0).kids = wanted q at_ (fromL (q + 2) i) from f2)
          have GZ := Lib.hid f3
          have GU := Lib.hid f4
          have GI := Lib.hid (And.intro f5 f6)
          have GL := Lib.hid (show (wanted q at_ (fromL (q + 2) i)).length ≤ 1000000 by
            have := HOL.out
            by_cases hh : at_ < q
            · rw [(wanted_yes _ hh).1]; omega
            · rw [(wanted_no _ hh).1, List.length_append]; omega)
          have HD := Lib.hid hD
          clear f1 f2 f3 f4 f5 f6 hD
          by_cases haq : at_ < q
          · have e1 : beforeAt at_ q = (at_ : Int) + 1 := (wanted_yes [] haq).2
            have e2 : wantAt at_ (fromL (q + 2) i) q = wanted q at_ (fromL (q + 2) i) := (wanted_yes _ haq).1.symm
            rw [e1] at GE HD ⊢
            rw [e2] at HS ⊢
            have t6 : decide ((at_ : Int) + 1 < 0) = false := by simp; omega
            have H7 := Lib.hid (HS.out.fifth.keep2)
            clear hS HS e1 e2 hG0 hwl hb3 hb4 Hsrc
            go_wp2_with fail
            refine (insert_doc H7.out HT.out 0 f ((at_ : Int) + 1)).mono ?_
            rintro e w8 ⟨rfl, h8⟩
            rw [GE.out]
            rw [← HD.out] at h8
            have H8 := Lib.hid h8
            clear h8
            go_wp2_with fail
            refine (node_doc H8.out 0 GI.out.1).mono ?_
            rintro e w9 ⟨va9, vk9, rfl, h9⟩
            rw [GK.out] at h9
            obtain ⟨k9, kc9, rfl⟩ := h9.irow_form
            obtain ⟨a9, ac9, rfl⟩ := h9.tail.arow_form
            have H9 := Lib.hid (h9.swap.tail.blk_new (ndCells (D.nd 0) (.slice a9 (D.nd 0).attrs.length ac9) (.slice k9 (wanted q at_ (fromL (q + 2) i)).length kc9)) 33)
            clear h9 H8
            go_wp2_with (refine wpList_store_node rfl _ _ rfl rfl rfl rfl ?_)
            refine (node_doc H9.out.third f GI.out.2).mono ?_
            rintro e w10 ⟨va10, vk10, rfl, h10⟩
            rw [GZ.out] at h10
            obtain ⟨k10, kc10, rfl⟩ := h10.irow_form
            obtain ⟨a10, ac10, rfl⟩ := h10.tail.arow_form
            have H10 := Lib.hid (h10.tail.tail.blk_new (ndCells (D.nd f) (.slice a10 (D.nd f).attrs.length ac10) (.slice k10 ([] : List Int).length kc10)) 33)
            clear h10 H9
            go_wp2_with (refine wpList_store_node rfl _ _ rfl rfl rfl rfl ?_)
            refine (known_any H10.out HT.out).mono ?_
            rintro e w11 ⟨rfl, h11⟩
            have c9 := h11.tail.tail.box_kids
            have H11 := Lib.hid (h11.swap.tail.swap.tail.back2)
            clear h11 H10
            go_wp2_with fail
            refine (sameInts_any H11.out (by have := GL.out; omega)).mono ?_
            rintro e w12 ⟨rfl, h12⟩
            rw [show decide (wanted q at_ (fromL (q + 2) i) = wanted q at_ (fromL (q + 2) i)) = true from decide_eq_true rfl]
            have c10 := h12.tail.tail.box_kids
            have c11 := h12.tail.tail.box_up
            rw [GU.out] at c11
            have H12 := Lib.hid h12
            clear h12 H11 c9
            go_wp2
            go_ret
            exact ⟨rfl, H12.out.tail.tail.tail⟩
          · have e1 : beforeAt at_ q = -1 := (wanted_no [] haq).2
            have e2 : wantAt at_ (fromL (q + 2) i) q ++ fromL (q + 2) i = wanted q at_ (fromL (q + 2) i) := (wanted_no _ haq).1.symm
            rw [e1] at GE HD ⊢
            have HE2 := Lib.hid e2
            have HAD := Lib.hid HD
            clear hS e1 e2 hG0 hwl
            go_wp2_with (at_builtin; refine wpList_app rfl _ _ 29 rfl Tryd.underlying29 hi0 hz0 hz1 hz2 rfl (by decide) rfl HS.out _ _ _ (icells (fromL (q + 2) i)) rfl Hsrc.out Hno.out hb3 hb4 ?_; intro v' w' h'; have H5 := Lib.hid h'; clear h'; refine halt ?_)
            have h6 : Sep W w' (irow v' (wantAt at_ (fromL (q + 2) i) q ++ fromL (q + 2) i) :: irow (.slice ao (fromL (q + 2) i).length co) (fromL (q + 2) i) :: blk w3.heap.size 33 cs :: irow (.slice k3 q kc3) (upto q) :: docA p A :: rs) := by simpa [irow, icells_append] using H5.out
            rw [HE2.out] at h6
            obtain ⟨aw2, cw2, rfl⟩ := h6.irow_form
            have H7 := Lib.hid (h6.fifth.keep2)
            clear h6 H5 HS c5 Hsrc hb3 hb4
            refine Halt.go ?_
            go_wp2_with fail
            refine (insert_doc H7.out HT.out 0 f (-1)).mono ?_
            rintro e w8 ⟨rfl, h8⟩
            rw [GE.out]
            rw [← HD.out] at h8
            have H8 := Lib.hid h8
            clear h8
            go_wp2_with fail
            refine (node_doc H8.out 0 GI.out.1).mono ?_
            rintro e w9 ⟨va9, vk9, rfl, h9⟩
            rw [GK.out] at h9
            obtain ⟨k9, kc9, rfl⟩ := h9.irow_form
            obtain ⟨a9, ac9, rfl⟩ := h9.tail.arow_form
            have H9 := Lib.hid (h9.swap.tail.blk_new (ndCells (D.nd 0) (.slice a9 (D.nd 0).attrs.length ac9) (.slice k9 (wanted q at_ (fromL (q + 2) i)).length kc9)) 33)
            clear h9 H8
            go_wp2_with (refine wpList_store_node rfl _ _ rfl rfl rfl rfl ?_)
            refine (node_doc H9.out.third f GI.out.2).mono ?_
            rintro e w10 ⟨va10, vk10, rfl, h10⟩
            rw [GZ.out] at h10
            obtain ⟨k10, kc10, rfl⟩ := h10.irow_form
            obtain ⟨a10, ac10, rfl⟩ := h10.tail.arow_form
            have H10 := Lib.hid (h10.tail.tail.blk_new (ndCells (D.nd f) (.slice a10 (D.nd f).attrs.length ac10) (.slice k10 ([] : List Int).length kc10)) 33)
            clear h10 H9
            go_wp2_with (refine wpList_store_node rfl _ _ rfl rfl rfl rfl ?_)
            refine (known_any H10.out HT.out).mono ?_
            rintro e w11 ⟨rfl, h11⟩
            have c9 := h11.tail.tail.box_kids
            have H11 := Lib.hid (h11.swap.tail.swap.tail.back2)
            clear h11 H10
            go_wp2_with fail
            refine (sameInts_any H11.out (by have := GL.out; omega)).mono ?_
            rintro e w12 ⟨rfl, h12⟩
            rw [show decide (wanted q at_ (fromL (q + 2) i) = wanted q at_ (fromL (q + 2) i)) = true from decide_eq_true rfl]
            have c10 := h12.tail.tail.box_kids
            have c11 := h12.tail.tail.box_up
            rw [GU.out] at c11
            have H12 := Lib.hid h12
            clear h12 H11 c9
            go_wp2
            go_ret
            exact ⟨rfl, H12.out.tail.tail.tail⟩
end
end Go.Proofs.YtehjhigaebpfkaaDoor
