/- DomOnce answers true, whatever the moves. -/
import Derived.Test.YtehjhigaebpfkaaDoorPlain
import Derived.Test.YtehjhigaebpfkaaDoorArgs
namespace Go.Proofs.YtehjhigaebpfkaaDoor
open Go.RowKit

/-- no Fragment but the first node -/
def OneTop (A : Doc) : Prop := ∀ j, A.In j → j ≠ 0 → (A.nd j).kind ≠ 4
theorem Flat.oneTop {A : Doc} {k : Nat} (h : Flat A k) : OneTop A := fun j hj h0 => by
  rw [h.nd j (by have := hj.1; omega) (by have := hj.2; rw [h.n] at this; omega)]
  decide
section
variable {A : Doc} {a b : Int}
theorem OneTop.ins (h : OneTop A) (he : A.insertE a b (-1) = 0) : A.insertA a b (-1) = A.put a b (-1) ∧ OneTop (A.insertA a b (-1)) := by
  obtain ⟨hu, hi, _, hf, _⟩ := Doc.insert_ok he
  have h0 := (Doc.fits_parts hf).1
  have e := Doc.insertA_end he hi (h b hi h0)
  refine ⟨e, fun j hj hj0 => ?_⟩
  rw [e]
  have hr := congrArg Nd.kind (put_rest (A := A) (up := a) (i := b) (before := -1) (j := j))
  have : ((A.put a b (-1)).nd j).kind = (A.nd j).kind := hr
  rw [this]
  exact h j (by rw [e] at hj; exact put_in.1 hj) hj0
theorem insert_or (hu : A.In a) (hi : A.In b) : A.insertE a b (-1) = 0 ∨ A.insertE a b (-1) = 81 := by
  unfold Doc.insertE
  rw [if_pos ⟨hu, hi, .inl rfl⟩]
  split
  · exact .inl rfl
  · exact .inr rfl
theorem insertA_no (h : A.insertE a b (-1) ≠ 0) : A.insertA a b (-1) = A := by unfold Doc.insertA; rw [if_neg h]
theorem put_last (hw : WFT A) (ha : A.In a) : ((A.put a b (-1)).nd a).kids = (A.nd a).kids.erase b ++ [b] := by
  rw [put_kids hw ha, if_pos rfl]; rfl
theorem put_gone (hw : WFT A) {u : Int} (hu : A.In u) (h : u ≠ a) : b ∉ ((A.put a b (-1)).nd u).kids := by
  rw [put_kids hw hu, if_neg h]
  exact fun hm => (List.Nodup.mem_erase_iff (hw.nod u hu)).1 hm |>.1 rfl
end

theorem wrap_u16b (n : Int) : IntKind.u16.wrap n = n % 65536 := by simp [IntKind.wrap, IntKind.bits, IntKind.signed]
/-- two numbers of nodes out of one number -/
theorem idx_facts (m : Int) (N : Nat) (h0 : 0 ≤ m) (h1 : m ≤ 65535) (hN : 0 < N) : ∃ a b q : Nat, a < N ∧ b < N ∧ m.tmod (N : Int) = (a : Int) ∧ m % (N : Int) = (a : Int) ∧ IntKind.u16.wrap (m.tdiv 64) = (q : Int) ∧ wrap64 (q : Int) = (q : Int) ∧ (q : Int).tmod (N : Int) = (b : Int) ∧ (q : Int) % (N : Int) = (b : Int) := by
  have hNp : (0 : Int) < N := by omega
  have hn0 : (N : Int) ≠ 0 := by omega
  obtain ⟨a, ha⟩ := Int.eq_ofNat_of_zero_le (Int.emod_nonneg m hn0)
  have haN : m % (N : Int) < N := Int.emod_lt_of_pos _ hNp
  obtain ⟨q, hq⟩ := Int.eq_ofNat_of_zero_le (show 0 ≤ m / 64 by omega)
  have hqb : (q : Int) ≤ 65535 := by rw [← hq]; omega
  obtain ⟨b, hb⟩ := Int.eq_ofNat_of_zero_le (Int.emod_nonneg (q : Int) hn0)
  have hbN : (q : Int) % (N : Int) < N := Int.emod_lt_of_pos _ hNp
  rw [ha] at haN
  rw [hb] at hbN
  refine ⟨a, b, q, by clear ha hb hq; omega, by clear ha hb hq; omega, (Int.tmod_eq_emod_of_nonneg h0).trans ha, ha, ?_, ?_, (Int.tmod_eq_emod_of_nonneg (by clear ha hb hq; omega)).trans hb, hb⟩
  · rw [Int.tdiv_eq_ediv_of_nonneg h0, hq, wrap_u16b]
    clear ha hb hq
    omega
  · unfold wrap64
    clear ha hb hq
    omega

section
variable {W w : World} {rs : List Res} {p : Nat}
set_option maxRecDepth 100000 in
set_option maxHeartbeats 1000000 in
theorem once_walk (h : Sep W w rs) (hT : Laid W) (n : Int) (h0 : 0 ≤ n) (_h1 : n ≤ 255) (v : Value) (l : List Int) (hl : ArgInts .u16 W v l) :
    Calls Tryd.prog 5 #[.int .u8 n, v] w fun e w' => e = .returned (.bool true) ∧ Sep W w' rs := by
  have H := Lib.hid h
  have HT := Lib.hid hT
  have HL := Lib.hid hl
  obtain ⟨a0, c0, rfl⟩ := hl.form
  have hm0 : 0 ≤ n % 20 := Int.emod_nonneg _ (by omega)
  have hm1 : n % 20 < 20 := Int.emod_lt_of_pos _ (by omega)
  have hr : Int.tmod n 20 = n % 20 := Int.tmod_eq_emod_of_nonneg h0
  obtain ⟨k, hk⟩ := Int.eq_ofNat_of_zero_le (show 0 ≤ 2 + n % 20 by omega)
  have hk' : 2 + n % 20 = (k : Int) := hk
  clear h hT hl
  go_enter Tryd.func5, Tryd.ntmps5
  go_wp2_with fail
  refine (plain_any H.out HT.out k (by omega)).mono ?_
  rintro e w1 ⟨p, A0, rfl, hF, h1⟩
  obtain ⟨N, hN⟩ : ∃ N, A0.n = N := ⟨_, rfl⟩
  have hNp : 0 < N := by rw [← hN, hF.n]; omega
  have H1 := Lib.hid h1
  have HO := Lib.hid hF.oneTop
  clear h1 H hF
  by_cases hbig : 60 < l.length
  · have t1 : decide ((l.length : Int) > 60) = true := by simp; omega
    go_wp2_with fail
    refine (known_any H1.out HT.out).mono ?_
    rintro e w2 ⟨rfl, h2⟩
    have H2 := Lib.hid h2
    clear h2
    go_wp2
    go_ret
    exact ⟨rfl, H2.out.tail⟩
  · have t1 : decide ((l.length : Int) > 60) = false := by simp; omega
    go_wp2_with fail
    refine (len_doc H1.out).mono ?_
    rintro e w2 ⟨rfl, rfl⟩
    rw [hN]
    go_wp2_with fail
    go_loopw [7] (fun v wr => ∃ (i : Nat) (A : Doc), v = int i ∧ i ≤ l.length ∧ A.n = N ∧ OneTop A ∧ Sep W wr (docA p A :: rs)) (fun v _ => l.length - (intOf v).toNat)
    case atStart => exact ⟨0, A0, rfl, Nat.zero_le _, hN, HO.out, H1.out⟩
    case round =>
      obtain ⟨i, A, rfl, hi, hAN, hO, hS⟩ := hrel
      have HS := Lib.hid hS
      have HOr := Lib.hid hO
      have Hw := Lib.hid (docA_open hS).1
      clear H1 HO
      by_cases hil : i < l.length
      · have t2 : decide ((i : Int) < l.length) = true := by simp; omega
        obtain ⟨b0, o0, rfl, hcell⟩ := HL.out.at (by omega)
        have hm : (Lit.int .u16 l[i]).wf = true := HL.out.1 _ (List.getElem_mem hil)
        have hmb := bounds_u16 hm
        have c1 := hcell i l[i] hS (by simp [hil])
        have Hcell := Lib.hid c1
        generalize hml : l[i] = m at *
        have hN0 : ((N : Int) == 0) = false := by simp; omega
        obtain ⟨a, b, q, haN, hbN, ha2, ha1, hq1, hq2, hb2, hb1⟩ := idx_facts m N hmb.1 hmb.2 hNp
        clear hS hO hcell hm
        go_wp2_with fail
        have hIb : A.In b := ⟨by omega, by rw [hAN]; omega⟩
        have hIa : A.In a := ⟨by omega, by rw [hAN]; omega⟩
        have hwr : IntKind.i64.wrap ((i : Int) + 1) = ((i + 1 : Nat) : Int) := by rw [IntKind.wrap_i64]; omega
        refine (node_doc HS.out b hIb).mono ?_
        rintro e w1 ⟨va1, vk1, rfl, h1⟩
        obtain ⟨k1, kc1, rfl⟩ := h1.irow_form
        obtain ⟨a1, ac1, rfl⟩ := h1.tail.arow_form
        have Hx := Lib.hid (h1.tail.tail.blk_new (ndCells (A.nd b) (.slice a1 (A.nd b).attrs.length ac1) (.slice k1 (A.nd b).kids.length kc1)) 33)
        clear h1
        go_wp2_with (refine wpList_store_node rfl _ _ rfl rfl rfl rfl ?_)
        refine (insert_doc Hx.out.swap HT.out a b (-1)).mono ?_
        rintro e w2 ⟨rfl, h2⟩
        by_cases he : A.insertE a b (-1) = 0
        · obtain ⟨eA, hO2⟩ := HOr.out.ins he
          obtain ⟨_, _, _, hf, _⟩ := Doc.insert_ok he
          have hw2 := (docA_open h2).1
          rw [he]
          obtain ⟨D, hD⟩ : ∃ D, D = A.insertA a b (-1) := ⟨_, rfl⟩
          rw [← hD] at h2 hO2 hw2
          rw [← hD] at eA
          have hDN : D.n = N := by rw [eA, put_n, hAN]
          have hJb : D.In b := ⟨by omega, by rw [hDN]; omega⟩
          have hJa : D.In a := ⟨by omega, by rw [hDN]; omega⟩
          have hup : (D.nd b).up = a := by rw [eA, put_up, if_pos rfl]
          have hlast : (D.nd a).kids = (A.nd a).kids.erase b ++ [(b : Int)] := by rw [eA, put_last Hw.out.toWFT hIa]
          have hgone : ∀ u, A.In u → u ≠ a → (b : Int) ∉ (D.nd u).kids := fun u hu hne => by rw [eA]; exact put_gone Hw.out.toWFT hu hne
          have hIU := Hw.out.up b hIb
          obtain ⟨es, hes⟩ : ∃ es, es = (A.nd a).kids.erase b := ⟨_, rfl⟩
          rw [← hes] at hlast
          obtain ⟨U, hU⟩ : ∃ U, U = (A.nd b).up := ⟨_, rfl⟩
          rw [← hU] at hIU
          have hesl : es.length ≤ 1000000 := by
            have h1 := hw2.kids_len hJa
            have h2 := hw2.n_le
            rw [hlast, List.length_append] at h1
            simp at h1
            omega
          have Hgone := Lib.hid hgone
          have HD2 := Lib.hid hw2
          have HO2 := Lib.hid hO2
          have H2 := Lib.hid h2
          have hxU : (A.nd b).up = U := hU.symm
          have HxU := Lib.hid hxU
          have Hup := Lib.hid hup
          have Hlast := Lib.hid hlast
          clear h2 he hf Hx hgone hw2 hO2 eA hD hup hlast hes hU hxU
          go_wp2_with fail
          refine (node_doc H2.out b hJb).mono ?_
          rintro e w3 ⟨va3, vk3, rfl, h3⟩
          obtain ⟨k3, kc3, rfl⟩ := h3.irow_form
          obtain ⟨a3, ac3, rfl⟩ := h3.tail.arow_form
          have Hy := Lib.hid (h3.tail.tail.blk_new (ndCells (D.nd b) (.slice a3 (D.nd b).attrs.length ac3) (.slice k3 (D.nd b).kids.length kc3)) 33)
          clear h3 H2
          go_wp2_with (refine wpList_store_node rfl _ _ rfl rfl rfl rfl ?_)
          refine (node_doc Hy.out.swap a hJa).mono ?_
          rintro e w4 ⟨va4, vk4, rfl, h4⟩
          obtain ⟨k4, kc4, rfl⟩ := h4.irow_form
          obtain ⟨a4, ac4, rfl⟩ := h4.tail.arow_form
          have hz := h4.swap.tail.blk_new (ndCells (D.nd a) (.slice a4 (D.nd a).attrs.length ac4) (.slice k4 (D.nd a).kids.length kc4)) 33
          obtain ⟨w5, hw5⟩ : ∃ w5, w5 = w4.alloc (.cells (ndCells (D.nd a) (.slice a4 (D.nd a).attrs.length ac4) (.slice k4 (D.nd a).kids.length kc4)) 33) := ⟨_, rfl⟩
          rw [← hw5] at hz
          have Hw5 := Lib.hid hw5
          have cy := hz.tail.tail.tail.box_up
          rw [Hup.out] at cy
          have cx := hz.tail.tail.tail.tail.box_up
          rw [HxU.out] at cx
          have cz := hz.box_kids
          have hr4 := hz.tail
          rw [Hlast.out] at hr4 cz
          obtain ⟨g4, d4, hv4, hc4⟩ := hr4.irow_open (by simp)
          obtain ⟨rfl, rfl⟩ : k4 = some ⟨g4, 0, none⟩ ∧ kc4 = d4 := by injection hv4 with h1 _ h3; exact ⟨h1, h3⟩
          have cl : w5.cell? ⟨g4, es.length, none⟩ = some (int b) := hc4 es.length b (by simp)
          have HZ := Lib.hid hz.tail.tail.swap.tail.swap.tail
          clear h4 hz hw5 Hy hr4 hv4 hc4
          rw [show (es ++ [(b : Int)]).length = es.length + 1 by simp] at cz
          generalize hM : es.length = M at cl cz hesl
          have hne0 : ((M : Int) + 1 == 0) = false := by simp; omega
          have hlt : M < M + 1 := by omega
          clear hM
          rcases hIU with rfl | hIU
          · go_wp2_with (refine wpList_store_node rfl _ _ rfl rfl rfl rfl ?_; rw [← Hw5.out]; refine halt ?_); refine Halt.go ?_; go_wp2_with fail
            go_roundw
            case rel => exact ⟨i + 1, D, rfl, hil, hDN, HO2.out, HZ.out⟩
            case measure => simp [intOf]; omega
          · obtain ⟨u, rfl, hu⟩ := icast hIU.1 hIU.2
            have t3 : decide ((u : Int) ≥ 0) = true := by simp
            by_cases hua : (u : Int) = a
            · have t4 : ((u : Int) != a) = false := by simpa using hua
              clear hua
              go_wp2_with (refine wpList_store_node rfl _ _ rfl rfl rfl rfl ?_; rw [← Hw5.out]; refine halt ?_); refine Halt.go ?_; go_wp2_with fail
              go_roundw
              case rel => exact ⟨i + 1, D, rfl, hil, hDN, HO2.out, HZ.out⟩
              case measure => simp [intOf]; omega
            · have t4 : ((u : Int) != a) = true := by simpa using hua
              have hgn := Hgone.out u hIU hua
              have Hgn := Lib.hid hgn
              have hJu : D.In u := ⟨by omega, by rw [hDN, ← hAN]; omega⟩
              clear hua hgn
              go_wp2_with (refine wpList_store_node rfl _ _ rfl rfl rfl rfl ?_; rw [← Hw5.out]; refine halt ?_); refine Halt.go ?_; go_wp2_with fail
              refine (node_doc HZ.out u hJu).mono ?_
              rintro e w6 ⟨va6, vk6, rfl, h6⟩
              obtain ⟨k6, kc6, rfl⟩ := h6.irow_form
              obtain ⟨a6, ac6, rfl⟩ := h6.tail.arow_form
              have hkl := HD2.out.kids_len hJu
              have hnl := HD2.out.n_le
              have hq := h6.swap.tail.blk_new (ndCells (D.nd u) (.slice a6 (D.nd u).attrs.length ac6) (.slice k6 (D.nd u).kids.length kc6)) 33
              obtain ⟨w7, hw7⟩ : ∃ w7, w7 = w6.alloc (.cells (ndCells (D.nd u) (.slice a6 (D.nd u).attrs.length ac6) (.slice k6 (D.nd u).kids.length kc6)) 33) := ⟨_, rfl⟩
              rw [← hw7] at hq
              have Hw7 := Lib.hid hw7
              have HQ := Lib.hid hq
              clear h6 hw7 hq cy cx cz cl Hw5 HZ
              go_wp2_with (refine wpList_store_node rfl _ _ rfl rfl rfl rfl ?_; rw [← Hw7.out]; refine halt ?_)
              refine Halt.go ?_
              clear Hw7
              generalize hnd : ndCells (D.nd u) (.slice a6 (D.nd u).attrs.length ac6) (.slice k6 (D.nd u).kids.length kc6) = cs at HQ
              have hcs : cs[5]? = some (.slice k6 (D.nd u).kids.length kc6) := by rw [← hnd]; rfl
              generalize hkk : (D.nd u).kids = kl at HQ Hgn hkl hcs
              clear hnd hkk
              go_wp2_with fail
              go_loopw [19] (fun v wr => ∃ j : Nat, v = int j ∧ j ≤ kl.length ∧ Sep W wr (blk w6.heap.size 33 cs :: irow (.slice k6 kl.length kc6) kl :: docA p D :: rs)) (fun v _ => kl.length - (intOf v).toNat)
              case atStart => exact ⟨0, rfl, Nat.zero_le _, HQ.out⟩
              case round =>
                obtain ⟨j, rfl, hj, hS⟩ := hrel
                have c5 := (hS.blk_cell 5).trans hcs
                have HS7 := Lib.hid hS
                by_cases hjl : j < kl.length
                · obtain ⟨g6, d6, hv6, hc6⟩ := hS.tail.irow_open (by omega)
                  obtain ⟨rfl, rfl⟩ : k6 = some ⟨g6, 0, none⟩ ∧ kc6 = d6 := by injection hv6 with h1 _ h3; exact ⟨h1, h3⟩
                  have cl : _ = some (int kl[j]) := hc6 j kl[j] (by simp [hjl])
                  have t5 : decide ((j : Int) < kl.length) = true := by simp; omega
                  have t6 : (kl[j] == (b : Int)) = false := by
                    simp only [beq_eq_false_iff_ne]
                    intro e
                    exact Hgn.out (e ▸ List.getElem_mem hjl)
                  have hwr2 : IntKind.i64.wrap ((j : Int) + 1) = ((j + 1 : Nat) : Int) := by rw [IntKind.wrap_i64]; omega
                  clear hS hv6 hc6
                  go_wp2_with fail
                  go_roundw
                  case rel => exact ⟨j + 1, rfl, hjl, HS7.out⟩
                  case measure => simp [intOf]; omega
                · obtain rfl : j = kl.length := by omega
                  have t5 : decide ((kl.length : Int) < kl.length) = false := by simp
                  clear hS
                  go_wp2_with fail
                  go_roundw
                  case rel => exact ⟨i + 1, D, rfl, hil, hDN, HO2.out, HS7.out.tail.tail⟩
                  case measure => simp [intOf]; omega
        · have he1 := (insert_or hIa hIb).resolve_left he
          rw [insertA_no he] at h2
          rw [he1]
          have H2 := Lib.hid h2
          clear h2 he he1 Hx
          go_wp2_with fail
          refine (node_doc H2.out b hIb).mono ?_
          rintro e w3 ⟨va3, vk3, rfl, h3⟩
          obtain ⟨k3, kc3, rfl⟩ := h3.irow_form
          obtain ⟨a3, ac3, rfl⟩ := h3.tail.arow_form
          have Hy := Lib.hid (h3.tail.tail.blk_new (ndCells (A.nd b) (.slice a3 (A.nd b).attrs.length ac3) (.slice k3 (A.nd b).kids.length kc3)) 33)
          clear h3 H2
          go_wp2_with (refine wpList_store_node rfl _ _ rfl rfl rfl rfl ?_)
          refine (node_doc Hy.out.swap a hIa).mono ?_
          rintro e w4 ⟨va4, vk4, rfl, h4⟩
          obtain ⟨k4, kc4, rfl⟩ := h4.irow_form
          obtain ⟨a4, ac4, rfl⟩ := h4.tail.arow_form
          have hz := h4.tail.tail.blk_new (ndCells (A.nd a) (.slice a4 (A.nd a).attrs.length ac4) (.slice k4 (A.nd a).kids.length kc4)) 33
          obtain ⟨w5, hw5⟩ : ∃ w5, w5 = w4.alloc (.cells (ndCells (A.nd a) (.slice a4 (A.nd a).attrs.length ac4) (.slice k4 (A.nd a).kids.length kc4)) 33) := ⟨_, rfl⟩
          rw [← hw5] at hz
          have HZ := Lib.hid hz
          have Hw5 := Lib.hid hw5
          have cy := hz.tail.tail.box_up
          have cx := hz.tail.tail.tail.box_up
          clear h4 hz hw5 Hy
          go_wp2_with (refine wpList_store_node rfl _ _ rfl rfl rfl rfl ?_; rw [← Hw5.out]; refine halt ?_); refine Halt.go ?_; go_wp2_with fail
          go_roundw
          case rel => exact ⟨i + 1, A, rfl, hil, hAN, HOr.out, HZ.out.tail.swap.tail.swap.tail⟩
          case measure => simp [intOf]; omega
      · obtain rfl : i = l.length := by omega
        have t2 : decide ((l.length : Int) < l.length) = false := by simp
        clear hS hO
        go_wp2_with fail
        refine (known_any HS.out HT.out).mono ?_
        rintro e w2 ⟨rfl, h2⟩
        have H2 := Lib.hid h2
        clear h2
        go_wp2
        go_ret
        exact ⟨rfl, H2.out.tail⟩
end
end Go.Proofs.YtehjhigaebpfkaaDoor
