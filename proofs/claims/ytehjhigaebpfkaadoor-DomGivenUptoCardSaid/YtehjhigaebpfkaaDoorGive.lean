/- Give, where it is not refused. -/
import Derived.Test.YtehjhigaebpfkaaDoorGiveDoc
namespace Go.Proofs.YtehjhigaebpfkaaDoor
open Go.RowKit

section
variable {W w : World} {rs : List Res} {p : Nat} {A : Doc}
theorem givesE_parts {s : Int} {l : List Int} (he : A.givesE s l = 0) : A.In s ∧ (∀ x ∈ l, A.In x) ∧ l.length ≤ 200 := by
  unfold Doc.givesE at he
  split at he
  · rename_i h1
    split at he
    · split at he
      · split at he
        · rename_i h4; exact ⟨h1.1, h1.2, h4⟩
        · exact absurd he (by decide)
      · exact absurd he (by decide)
    · exact absurd he (by decide)
  · exact absurd he (by decide)

attribute [local go_sem ↓] wp_can in
set_option maxRecDepth 100000 in
set_option maxHeartbeats 2000000 in
theorem give_ok (h : Sep W w (docA p A :: rs)) {a : Option Addr} {c : Nat} {l : List Int} (hr : ∀ {w' : World} {r : Res}, Sep W w' (r :: rs) → IntsAt w' a l) (s : Int) (he : A.givesE s l = 0) :
    Calls Tryd.prog 25 #[ptr p, int s, .slice a l.length c] w fun e w' => e = .returned (.int .u16 0) ∧ Sep W w' (docA p (A.giveA s l) :: rs) := by
  obtain ⟨hs, hin, hlen⟩ := givesE_parts he
  have H := Lib.hid h
  have HE := Lib.hid he
  have hr' : ∀ (w' : World) (r : Res), Sep W w' (r :: rs) → IntsAt w' a l := fun w' r h => hr h
  have HR := Lib.hid hr'
  have Hin := Lib.hid hin
  have hn0 := (docA_open h).1.n_le
  obtain ⟨j, rfl, hj⟩ := icast hs.1 hs.2
  obtain ⟨i0, hi0, hz0, hz1, hz2⟩ := info_parts infoInt
  clear h he hr hr' hin
  go_enter Tryd.func25, Tryd.ntmps25
  go_wp2_with fail
  refine (gives_ok H.out (fun h => HR.out _ _ h) j HE.out).mono ?_
  rintro e w1 ⟨rfl, h1⟩
  obtain ⟨hw, B, R, hl, hS⟩ := docA_open h1
  obtain ⟨cap, av, gv, Fa, Fg, hC, _⟩ := docR_step hS
  have c0 := hC.cell0
  have u18 := hC.cell hj (k := 18) (by omega) rfl
  have hgiv := hC.given j hj
  have hgl := hw.given_len hs
  obtain ⟨g0, hg0⟩ : ∃ g0, g0 = (A.nd j).given := ⟨_, rfl⟩
  rw [(hl.same j hs).given, ← hg0] at hgiv
  rw [← hg0] at hgl
  have hgin : ∀ x ∈ g0, A.In x := fun x hx => (hw.gin j hs x (hg0 ▸ hx)).1
  have Hgin := Lib.hid hgin
  have Hg0 := Lib.hid hg0
  have Hgiv := Lib.hid hgiv
  have H1 := Lib.hid h1
  clear h1 hS hC hgiv hl hw hgin hg0 H
  go_wp2_with fail
  refine (cloneInts (gv j) g0 w1 _ Hgiv.out (by omega)).mono ?_
  rintro e w2 ⟨vc, rfl, hf⟩
  have h2 := H1.out.fresh hf
  obtain ⟨ac, cc, rfl⟩ := row_form h2
  have H2 := Lib.hid h2
  clear h2 hf H1 c0 u18 Hgiv
  go_wp2_with fail
  go_loopw [29] (fun v wr => ∃ m : Nat, v = int m ∧ m ≤ g0.length ∧ Sep W wr (irow (.slice ac g0.length cc) g0 :: docA p (freeAll (g0.take m) A) :: rs)) (fun v _ => g0.length - (intOf v).toNat)
  case atStart => exact ⟨0, rfl, Nat.zero_le _, H2.out⟩
  case round =>
    obtain ⟨m, rfl, hm, hS⟩ := hrel
    have HS := Lib.hid hS
    clear H2
    by_cases hml : m < g0.length
    · obtain ⟨g1, d1, hv1, hc1⟩ := hS.irow_open (by omega)
      obtain ⟨rfl, rfl⟩ : ac = some ⟨g1, 0, none⟩ ∧ cc = d1 := by injection hv1 with h1 _ h3; exact ⟨h1, h3⟩
      have cl := hc1 m g0[m] (by simp [hml])
      have t1 : decide ((m : Int) < g0.length) = true := by simp; omega
      have hix : (freeAll (g0.take m) A).In g0[m] := by unfold Doc.In; rw [freeAll_n]; exact Hgin.out _ (List.getElem_mem hml)
      have hwr : IntKind.i64.wrap ((m : Int) + 1) = ((m + 1 : Nat) : Int) := by rw [IntKind.wrap_i64]; omega
      clear hS hv1 hc1
      go_wp2_with fail
      refine (free_doc HS.out.swap g0[m] hix).mono ?_
      rintro e w3 ⟨rfl, h3⟩
      have H3 := Lib.hid h3.swap
      clear h3
      go_wp2_with fail
      go_roundw
      case rel =>
        refine ⟨m + 1, rfl, hml, ?_⟩
        rw [List.take_succ_eq_append_getElem hml, freeAll_snoc]
        exact H3.out
      case measure => simp [intOf]; omega
    · obtain rfl : m = g0.length := by omega
      have t1 : decide ((g0.length : Int) < g0.length) = false := by simp
      rw [List.take_length] at HS
      obtain ⟨A1, hA1⟩ : ∃ A1, A1 = freeAll g0 A := ⟨_, rfl⟩
      have HA1 := Lib.hid hA1
      have H3 := Lib.hid (show Sep W wr (docA p A1 :: rs) from hA1 ▸ HS.out.tail)
      have hA1n : A1.n = A.n := by rw [hA1]; exact freeAll_n _ _
      clear hS HS hA1
      go_wp2_with fail
      go_loopw [39] (fun v wr => ∃ m : Nat, v = int m ∧ m ≤ l.length ∧ Sep W wr (docA p (giveAll j (l.take m) A1) :: rs)) (fun v _ => l.length - (intOf v).toNat)
      case atStart => exact ⟨0, rfl, Nat.zero_le _, H3.out⟩
      case round =>
        obtain ⟨m, rfl, hm, hS⟩ := hrel
        have HS := Lib.hid hS
        clear H3
        by_cases hml : m < l.length
        · have hI := HR.out _ _ hS
          obtain ⟨b1, o1, rfl, hc1⟩ := hI.at (by omega)
          have cl := hc1 m hml
          have t2 : decide ((m : Int) < l.length) = true := by simp; omega
          have hwr : IntKind.i64.wrap ((m : Int) + 1) = ((m + 1 : Nat) : Int) := by rw [IntKind.wrap_i64]; omega
          obtain ⟨D, hD⟩ : ∃ D, D = giveAll j (l.take m) A1 := ⟨_, rfl⟩
          have hDn : D.n = A.n := by rw [hD]; exact (giveAll_n _ _).trans hA1n
          have hxin := Hin.out _ (List.getElem_mem hml)
          obtain ⟨x, hx, hxn⟩ := icast hxin.1 hxin.2
          rw [hx] at cl
          have hix : D.In (x : Int) := ⟨by omega, by rw [hDn]; omega⟩
          have hij : D.In (j : Int) := ⟨by omega, by rw [hDn]; omega⟩
          have hnext : giveAll j (l.take (m + 1)) A1 = D.giveOne j x := by
            rw [List.take_succ_eq_append_getElem hml, giveAll_snoc, ← hD, hx]
          have HN := Lib.hid hnext
          rw [← hD] at hS
          have HSD := Lib.hid hS
          obtain ⟨B, cap, R, av, gv, hl, c0, hc⟩ := cell_doc hS
          have u17 := hc x 17 (by omega) (by omega) _ rfl
          rw [(hl.same x hix).slot] at u17
          clear hS hI hc1 hx hD hnext hc hl HS hxin
          by_cases hsl : (D.nd x).slot = j
          · have t3 : ((D.nd x).slot == (j : Int)) = true := by simpa using hsl
            have hg : D.giveOne j x = D := by unfold Doc.giveOne; rw [if_pos hsl]
            have Hg := Lib.hid hg
            clear hg hsl
            go_wp2_with fail
            go_roundw
            case rel => exact ⟨m + 1, rfl, hml, by rw [HN.out, Hg.out]; exact HSD.out⟩
            case measure => simp [intOf]; omega
          · have t3 : ((D.nd x).slot == (j : Int)) = false := by simpa using hsl
            have hg : D.giveOne j x = (D.free x).giveTo j x := by unfold Doc.giveOne; rw [if_neg hsl]
            have Hg := Lib.hid hg
            clear hg hsl
            go_wp2_with fail
            refine (free_doc HSD.out x hix).mono ?_
            rintro e w3 ⟨rfl, h3⟩
            have H3 := Lib.hid h3
            clear h3 u17 c0 cl
            have hfn : (D.free x).n = D.n := free_n
            obtain ⟨hw3, B3, R3, hl3, hS3⟩ := docA_open H3.out
            rw [hfn] at hS3
            obtain ⟨G, ⟨cap3, av3, gv3, Fa, Fg, hC, hG⟩, hlt, hst⟩ := hS3.step
            have hxD : x < D.n := by omega
            have hjD : j < D.n := by omega
            have d0 := hC.cell0
            have f0 := hC.frozenB
            have hpb : p ≠ B3 := hC.pb
            have d17 := hC.cell hxD (k := 17) (by omega) rfl
            have hCA := hC.set hxD (k := 17) (by omega) (int (j : Int)) (.setSlot (j : Int)) (fun _ _ _ => rfl) (fun _ => rfl) (fun _ => rfl)
            have hslot0 : ((D.free x).nd x).slot = -1 := by rw [free_slot, if_pos rfl]
            have hgl3 := hw3.given_len (i := (j : Int)) (free_in.2 hij)
            rw [← (hl3.same j (free_in.2 hij)).given, hfn] at hgl3
            have hn5 := hw3.n_le
            obtain ⟨wA, hwA⟩ : ∃ wA, wA = w3.setCell ⟨B3, x * 19 + 17, none⟩ (int (j : Int)) := ⟨_, rfl⟩
            rw [← hwA] at hCA
            have hLg : ((upd R3 x (.setSlot (j : Int))) j).given = (R3 j).given := by unfold upd; split <;> rfl
            have hrowA := hCA.given j hjD
            rw [hLg] at hrowA
            obtain ⟨L, hL⟩ : ∃ L, L = (R3 j).given := ⟨_, rfl⟩
            rw [← hL] at hrowA hgl3
            obtain ⟨ag, cg, hgv, _⟩ := rowHolds.form hrowA
            have dA0 := hCA.cell0
            have fA := hCA.frozenB
            have dA18 := hCA.cell hjD (k := 18) (by omega) rfl
            rw [hgv] at dA18
            rw [hgv] at hrowA
            have hCS := (hCA.alloc (.cells #[int (x : Int)] TInt)).drew
            have dS0 := hCS.cell0
            have dS18 := hCS.cell hjD (k := 18) (by omega) rfl
            rw [hgv] at dS18
            obtain ⟨v', wB, F', hrun, hrB, hoB, hfB⟩ := rowHolds_append (P := Tryd.prog) (t := 29) (ty := 29) Tryd.underlying29 hi0 hz0 hz1 hz2 rfl (by decide)
              (Res.drew (r := row TInt 1 (.slice ag L.length cg) L.length (icells L)) (Res.alloc (r := row TInt 1 (.slice ag L.length cg) L.length (icells L)) hrowA (.cells #[int (x : Int)] TInt))) (some ⟨wA.heap.size, 0, none⟩) 1 1 [int (x : Int)] (src_new wA (int (x : Int)) TInt)
              (by intro u hu; rw [List.mem_singleton.1 hu]; rfl) (by unfold maxLen; omega) (by omega)
            have hrB2 : (irow v' (L ++ [(x : Int)])).holds wB F' := by
              show rowHolds TInt 1 v' (L ++ [(x : Int)]).length (icells (L ++ [(x : Int)])) wB F'
              rw [icells_snoc, List.length_append]; exact hrB
            obtain ⟨av', cv', hvB, _⟩ := hrB.form
            have hCB := hCS.setGiven hjD hoB hrB2 hfB
            obtain ⟨hbp, hbB, _, _⟩ := hCS.onlyG hjD hoB
            have dB0 : wB.cell? ⟨p, 0, none⟩ = some (.slice (some ⟨B3, 0, none⟩) D.n cap3) := (World.cell?_of_block hbp).trans dS0
            have dB18 : wB.cell? ⟨B3, j * 19 + 18, none⟩ = some (.slice ag L.length cg) := (World.cell?_of_block hbB).trans dS18
            have fB : ∀ o, wB.frozen? ⟨B3, o, none⟩ = false := fun o => by
              have := hCS.frozenB o
              unfold World.frozen? at this ⊢
              rw [hbB]; exact this
            subst hvB
            obtain ⟨k1, k2, k3⟩ := can_of hrun
            have HCB := Lib.hid hCB
            have HoB := Lib.hid hoB
            have HfB := Lib.hid hfB
            have Hst := Lib.hid hst
            have HG := Lib.hid hG
            have Hl3 := Lib.hid hl3
            have Hw3 := Lib.hid hw3
            have HwA := Lib.hid hwA
            have HL := Lib.hid hL
            have hAs : wA.heap.size = w3.heap.size := by rw [hwA]; simp [World.setCell]
            have HAs := Lib.hid hAs
            clear hC hCA hCS hCB hrB hrB2 hoB hfB hst hG hlt hl3 hw3 hL hrowA hbp hbB hrun hS3 hgv hLg H3 hAs
            go_wp2_with fail
            rw [← HwA.out]
            clear d0 f0 d17 t3 hwA
            go_region
            go_wp2_with fail
            go_roundw
            case rel =>
              refine ⟨m + 1, rfl, hml, ?_⟩
              rw [HN.out, Hg.out]
              have hB3 : G B3 := (HG.out B3).2 (.inr (.inl rfl))
              have hal : Only G w3 ((wA.alloc (.cells #[int (x : Int)] TInt)).drew) := by
                rw [HwA.out]
                exact (((Only.refl G w3).setCell (p := ⟨B3, x * 19 + 17, none⟩) (.inl hB3) _).alloc _).drew
              have hsz : w3.heap.size ≤ ((wA.alloc (.cells #[int (x : Int)] TInt)).drew).heap.size := hal.size
              have hall : Only G w3 (wB.setCell ⟨B3, j * 19 + 18, none⟩ (.slice av' (L.length + 1) cv')) :=
                (hal.trans (HoB.out.mono fun k _ hk => (HG.out k).2 (.inr (.inr (.inr ⟨j, hjD, hk⟩))))).setCell (p := ⟨B3, j * 19 + 18, none⟩) (.inl hB3) _
              have e2 : giveToR R3 j x = upd (upd R3 x (.setSlot (j : Int))) j (.setGiven (L ++ [(x : Int)])) := by
                unfold giveToR
                funext y
                unfold upd
                split
                · rename_i hy
                  subst hy
                  have : ((if (j : Int) = x then (R3 j).setSlot (j : Int) else R3 j)).given = L := by rw [HL.out]; split <;> rfl
                  show RNd.setGiven ((if (j : Int) = x then (R3 j).setSlot (j : Int) else R3 j).given ++ [(x : Int)]) _ = _
                  rw [this]
                · rfl
              have hS := Hst.out _ (Foot p B3 D.n Fa (updF Fg j F')) (docR p B3 D.n ((D.free x).giveTo j x).lim (giveToR R3 j x)) hall ⟨cap3, av3, updV gv3 j (.slice av' (L.length + 1) cv'), Fa, updF Fg j F', by rw [e2]; exact HCB.out, fun _ => Iff.rfl⟩ (fun k hk => ?_)
              · have hwf := Hw3.out.giveTo (s := (j : Int)) (i := (x : Int)) (free_in.2 hij) (free_in.2 hix) hslot0
                have hnn : D.n = ((D.free x).giveTo j x).n := hfn.symm
                rw [hnn] at hS
                exact docA_close hwf Hl3.out.giveTo hS
              · rcases hk with rfl | rfl | ⟨y, hy, hk⟩ | ⟨y, hy, hk⟩
                · exact .inl ((HG.out _).2 (.inl rfl))
                · exact .inl hB3
                · exact .inl ((HG.out _).2 (.inr (.inr (.inl ⟨y, hy, hk⟩))))
                · by_cases hyj : y = j
                  · have e1 : updF Fg j F' y = F' := by unfold updF; rw [if_pos hyj]
                    rw [e1] at hk
                    rcases HfB.out k hk with h3 | h3
                    · exact .inl ((HG.out _).2 (.inr (.inr (.inr ⟨j, hjD, h3⟩))))
                    · exact .inr (Nat.le_trans hsz h3)
                  · have e1 : updF Fg j F' y = Fg y := by unfold updF; rw [if_neg hyj]
                    rw [e1] at hk
                    exact .inl ((HG.out _).2 (.inr (.inr (.inr ⟨y, hy, hk⟩))))
            case measure => simp [intOf]; omega
        · obtain rfl : m = l.length := by omega
          have t2 : decide ((l.length : Int) < l.length) = false := by simp
          clear hS
          rw [List.take_length] at HS
          go_wp2
          go_ret
          refine ⟨rfl, ?_⟩
          unfold Doc.giveA
          rw [← Hg0.out, ← HA1.out]
          exact HS.out
end
end Go.Proofs.YtehjhigaebpfkaaDoor
