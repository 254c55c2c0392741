/- The walk of DomDoes. -/
import Derived.Test.YtgdmaikjaopddaaGreatDoorJ48
import Derived.Test.YtgdmaikjaopddaaGreatDoorJ51
import Derived.Test.YtgdmaikjaopddaaGreatDoorJ32
import Derived.Test.YtgdmaikjaopddaaGreatDoorJ27
namespace Go.Proofs.YtgdmaikjaopddaaGreatDoor
open Go.RowKit

section
variable {W w : World} {rs : List Res} {p q : Nat} {A : Doc}
set_option maxRecDepth 100000 in
set_option maxHeartbeats 4000000 in
theorem domDoes_walk (hT : Laid W) (lim : Int) (v : Value) (l : List OpV) (hl : ArgOps W v l) :
    Calls Tryz.prog 5 #[int lim, v] W fun e w' => e = .returned (.bool true) ∧ Sep W w' [] := by
  obtain ⟨a, c, rfl, hat, hlc⟩ := hl
  have HT := Lib.hid hT
  have HAt := Lib.hid hat
  have HK := Lib.hid (fun (w : World) (rs : List Res) (h : Sep W w rs) => known_any h hT)
  have HS0 := Lib.hid (Sep.start W)
  have HH := Lib.hid (heavy_any c hat (Below.refl _ W))
  clear hT hat
  by_cases hl60 : l.length > 60
  · have t0 : decide ((l.length : Int) > 60) = true := by simp; omega
    go_enter Tryz.func5, Tryz.ntmps5
    go_wp2_with fail
    refine (HK.out _ _ HS0.out).mono ?_
    rintro e w1 ⟨rfl, h1⟩
    have H1 := Lib.hid h1
    clear h1
    go_wp2
    go_ret
    exact ⟨rfl, H1.out⟩
  have t0 : decide ((l.length : Int) > 60) = false := by simp; omega
  clear hl60
  go_enter Tryz.func5, Tryz.ntmps5
  go_wp2_with fail
  refine HH.out.mono ?_
  rintro e w1 ⟨⟨z, rfl⟩, hb1⟩
  have H1 := Lib.hid (HS0.out.belowed hb1)
  clear hb1 HS0 HH
  by_cases hz : z > 6000
  · have t1 : decide (z > 6000) = true := by simpa using hz
    go_wp2_with fail
    refine (HK.out _ _ H1.out).mono ?_
    rintro e w2 ⟨rfl, h2⟩
    have H2 := Lib.hid h2
    clear h2
    go_wp2
    go_ret
    exact ⟨rfl, H2.out⟩
  have t1 : decide (z > 6000) = false := by simpa using hz
  clear hz
  go_wp2_with fail
  refine (HK.out _ _ H1.out).mono ?_
  rintro e w2 ⟨rfl, h2⟩
  have H2 := Lib.hid h2
  clear h2 H1
  by_cases hlim : lim < 1 ∨ 5000 < lim
  · have HN := Lib.hid (New_no lim hlim w2)
    have HRN := Lib.hid (rnew_no w2 lim (by omega))
    clear hlim
    go_wp2_with fail
    refine HN.out.mono ?_
    rintro e w' ⟨rfl, rfl⟩
    go_wp2_with fail
    refine HRN.out.mono ?_
    rintro e w' ⟨rfl, rfl⟩
    go_wp2
    go_ret
    exact ⟨rfl, H2.out⟩
  have HL1 := Lib.hid (show 1 ≤ lim by omega)
  have HL2 := Lib.hid (show lim ≤ 5000 by omega)
  clear hlim
  go_wp2_with fail
  refine (New_yes H2.out lim HL1.out HL2.out).mono ?_
  rintro e w3 ⟨p, rfl, h3⟩
  have H3 := Lib.hid h3
  clear h3 H2
  go_wp2_with fail
  refine (rnew_yes H3.out lim HL1.out HL2.out).mono ?_
  rintro e w4 ⟨q, rfl, h4⟩
  have H4 := Lib.hid h4.swap
  clear h4 H3
  go_wp2_with fail
  go_loopw [5, 7] (fun dv iv wr => ∃ (p i : Nat) (A : Doc), dv = ptr p ∧ iv = int i ∧ i ≤ l.length ∧ Sep W wr [docA p A, refA q A]) (fun _ iv _ => l.length - (intOf iv).toNat)
  case atStart => exact ⟨p, 0, _, rfl, rfl, Nat.zero_le _, H4.out⟩
  case round =>
    obtain ⟨p, i, A, rfl, rfl, hi, hS⟩ := hrel
    have HS := Lib.hid hS
    have hbS := hS.below
    clear H4 hS
    by_cases hil : i < l.length
    · have t2 : decide ((i : Int) < l.length) = true := by simp; omega
      have hll := HAt.out.1
      obtain ⟨b, o, A1, c1, A2, c2, rfl, hok, hc⟩ := HAt.out.cellsAt hbS hil
      obtain ⟨x, hx⟩ : ∃ x, x = l[i] := ⟨_, rfl⟩
      rw [← hx] at hok hc
      have hkb0 := hok.kind0
      have hkb1 := hok.kind1
      have HOK := Lib.hid hok
      have u0 : wr.cell? ⟨b, o + i * 17, none⟩ = some (.int .u8 x.kind) := hc 0 _ rfl
      have u1 : wr.cell? ⟨b, o + i * 17 + 1, none⟩ = some (int x.a) := hc 1 _ rfl
      have u2 : wr.cell? ⟨b, o + i * 17 + 2, none⟩ = some (int x.b) := hc 2 _ rfl
      have u3 : wr.cell? ⟨b, o + i * 17 + 3, none⟩ = some (int x.c) := hc 3 _ rfl
      have u4 : wr.cell? ⟨b, o + i * 17 + 4, none⟩ = some (.bool x.inn) := hc 4 _ rfl
      have u5 : wr.cell? ⟨b, o + i * 17 + 5, none⟩ = some (.int .u8 x.nk) := hc 5 _ rfl
      have u6 : wr.cell? ⟨b, o + i * 17 + 6, none⟩ = some (.string x.nm) := hc 6 _ rfl
      have u7 : wr.cell? ⟨b, o + i * 17 + 7, none⟩ = some (.string x.da) := hc 7 _ rfl
      have u8 : wr.cell? ⟨b, o + i * 17 + 8, none⟩ = some (.slice A1 x.na.length c1) := hc 8 _ rfl
      have u9 : wr.cell? ⟨b, o + i * 17 + 9, none⟩ = some (.string x.s) := hc 9 _ rfl
      have u10 : wr.cell? ⟨b, o + i * 17 + 10, none⟩ = some (.string x.t) := hc 10 _ rfl
      have u11 : wr.cell? ⟨b, o + i * 17 + 11, none⟩ = some (.slice A2 x.l.length c2) := hc 11 _ rfl
      have u12 : wr.cell? ⟨b, o + i * 17 + 12, none⟩ = some (.bool x.f.closed) := hc 12 _ rfl
      have u13 : wr.cell? ⟨b, o + i * 17 + 13, none⟩ = some (.bool x.f.manual) := hc 13 _ rfl
      have u14 : wr.cell? ⟨b, o + i * 17 + 14, none⟩ = some (.bool x.f.delegates) := hc 14 _ rfl
      have u15 : wr.cell? ⟨b, o + i * 17 + 15, none⟩ = some (.bool x.f.serial) := hc 15 _ rfl
      have u16 : wr.cell? ⟨b, o + i * 17 + 16, none⟩ = some (.bool x.f.clonable) := hc 16 _ rfl
      have HC0 := Lib.hid (show ∀ w2, Below W.heap.size W w2 → w2.cell? ⟨b, o + i * 17, none⟩ = some (.int .u8 x.kind) from fun w2 h2 => by
        obtain ⟨b', o', A1', c1', A2', c2', e1, _, hc'⟩ := HAt.out.cellsAt h2 hil
        injection e1 with e1
        injection e1 with e1 e2 _
        subst e1; subst e2
        rw [← hx] at hc'
        exact hc' 0 _ rfl)
      have HD := Lib.hid (does_any HS.out HT.out x A1 c1 A2 c2 hok)
      obtain ⟨D, hD⟩ : ∃ D, D = A.doesD x := ⟨_, rfl⟩
      rw [← hD] at HD
      clear hok hc hx hbS hD
      go_wp2_with fail
      refine HD.out.mono ?_
      rintro e w5 ⟨rfl, h5⟩
      have f0 := HC0.out w5 h5.below
      have H5 := Lib.hid h5
      clear h5 u0 u1 u2 u3 u4 u5 u6 u7 u8 u9 u10 u11 u12 u13 u14 u15 u16 HD
      by_cases hk : x.kind % 16 = 15
      · have t3 : (x.kind % 16 == 15) = true := by simpa using hk
        clear hk
        go_wp2_with fail
        refine (copy_doc H5.out).mono ?_
        rintro e w6 ⟨p', rfl, h6⟩
        have H6 := Lib.hid (show Sep W w6 [docA p' D, refA q D] from h6.swap.tail)
        have Hw := Lib.hid (docA_wf h6)
        clear h6 H5
        go_wp2_with fail
        refine (same_any H6.out Hw.out).mono ?_
        rintro e w7 ⟨rfl, h7⟩
        have H7 := Lib.hid h7
        clear h7
        go_wp2_with fail
        go_roundw
        case rel => exact ⟨p', i + 1, D, rfl, by go_num, hil, H7.out⟩
        case measure => simp [intOf]; omega
      · have t3 : (x.kind % 16 == 15) = false := by simpa using hk
        have Hw := Lib.hid (docA_wf H5.out)
        clear hk
        go_wp2_with fail
        refine (same_any H5.out Hw.out).mono ?_
        rintro e w7 ⟨rfl, h7⟩
        have H7 := Lib.hid h7
        clear h7
        go_wp2_with fail
        go_roundw
        case rel => exact ⟨p, i + 1, D, rfl, by go_num, hil, H7.out⟩
        case measure => simp [intOf]; omega
    · obtain rfl : i = l.length := by omega
      have t2 : decide ((l.length : Int) < l.length) = false := by simp
      go_wp2
      go_ret
      exact ⟨rfl, HS.out.tail.tail⟩
end
end Go.Proofs.YtgdmaikjaopddaaGreatDoor

/- A call that comes in by itself; bounds. -/
namespace Go.Proofs.YtgdmaikjaopddaaGreatDoor
open Go.ChangeShapes Go.WideShapes Go.ChangeAt Go.RowKit

section
variable {H : Type} {enc : TypeId × Value → H} {W : World} {spare : Nat → Bool} {held : Bool} {fuel : Nat}
set_option maxRecDepth 100000 in
theorem argOp_of {base : Nat} {v : Value} {d : DataW H} {p : List MemPlace} (hval : Value.okWide Tryz.prog W .any base 52 v) (h : DataW.Trod enc Tryz.prog W 0 spare held 52 v d p) (hb : Fits 52 d) : ∃ (o : OpV) (A1 : Option Addr) (c1 : Nat) (A2 : Option Addr) (c2 : Nat), v = .agg (o.cells A1 c1 A2 c2) ∧ OpOk W o A1 c1 A2 c2 := by
  obtain ⟨f0, f1, f2, f3, f4, f5, f6, f7, f8, f9, hu, _⟩ := opUnder
  obtain ⟨cs, rfl, _⟩ := okWide_struct hu hval
  obtain ⟨o, A1, c1, A2, c2, rfl, hok⟩ := trod_op1 h hb
  exact ⟨o, A1, c1, A2, c2, rfl, hok⟩
theorem fits_of {ts : List TypeId} {ds : List (DataW H)} {j : Nat} {t : TypeId} {d : DataW H} (h : (DataW.weightsEach Tryz.prog ts ds).all (· ≤ reachBytes) = true) (ht : ts[j]? = some t) (hd : ds[j]? = some d) : Fits t d := fun n hn => by
  simpa using List.all_eq_true.1 h n (DataW.weights_mem_each ht hd n hn)
end
end Go.Proofs.YtgdmaikjaopddaaGreatDoor
