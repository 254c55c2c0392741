/- The document's own answer: Root. -/
import Derived.Test.YtgdmaikjaopddaaGreatDoorJ25
import Derived.Test.YtgdmaikjaopddaaGreatDoorJ27
namespace Go.Proofs.YtgdmaikjaopddaaGreatDoor
open Go.RowKit

section
variable {W w : World} {rs : List Res} {q : Nat} {A : Doc}
/-- opened, with what a store makes of it -/
theorem ref_w (h : Sep W w (refA q A :: rs)) (hp : 0 < A.n) : ∃ (bN cN : Nat) (av kv : Nat → Value), w.cell? ⟨q, 1, none⟩ = some (.slice (some ⟨bN, 0, none⟩) A.n cN) ∧ w.cell? ⟨q, 0, none⟩ = some (int A.lim) ∧
    (∀ {i k : Nat} {u : Value}, i < A.n → k < 14 → (ndCells (A.nd i) (av i) (kv i))[k]? = some u → w.cell? ⟨bN, i * 14 + k, none⟩ = some u) ∧ (∀ o, w.frozen? ⟨bN, o, none⟩ = false) ∧
    ∀ (i k : Nat) (u : Value) (f : Nd → Nd), i < A.n → k < 14 → (∀ x a k', ndCells (f x) a k' = (ndCells x a k').setIfInBounds k u) → (∀ x, (f x).attrs = x.attrs ∧ (f x).kids = x.kids ∧ (f x).given = x.given) → Sep W (w.setCell ⟨bN, i * 14 + k, none⟩ u) (refA q (A.set i f) :: rs) := by
  obtain ⟨vN, vG, av, kv, gv, hS⟩ := ref_open h
  obtain ⟨G2, xs, hNr, hx⟩ := hS.mem (r := nrow vN A.n (fun i => ndCells (A.nd i) (av i) (kv i))) (by simp [refL])
  obtain ⟨bN, cN, hvN, _⟩ := rowHolds.cells hNr hp
  subst hvN
  obtain ⟨h1, h2, h3, _, h5⟩ := ref_nd hS hp rfl
  exact ⟨bN, cN, av, kv, h3, h2, h1, h5, fun i k u f hi hk hf hr => ref_close (ref_set hS rfl hi hk u f hf hr)⟩

theorem ref_rooted {i : Nat} {fl : Fl} (h : Sep W w (refA q ((A.add ((newNd 5 .empty .empty [] fl).setHost i)).set i (.setShadow A.n)) :: rs)) (hi : i < A.n) : Sep W w (refA q (A.rooted i fl) :: rs) := by
  have e : ∀ j : Int, (A.rooted i fl).nd j = ((A.add ((newNd 5 .empty .empty [] fl).setHost i)).set i (.setShadow A.n)).nd j := fun j => by
    rw [rooted_nd (by omega), Doc.set_nd]
    unfold Doc.add
    dsimp only
    by_cases h1 : j = A.n
    · rw [if_pos h1, if_neg (by omega), if_pos h1]
    · rw [if_neg h1]
      by_cases h2 : j = i
      · rw [if_pos h2, if_pos h2, if_neg h1]
      · rw [if_neg h2, if_neg h2, if_neg h1]
  exact refA_to h rfl rfl fun j _ => ⟨congrArg Nd.nogive (e j), congrArg Nd.given (e j)⟩

set_option maxRecDepth 100000 in
set_option maxHeartbeats 2000000 in
theorem rroot_as (h : Sep W w (refA q A :: rs)) (hw : WF A) (i : Int) (fl : Fl) (N E : Int) (D : Doc) (hN : N = if A.rootE i = 0 then (A.n : Int) else 0) (hEE : E = A.rootE i) (hD : D = if A.rootE i = 0 then A.rooted i fl else A) :
    Calls Tryz.prog 42 #[ptr q, int i, flVal fl] w fun e w' => e = .returned (.tuple #[int N, int E]) ∧ Sep W w' (refA q D :: rs) := by
  have HNo := Lib.hid (show A.rootE i ≠ 0 → E = A.rootE i ∧ N = 0 ∧ D = A from fun h0 => ⟨hEE, by rw [hN, if_neg h0], by rw [hD, if_neg h0]⟩)
  have HYes := Lib.hid (show A.rootE i = 0 → E = 0 ∧ N = A.n ∧ D = A.rooted i fl from fun h0 => ⟨by rw [hEE, h0], by rw [hN, if_pos h0], by rw [hD, if_pos h0]⟩)
  clear hN hEE hD
  have H := Lib.hid (h.alloc (.cells #[.bool fl.closed, .bool fl.manual, .bool fl.delegates, .bool fl.serial, .bool fl.clonable] 33))
  have hn := hw.n_le
  have Hw := Lib.hid hw
  unfold flVal
  by_cases hi : A.In i
  case neg =>
    have hE : A.rootE i = 80 := by unfold Doc.rootE; rw [if_neg hi]
    have HE := Lib.hid (show E = 80 ∧ N = 0 ∧ D = A by have := HNo.out (by rw [hE]; decide); rwa [hE] at this)
    have TD := Lib.hid (show decide (A.In i) = false from decide_eq_false hi)
    clear h hw hi hE
    go_enter Tryz.func42, Tryz.ntmps42
    go_wp2_with fail
    refine (rthere H.out Hw.out i).mono ?_
    rintro e w' ⟨rfl, rfl⟩
    rw [TD.out]
    go_wp2
    go_ret2
    exact ⟨by rw [HE.out.1, HE.out.2.1]; rfl, by rw [HE.out.2.2]; exact H.out⟩
  have TD := Lib.hid (show decide (A.In i) = true from decide_eq_true hi)
  obtain ⟨j, rfl, hj⟩ := icast hi.1 hi.2
  obtain ⟨w0, hw0⟩ : ∃ w0, w0 = w.alloc (.cells #[.bool fl.closed, .bool fl.manual, .bool fl.delegates, .bool fl.serial, .bool fl.clonable] 33) := ⟨_, rfl⟩
  have hbl := h.blk_new #[.bool fl.closed, .bool fl.manual, .bool fl.delegates, .bool fl.serial, .bool fl.clonable] 33
  rw [← hw0] at H hbl
  obtain ⟨g, hg⟩ : ∃ g, g = w.heap.size := ⟨_, rfl⟩
  rw [← hg] at hbl
  have f0 : w0.cell? ⟨g, 0, none⟩ = some (.bool fl.closed) := hbl.blk_cell 0
  have f1 : w0.cell? ⟨g, 1, none⟩ = some (.bool fl.manual) := hbl.blk_cell 1
  have f2 : w0.cell? ⟨g, 2, none⟩ = some (.bool fl.delegates) := hbl.blk_cell 2
  have f3 : w0.cell? ⟨g, 3, none⟩ = some (.bool fl.serial) := hbl.blk_cell 3
  have f4 : w0.cell? ⟨g, 4, none⟩ = some (.bool fl.clonable) := hbl.blk_cell 4
  have HW0 := Lib.hid hw0
  have HG := Lib.hid hg
  obtain ⟨bN, cN, av, kv, c1, c0, hc, _, _⟩ := ref_w H.out hw.pos
  have u0 : w0.cell? ⟨bN, j * 14, none⟩ = some (.int .u8 (A.nd j).kind) := hc (k := 0) hj (by omega) rfl
  have u6 : w0.cell? ⟨bN, j * 14 + 6, none⟩ = some (int (A.nd j).shadow) := hc (k := 6) hj (by omega) rfl
  have hsh := hw.shadow j hi
  have hlm := hw.lim
  have hle := hw.le
  have j0 : (0 : Int) ≤ j := by omega
  have j1 : (j : Int) < A.n := by omega
  have hE0 : A.rootE j = if (A.nd j).kind = 1 then (if (A.nd j).shadow = -1 then (if (A.n : Int) + 1 ≤ A.lim then 0 else 3) else 101) else 100 := by unfold Doc.rootE; rw [if_pos hi]
  have HE0 := Lib.hid hE0
  clear h hw hi hE0 hbl hw0 hg hc
  by_cases hk : (A.nd j).kind = 1
  case neg =>
    have k1 : ((A.nd j).kind != 1) = true := by simpa using hk
    have hE : A.rootE j = 100 := by rw [HE0.out, if_neg hk]
    have HE := Lib.hid (show E = 100 ∧ N = 0 ∧ D = A by have := HNo.out (by rw [hE]; decide); rwa [hE] at this)
    clear hE
    clear hk hsh
    go_enter Tryz.func42, Tryz.ntmps42
    go_wp2_with fail
    rw [← HW0.out, ← HG.out]
    refine (rthere H.out Hw.out j).mono ?_
    rintro e w' ⟨rfl, rfl⟩
    rw [TD.out]
    go_wp2
    go_ret2
    exact ⟨by rw [HE.out.1, HE.out.2.1]; rfl, by rw [HE.out.2.2]; exact H.out⟩
  have k1 : ((A.nd j).kind != 1) = false := by simpa using hk
  by_cases hs : (A.nd j).shadow = -1
  case neg =>
    have k2 : decide ((A.nd j).shadow ≥ 0) = true := decide_eq_true (hsh.resolve_left hs).1
    have k3 : decide (0 ≤ (A.nd j).shadow) = true := decide_eq_true (hsh.resolve_left hs).1
    have hE : A.rootE j = 101 := by rw [HE0.out, if_pos hk, if_neg hs]
    have HE := Lib.hid (show E = 101 ∧ N = 0 ∧ D = A by have := HNo.out (by rw [hE]; decide); rwa [hE] at this)
    clear hE
    clear hk hsh hs
    go_enter Tryz.func42, Tryz.ntmps42
    go_wp2_with fail
    rw [← HW0.out, ← HG.out]
    refine (rthere H.out Hw.out j).mono ?_
    rintro e w' ⟨rfl, rfl⟩
    rw [TD.out]
    go_wp2
    go_ret2
    exact ⟨by rw [HE.out.1, HE.out.2.1]; rfl, by rw [HE.out.2.2]; exact H.out⟩
  have k2 : decide ((A.nd j).shadow ≥ 0) = false := by rw [hs]; rfl
  have k3 : decide (0 ≤ (A.nd j).shadow) = false := by rw [hs]; rfl
  by_cases hf : (A.n : Int) + 1 ≤ A.lim
  case neg =>
    have k4 : decide ((A.n : Int) ≥ A.lim) = true := by simp; omega
    have k5 : decide (A.lim ≤ (A.n : Int)) = true := by simp; omega
    have hE : A.rootE j = 3 := by rw [HE0.out, if_pos hk, if_pos hs, if_neg hf]
    have HE := Lib.hid (show E = 3 ∧ N = 0 ∧ D = A by have := HNo.out (by rw [hE]; decide); rwa [hE] at this)
    clear hE
    clear hk hsh hs hf
    go_enter Tryz.func42, Tryz.ntmps42
    go_wp2_with fail
    rw [← HW0.out, ← HG.out]
    refine (rthere H.out Hw.out j).mono ?_
    rintro e w' ⟨rfl, rfl⟩
    rw [TD.out]
    go_wp2_with fail
    go_quiet (fail)
    go_wp2
    go_ret2
    exact ⟨by rw [HE.out.1, HE.out.2.1]; rfl, by rw [HE.out.2.2]; exact H.out.drewN _⟩
  have k4 : decide ((A.n : Int) ≥ A.lim) = false := by simp; omega
  have k5 : decide (A.lim ≤ (A.n : Int)) = false := by simp; omega
  have hE : A.rootE j = 0 := by rw [HE0.out, if_pos hk, if_pos hs, if_pos hf]
  have HE := Lib.hid (HYes.out hE)
  have hn5 : A.n < 5000 := by omega
  clear hk hsh hs hf hE
  go_enter Tryz.func42, Tryz.ntmps42
  go_wp2_with fail
  rw [← HW0.out, ← HG.out]
  refine (rthere H.out Hw.out j).mono ?_
  rintro e w' ⟨rfl, rfl⟩
  rw [TD.out]
  go_wp2_with fail
  go_quiet (fail)
  go_wp2_with fail
  refine (radd_any 5 .empty .empty [] none 0 0 j fl j _ rfl (.inl ⟨rfl, rfl⟩) ((H.out.drewN _).nilRow 67 2 none) hn5).mono ?_
  rintro e w3 ⟨rfl, h3⟩
  obtain ⟨bN3, cN3, av3, kv3, d1, _, hc3, ff, hst⟩ := ref_w h3 (Nat.succ_pos _)
  have v6 : w3.cell? ⟨bN3, j * 14 + 6, none⟩ = some (int _) := hc3 (k := 6) (show j < A.n + 1 by omega) (by omega) rfl
  have HF := Lib.hid (ref_rooted (hst j 6 (int A.n) (.setShadow A.n) (show j < A.n + 1 by omega) (by omega) (fun _ _ _ => rfl) (fun _ => ⟨rfl, rfl, rfl⟩)) hj)
  have d1' : w3.cell? ⟨q, 1, none⟩ = some (.slice (some ⟨bN3, 0, none⟩) (A.n + 1) cN3) := d1
  have j2 : (j : Int) < (A.n + 1 : Nat) := by omega
  have j3 : (j : Int) < (A.n : Int) + 1 := by omega
  clear h3 hc3 hst d1
  go_wp2
  go_ret2
  exact ⟨by rw [HE.out.1, HE.out.2.1]; rfl, by rw [HE.out.2.2]; exact HF.out⟩
theorem rroot (h : Sep W w (refA q A :: rs)) (hw : WF A) (i : Int) (fl : Fl) :
    Calls Tryz.prog 42 #[ptr q, int i, flVal fl] w fun e w' => e = .returned (.tuple #[int (if A.rootE i = 0 then (A.n : Int) else 0), int (A.rootE i)]) ∧ Sep W w' (refA q (if A.rootE i = 0 then A.rooted i fl else A) :: rs) :=
  rroot_as h hw i fl _ _ _ rfl rfl rfl
end
end Go.Proofs.YtgdmaikjaopddaaGreatDoor

/- The document's own answer: New, Make. -/
namespace Go.Proofs.YtgdmaikjaopddaaGreatDoor
open Go.RowKit

section
variable {W w : World} {rs : List Res} {q : Nat} {A : Doc}
def Doc.none (lim : Int) : Doc := ⟨0, lim, fun _ => newNd 4 .empty .empty [] noFl⟩
set_option maxRecDepth 100000 in
theorem rnew_no (w : World) (lim : Int) (h : ¬ (1 ≤ lim ∧ lim ≤ 5000)) : Calls Tryz.prog 18 #[int lim] w fun e w' => e = .returned (.pointer none) ∧ w = w' := by
  by_cases h1 : lim < 1
  · go_enter Tryz.func18, Tryz.ntmps18
    go_wp2
    go_ret
    exact ⟨rfl, rfl⟩
  · have h2 : 5000 < lim := by omega
    go_enter Tryz.func18, Tryz.ntmps18
    go_wp2
    go_ret
    exact ⟨rfl, rfl⟩
set_option maxRecDepth 100000 in
theorem rnew_yes (h : Sep W w rs) (lim : Int) (h1 : 1 ≤ lim) (h2 : lim ≤ 5000) : Calls Tryz.prog 18 #[int lim] w fun e w' => ∃ q, e = .returned (ptr q) ∧ Sep W w' (refA q (Doc.new lim) :: rs) := by
  obtain ⟨w1, hw1⟩ : ∃ w1, w1 = w.alloc (.cells #[int lim, .slice none 0 0, .slice none 0 0] TRDoc) := ⟨_, rfl⟩
  have hb := h.blk_new #[int lim, .slice none 0 0, .slice none 0 0] TRDoc
  rw [← hw1] at hb
  obtain ⟨g, hg⟩ : ∃ g, g = w.heap.size := ⟨_, rfl⟩
  rw [← hg] at hb
  have hz : Sep W w1 (refA g (Doc.none lim) :: rs) := by
    have hv : Sep W w1 (vrow TInts (.slice none 0 0) 0 (fun _ => int 0) :: blk g TRDoc #[int lim, .slice none 0 0, .slice none 0 0] :: rs) := hb.nilRow TInts 1 none
    have hn0 := hv.nilRow TNd 14 none
    obtain ⟨G, hG, _, hs⟩ := hn0.step
    have hn1 := hs w1 G (nrow (.slice none 0 0) 0 (fun i => ndCells ((Doc.none lim).nd i) (int 0) (int 0))) (Only.refl _ _) ⟨[], hG, fun i hi => absurd hi (Nat.not_lt_zero i)⟩ fun _ hk => .inl hk
    exact ref_close (A := Doc.none lim) (vN := .slice none 0 0) (vG := .slice none 0 0) (av := fun _ => int 0) (kv := fun _ => int 0) (gv := fun _ => int 0) (hn1.third.perm (List.Perm.cons _ (List.Perm.refl _)))
  have HZ := Lib.hid hz
  have HW1 := Lib.hid hw1
  have HG := Lib.hid hg
  have t1 : decide (lim < 1) = false := by simp; omega
  have t2 : decide (lim > 5000) = false := by simp; omega
  clear hb hz hw1 hg
  go_enter Tryz.func18, Tryz.ntmps18
  go_wp2_with fail
  rw [show w.alloc (.cells #[.int .i64 lim, .slice none 0 0, .slice none 0 0] TRDoc) = w1 from HW1.out.symm, ← HG.out]
  refine (radd_any (A := Doc.none lim) 4 .empty .empty [] none 0 0 0 noFl (-1) _ rfl (.inr ⟨rfl, rfl⟩) (HZ.out.nilRow 67 2 none) (show 0 < 5000 by omega)).mono ?_
  rintro e w3 ⟨rfl, h3⟩
  have H3 := Lib.hid h3
  clear h3
  go_wp2
  go_ret
  refine ⟨g, rfl, refA_to H3.out rfl rfl fun j _ => ?_⟩
  have e : ((Doc.none lim).add ((newNd 4 .empty .empty [] noFl).setHost (-1))).nd j = (Doc.new lim).nd j := by
    unfold Doc.add Doc.none Doc.new
    dsimp only
    split <;> rfl
  rw [e]; exact ⟨rfl, rfl⟩

theorem ref_w2 (h : Sep W w (refA q A :: rs)) {i1 k1 i2 k2 : Nat} {u1 u2 : Value} {f1 f2 : Nd → Nd} (h1 : i1 < A.n) (h2 : i2 < A.n) (hk1 : k1 < 14) (hk2 : k2 < 14)
    (hf1 : ∀ x a k', ndCells (f1 x) a k' = (ndCells x a k').setIfInBounds k1 u1) (hf2 : ∀ x a k', ndCells (f2 x) a k' = (ndCells x a k').setIfInBounds k2 u2) (hr1 : ∀ x, (f1 x).attrs = x.attrs ∧ (f1 x).kids = x.kids ∧ (f1 x).given = x.given) (hr2 : ∀ x, (f2 x).attrs = x.attrs ∧ (f2 x).kids = x.kids ∧ (f2 x).given = x.given) :
    ∃ (bN cN : Nat) (o1 o2 : Value), w.cell? ⟨q, 1, none⟩ = some (.slice (some ⟨bN, 0, none⟩) A.n cN) ∧ w.cell? ⟨bN, i1 * 14 + k1, none⟩ = some o1 ∧ (∀ o, w.frozen? ⟨bN, o, none⟩ = false) ∧
    (w.setCell ⟨bN, i1 * 14 + k1, none⟩ u1).cell? ⟨q, 1, none⟩ = some (.slice (some ⟨bN, 0, none⟩) A.n cN) ∧ (w.setCell ⟨bN, i1 * 14 + k1, none⟩ u1).cell? ⟨bN, i2 * 14 + k2, none⟩ = some o2 ∧
    Sep W ((w.setCell ⟨bN, i1 * 14 + k1, none⟩ u1).setCell ⟨bN, i2 * 14 + k2, none⟩ u2) (refA q ((A.set i1 f1).set i2 f2) :: rs) := by
  obtain ⟨vN, vG, av, kv, gv, hS⟩ := ref_open h
  obtain ⟨G2, xs, hNr, hx⟩ := hS.mem (r := nrow vN A.n (fun i => ndCells (A.nd i) (av i) (kv i))) (by simp [refL])
  obtain ⟨bN, cN, hvN, _⟩ := rowHolds.cells hNr (by omega)
  subst hvN
  obtain ⟨c1, _, c3, _, c5⟩ := ref_nd hS (by omega) rfl
  have hS2 := ref_set hS rfl h1 hk1 u1 f1 hf1 hr1
  obtain ⟨d1, _, d3, _, d5⟩ := ref_nd hS2 (show 0 < A.n by omega) rfl
  have z : ∀ (y : Nd) (a b : Value) (k : Nat), k < 14 → ∃ u, (ndCells y a b)[k]? = some u := fun y a b k hk => ⟨_, Array.getElem?_eq_getElem (show k < (ndCells y a b).size from hk)⟩
  obtain ⟨o1, ho1⟩ := z (A.nd i1) (av i1) (kv i1) k1 hk1
  obtain ⟨o2, ho2⟩ := z ((A.set i1 f1).nd i2) (av i2) (kv i2) k2 hk2
  exact ⟨bN, cN, o1, o2, c3, c1 h1 hk1 ho1, c5, d3, d1 h2 hk2 ho2, ref_close (ref_set hS2 rfl (show i2 < (A.set i1 f1).n from h2) hk2 u2 f2 hf2 hr2)⟩

theorem ref_made {k : Int} {nm da : ByteArray} {l : List Attr} (ht : tmplB k nm = true) (h : Sep W w (refA q ((((A.add (newNd k nm da l noFl)).add (newNd 4 .empty .empty [] noFl)).set (A.n + 1) (.setHost A.n)).set A.n (.setOwn (A.n + 1))) :: rs)) : Sep W w (refA q (A.made k nm da l) :: rs) := by
  unfold Doc.made
  rw [if_pos ht]
  refine refA_to h rfl rfl fun j _ => ?_
  have e : ((((A.add (newNd k nm da l noFl)).add (newNd 4 .empty .empty [] noFl)).set A.n (.setOwn (A.n + 1))).set (A.n + 1) (.setHost A.n)).nd j = ((((A.add (newNd k nm da l noFl)).add (newNd 4 .empty .empty [] noFl)).set (A.n + 1) (.setHost A.n)).set A.n (.setOwn (A.n + 1))).nd j := by
    rw [Doc.set_nd, Doc.set_nd, Doc.set_nd, Doc.set_nd]
    by_cases h1 : (j : Int) = A.n + 1
    · rw [if_pos h1, if_neg (by omega), if_neg (by omega), if_pos h1]
    · rw [if_neg h1, if_neg h1]
  rw [e]; exact ⟨rfl, rfl⟩

end
end Go.Proofs.YtgdmaikjaopddaaGreatDoor
