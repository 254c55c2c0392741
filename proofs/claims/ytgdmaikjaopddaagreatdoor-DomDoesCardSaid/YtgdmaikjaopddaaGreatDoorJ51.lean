/- The law's own function Same: a document and its answer that stand for one. -/
import Derived.Test.YtgdmaikjaopddaaGreatDoorJ49
import Derived.Test.YtgdmaikjaopddaaGreatDoorJ50
import Derived.Test.YtgdmaikjaopddaaGreatDoorJ22
namespace Go.Proofs.YtgdmaikjaopddaaGreatDoor
open Go.RowKit

section
variable {W w : World} {rs : List Res} {p q : Nat} {A : Doc}
/-- what is told of a number of no node -/
def zeroNd : Nd := ⟨0, .empty, .empty, [], noFl, 0, [], 0, 0, 0, 0, []⟩
def Doc.toldNd (A : Doc) (i : Int) : Nd := if A.In i then A.nd i else zeroNd
def Doc.toldE (A : Doc) (i : Int) : Int := if A.In i then 0 else 80
theorem node_told (h : Sep W w (docA p A :: rs)) (i : Int) :
    Calls Tryz.prog 12 #[ptr p, int i] w fun e w' => ∃ a k, e = .returned (.tuple #[ndVal (A.toldNd i) a k, .int .u16 (A.toldE i)]) ∧ Sep W w' (irow k (A.toldNd i).kids :: arow a (A.toldNd i).attrs :: docA p A :: rs) := by
  unfold Doc.toldNd Doc.toldE
  by_cases hi : A.In i
  · rw [if_pos hi, if_pos hi]; exact node_doc h i hi
  · rw [if_neg hi, if_neg hi]
    refine (node_no h i hi).mono ?_
    rintro e w' ⟨rfl, hS⟩
    exact ⟨.slice none 0 0, .slice none 0 0, rfl, (hS.nilRow TAttr 2 none).nilRow TInt 1 none⟩
theorem rnode_told (h : Sep W w (refA q A :: rs)) (hw : WF A) (i : Int) :
    Calls Tryz.prog 53 #[ptr q, int i] w fun e w' => ∃ a k, e = .returned (.tuple #[ndVal (A.toldNd i) a k, int (A.toldE i)]) ∧ Sep W w' (irow k (A.toldNd i).kids :: arow a (A.toldNd i).attrs :: refA q A :: rs) := by
  unfold Doc.toldNd Doc.toldE
  by_cases hi : A.In i
  · rw [if_pos hi, if_pos hi]; exact rnode_yes h hw i hi
  · rw [if_neg hi, if_neg hi]
    refine (rnode_no h hw i hi).mono ?_
    rintro e w' ⟨rfl, hS⟩
    exact ⟨.slice none 0 0, .slice none 0 0, rfl, (hS.nilRow TAttr 2 none).nilRow TInt 1 none⟩
theorem toldE_bd (A : Doc) (i : Int) : (wrap64 (A.toldE i) != A.toldE i) = false := by
  unfold Doc.toldE; split <;> (unfold wrap64; rfl)
theorem Sep.seventh {a b c d e f g : Res} (h : Sep W w (a :: b :: c :: d :: e :: f :: g :: rs)) : Sep W w (g :: a :: b :: c :: d :: e :: f :: rs) := h.perm (List.perm_middle (a := g) (l₁ := [a, b, c, d, e, f]) (l₂ := rs))
theorem Sep.eighth {a b c d e f g i : Res} (h : Sep W w (a :: b :: c :: d :: e :: f :: g :: i :: rs)) : Sep W w (i :: a :: b :: c :: d :: e :: f :: g :: rs) := h.perm (List.perm_middle (a := i) (l₁ := [a, b, c, d, e, f, g]) (l₂ := rs))
theorem same_perm {a b c d e f g i : Res} (h : Sep W w (a :: b :: c :: d :: e :: f :: g :: i :: rs)) : Sep W w (g :: c :: f :: b :: i :: d :: a :: e :: rs) :=
  (Sep.eighth (Sep.seventh (Sep.seventh (Sep.eighth h.fifth.swap.fifth).fifth))) 
theorem fin_same {a b c d : Res} (h : Sep W w (a :: b :: c :: d :: rs)) : Sep W w (a :: b :: rs) := h.third.tail.third.tail
theorem sameInts_eq {v1 v2 : Value} {a : List Int} (h : Sep W w (irow v1 a :: irow v2 a :: rs)) (ha : a.length ≤ 1000000) :
    Calls Tryz.prog 16 #[v1, v2] w fun e w' => e = .returned (.bool true) ∧ Sep W w' (irow v1 a :: irow v2 a :: rs) := by
  refine (sameInts_any h ha).mono ?_
  rintro e w' ⟨rfl, hS⟩
  exact ⟨by simp, hS⟩
set_option maxRecDepth 100000 in
set_option maxHeartbeats 4000000 in
theorem same_any (h : Sep W w (docA p A :: refA q A :: rs)) (hw : WF A) :
    Calls Tryz.prog 21 #[ptr p, ptr q] w fun e w' => e = .returned (int 1) ∧ Sep W w' (docA p A :: refA q A :: rs) := by
  have H := Lib.hid h
  have HLim := Lib.hid (limit_doc h)
  have HLen := Lib.hid (len_doc h)
  have HRLen := Lib.hid (rlen h.swap hw)
  have HRLim := Lib.hid (rlimit h.swap hw)
  have Hw := Lib.hid hw
  have hn := hw.n_le
  have hle := hw.le
  have hlm := hw.lim
  clear h hw
  go_enter Tryz.func21, Tryz.ntmps21
  go_wp2_with (first
    | ((go_at_call 11); refine HLen.out.mono ?_; rintro e w' ⟨rfl, rfl⟩)
    | ((go_at_call 51); refine HLim.out.mono ?_; rintro e w' ⟨rfl, rfl⟩)
    | ((go_at_call 23); refine HRLen.out.mono ?_; rintro e w' ⟨rfl, rfl⟩)
    | ((go_at_call 52); refine HRLim.out.mono ?_; rintro e w' ⟨rfl, rfl⟩))
  clear HLim HLen HRLen HRLim
  go_loopw [5, 6, 7, 8, 9] (fun v _ _ _ _ wr => ∃ i : Int, v = int i ∧ -1 ≤ i ∧ i ≤ A.n + 1 ∧ Sep W wr (docA p A :: refA q A :: rs)) (fun v _ _ _ _ _ => ((A.n : Int) + 1 - intOf v).toNat)
  case atStart => exact ⟨-1, rfl, by omega, by omega, H.out⟩
  case round =>
    obtain ⟨i, rfl, hi0, hi1, hS⟩ := hrel
    have HS := Lib.hid hS
    have HLen := Lib.hid (len_doc hS)
    clear H hS
    by_cases hin : i ≤ A.n
    · have t0 : decide (i ≤ A.n) = true := by simpa using hin
      have t0' : decide (i > A.n) = false := by simpa using hin
      obtain ⟨x, hx⟩ : ∃ x, x = A.toldNd i := ⟨_, rfl⟩
      obtain ⟨E, hE⟩ : ∃ E, E = A.toldE i := ⟨_, rfl⟩
      have HX := Lib.hid hx
      have HE := Lib.hid hE
      have hEq : (wrap64 E != E) = false := hE ▸ toldE_bd A i
      have HxA := Lib.hid (show x.attrs.length ≤ 9223372036854775807 from by
        rw [hx]; unfold Doc.toldNd; split
        · rename_i hii; have := Hw.out.att i hii; omega
        · exact Nat.zero_le _)
      have HxK := Lib.hid (show x.kids.length ≤ 1000000 from by
        rw [hx]; unfold Doc.toldNd; split
        · rename_i hii; have := Hw.out.kids_len hii; omega
        · exact Nat.zero_le _)
      have HRN := Lib.hid (show ∀ (w : World) (rs : List Res), Sep W w (refA q A :: rs) → Calls Tryz.prog 53 #[ptr q, int i] w fun e w' => ∃ a k, e = .returned (.tuple #[ndVal x a k, int E]) ∧ Sep W w' (irow k x.kids :: arow a x.attrs :: refA q A :: rs) from fun w rs h => by
        have h1 := rnode_told h Hw.out i
        rw [← hx, ← hE] at h1
        exact h1)
      have hnt := node_told HS.out i
      rw [← hx, ← hE] at hnt
      have HN := Lib.hid hnt
      have HG := Lib.hid (show (A.givenOf i).length ≤ 1000000 from by
        unfold Doc.givenOf; split
        · rename_i hii; have := Hw.out.given_len hii; omega
        · exact Nat.zero_le _)
      clear hx hE hnt
      go_wp2_with fail
      refine HLen.out.mono ?_
      rintro e w' ⟨rfl, rfl⟩
      go_wp2_with fail
      refine HN.out.mono ?_
      rintro e w2 ⟨va, vk, rfl, h2⟩
      obtain ⟨k2, kc2, rfl⟩ := h2.irow_form
      obtain ⟨a2, ac2, rfl⟩ := h2.tail.arow_form
      have hy := h2.blk_new (ndCells x (.slice a2 x.attrs.length ac2) (.slice k2 x.kids.length kc2)) TNd
      obtain ⟨w3, hw3⟩ : ∃ w3, w3 = w2.alloc (.cells (ndCells x (.slice a2 x.attrs.length ac2) (.slice k2 x.kids.length kc2)) TNd) := ⟨_, rfl⟩
      obtain ⟨g, hg⟩ : ∃ g, g = w2.heap.size := ⟨_, rfl⟩
      rw [← hw3, ← hg] at hy
      have HY := Lib.hid hy.fifth
      have HW3 := Lib.hid hw3
      have HG3 := Lib.hid hg
      clear h2 hy hw3 hg HLen HN
      go_wp2_with (refine wpList_store_node rfl _ _ rfl rfl rfl rfl ?_; rw [← HW3.out, ← HG3.out]; refine halt ?_)
      refine Halt.go ?_
      go_wp2_with fail
      refine (HRN.out _ _ HY.out).mono ?_
      rintro e w4 ⟨va, vk, rfl, h4⟩
      obtain ⟨k4, kc4, rfl⟩ := h4.irow_form
      obtain ⟨a4, ac4, rfl⟩ := h4.tail.arow_form
      have hz := h4.blk_new (ndCells x (.slice a4 x.attrs.length ac4) (.slice k4 x.kids.length kc4)) TNd
      obtain ⟨w5, hw5⟩ : ∃ w5, w5 = w4.alloc (.cells (ndCells x (.slice a4 x.attrs.length ac4) (.slice k4 x.kids.length kc4)) TNd) := ⟨_, rfl⟩
      obtain ⟨g2, hg2⟩ : ∃ g2, g2 = w4.heap.size := ⟨_, rfl⟩
      rw [← hw5, ← hg2] at hz
      have hz4 := hz.tail.tail.tail.tail
      have u0 : w5.cell? ⟨g, 0, none⟩ = some (.int .u8 x.kind) := hz4.blk_cell 0
      have u1 : w5.cell? ⟨g, 1, none⟩ = some (.string x.name) := hz4.blk_cell 1
      have u2 : w5.cell? ⟨g, 2, none⟩ = some (.string x.data) := hz4.blk_cell 2
      have u3 : w5.cell? ⟨g, 3, none⟩ = some (.slice a2 x.attrs.length ac2) := hz4.blk_cell 3
      have u4 : w5.cell? ⟨g, 4, none⟩ = some (int x.up) := hz4.blk_cell 4
      have u5 : w5.cell? ⟨g, 5, none⟩ = some (.slice k2 x.kids.length kc2) := hz4.blk_cell 5
      have u6 : w5.cell? ⟨g, 6, none⟩ = some (int x.shadow) := hz4.blk_cell 6
      have u7 : w5.cell? ⟨g, 7, none⟩ = some (int x.host) := hz4.blk_cell 7
      have u8 : w5.cell? ⟨g, 8, none⟩ = some (int x.own) := hz4.blk_cell 8
      have u9 : w5.cell? ⟨g, 9, none⟩ = some (.bool x.fl.closed) := hz4.blk_cell 9
      have u10 : w5.cell? ⟨g, 10, none⟩ = some (.bool x.fl.manual) := hz4.blk_cell 10
      have u11 : w5.cell? ⟨g, 11, none⟩ = some (.bool x.fl.delegates) := hz4.blk_cell 11
      have u12 : w5.cell? ⟨g, 12, none⟩ = some (.bool x.fl.serial) := hz4.blk_cell 12
      have u13 : w5.cell? ⟨g, 13, none⟩ = some (.bool x.fl.clonable) := hz4.blk_cell 13
      have v0 : w5.cell? ⟨g2, 0, none⟩ = some (.int .u8 x.kind) := hz.blk_cell 0
      have v1 : w5.cell? ⟨g2, 1, none⟩ = some (.string x.name) := hz.blk_cell 1
      have v2 : w5.cell? ⟨g2, 2, none⟩ = some (.string x.data) := hz.blk_cell 2
      have v3 : w5.cell? ⟨g2, 3, none⟩ = some (.slice a4 x.attrs.length ac4) := hz.blk_cell 3
      have v4 : w5.cell? ⟨g2, 4, none⟩ = some (int x.up) := hz.blk_cell 4
      have v5 : w5.cell? ⟨g2, 5, none⟩ = some (.slice k4 x.kids.length kc4) := hz.blk_cell 5
      have v6 : w5.cell? ⟨g2, 6, none⟩ = some (int x.shadow) := hz.blk_cell 6
      have v7 : w5.cell? ⟨g2, 7, none⟩ = some (int x.host) := hz.blk_cell 7
      have v8 : w5.cell? ⟨g2, 8, none⟩ = some (int x.own) := hz.blk_cell 8
      have v9 : w5.cell? ⟨g2, 9, none⟩ = some (.bool x.fl.closed) := hz.blk_cell 9
      have v10 : w5.cell? ⟨g2, 10, none⟩ = some (.bool x.fl.manual) := hz.blk_cell 10
      have v11 : w5.cell? ⟨g2, 11, none⟩ = some (.bool x.fl.delegates) := hz.blk_cell 11
      have v12 : w5.cell? ⟨g2, 12, none⟩ = some (.bool x.fl.serial) := hz.blk_cell 12
      have v13 : w5.cell? ⟨g2, 13, none⟩ = some (.bool x.fl.clonable) := hz.blk_cell 13
      have HZ := Lib.hid (same_perm hz)
      have HW5 := Lib.hid hw5
      have HG5 := Lib.hid hg2
      clear h4 hz hz4 hw5 hg2 HY HRN
      have s1 : (x.name.toList == x.name.toList) = true := by simp
      have s2 : (x.data.toList == x.data.toList) = true := by simp
      go_wp2_with (refine wpList_store_node rfl _ _ rfl rfl rfl rfl ?_; rw [← HW5.out, ← HG5.out]; refine halt ?_)
      refine Halt.go ?_
      go_wp2_with fail
      refine (sameAttrs_any HZ.out HxA.out).mono ?_
      rintro e w6 ⟨rfl, h6⟩
      have p1 := h6.tail.tail.tail.tail.tail.tail
      have u5 : w6.cell? ⟨g, 5, none⟩ = some (.slice k2 x.kids.length kc2) := p1.tail.blk_cell 5
      have v5 : w6.cell? ⟨g2, 5, none⟩ = some (.slice k4 x.kids.length kc4) := p1.blk_cell 5
      have H6 := Lib.hid h6.tail.tail
      clear h6 p1 u0 u1 u2 u3 u4 u6 u7 u8 u9 u10 u11 u12 u13 v0 v1 v2 v3 v4 v6 v7 v8 v9 v10 v11 v12 v13 HZ
      go_wp2_with fail
      refine (sameInts_eq H6.out HxK.out).mono ?_
      rintro e w7 ⟨rfl, h7⟩
      have H7 := Lib.hid h7.tail.tail
      clear h7 H6
      go_wp2_with fail
      refine (given_any H7.out i).mono ?_
      rintro e w8 ⟨v8, rfl, h8⟩
      have H8 := Lib.hid h8.third
      clear h8 H7
      go_wp2_with fail
      refine (rgiven H8.out Hw.out i).mono ?_
      rintro e w9 ⟨v9, rfl, h9⟩
      have H9 := Lib.hid h9.third
      clear h9 H8
      go_wp2_with fail
      refine (sameInts_eq H9.out HG.out).mono ?_
      rintro e w10 ⟨rfl, h10⟩
      have h11 := h10.tail.tail
      have HSl := Lib.hid (slot_any h11.swap i)
      have HRSl := Lib.hid (rslot h11 Hw.out i)
      have H11 := Lib.hid h11.swap
      clear h10 h11 H9
      go_wp2_with (first
        | ((go_at_call 56); refine HSl.out.mono ?_; rintro e w' ⟨rfl, rfl⟩)
        | ((go_at_call 57); refine HRSl.out.mono ?_; rintro e w' ⟨rfl, rfl⟩))
      go_roundw
      case rel => exact ⟨i + 1, by go_num, by omega, by omega, by
        have h := H11.out
        exact fin_same h⟩
      case measure => simp [intOf]; omega
    · have t0 : decide (i ≤ A.n) = false := by simpa using hin
      go_wp2_with fail
      refine HLen.out.mono ?_
      rintro e w' ⟨rfl, rfl⟩
      go_wp2
      go_ret
      exact ⟨rfl, HS.out⟩
end
end Go.Proofs.YtgdmaikjaopddaaGreatDoor
