/- Package shadow: Attach, Of, Open; the root of a tree. -/
import Derived.Test.YtehjhigaebpfkaaDoorShadow
namespace Go.Proofs.YtehjhigaebpfkaaDoor
open Go.RowKit

noncomputable def Doc.attachE (A : Doc) (h : Int) : Int :=
  if A.In h then (if (A.nd h).kind = 1 ∧ hostB (A.nd h).name = true then A.rootE h else 100) else 80

/-- so many steps up to the top -/
inductive Top (A : Doc) : Nat → Int → Int → Prop
  | here {i : Int} : A.In i → (A.nd i).up = -1 → Top A 0 i i
  | up {n : Nat} {i r : Int} : A.In i → (A.nd i).up ≠ -1 → Top A n (A.nd i).up r → Top A (n + 1) i r

section
variable {W w : World} {rs : List Res} {p : Nat} {A : Doc}
theorem Sep.box_kind {g e : Nat} {x : Nd} {a k : Value} (h : Sep W w (blk g e (ndCells x a k) :: rs)) : w.cell? ⟨g, 0, none⟩ = some (.int .u8 x.kind) := h.blk_cell 0
theorem Sep.box_name {g e : Nat} {x : Nd} {a k : Value} (h : Sep W w (blk g e (ndCells x a k) :: rs)) : w.cell? ⟨g, 1, none⟩ = some (.string x.name) := h.blk_cell 1
theorem Sep.box_closed {g e : Nat} {x : Nd} {a k : Value} (h : Sep W w (blk g e (ndCells x a k) :: rs)) : w.cell? ⟨g, 9, none⟩ = some (.bool x.fl.closed) := h.blk_cell 9
def flCells (fl : Fl) : Array Value := #[.bool fl.closed, .bool fl.manual, .bool fl.delegates, .bool fl.serial, .bool fl.clonable]
def noCells : Array Value := #[.int .u8 0, .string .empty, .string .empty, .slice none 0 0, int 0, .slice none 0 0, int 0, int 0, int 0, .bool false, .bool false, .bool false, .bool false, .bool false]

set_option maxRecDepth 100000 in
set_option maxHeartbeats 1000000 in
theorem attach_doc (h : Sep W w (docA p A :: rs)) (hT : Laid W) (hM : MaxIs W) (i : Int) (fl : Fl) :
    Calls Tryd.prog 28 #[ptr p, int i, flVal fl] w fun e w' => e = .returned (.tuple #[int (if A.attachE i = 0 then A.n else 0), .int .u16 (A.attachE i)]) ∧ Sep W w' (docA p (if A.attachE i = 0 then A.rooted i fl else A) :: rs) := by
  have H := Lib.hid (h.blk_new (flCells fl) 31).swap
  have HT := Lib.hid hT
  have HM := Lib.hid hM
  obtain ⟨r, hr⟩ : ∃ r : Int, r = (if A.attachE i = 0 then (A.n : Int) else 0) := ⟨_, rfl⟩
  obtain ⟨D, hD⟩ : ∃ D, D = (if A.attachE i = 0 then A.rooted i fl else A) := ⟨_, rfl⟩
  obtain ⟨E, hE0⟩ : ∃ E, E = A.attachE i := ⟨_, rfl⟩
  rw [← hr, ← hD, ← hE0]
  have Hr := Lib.hid hr
  have HD := Lib.hid hD
  have HE0 := Lib.hid hE0
  unfold flVal
  clear h hT hM hr hD hE0
  by_cases hi : A.In i
  · have hE : A.attachE i = if (A.nd i).kind = 1 ∧ hostB (A.nd i).name = true then A.rootE i else 100 := by unfold Doc.attachE; rw [if_pos hi]
    have HE := Lib.hid hE
    clear hE
    go_enter Tryd.func28, Tryd.ntmps28
    go_wp2_with fail
    refine (node_doc H.out i hi).mono ?_
    rintro e w1 ⟨va, vk, rfl, h1⟩
    obtain ⟨k1, kc1, rfl⟩ := h1.irow_form
    obtain ⟨a1, ac1, rfl⟩ := h1.tail.arow_form
    have hx := h1.tail.tail.blk_new (ndCells (A.nd i) (.slice a1 (A.nd i).attrs.length ac1) (.slice k1 (A.nd i).kids.length kc1)) 33
    obtain ⟨w2, hw2⟩ : ∃ w2, w2 = w1.alloc (.cells (ndCells (A.nd i) (.slice a1 (A.nd i).attrs.length ac1) (.slice k1 (A.nd i).kids.length kc1)) 33) := ⟨_, rfl⟩
    rw [← hw2] at hx
    have Hw2 := Lib.hid hw2
    have c0 := hx.box_kind
    have c1 := hx.box_name
    have HX := Lib.hid hx
    clear h1 hx hw2 H
    go_wp2_with (refine wpList_store_node rfl _ _ rfl rfl rfl rfl ?_; rw [← Hw2.out]; refine halt ?_)
    refine Halt.go ?_
    clear Hw2
    by_cases hk : (A.nd i).kind = 1
    · rw [hk] at c0
      go_wp2_with fail
      refine (Host_any (A.nd i).name w2 (HT.out.below HX.out.below) (HM.out.below HX.out.below)).mono ?_
      rintro e w3 ⟨rfl, hb3⟩
      have h3 := HX.out.belowed hb3
      cases hh : hostB (A.nd i).name
      · have hE : A.attachE i = 100 := by rw [HE.out, if_neg (by rw [hh]; simp)]
        have HE2 := Lib.hid hE
        have H3 := Lib.hid h3
        clear h3 hb3 hE c0 c1 HX hk
        go_wp2
        go_ret2
        rw [Hr.out, HD.out, HE0.out, HE2.out]
        exact ⟨rfl, H3.out.tail.swap.tail⟩
      · have hE : A.attachE i = A.rootE i := by rw [HE.out, if_pos ⟨hk, hh⟩]
        have hf := h3.tail.swap
        have e0 := hf.blk_cell 0
        have e1 := hf.blk_cell 1
        have e2 := hf.blk_cell 2
        have e3 := hf.blk_cell 3
        have e4 := hf.blk_cell 4
        simp only [flCells, List.getElem?_toArray, List.getElem?_cons_zero, List.getElem?_cons_succ] at e0 e1 e2 e3 e4
        have HE2 := Lib.hid hE
        have H3 := Lib.hid h3.tail.swap.tail
        clear h3 hb3 hE c0 c1 HX hk hf
        by_cases he : A.rootE i = 0
        · go_wp2_with fail
          refine (root_yes H3.out i fl he).mono ?_
          rintro e w4 ⟨rfl, h4⟩
          have H4 := Lib.hid h4
          have Hee := Lib.hid he
          clear h4 he
          go_wp2
          go_ret2
          rw [Hr.out, HD.out, HE0.out, HE2.out, Hee.out]
          exact ⟨rfl, H4.out⟩
        · go_wp2_with fail
          refine (root_no H3.out i fl he).mono ?_
          rintro e w4 ⟨rfl, h4⟩
          have H4 := Lib.hid h4
          have Hee := Lib.hid he
          clear h4 he
          go_wp2
          go_ret2
          rw [Hr.out, HD.out, HE0.out, HE2.out, if_neg Hee.out, if_neg Hee.out]
          exact ⟨rfl, H4.out⟩
    · have t1 : ((A.nd i).kind != 1) = true := by simpa using hk
      have hE : A.attachE i = 100 := by rw [HE.out, if_neg (fun h => hk h.1)]
      have HE2 := Lib.hid hE
      clear hE hk
      go_wp2
      go_ret2
      rw [Hr.out, HD.out, HE0.out, HE2.out]
      exact ⟨rfl, HX.out.tail.swap.tail⟩
  · have hE : A.attachE i = 80 := by unfold Doc.attachE; rw [if_neg hi]
    have HE := Lib.hid hE
    clear hE
    go_enter Tryd.func28, Tryd.ntmps28
    go_wp2_with fail
    refine (node_no H.out i hi).mono ?_
    rintro e w1 ⟨rfl, h1⟩
    have H1 := Lib.hid (h1.alloc (.cells noCells 33))
    clear h1 H
    go_wp2_with (refine wpList_store_new (cells := noCells) rfl 33 _ _ rfl rfl rfl nd_info rfl (by simp [noCells, Value.oneCell', Value.cells]) ?_)
    go_ret2
    rw [Hr.out, HD.out, HE0.out, HE.out]
    exact ⟨rfl, H1.out.swap.tail⟩
end
end Go.Proofs.YtehjhigaebpfkaaDoor
