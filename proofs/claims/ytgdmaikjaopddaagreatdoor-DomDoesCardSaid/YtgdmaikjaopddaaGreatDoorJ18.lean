/- A node's attributes turn: in memory, and in the document. -/
import Derived.Test.YtgdmaikjaopddaaGreatDoorJ10
import Derived.Test.YtgdmaikjaopddaaGreatDoorJ16
import Derived.Test.YtgdmaikjaopddaaGreatDoorJ17
namespace Go.Proofs.YtgdmaikjaopddaaGreatDoor
open Go.RowKit

namespace RNd
def setAttrs (l : List Attr) (x : RNd) : RNd := { x with attrs := l }
def setData (v : ByteArray) (x : RNd) : RNd := { x with data := v }
end RNd
namespace Nd
def setAttrs (l : List Attr) (x : Nd) : Nd := { x with attrs := l }
def setData (v : ByteArray) (x : Nd) : Nd := { x with data := v }
end Nd

section
variable {p b cap n : Nat} {lim : Int} {R : Int → RNd} {av gv : Nat → Value} {Fa Fg : Nat → Nat → Prop} {w w' : World}

theorem DocC.onlyA (h : DocC p b cap n lim R av gv Fa Fg w) {i : Nat} (hi : i < n) (ho : Only (Fa i) w w') : w'.heap[p]? = w.heap[p]? ∧ w'.heap[b]? = w.heap[b]? ∧ (∀ j, j < n → ∀ k, Fg j k → w'.heap[k]? = w.heap[k]?) ∧ ∀ j, j < n → j ≠ i → ∀ k, Fa j k → w'.heap[k]? = w.heap[k]? := by
  refine ⟨ho.block p h.pw fun hk => (h.pa hi hk).1 rfl, ho.block b h.Bw fun hk => (h.pa hi hk).2 rfl, fun j hj k hk => ho.block k ((irow _ _).lt (h.given j hj) hk) fun hg => h.ag hi hj hg hk, fun j hj hji k hk => ho.block k ((arow _ _).lt (h.attrs j hj) hk) fun hg => h.da j hj i hi hji k hk hg⟩

/-- a node's attributes have turned, and are told to it -/
theorem DocC.setAttrs (h : DocC p b cap n lim R av gv Fa Fg w) {i : Nat} (hi : i < n) {v' : Value} {l' : List Attr} {F' : Nat → Prop} (ho : Only (Fa i) w w') (hr : (arow v' l').holds w' F') (hF : ∀ k, F' k → Fa i k ∨ w.heap.size ≤ k) :
    DocC p b cap n lim (upd R i (.setAttrs l')) (updV av i v') gv (updF Fa i F') Fg (w'.setCell ⟨b, i * 19 + 3, none⟩ v') := by
  obtain ⟨hp, hb, hA, hG⟩ := h.onlyA hi ho
  obtain ⟨cur, hc, h1, h2⟩ := h.nodes
  have hfar : ∀ k', k' ≠ b → (w'.setCell ⟨b, i * 19 + 3, none⟩ v').heap[k']? = w'.heap[k']? := fun k' hk' => Below.heap_setCell _ _ _ _ hk'
  have hgt : ∀ j : Nat, (upd R i (.setAttrs l') j).given = (R j).given := fun j => by unfold upd; split <;> rfl
  have hF'b : ∀ k, F' k → k ≠ b := fun k hk e => by
    rcases hF k hk with h3 | h3
    · exact (h.pa hi h3).2 e
    · have := h.Bw; omega
  refine ⟨(hfar p h.pb).trans (hp.trans h.doc), ⟨cur.setIfInBounds (i * 19 + 3) v', by simp [World.setCell, Array.getElem?_modify, hb.trans hc], by simpa using h1, fun j hj k hk => ?_⟩, h.hn, h.hcap, fun j hj => ?_, fun j hj => ?_, fun x hx y hy hxy k hkx hky => ?_, h.dg⟩
  · rw [Array.getElem?_setIfInBounds]
    by_cases hji : j = i
    · subst hji
      rw [show upd R j (RNd.setAttrs l') j = (R j).setAttrs l' by simp [upd]]
      have ev : updV av j v' j = v' := by unfold updV; rw [if_pos rfl]
      rw [ev]
      by_cases hkk : k = 3
      · subst hkk
        have hlt : j * 19 + 3 < cur.size := by
          rw [h1]
          have := h.hn
          have : (j + 1) * 19 ≤ cap * 19 := Nat.mul_le_mul_right 19 (by omega)
          omega
        rw [if_pos rfl, if_pos hlt]; rfl
      · rw [if_neg (by omega), h2 j hj k hk]
        have h3 : ncell ((R j).setAttrs l') v' (gv j) = (ncell (R j) (av j) (gv j)).set 3 v' := rfl
        rw [h3, List.getElem?_set_ne (by omega)]
    · have e1 : (upd R i (RNd.setAttrs l') j) = R j := by unfold upd; rw [if_neg (by omega)]
      have e2 : updV av i v' j = av j := by unfold updV; rw [if_neg hji]
      rw [e1, e2, if_neg (by omega)]
      exact h2 j hj k hk
  · by_cases hji : j = i
    · subst hji
      have e1 : (upd R j (RNd.setAttrs l') j).attrs = l' := by simp [upd, RNd.setAttrs]
      have e2 : updV av j v' j = v' := by unfold updV; rw [if_pos rfl]
      have e3 : updF Fa j F' j = F' := by unfold updF; funext k; simp
      rw [e1, e2, e3]
      exact (arow _ _).loc hr fun k' hk' => hfar k' (hF'b k' hk')
    · have e1 : (upd R i (RNd.setAttrs l') j).attrs = (R j).attrs := by unfold upd; rw [if_neg (by omega)]
      have e2 : updV av i v' j = av j := by unfold updV; rw [if_neg hji]
      have e3 : updF Fa i F' j = Fa j := by unfold updF; funext k; simp [hji]
      rw [e1, e2, e3]
      exact (arow _ _).loc (h.attrs j hj) fun k' hk' => (hfar k' (h.pa hj hk').2).trans (hG j hj hji k' hk')
  · rw [hgt j]
    exact (irow _ _).loc (h.given j hj) fun k' hk' => (hfar k' (h.pg hj hk').2).trans (hA j hj k' hk')
  · have key : ∀ {y : Nat}, y < n → y ≠ i → ∀ k, F' k → ¬ Fa y k := fun {y} hy hyi k hk hky => by
      rcases hF k hk with h3 | h3
      · exact h.da i hi y hy (fun e => hyi e.symm) k h3 hky
      · have := (arow _ _).lt (h.attrs y hy) hky; omega
    by_cases hxi : x = i
    · have hyi : y ≠ i := fun e => hxy (hxi.trans e.symm)
      have e1 : updF Fa i F' x = F' := by unfold updF; rw [if_pos hxi]
      have e2 : updF Fa i F' y = Fa y := by unfold updF; rw [if_neg hyi]
      rw [e1] at hkx; rw [e2] at hky
      exact key hy hyi k hkx hky
    · have e1 : updF Fa i F' x = Fa x := by unfold updF; rw [if_neg hxi]
      rw [e1] at hkx
      by_cases hyi : y = i
      · have e2 : updF Fa i F' y = F' := by unfold updF; rw [if_pos hyi]
        rw [e2] at hky
        exact key hx hxi k hky hkx
      · have e2 : updF Fa i F' y = Fa y := by unfold updF; rw [if_neg hyi]
        rw [e2] at hky
        exact h.da x hx y hy hxy k hkx hky
end

/-- the place of a name, and the row behind a setting -/
def idxOf (l : List Attr) (nm : ByteArray) : Nat := l.findIdx fun x => x.1.toList == nm.toList
def putAttr (l : List Attr) (nm v : ByteArray) : List Attr := if hasB l nm then l.set (idxOf l nm) (nm, v) else l ++ [(nm, v)]
def dropAttr (l : List Attr) (nm : ByteArray) : List Attr := l.eraseIdx (idxOf l nm)
theorem At.cases {l : List Attr} {nm : ByteArray} {r : Int} (h : At l nm r) : (r = -1 ∧ hasB l nm = false) ∨ (hasB l nm = true ∧ r = idxOf l nm ∧ idxOf l nm < l.length) := by
  rcases h with h | ⟨k, hk, rfl, h1, h2⟩
  · exact .inl h
  · refine .inr ⟨?_, ?_⟩
    · unfold hasB; rw [List.any_eq_true]; exact ⟨l[k], by simp, h1⟩
    · have : idxOf l nm = k := by
        unfold idxOf
        rw [List.findIdx_eq hk]
        refine ⟨h1, fun j hj => ?_⟩
        unfold hasB at h2
        rw [List.any_eq_false] at h2
        have := h2 l[j] (by rw [List.mem_take_iff_getElem]; exact ⟨j, by omega, rfl⟩)
        simpa using this
      rw [this]; exact ⟨rfl, hk⟩
theorem idxOf_lt {l : List Attr} {nm : ByteArray} (h : hasB l nm = true) : idxOf l nm < l.length := by
  unfold hasB at h; unfold idxOf; rw [List.any_eq_true] at h
  exact List.findIdx_lt_length.2 h
theorem putAttr_len {l : List Attr} {nm v : ByteArray} : (putAttr l nm v).length = if hasB l nm then l.length else l.length + 1 := by
  unfold putAttr; split <;> simp
theorem dropAttr_len {l : List Attr} {nm : ByteArray} (h : hasB l nm = true) : (dropAttr l nm).length = l.length - 1 := by
  unfold dropAttr; rw [List.length_eraseIdx, if_pos (idxOf_lt h)]
noncomputable def Doc.setE (A : Doc) (i : Int) (nm v : ByteArray) : Int :=
  if A.In i then (if (A.nd i).kind = 1 then (if writB nm v = true ∧ (hasB (A.nd i).attrs nm = true ∨ (A.nd i).attrs.length < 50) then 0 else 82) else 81) else 80
noncomputable def Doc.dropE (A : Doc) (i : Int) (nm : ByteArray) : Int :=
  if A.In i then (if (A.nd i).kind = 1 then (if hasB (A.nd i).attrs nm = true then 0 else 82) else 81) else 80
noncomputable def Doc.writeE (A : Doc) (i : Int) : Int :=
  if A.In i then (if (A.nd i).kind = 2 ∨ (A.nd i).kind = 3 then 0 else 81) else 80
noncomputable def Doc.setA (A : Doc) (i : Int) (nm v : ByteArray) : Doc := if A.setE i nm v = 0 then A.set i (.setAttrs (putAttr (A.nd i).attrs nm v)) else A
noncomputable def Doc.dropA (A : Doc) (i : Int) (nm : ByteArray) : Doc := if A.dropE i nm = 0 then A.set i (.setAttrs (dropAttr (A.nd i).attrs nm)) else A
noncomputable def Doc.writeA (A : Doc) (i : Int) (da : ByteArray) : Doc := if A.writeE i = 0 then A.set i (.setData da) else A

/-- what changes neither links nor giving keeps what holds -/
theorem WF.plain {A : Doc} (w : WF A) (i : Int) (f : Nd → Nd) (hf : ∀ x, (f x).up = x.up ∧ (f x).host = x.host ∧ (f x).kids = x.kids ∧ (f x).slot = x.slot ∧ (f x).given = x.given ∧ (f x).shadow = x.shadow ∧ (f x).own = x.own) (ha : A.In i → (f (A.nd i)).attrs.length ≤ 50) : WF (A.set i f) := by
  have g : ∀ {α : Type} (g : Nd → α), (∀ x, g (f x) = g x) → ∀ j, g ((A.set i f).nd j) = g (A.nd j) := fun g h j => by
    rw [Doc.set_nd]; split
    · exact h _
    · rfl
  have gu := g Nd.up fun x => (hf x).1
  have gh := g Nd.host fun x => (hf x).2.1
  have gk := g Nd.kids fun x => (hf x).2.2.1
  have gs := g Nd.slot fun x => (hf x).2.2.2.1
  have gg := g Nd.given fun x => (hf x).2.2.2.2.1
  have gsh := g Nd.shadow fun x => (hf x).2.2.2.2.2.1
  have go := g Nd.own fun x => (hf x).2.2.2.2.2.2
  have gp : ∀ j, (A.set i f).par j = A.par j := fun j => by unfold Doc.par; rw [gu, gh]
  have hat : ∀ j, A.In j → ((A.set i f).nd j).attrs.length ≤ 50 := fun j hj => by
    rw [Doc.set_nd]; split
    · rename_i e; subst e; exact ha hj
    · exact w.att j hj
  exact { up := fun j hj => by rw [gu]; exact w.up j hj, host := fun j hj => by rw [gh]; exact w.host j hj, kin := fun j hj k hk => by rw [gk] at hk; rw [gu]; exact w.kin j hj k hk, upk := fun j hj h => by rw [gu] at h ⊢; rw [gk]; exact w.upk j hj h, nod := fun j hj => by rw [gk]; exact w.nod j hj, pos := w.pos, le := w.le, lim := w.lim, shadow := fun j hj => by rw [gsh]; exact w.shadow j hj, own := fun j hj => by rw [go]; exact w.own j hj, slot := fun j hj => by rw [gs]; exact w.slot j hj, att := fun j hj => hat j hj, hup := fun j hj h => by rw [gh] at h; rw [gu]; exact w.hup j hj h, gin := fun j hj k hk => by rw [gg] at hk; rw [gs]; exact w.gin j hj k hk, gnod := fun j hj => by rw [gg]; exact w.gnod j hj, sgiv := fun j hj h => by rw [gs] at h ⊢; rw [gg]; exact w.sgiv j hj h, rank := let ⟨rk, hr⟩ := w.rank; ⟨rk, fun j hj h => by rw [gp] at h ⊢; exact hr j hj h⟩ }
theorem WF.setAttrs {A : Doc} (w : WF A) (i : Int) (l : List Attr) (hl : l.length ≤ 50) : WF (A.set i (.setAttrs l)) := w.plain i _ (fun _ => ⟨rfl, rfl, rfl, rfl, rfl, rfl, rfl⟩) fun _ => hl
theorem WF.setData {A : Doc} (w : WF A) (i : Int) (v : ByteArray) : WF (A.set i (.setData v)) := w.plain i _ (fun _ => ⟨rfl, rfl, rfl, rfl, rfl, rfl, rfl⟩) fun hi => w.att i hi
theorem Link.setAttrs {A : Doc} {R : Int → RNd} (h : Link A R) (i : Int) (l : List Attr) : Link (A.set i (.setAttrs l)) (upd R i (.setAttrs l)) :=
  h.set _ _ (fun x y s => ⟨s.kind, s.name, s.data, rfl, s.fl, s.up, s.shadow, s.host, s.own, s.slot, s.given⟩) (fun _ => rfl) (fun _ => rfl) fun _ => ⟨rfl, rfl, rfl, rfl⟩
theorem Link.setData {A : Doc} {R : Int → RNd} (h : Link A R) (i : Int) (v : ByteArray) : Link (A.set i (.setData v)) (upd R i (.setData v)) :=
  h.set _ _ (fun x y s => ⟨s.kind, s.name, rfl, s.attrs, s.fl, s.up, s.shadow, s.host, s.own, s.slot, s.given⟩) (fun _ => rfl) (fun _ => rfl) fun _ => ⟨rfl, rfl, rfl, rfl⟩
end Go.Proofs.YtgdmaikjaopddaaGreatDoor

/- Set: an element is given an attribute. -/
namespace Go.Proofs.YtgdmaikjaopddaaGreatDoor
open Go.RowKit

def aS : ByteArray := ⟨#[97]⟩
theorem a_valid : validB aS = true := by kernel_rfl
theorem elem_one (nm v : ByteArray) : elemB aS .empty [(nm, v)] = writB nm v := by
  unfold elemB
  rw [a_valid]
  show (attrsB [(nm, v)] 1 && _) = _
  rw [attrsB_succ (l := [(nm, v)]) (k := 0) (by simp)]
  simp [attrsB, hasB]
theorem attr_info : (Tryz.prog.info? TAttr).map (fun i => (i.zero, i.size, i.bytes)) = some (some (.agg #[.string .empty, .string .empty]), 2, 32) := by kernel_rfl

theorem Src.drew {w : World} {size m : Nat} {A : Option Addr} {news : List Value} (h : Src w size A m news) : Src w.drew size A m news := h

theorem rowHolds.parts {e size n : Nat} {v : Value} {xs : List Value} {w : World} {F : Nat → Prop} (h : rowHolds e size v n xs w F) (hn : 0 < n) : ∃ g cap cur, v = .slice (some ⟨g, 0, none⟩) n cap ∧ w.heap[g]? = some (.cells cur e (0, 0)) ∧ n ≤ cap ∧ cap ≤ maxLen ∧ cur.size = cap * size ∧ cur.toList.take (n * size) = xs ∧ ∀ k, F k ↔ k = g := by
  rcases h.2 with ⟨rfl, _, _⟩ | h
  · omega
  · exact h
theorem acells_set : ∀ (l : List Attr) (k : Nat) (a b : ByteArray), ((acells l).set (k * 2) (.string a)).set (k * 2 + 1) (.string b) = acells (l.set k (a, b))
  | [], k, a, b => by simp [acells]
  | x :: t, 0, a, b => rfl
  | x :: t, k + 1, a, b => by
    have e : acells (x :: t) = .string x.1 :: .string x.2 :: acells t := rfl
    have e2 : acells ((x :: t).set (k + 1) (a, b)) = .string x.1 :: .string x.2 :: acells (t.set k (a, b)) := rfl
    rw [e, e2, show (k + 1) * 2 = k * 2 + 1 + 1 by omega, ← acells_set t k a b]
    rfl
/-- an attribute of a row is written -/
theorem arow_set {w : World} {g c : Nat} {l : List Attr} {F : Nat → Prop} (h : (arow (.slice (some ⟨g, 0, none⟩) l.length c) l).holds w F) {k : Nat} (hk : k < l.length) (a b : ByteArray) :
    (arow (.slice (some ⟨g, 0, none⟩) l.length c) (l.set k (a, b))).holds ((w.setCell ⟨g, k * 2, none⟩ (.string a)).setCell ⟨g, k * 2 + 1, none⟩ (.string b)) F := by
  obtain ⟨g', cap, cur, hv, hg, h1, h2, h3, h4, h5⟩ := rowHolds.parts h (by omega)
  injection hv with hv1 _ hv2
  injection hv1 with hv1
  injection hv1 with hv1
  subst hv1; subst hv2
  have hcl : (acells l).length = l.length * 2 := h.1
  show rowHolds TAttr 2 _ (l.set k (a, b)).length (acells (l.set k (a, b))) _ F
  rw [List.length_set]
  refine ⟨by rw [← acells_set]; simpa using hcl, .inr ⟨g, c, (cur.setIfInBounds (k * 2) (.string a)).setIfInBounds (k * 2 + 1) (.string b), rfl, by simp [World.setCell, Array.getElem?_modify, hg], h1, h2, by simpa using h3, ?_, h5⟩⟩
  rw [← acells_set, ← h4, Array.toList_setIfInBounds, Array.toList_setIfInBounds, List.take_set, List.take_set]
theorem World.setCell_id {w : World} {g o : Nat} {v : Value} {cur : Array Value} {t : TypeId} {fr : Nat × Nat} (hg : w.heap[g]? = some (.cells cur t fr)) (hv : cur[o]? = some v) : w.setCell ⟨g, o, none⟩ v = w := by
  unfold World.setCell
  obtain ⟨hl, hg⟩ := Array.getElem?_eq_some_iff.1 hg
  obtain ⟨hl2, hv⟩ := Array.getElem?_eq_some_iff.1 hv
  have e : cur.setIfInBounds o v = cur := by
    apply Array.ext
    · simp
    · intro i h1 h2
      rw [Array.getElem_setIfInBounds]
      split
      · rename_i h; subst h; exact hv.symm
      · rfl
  have : ∀ f, f w.heap[g] = w.heap[g] → w.heap.modify g f = w.heap := fun f hf => by
    apply Array.ext
    · simp
    · intro i h1 h2
      rw [Array.getElem_modify]
      split
      · rename_i h; subst h; exact hf
      · rfl
  simp only
  rw [this]
  rw [hg]; simp [e]

section
variable {W w : World} {rs : List Res} {p : Nat} {A : Doc}
attribute [local go_sem ↓] wp_can in
set_option maxRecDepth 100000 in
set_option maxHeartbeats 1000000 in
theorem set_doc (h : Sep W w (docA p A :: rs)) (hT : Laid W) (i : Int) (nm v : ByteArray) :
    Calls Tryz.prog 27 #[ptr p, int i, .string nm, .string v] w fun e w' => e = .returned (.int .u16 (A.setE i nm v)) ∧ Sep W w' (docA p (A.setA i nm v) :: rs) := by
  by_cases hi : A.In i
  case neg =>
    have hE : A.setE i nm v = 80 := by unfold Doc.setE; rw [if_neg hi]
    have HE := Lib.hid hE
    have HS := Lib.hid (show Sep W w (docA p (A.setA i nm v) :: rs) by unfold Doc.setA; rw [if_neg (by rw [hE]; decide)]; exact h)
    have H := Lib.hid h
    clear h hE
    go_enter Tryz.func27, Tryz.ntmps27
    go_wp2_with fail
    refine (element_no H.out i hi).mono ?_
    rintro e w' ⟨rfl, rfl⟩
    go_wp2
    go_ret
    exact ⟨by rw [HE.out]; rfl, HS.out⟩
  by_cases hk : (A.nd i).kind = 1
  case neg =>
    have hE : A.setE i nm v = 81 := by unfold Doc.setE; rw [if_pos hi, if_neg hk]
    have HE := Lib.hid hE
    have HS := Lib.hid (show Sep W w (docA p (A.setA i nm v) :: rs) by unfold Doc.setA; rw [if_neg (by rw [hE]; decide)]; exact h)
    have H := Lib.hid h
    have hk' : ((A.nd i).kind == 1) = false := by simpa using hk
    clear h hE
    go_enter Tryz.func27, Tryz.ntmps27
    go_wp2_with fail
    refine (element_other H.out i hi hk').mono ?_
    rintro e w' ⟨rfl, rfl⟩
    go_wp2
    go_ret
    exact ⟨by rw [HE.out]; rfl, HS.out⟩
  have hE0 : A.setE i nm v = if writB nm v = true ∧ (hasB (A.nd i).attrs nm = true ∨ (A.nd i).attrs.length < 50) then 0 else 82 := by unfold Doc.setE; rw [if_pos hi, if_pos hk]
  have HE0 := Lib.hid hE0
  obtain ⟨j, rfl, hj⟩ := icast hi.1 hi.2
  have H := Lib.hid h
  have HT := Lib.hid (hT.below h.below)
  have hk' : ((A.nd j).kind == 1) = true := by simpa using hk
  obtain ⟨hw, B, R, hl, hS⟩ := docA_open h
  obtain ⟨G, ⟨cap, av, gv, Fa, Fg, hC, hG⟩, hlt, hst⟩ := hS.step
  have hatt := hw.att j hi
  have hrow := hC.attrs j hj
  rw [(hl.same j hi).attrs] at hrow
  obtain ⟨l, hll⟩ : ∃ l, l = (A.nd j).attrs := ⟨_, rfl⟩
  rw [← hll] at hrow hatt hE0
  obtain ⟨ag, cg, hav, hcg, _⟩ := rowHolds.form hrow
  have hAt : AttrsAt w ag l := rowHolds.attrsAt hrow (by omega) hav
  have c0 := hC.cell0
  have u3 := hC.cell hj (k := 3) (by omega) rfl
  rw [hav] at u3
  obtain ⟨w1, hw1⟩ : ∃ w1, w1 = w.alloc (.cells #[.string nm, .string v] TAttr) := ⟨_, rfl⟩
  have hb1 : Below w.heap.size w w1 := hw1 ▸ alloc_drewN w _ 0
  have HEY := Lib.hid (element_yes h j hj hk' c0)
  have hBw := hC.Bw
  have HP := Lib.hid (place_any B (j * 19) cg ag nm l w1 (hAt.keep hb1) ((hb1.cell (p := ⟨B, j * 19 + 3, none⟩) hBw).trans u3))
  have HB1 := Lib.hid hb1
  have HC := Lib.hid hC
  have HG := Lib.hid hG
  have Hst := Lib.hid hst
  have Hl := Lib.hid hl
  have Hw := Lib.hid hw
  have Hll := Lib.hid hll
  have HAV := Lib.hid hav
  have HAt := Lib.hid hAt
  have HW1 := Lib.hid hw1
  have ca : w1.cell? ⟨w.heap.size, 0, none⟩ = some (.string nm) := hw1 ▸ World.cell?_alloc_at _ _ _ _ (by simp)
  have ca1 : w1.cell? ⟨w.heap.size, 1, none⟩ = some (.string v) := hw1 ▸ World.cell?_alloc_at _ _ _ _ (by simp)
  have CA := Lib.hid (And.intro ca ca1)
  obtain ⟨q, hq⟩ : ∃ q, q = w.heap.size := ⟨_, rfl⟩
  rw [← hq] at CA
  have HQ := Lib.hid hq
  clear h hC hG hst hl hw hll hS hlt hrow hav hAt hb1 hw1 ca ca1 c0 u3 hk hk' hi hE0 hT hq
  go_enter Tryz.func27, Tryz.ntmps27
  go_wp2_with fail
  refine HEY.out.mono ?_
  rintro e w' ⟨rfl, rfl⟩
  go_wp2_with fail
  rw [← HW1.out, ← HQ.out]
  refine HP.out.mono ?_
  rintro e w2 ⟨⟨r, rfl, hr⟩, hb2⟩
  have HR := Lib.hid hr
  have HB2 := Lib.hid hb2
  have d0 := (hb2.cell (p := ⟨q, 0, none⟩) (World.block_lt_of_cell? w1 ⟨q, 0, none⟩ CA.out.1)).trans CA.out.1
  have d1 := (hb2.cell (p := ⟨q, 1, none⟩) (World.block_lt_of_cell? w1 ⟨q, 0, none⟩ CA.out.1)).trans CA.out.2
  clear hr hb2
  have hlt2 : w.heap.size ≤ w2.heap.size := (HB1.out.trans (HB2.out.mono HB1.out.size)).size
  obtain ⟨W2, hW2⟩ : ∃ W2, W2 = ((w2.alloc (.cells #[.string nm, .string v] TAttr)).alloc (.cells #[int 0, .int .u8 1, .string aS, .string .empty, .slice (some ⟨w2.heap.size, 0, none⟩) 1 1] 107)) := ⟨_, rfl⟩
  have hbW : Below w2.heap.size w2 W2 := hW2 ▸ ((Below.refl _ _).alloc (Nat.le_refl _) _).alloc (by simp) _
  have hwW : Below w.heap.size w W2 := (HB1.out.trans (HB2.out.mono HB1.out.size)).trans (hbW.mono hlt2)
  have hSnd : Calls Tryz.prog 63 #[.slice (some ⟨w2.heap.size + 1, 0, none⟩) 1 1] W2 fun e w' => e = .returned (.bool (writB nm v)) ∧ Below W2.heap.size W2 w' := by
    have := sound_elem (w2.heap.size + 1) 1 1 aS .empty (some ⟨w2.heap.size, 0, none⟩) [(nm, v)] W2 (HT.out.below hwW) (fun j hj => by
      rw [hW2]
      have e : w2.heap.size + 1 = (w2.alloc (.cells #[.string nm, .string v] TAttr)).heap.size := by simp
      rw [e]; exact cell_alloc_new _ _ _ _) ⟨by simp, fun k hk => by
        have hk0 : k = 0 := by simpa using hk
        subst hk0
        have e : ∀ o, W2.cell? ⟨w2.heap.size, o, none⟩ = (w2.alloc (.cells #[.string nm, .string v] TAttr)).cell? ⟨w2.heap.size, o, none⟩ := fun o => by rw [hW2, World.cell?_alloc_lt _ _ _ (by simp)]
        exact ⟨_, 0, rfl, (e 0).trans (cell_alloc_new _ _ _ _), (e 1).trans (cell_alloc_new _ _ _ _)⟩⟩ (by simp)
    rwa [elem_one] at this
  have HSnd := Lib.hid hSnd
  have HW2 := Lib.hid hW2
  have HwW := Lib.hid hwW
  have D := Lib.hid (And.intro ((hbW.cell (p := ⟨q, 0, none⟩) (World.block_lt_of_cell? w2 ⟨q, 0, none⟩ d0)).trans d0) ((hbW.cell (p := ⟨q, 1, none⟩) (World.block_lt_of_cell? w2 ⟨q, 0, none⟩ d0)).trans d1))
  clear hW2 hbW hwW hSnd hlt2
  go_wp2_with fail
  have hSx := HSnd.out
  rw [HW2.out] at hSx
  refine hSx.mono ?_
  rintro e w3 ⟨rfl, hb3⟩
  rw [← HW2.out] at hb3
  clear hSx
  have HB3 := Lib.hid (HwW.out.trans (hb3.mono HwW.out.size))
  have e0 := (hb3.cell (p := ⟨q, 0, none⟩) (World.block_lt_of_cell? W2 ⟨q, 0, none⟩ D.out.1)).trans D.out.1
  have e1 := (hb3.cell (p := ⟨q, 1, none⟩) (World.block_lt_of_cell? W2 ⟨q, 0, none⟩ D.out.1)).trans D.out.2
  have hC3 := HC.out.below HB3.out
  have HC3 := Lib.hid hC3
  have H3 := Lib.hid (H.out.belowed HB3.out)
  have f3 := hC3.cell hj (k := 3) (by omega) rfl
  rw [HAV.out] at f3
  clear hb3 hC3 d0 d1
  cases hwb : writB nm v
  · have hE : A.setE j nm v = 82 := by rw [HE0.out, if_neg (by rw [hwb]; simp)]
    have HE := Lib.hid hE
    have HS := Lib.hid (show Sep W w3 (docA p (A.setA j nm v) :: rs) by unfold Doc.setA; rw [if_neg (by rw [hE]; decide)]; exact H3.out)
    clear hE hwb
    go_wp2
    go_ret
    exact ⟨by rw [HE.out]; rfl, HS.out⟩
  · rcases HR.out.cases with ⟨hr1, hno⟩ | ⟨hyes, hr1, hix⟩
    · subst hr1
      by_cases h50 : l.length < 50
      · have hE : A.setE j nm v = 0 := by rw [HE0.out, if_pos]; exact ⟨hwb, .inr (by rw [← Hll.out]; exact h50)⟩
        have HE := Lib.hid hE
        have hA : A.setA j nm v = A.set j (.setAttrs (l ++ [(nm, v)])) := by
          unfold Doc.setA
          rw [if_pos hE, ← Hll.out]; unfold putAttr; rw [hno]; rfl
        have HA := Lib.hid hA
        have t1 : decide ((l.length : Int) ≥ 50) = false := by simp; omega
        have t2 : decide ((50 : Int) ≤ l.length) = false := by simp; omega
        have hCS := (HC3.out.alloc (.cells #[.string nm, .string v] TAttr)).drew
        have hrowS := hCS.attrs j hj
        rw [(Hl.out.same j ⟨by omega, by omega⟩).attrs, ← Hll.out, HAV.out] at hrowS
        obtain ⟨i0, hi0, hz0, hz1, hz2⟩ := info_parts attr_info
        obtain ⟨v', wB, F', hrun, hrB, hoB, hfB⟩ := rowHolds_append (P := Tryz.prog) (t := 30) (ty := 30) Tryz.underlying30 hi0 hz0 hz1 hz2 rfl (by decide)
          hrowS (some ⟨w3.heap.size, 0, none⟩) 1 1 [.string nm, .string v] (Src.drew (src_block (heap_alloc_new w3 (.cells #[.string nm, .string v] TAttr)) rfl))
          (by intro u hu; simp at hu; rcases hu with rfl | rfl <;> rfl) (by unfold maxLen; omega) (by omega)
        have hrB2 : (arow v' (l ++ [(nm, v)])).holds wB F' := by
          show rowHolds TAttr 2 v' (l ++ [(nm, v)]).length (acells (l ++ [(nm, v)])) wB F'
          rw [show acells (l ++ [(nm, v)]) = acells l ++ [.string nm, .string v] by simp [acells], List.length_append]; exact hrB
        obtain ⟨av', cv', hvB, _⟩ := hrB.form
        have hCB := hCS.setAttrs hj hoB hrB2 hfB
        obtain ⟨hbp, hbB, _, _⟩ := hCS.onlyA hj hoB
        have dS3 := hCS.cell hj (k := 3) (by omega) rfl
        rw [HAV.out] at dS3
        have dB3 : wB.cell? ⟨B, j * 19 + 3, none⟩ = some (.slice ag l.length cg) := (World.cell?_of_block hbB).trans dS3
        have fB : ∀ o, wB.frozen? ⟨B, o, none⟩ = false := fun o => by
          have := hCS.frozenB o
          unfold World.frozen? at this ⊢
          rw [hbB]; exact this
        subst hvB
        obtain ⟨k1, k2, k3⟩ := can_of hrun
        have HCB := Lib.hid hCB
        have HoB := Lib.hid hoB
        have HfB := Lib.hid hfB
        have HwB := Lib.hid (show ∀ G' : Nat → Prop, True from fun _ => trivial)
        clear hE hA hwb hno hCS hrowS hrB hrB2 hoB hfB hCB hbp hbB hrun
        go_wp2_with fail
        clear t1 t2
        go_region
        go_wp2
        go_ret
        refine ⟨by rw [HE.out]; rfl, ?_⟩
        rw [HA.out]
        have hGB : G B := (HG.out B).2 (.inr (.inl rfl))
        have hal : Only G w (w3.alloc (.cells #[.string nm, .string v] TAttr)).drew := ((Only.below HB3.out).alloc _).drew
        have hall : Only G w (wB.setCell ⟨B, j * 19 + 3, none⟩ (.slice av' (l.length + 1) cv')) :=
          (hal.trans (HoB.out.mono fun k _ hk => (HG.out k).2 (.inr (.inr (.inl ⟨j, hj, hk⟩))))).setCell (p := ⟨B, j * 19 + 3, none⟩) (.inl hGB) _
        have hcb := HCB.out
        exact docA_close (A := A.set j (.setAttrs (l ++ [(nm, v)]))) (Hw.out.setAttrs _ _ (by simp; omega)) (Hl.out.setAttrs _ _) (Hst.out _ (Foot p B A.n (updF Fa j F') Fg) (docR p B A.n A.lim (upd R j (.setAttrs (l ++ [(nm, v)])))) hall
          ⟨cap, _, gv, _, Fg, hcb, fun _ => Iff.rfl⟩ fun k hk => by
            rcases hk with rfl | rfl | ⟨y, hy, hk⟩ | ⟨y, hy, hk⟩
            · exact .inl ((HG.out _).2 (.inl rfl))
            · exact .inl hGB
            · by_cases hyj : y = j
              · have e1 : updF Fa j F' y = F' := by unfold updF; rw [if_pos hyj]
                rw [e1] at hk
                rcases HfB.out k hk with h3 | h3
                · exact .inl ((HG.out _).2 (.inr (.inr (.inl ⟨j, hj, h3⟩))))
                · exact .inr (Nat.le_trans hal.size h3)
              · have e1 : updF Fa j F' y = Fa y := by unfold updF; rw [if_neg hyj]
                rw [e1] at hk
                exact .inl ((HG.out _).2 (.inr (.inr (.inl ⟨y, hy, hk⟩))))
            · exact .inl ((HG.out _).2 (.inr (.inr (.inr ⟨y, hy, hk⟩)))))
      · have hE : A.setE j nm v = 82 := by rw [HE0.out, if_neg]; rw [← Hll.out, hno]; simp; omega
        have HE := Lib.hid hE
        have HS := Lib.hid (show Sep W w3 (docA p (A.setA j nm v) :: rs) by unfold Doc.setA; rw [if_neg (by rw [hE]; decide)]; exact H3.out)
        have t1 : decide ((l.length : Int) ≥ 50) = true := by simp; omega
        have t2 : decide ((50 : Int) ≤ l.length) = true := by simp; omega
        clear hE hwb hno
        go_wp2
        go_ret
        exact ⟨by rw [HE.out]; rfl, HS.out⟩
    · subst hr1
      obtain ⟨k, hk⟩ : ∃ k, k = idxOf l nm := ⟨_, rfl⟩
      rw [← hk] at hix ⊢
      have hE : A.setE j nm v = 0 := by rw [HE0.out, if_pos]; exact ⟨hwb, .inl (by rw [← Hll.out]; exact hyes)⟩
      have HE := Lib.hid hE
      have hA : A.setA j nm v = A.set j (.setAttrs (l.set k (nm, v))) := by
        unfold Doc.setA
        rw [if_pos hE, ← Hll.out]; unfold putAttr; rw [hyes, ← hk]; rfl
      have HA := Lib.hid hA
      have hCS := HC3.out.drew
      have hrowS := hCS.attrs j hj
      rw [(Hl.out.same j ⟨by omega, by omega⟩).attrs, ← Hll.out] at hrowS
      obtain ⟨g, cg', cur, hg1, hg2, _, _, _, hg4, hg6⟩ := rowHolds.parts hrowS (by omega)
      have t1 : (0 : Int) ≤ k := by omega
      have t2 : (k : Int) < l.length := by omega
      rw [HAV.out] at hg1
      obtain ⟨rfl, rfl⟩ : ag = some ⟨g, 0, none⟩ ∧ cg = cg' := by injection hg1 with x1 _ x3; exact ⟨x1, x3⟩
      have fz : ∀ o, w3.frozen? ⟨g, o, none⟩ = false := fun o => by
        have : w3.heap[g]? = _ := hg2
        simp [World.frozen?, this]
      have hc2 : ∀ o u, (acells l)[o]? = some u → w3.cell? ⟨g, o, none⟩ = some u := fun o u hu => by
        rw [cell_of_row w3 g o cur TAttr (0, 0) hg2]
        rw [← hg4, List.getElem?_take] at hu
        split at hu
        · simpa using hu
        · cases hu
      have z := acells_at hix
      have z0 := hc2 _ _ z.1
      have z1 := hc2 _ _ z.2
      clear hE hA hwb hyes hk hCS hrowS hg1 hg2 hg4 hg6 hc2 z
      go_wp2_with fail
      go_region
      go_wp2
      go_ret
      refine ⟨by rw [HE.out]; rfl, ?_⟩
      rw [HA.out]
      have hGB : G B := (HG.out B).2 (.inr (.inl rfl))
      have hCS := HC3.out.drew
      have hrowS := hCS.attrs j hj
      rw [(Hl.out.same j ⟨by omega, by omega⟩).attrs, ← Hll.out, HAV.out] at hrowS
      have hFg : Fa j g := by
        obtain ⟨g', _, _, hv, _, _, _, _, _, hF⟩ := rowHolds.parts hrowS (by omega)
        injection hv with hv _ _
        injection hv with hv
        injection hv with hv
        subst hv
        exact (hF _).2 rfl
      have hr2 := arow_set hrowS hix nm v
      obtain ⟨wB, hwB⟩ : ∃ wB, wB = (w3.drew.setCell ⟨g, k * 2, none⟩ (.string nm)).setCell ⟨g, k * 2 + 1, none⟩ (.string v) := ⟨_, rfl⟩
      rw [← hwB] at hr2
      rw [show ((w3.setCell ⟨g, k * 2, none⟩ (.string nm)).setCell ⟨g, k * 2 + 1, none⟩ (.string v)).drew = wB from hwB.symm]
      have hoB : Only (Fa j) w3.drew wB := hwB ▸ ((Only.refl _ _).setCell (p := ⟨g, k * 2, none⟩) (.inl hFg) _).setCell (p := ⟨g, k * 2 + 1, none⟩) (.inl hFg) _
      have hr3 : (arow (.slice (some ⟨g, 0, none⟩) l.length cg) (l.set k (nm, v))).holds wB (Fa j) := by
        unfold arow at hr2 ⊢
        exact hr2
      have hCB := hCS.setAttrs hj hoB hr3 fun _ hk => .inl hk
      obtain ⟨_, hbB, _, _⟩ := hCS.onlyA hj hoB
      obtain ⟨cur, hcur, _, hcell⟩ := hCS.nodes
      have hid : wB.setCell ⟨B, j * 19 + 3, none⟩ (.slice (some ⟨g, 0, none⟩) l.length cg) = wB := World.setCell_id (hbB.trans hcur) (by rw [hcell j hj 3 (by omega)]; exact congrArg some HAV.out)
      rw [hid] at hCB
      have hall : Only G w wB := ((Only.below HB3.out).drew).trans (hoB.mono fun k _ hk => (HG.out k).2 (.inr (.inr (.inl ⟨j, hj, hk⟩))))
      exact docA_close (A := A.set j (.setAttrs (l.set k (nm, v)))) (Hw.out.setAttrs _ _ (by simpa using hatt)) (Hl.out.setAttrs _ _) (Hst.out _ G (docR p B A.n A.lim (upd R j (.setAttrs (l.set k (nm, v))))) hall
        ⟨cap, _, gv, _, Fg, hCB, fun k => (HG.out k).trans (by rw [show updF Fa j (Fa j) = Fa by funext y; unfold updF; split <;> simp_all])⟩ fun k hk => .inl hk)
end
end Go.Proofs.YtgdmaikjaopddaaGreatDoor
