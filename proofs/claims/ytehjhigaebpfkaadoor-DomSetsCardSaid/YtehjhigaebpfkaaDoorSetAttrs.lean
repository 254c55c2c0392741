/- A node's attributes turn: in memory, and in the document. -/
import Derived.Test.YtehjhigaebpfkaaDoorGivePure
import Derived.Test.YtehjhigaebpfkaaDoorSoundA
import Derived.Test.YtehjhigaebpfkaaDoorElement
namespace Go.Proofs.YtehjhigaebpfkaaDoor
open Go.RowKit

namespace RNd
def setAttrs (l : List Attr) (x : RNd) : RNd := { x with attrs := l }
def setData (v : ByteArray) (x : RNd) : RNd := { x with data := v }
end RNd
namespace Nd
def setAttrs (l : List Attr) (x : Nd) : Nd := { x with attrs := l }
def setData (v : ByteArray) (x : Nd) : Nd := { x with data := v }
end Nd

section
variable {p b cap n : Nat} {lim : Int} {R : Int → RNd} {av gv : Nat → Value} {Fa Fg : Nat → Nat → Prop} {w w' : World}

theorem DocC.onlyA (h : DocC p b cap n lim R av gv Fa Fg w) {i : Nat} (hi : i < n) (ho : Only (Fa i) w w') : w'.heap[p]? = w.heap[p]? ∧ w'.heap[b]? = w.heap[b]? ∧ (∀ j, j < n → ∀ k, Fg j k → w'.heap[k]? = w.heap[k]?) ∧ ∀ j, j < n → j ≠ i → ∀ k, Fa j k → w'.heap[k]? = w.heap[k]? := by
  refine ⟨ho.block p h.pw fun hk => (h.pa hi hk).1 rfl, ho.block b h.Bw fun hk => (h.pa hi hk).2 rfl, fun j hj k hk => ho.block k ((irow _ _).lt (h.given j hj) hk) fun hg => h.ag hi hj hg hk, fun j hj hji k hk => ho.block k ((arow _ _).lt (h.attrs j hj) hk) fun hg => h.da j hj i hi hji k hk hg⟩

/-- a node's attributes have turned, and are told to it -/
theorem DocC.setAttrs (h : DocC p b cap n lim R av gv Fa Fg w) {i : Nat} (hi : i < n) {v' : Value} {l' : List Attr} {F' : Nat → Prop} (ho : Only (Fa i) w w') (hr : (arow v' l').holds w' F') (hF : ∀ k, F' k → Fa i k ∨ w.heap.size ≤ k) :
    DocC p b cap n lim (upd R i (.setAttrs l')) (updV av i v') gv (updF Fa i F') Fg (w'.setCell ⟨b, i * 19 + 3, none⟩ v') := by
  obtain ⟨hp, hb, hA, hG⟩ := h.onlyA hi ho
  obtain ⟨cur, hc, h1, h2⟩ := h.nodes
  have hfar : ∀ k', k' ≠ b → (w'.setCell ⟨b, i * 19 + 3, none⟩ v').heap[k']? = w'.heap[k']? := fun k' hk' => Below.heap_setCell _ _ _ _ hk'
  have hgt : ∀ j : Nat, (upd R i (.setAttrs l') j).given = (R j).given := fun j => by unfold upd; split <;> rfl
  have hF'b : ∀ k, F' k → k ≠ b := fun k hk e => by
    rcases hF k hk with h3 | h3
    · exact (h.pa hi h3).2 e
    · have := h.Bw; omega
  refine ⟨(hfar p h.pb).trans (hp.trans h.doc), ⟨cur.setIfInBounds (i * 19 + 3) v', by simp [World.setCell, Array.getElem?_modify, hb.trans hc], by simpa using h1, fun j hj k hk => ?_⟩, h.hn, h.hcap, fun j hj => ?_, fun j hj => ?_, fun x hx y hy hxy k hkx hky => ?_, h.dg⟩
  · rw [Array.getElem?_setIfInBounds]
    by_cases hji : j = i
    · subst hji
      rw [show upd R j (RNd.setAttrs l') j = (R j).setAttrs l' by simp [upd]]
      have ev : updV av j v' j = v' := by unfold updV; rw [if_pos rfl]
      rw [ev]
      by_cases hkk : k = 3
      · subst hkk
        have hlt : j * 19 + 3 < cur.size := by
          rw [h1]
          have := h.hn
          have : (j + 1) * 19 ≤ cap * 19 := Nat.mul_le_mul_right 19 (by omega)
          omega
        rw [if_pos rfl, if_pos hlt]; rfl
      · rw [if_neg (by omega), h2 j hj k hk]
        have h3 : ncell ((R j).setAttrs l') v' (gv j) = (ncell (R j) (av j) (gv j)).set 3 v' := rfl
        rw [h3, List.getElem?_set_ne (by omega)]
    · have e1 : (upd R i (RNd.setAttrs l') j) = R j := by unfold upd; rw [if_neg (by omega)]
      have e2 : updV av i v' j = av j := by unfold updV; rw [if_neg hji]
      rw [e1, e2, if_neg (by omega)]
      exact h2 j hj k hk
  · by_cases hji : j = i
    · subst hji
      have e1 : (upd R j (RNd.setAttrs l') j).attrs = l' := by simp [upd, RNd.setAttrs]
      have e2 : updV av j v' j = v' := by unfold updV; rw [if_pos rfl]
      have e3 : updF Fa j F' j = F' := by unfold updF; funext k; simp
      rw [e1, e2, e3]
      exact (arow _ _).loc hr fun k' hk' => hfar k' (hF'b k' hk')
    · have e1 : (upd R i (RNd.setAttrs l') j).attrs = (R j).attrs := by unfold upd; rw [if_neg (by omega)]
      have e2 : updV av i v' j = av j := by unfold updV; rw [if_neg hji]
      have e3 : updF Fa i F' j = Fa j := by unfold updF; funext k; simp [hji]
      rw [e1, e2, e3]
      exact (arow _ _).loc (h.attrs j hj) fun k' hk' => (hfar k' (h.pa hj hk').2).trans (hG j hj hji k' hk')
  · rw [hgt j]
    exact (irow _ _).loc (h.given j hj) fun k' hk' => (hfar k' (h.pg hj hk').2).trans (hA j hj k' hk')
  · have key : ∀ {y : Nat}, y < n → y ≠ i → ∀ k, F' k → ¬ Fa y k := fun {y} hy hyi k hk hky => by
      rcases hF k hk with h3 | h3
      · exact h.da i hi y hy (fun e => hyi e.symm) k h3 hky
      · have := (arow _ _).lt (h.attrs y hy) hky; omega
    by_cases hxi : x = i
    · have hyi : y ≠ i := fun e => hxy (hxi.trans e.symm)
      have e1 : updF Fa i F' x = F' := by unfold updF; rw [if_pos hxi]
      have e2 : updF Fa i F' y = Fa y := by unfold updF; rw [if_neg hyi]
      rw [e1] at hkx; rw [e2] at hky
      exact key hy hyi k hkx hky
    · have e1 : updF Fa i F' x = Fa x := by unfold updF; rw [if_neg hxi]
      rw [e1] at hkx
      by_cases hyi : y = i
      · have e2 : updF Fa i F' y = F' := by unfold updF; rw [if_pos hyi]
        rw [e2] at hky
        exact key hx hxi k hky hkx
      · have e2 : updF Fa i F' y = Fa y := by unfold updF; rw [if_neg hyi]
        rw [e2] at hky
        exact h.da x hx y hy hxy k hkx hky
end

/-- the place of a name, and the row behind a setting -/
def idxOf (l : List Attr) (nm : ByteArray) : Nat := l.findIdx fun x => x.1.toList == nm.toList
def putAttr (l : List Attr) (nm v : ByteArray) : List Attr := if hasB l nm then l.set (idxOf l nm) (nm, v) else l ++ [(nm, v)]
def dropAttr (l : List Attr) (nm : ByteArray) : List Attr := l.eraseIdx (idxOf l nm)
theorem At.cases {l : List Attr} {nm : ByteArray} {r : Int} (h : At l nm r) : (r = -1 ∧ hasB l nm = false) ∨ (hasB l nm = true ∧ r = idxOf l nm ∧ idxOf l nm < l.length) := by
  rcases h with h | ⟨k, hk, rfl, h1, h2⟩
  · exact .inl h
  · refine .inr ⟨?_, ?_⟩
    · unfold hasB; rw [List.any_eq_true]; exact ⟨l[k], by simp, h1⟩
    · have : idxOf l nm = k := by
        unfold idxOf
        rw [List.findIdx_eq hk]
        refine ⟨h1, fun j hj => ?_⟩
        unfold hasB at h2
        rw [List.any_eq_false] at h2
        have := h2 l[j] (by rw [List.mem_take_iff_getElem]; exact ⟨j, by omega, rfl⟩)
        simpa using this
      rw [this]; exact ⟨rfl, hk⟩
theorem idxOf_lt {l : List Attr} {nm : ByteArray} (h : hasB l nm = true) : idxOf l nm < l.length := by
  unfold hasB at h; unfold idxOf; rw [List.any_eq_true] at h
  exact List.findIdx_lt_length.2 h
theorem putAttr_len {l : List Attr} {nm v : ByteArray} : (putAttr l nm v).length = if hasB l nm then l.length else l.length + 1 := by
  unfold putAttr; split <;> simp
theorem dropAttr_len {l : List Attr} {nm : ByteArray} (h : hasB l nm = true) : (dropAttr l nm).length = l.length - 1 := by
  unfold dropAttr; rw [List.length_eraseIdx, if_pos (idxOf_lt h)]
noncomputable def Doc.setE (A : Doc) (i : Int) (nm v : ByteArray) : Int :=
  if A.In i then (if (A.nd i).kind = 1 then (if writB nm v = true ∧ (hasB (A.nd i).attrs nm = true ∨ (A.nd i).attrs.length < 50) then 0 else 82) else 81) else 80
noncomputable def Doc.dropE (A : Doc) (i : Int) (nm : ByteArray) : Int :=
  if A.In i then (if (A.nd i).kind = 1 then (if hasB (A.nd i).attrs nm = true then 0 else 82) else 81) else 80
noncomputable def Doc.writeE (A : Doc) (i : Int) : Int :=
  if A.In i then (if (A.nd i).kind = 2 ∨ (A.nd i).kind = 3 then 0 else 81) else 80
noncomputable def Doc.setA (A : Doc) (i : Int) (nm v : ByteArray) : Doc := if A.setE i nm v = 0 then A.set i (.setAttrs (putAttr (A.nd i).attrs nm v)) else A
noncomputable def Doc.dropA (A : Doc) (i : Int) (nm : ByteArray) : Doc := if A.dropE i nm = 0 then A.set i (.setAttrs (dropAttr (A.nd i).attrs nm)) else A
noncomputable def Doc.writeA (A : Doc) (i : Int) (da : ByteArray) : Doc := if A.writeE i = 0 then A.set i (.setData da) else A

/-- what changes neither links nor giving keeps what holds -/
theorem WF.plain {A : Doc} (w : WF A) (i : Int) (f : Nd → Nd) (hf : ∀ x, (f x).up = x.up ∧ (f x).host = x.host ∧ (f x).kids = x.kids ∧ (f x).slot = x.slot ∧ (f x).given = x.given ∧ (f x).shadow = x.shadow ∧ (f x).own = x.own) (ha : A.In i → (f (A.nd i)).attrs.length ≤ 50) : WF (A.set i f) := by
  have g : ∀ {α : Type} (g : Nd → α), (∀ x, g (f x) = g x) → ∀ j, g ((A.set i f).nd j) = g (A.nd j) := fun g h j => by
    rw [Doc.set_nd]; split
    · exact h _
    · rfl
  have gu := g Nd.up fun x => (hf x).1
  have gh := g Nd.host fun x => (hf x).2.1
  have gk := g Nd.kids fun x => (hf x).2.2.1
  have gs := g Nd.slot fun x => (hf x).2.2.2.1
  have gg := g Nd.given fun x => (hf x).2.2.2.2.1
  have gsh := g Nd.shadow fun x => (hf x).2.2.2.2.2.1
  have go := g Nd.own fun x => (hf x).2.2.2.2.2.2
  have gp : ∀ j, (A.set i f).par j = A.par j := fun j => by unfold Doc.par; rw [gu, gh]
  have hat : ∀ j, A.In j → ((A.set i f).nd j).attrs.length ≤ 50 := fun j hj => by
    rw [Doc.set_nd]; split
    · rename_i e; subst e; exact ha hj
    · exact w.att j hj
  exact { up := fun j hj => by rw [gu]; exact w.up j hj, host := fun j hj => by rw [gh]; exact w.host j hj, kin := fun j hj k hk => by rw [gk] at hk; rw [gu]; exact w.kin j hj k hk, upk := fun j hj h => by rw [gu] at h ⊢; rw [gk]; exact w.upk j hj h, nod := fun j hj => by rw [gk]; exact w.nod j hj, pos := w.pos, le := w.le, lim := w.lim, shadow := fun j hj => by rw [gsh]; exact w.shadow j hj, own := fun j hj => by rw [go]; exact w.own j hj, slot := fun j hj => by rw [gs]; exact w.slot j hj, att := fun j hj => hat j hj, hup := fun j hj h => by rw [gh] at h; rw [gu]; exact w.hup j hj h, gin := fun j hj k hk => by rw [gg] at hk; rw [gs]; exact w.gin j hj k hk, gnod := fun j hj => by rw [gg]; exact w.gnod j hj, sgiv := fun j hj h => by rw [gs] at h ⊢; rw [gg]; exact w.sgiv j hj h, rank := let ⟨rk, hr⟩ := w.rank; ⟨rk, fun j hj h => by rw [gp] at h ⊢; exact hr j hj h⟩ }
theorem WF.setAttrs {A : Doc} (w : WF A) (i : Int) (l : List Attr) (hl : l.length ≤ 50) : WF (A.set i (.setAttrs l)) := w.plain i _ (fun _ => ⟨rfl, rfl, rfl, rfl, rfl, rfl, rfl⟩) fun _ => hl
theorem WF.setData {A : Doc} (w : WF A) (i : Int) (v : ByteArray) : WF (A.set i (.setData v)) := w.plain i _ (fun _ => ⟨rfl, rfl, rfl, rfl, rfl, rfl, rfl⟩) fun hi => w.att i hi
theorem Link.setAttrs {A : Doc} {R : Int → RNd} (h : Link A R) (i : Int) (l : List Attr) : Link (A.set i (.setAttrs l)) (upd R i (.setAttrs l)) :=
  h.set _ _ (fun x y s => ⟨s.kind, s.name, s.data, rfl, s.fl, s.up, s.shadow, s.host, s.own, s.slot, s.given⟩) (fun _ => rfl) (fun _ => rfl) fun _ => ⟨rfl, rfl, rfl, rfl⟩
theorem Link.setData {A : Doc} {R : Int → RNd} (h : Link A R) (i : Int) (v : ByteArray) : Link (A.set i (.setData v)) (upd R i (.setData v)) :=
  h.set _ _ (fun x y s => ⟨s.kind, s.name, rfl, s.attrs, s.fl, s.up, s.shadow, s.host, s.own, s.slot, s.given⟩) (fun _ => rfl) (fun _ => rfl) fun _ => ⟨rfl, rfl, rfl, rfl⟩
end Go.Proofs.YtehjhigaebpfkaaDoor
