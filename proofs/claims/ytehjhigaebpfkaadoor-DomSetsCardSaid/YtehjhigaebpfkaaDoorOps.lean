/- What holds of every document, and what making nodes and giving shadow roots makes of it. No program is in sight. -/
import Derived.Test.YtehjhigaebpfkaaDoorTree
namespace Go.Proofs.YtehjhigaebpfkaaDoor

structure WF (A : Doc) : Prop extends WFT A where
  pos : 0 < A.n
  le : (A.n : Int) ≤ A.lim
  lim : A.lim ≤ 5000
  shadow : ∀ i, A.In i → Ok A.n (A.nd i).shadow
  own : ∀ i, A.In i → Ok A.n (A.nd i).own
  slot : ∀ i, A.In i → Ok A.n (A.nd i).slot
  att : ∀ i, A.In i → (A.nd i).attrs.length ≤ 50
  hup : ∀ i, A.In i → (A.nd i).host ≠ -1 → (A.nd i).up = -1
  gin : ∀ i, A.In i → ∀ k ∈ (A.nd i).given, A.In k ∧ (A.nd k).slot = i
  gnod : ∀ i, A.In i → (A.nd i).given.Nodup
  sgiv : ∀ i, A.In i → (A.nd i).slot ≠ -1 → i ∈ (A.nd (A.nd i).slot).given
  rank : ∃ rk : Int → Nat, ∀ i, A.In i → A.par i ≠ -1 → rk (A.par i) < rk i

theorem Ok.more {n m : Nat} {x : Int} (h : Ok n x) (hm : n ≤ m) : Ok m x := h.imp id fun h => ⟨h.1, by omega⟩

/-- a new node, in nothing -/
def newNd (k : Int) (nm da : ByteArray) (l : List Attr) (fl : Fl) : Nd := ⟨k, nm, da, l, fl, -1, [], -1, -1, -1, -1, []⟩
def newR (k : Int) (nm da : ByteArray) (l : List Attr) (fl : Fl) : RNd := ⟨k, nm, da, l, fl, -1, -1, -1, -1, -1, -1, -1, -1, -1, []⟩
def addR (R : Int → RNd) (n : Nat) (x : RNd) : Int → RNd := fun j => if j = n then x else R j
def noFl : Fl := ⟨false, false, false, false, false⟩

namespace Nd
def setOwn (v : Int) (x : Nd) : Nd := { x with own := v }
def setShadow (v : Int) (x : Nd) : Nd := { x with shadow := v }
def setHost (v : Int) (x : Nd) : Nd := { x with host := v }
end Nd

def Doc.new (lim : Int) : Doc := ⟨1, lim, fun _ => newNd 4 .empty .empty [] noFl⟩
def Doc.add (A : Doc) (x : Nd) : Doc := { A with n := A.n + 1, nd := fun j => if j = A.n then x else A.nd j }

section
variable {A : Doc} {R : Int → RNd}
theorem add_nd_old {x : Nd} {j : Int} (hj : A.In j) : (A.add x).nd j = A.nd j := by
  have := hj.2
  simp only [Doc.add]; rw [if_neg (by omega)]
theorem add_nd_new (x : Nd) : (A.add x).nd A.n = x := by simp [Doc.add]
theorem add_in {x : Nd} {j : Int} : (A.add x).In j ↔ A.In j ∨ j = A.n := by
  unfold Doc.In Doc.add; simp only; omega

theorem Link.add (h : Link A R) (w : WF A) (k : Int) (nm da : ByteArray) (l : List Attr) (fl : Fl) : Link (A.add (newNd k nm da l fl)) (addR R A.n (newR k nm da l fl)) := by
  have hold : ∀ j, A.In j → addR R A.n (newR k nm da l fl) j = R j := fun j hj => by unfold addR; rw [if_neg]; have := hj.2; omega
  have hnew : addR R A.n (newR k nm da l fl) A.n = newR k nm da l fl := by unfold addR; rw [if_pos rfl]
  refine ⟨fun j hj => ?_, fun j hj => ?_, fun j hj hu => ?_⟩
  · rcases add_in.1 hj with hj | rfl
    · rw [add_nd_old hj, hold j hj]; exact h.same j hj
    · rw [add_nd_new, hnew]; exact ⟨rfl, rfl, rfl, rfl, rfl, rfl, rfl, rfl, rfl, rfl, rfl⟩
  · rcases add_in.1 hj with hj | rfl
    · rw [add_nd_old hj]
      refine (h.kin j hj).congr (by rw [hold j hj]) (by rw [hold j hj]) fun x hx => ?_
      rw [hold x (w.kin j hj x hx).1]; exact ⟨rfl, rfl⟩
    · rw [add_nd_new]
      exact ⟨by rw [hnew]; rfl, by rw [hnew]; rfl, trivial⟩
  · rcases add_in.1 hj with hj | rfl
    · rw [add_nd_old hj] at hu
      rw [hold j hj]; exact h.free j hj hu
    · rw [hnew]; exact ⟨rfl, rfl⟩

theorem WF.add (w : WF A) (hl : (A.n : Int) < A.lim) (k : Int) (nm da : ByteArray) (l : List Attr) (fl : Fl) (ha : l.length ≤ 50) : WF (A.add (newNd k nm da l fl)) := by
  have hm : A.n ≤ (A.add (newNd k nm da l fl)).n := Nat.le_succ _
  have hn1 : Ok (A.add (newNd k nm da l fl)).n (-1) := .inl rfl
  have go : ∀ (g : Nd → Int), g (newNd k nm da l fl) = -1 → (∀ i, A.In i → Ok A.n (g (A.nd i))) → ∀ i, (A.add (newNd k nm da l fl)).In i → Ok (A.add (newNd k nm da l fl)).n (g ((A.add (newNd k nm da l fl)).nd i)) := by
    intro g hg hall i hi
    rcases add_in.1 hi with hi | rfl
    · rw [add_nd_old hi]; exact (hall i hi).more hm
    · rw [add_nd_new, hg]; exact hn1
  have hpar : ∀ i, A.In i → (A.add (newNd k nm da l fl)).par i = A.par i := fun i hi => by unfold Doc.par; rw [add_nd_old hi]
  refine { up := go Nd.up rfl w.up, host := go Nd.host rfl w.host, shadow := go Nd.shadow rfl w.shadow, own := go Nd.own rfl w.own, slot := go Nd.slot rfl w.slot, pos := Nat.succ_pos _, le := ?_, lim := w.lim, kin := ?_, upk := ?_, nod := ?_, att := ?_, hup := ?_, gin := ?_, gnod := ?_, sgiv := ?_, rank := ?_ }
  · intro i hi x hx
    rcases add_in.1 hi with hi | rfl
    · rw [add_nd_old hi] at hx
      have := w.kin i hi x hx
      exact ⟨add_in.2 (.inl this.1), by rw [add_nd_old this.1]; exact this.2⟩
    · rw [add_nd_new] at hx; cases hx
  · intro i hi hu
    rcases add_in.1 hi with hi | rfl
    · rw [add_nd_old hi] at hu ⊢
      rw [add_nd_old (in_of_ok (w.up i hi) hu)]; exact w.upk i hi hu
    · rw [add_nd_new] at hu; exact absurd rfl hu
  · intro i hi
    rcases add_in.1 hi with hi | rfl
    · rw [add_nd_old hi]; exact w.nod i hi
    · rw [add_nd_new]; exact List.nodup_nil
  · show ((A.n + 1 : Nat) : Int) ≤ A.lim; omega
  · intro i hi
    rcases add_in.1 hi with hi | rfl
    · rw [add_nd_old hi]; exact w.att i hi
    · rw [add_nd_new]; exact ha
  · intro i hi hh
    rcases add_in.1 hi with hi | rfl
    · rw [add_nd_old hi] at hh ⊢; exact w.hup i hi hh
    · rw [add_nd_new]; rfl
  · intro i hi x hx
    rcases add_in.1 hi with hi | rfl
    · rw [add_nd_old hi] at hx
      have := w.gin i hi x hx
      exact ⟨add_in.2 (.inl this.1), by rw [add_nd_old this.1]; exact this.2⟩
    · rw [add_nd_new] at hx; cases hx
  · intro i hi
    rcases add_in.1 hi with hi | rfl
    · rw [add_nd_old hi]; exact w.gnod i hi
    · rw [add_nd_new]; exact List.nodup_nil
  · intro i hi hu
    rcases add_in.1 hi with hi | rfl
    · rw [add_nd_old hi] at hu ⊢
      rw [add_nd_old (in_of_ok (w.slot i hi) hu)]; exact w.sgiv i hi hu
    · rw [add_nd_new] at hu; exact absurd rfl hu
  · obtain ⟨rk, hrk⟩ := w.rank
    refine ⟨rk, fun i hi hp => ?_⟩
    rcases add_in.1 hi with hi | rfl
    · rw [hpar i hi] at hp ⊢; exact hrk i hi hp
    · exfalso; apply hp; unfold Doc.par; rw [add_nd_new]; rfl

theorem WF.new {lim : Int} (h1 : 1 ≤ lim) (h2 : lim ≤ 5000) : WF (Doc.new lim) := by
  refine { up := fun _ _ => .inl rfl, host := fun _ _ => .inl rfl, shadow := fun _ _ => .inl rfl, own := fun _ _ => .inl rfl, slot := fun _ _ => .inl rfl, pos := Nat.one_pos, le := h1, lim := h2, kin := fun _ _ _ hx => (List.not_mem_nil hx).elim, upk := fun _ _ h => (h rfl).elim, nod := fun _ _ => List.nodup_nil, att := fun _ _ => Nat.zero_le _, hup := fun _ _ _ => rfl, gin := fun _ _ _ hx => (List.not_mem_nil hx).elim, gnod := fun _ _ => List.nodup_nil, sgiv := fun _ _ h => (h rfl).elim, rank := ⟨fun _ => 0, fun _ _ h => (h rfl).elim⟩ }
theorem Link.new {lim : Int} {R : Int → RNd} (h : R 0 = newR 4 .empty .empty [] noFl) : Link (Doc.new lim) R := by
  have h0 : ∀ j, (Doc.new lim).In j → j = 0 := fun j hj => by have h1 := hj.1; have h2 : j < 1 := hj.2; omega
  refine ⟨fun j hj => ?_, fun j hj => ?_, fun j hj _ => ?_⟩ <;> rw [h0 j hj]
  · rw [h]; exact ⟨rfl, rfl, rfl, rfl, rfl, rfl, rfl, rfl, rfl, rfl, rfl⟩
  · exact ⟨by rw [h]; rfl, by rw [h]; rfl, trivial⟩
  · rw [h]; exact ⟨rfl, rfl⟩

/-- fields that are no links -/
theorem Link.set (h : Link A R) {i : Int} (f : Nd → Nd) (g : RNd → RNd) (hs : ∀ x y, Same x y → Same (f x) (g y)) (hk : ∀ x, (f x).kids = x.kids) (hu : ∀ x, (f x).up = x.up)
    (hg : ∀ y, (g y).first = y.first ∧ (g y).last = y.last ∧ (g y).next = y.next ∧ (g y).prev = y.prev) : Link (A.set i f) (upd R i g) := by
  have hl : ∀ j, (upd R i g j).first = (R j).first ∧ (upd R i g j).last = (R j).last ∧ (upd R i g j).next = (R j).next ∧ (upd R i g j).prev = (R j).prev := fun j => by
    unfold upd; split
    · exact hg _
    · exact ⟨rfl, rfl, rfl, rfl⟩
  refine ⟨fun j hj => ?_, fun j hj => ?_, fun j hj h1 => ?_⟩
  · unfold upd; rw [Doc.set_nd]; split
    · exact hs _ _ (h.same j hj)
    · exact h.same j hj
  · have : ((A.set i f).nd j).kids = (A.nd j).kids := by rw [Doc.set_nd]; split <;> simp only [hk]
    rw [this]
    exact (h.kin j hj).congr (hl j).1 (hl j).2.1 fun k _ => ⟨(hl k).2.2.2, (hl k).2.2.1⟩
  · have : ((A.set i f).nd j).up = (A.nd j).up := by rw [Doc.set_nd]; split <;> simp only [hu]
    rw [this] at h1
    rw [(hl j).2.2.1, (hl j).2.2.2]
    exact h.free j hj h1

/-- a node with no kids, in nothing and of nobody, becomes somebody's content or shadow root -/
theorem WF.adopt (w : WF A) {i c : Int} (hi : A.In i) (hic : i ≠ c) (f : Nd → Nd) (hf : ∀ x, (f x).up = x.up ∧ (f x).host = x.host ∧ (f x).kids = x.kids ∧ (f x).slot = x.slot ∧ (f x).attrs = x.attrs ∧ (f x).given = x.given)
    (hf2 : ∀ x, Ok A.n x.shadow → Ok A.n (f x).shadow) (hf3 : ∀ x, Ok A.n x.own → Ok A.n (f x).own) (hu : (A.nd c).up = -1) (hk : (A.nd c).kids = []) (hh : ∀ j, A.In j → (A.nd j).host ≠ c) :
    WF ((A.set i f).set c (.setHost i)) := by
  have e : ∀ j, ((A.set i f).set c (.setHost i)).nd j = if j = c then (A.nd j).setHost i else if j = i then f (A.nd j) else A.nd j := fun j => by
    simp only [Doc.set_nd]; by_cases h1 : j = c
    · rw [if_pos h1, if_pos h1, if_neg (fun h2 => hic (h2.symm.trans h1))]
    · rw [if_neg h1, if_neg h1]
  have g : ∀ {α : Type} (g : Nd → α), (∀ x, g (Nd.setHost i x) = g x) → (∀ x, g (f x) = g x) → ∀ j, g (((A.set i f).set c (.setHost i)).nd j) = g (A.nd j) := fun g h1 h2 j => by
    rw [e]; split
    · exact h1 _
    · split
      · exact h2 _
      · rfl
  have gu := g Nd.up (fun _ => rfl) (fun x => (hf x).1)
  have gk := g Nd.kids (fun _ => rfl) (fun x => (hf x).2.2.1)
  have gs := g Nd.slot (fun _ => rfl) (fun x => (hf x).2.2.2.1)
  have ga := g Nd.attrs (fun _ => rfl) (fun x => (hf x).2.2.2.2.1)
  have gg := g Nd.given (fun _ => rfl) (fun x => (hf x).2.2.2.2.2)
  have gh : ∀ j, j ≠ c → (((A.set i f).set c (.setHost i)).nd j).host = (A.nd j).host := fun j hj => by
    rw [e, if_neg hj]; split
    · exact (hf _).2.1
    · rfl
  have ghc : (((A.set i f).set c (.setHost i)).nd c).host = i := by rw [e, if_pos rfl]; rfl
  refine { up := fun j hj => by rw [gu]; exact w.up j hj, host := fun j hj => ?_, shadow := fun j hj => ?_, own := fun j hj => ?_, slot := fun j hj => by rw [gs]; exact w.slot j hj, pos := w.pos, le := w.le, lim := w.lim, kin := fun j hj x hx => ?_, upk := fun j hj h => ?_, nod := fun j hj => by rw [gk]; exact w.nod j hj, att := fun j hj => by rw [ga]; exact w.att j hj, hup := fun j hj h => ?_, gin := fun j hj x hx => by rw [gg] at hx; rw [gs]; exact w.gin j hj x hx, gnod := fun j hj => by rw [gg]; exact w.gnod j hj, sgiv := fun j hj h => by rw [gs] at h ⊢; rw [gg]; exact w.sgiv j hj h, rank := ?_ }
  · by_cases hj' : j = c
    · rw [hj', ghc]; exact .inr hi
    · rw [gh j hj']; exact w.host j hj
  · rw [gk] at hx; rw [gu]; exact w.kin j hj x hx
  · rw [gu] at h ⊢; rw [gk]; exact w.upk j hj h
  · rw [e]; split
    · exact w.shadow j hj
    · split
      · exact hf2 _ (w.shadow j hj)
      · exact w.shadow j hj
  · rw [e]; split
    · exact w.own j hj
    · split
      · exact hf3 _ (w.own j hj)
      · exact w.own j hj
  · by_cases hj' : j = c
    · rw [hj', gu]; exact hu
    · rw [gh j hj'] at h; rw [gu]; exact w.hup j hj h
  · obtain ⟨rk, hrk⟩ := w.rank
    refine ⟨fun x => if x = c then rk i + 1 else rk x, fun j hj hp => ?_⟩
    by_cases hj' : j = c
    · have : ((A.set i f).set c (.setHost i)).par j = i := by unfold Doc.par; rw [gu, hj', hu, ghc]; rfl
      show (if _ = c then rk i + 1 else rk _) < (if j = c then rk i + 1 else rk j)
      rw [this, if_pos hj', if_neg hic]; exact Nat.lt_succ_self _
    · have hpar : ((A.set i f).set c (.setHost i)).par j = A.par j := by unfold Doc.par; rw [gu, gh j hj']
      rw [hpar] at hp
      have hne : A.par j ≠ c := by
        unfold Doc.par
        split
        · rename_i h
          intro e2
          have := w.upk j hj h
          rw [e2, hk] at this
          cases this
        · exact hh j hj
      show (if _ = c then rk i + 1 else rk _) < (if j = c then rk i + 1 else rk j)
      rw [hpar, if_neg hne, if_neg hj']
      exact hrk j hj hp

def tmplB (k : Int) (nm : ByteArray) : Bool := k == 1 && (nm.toList == [116, 101, 109, 112, 108, 97, 116, 101])
/-- Make: what it answers -/
def Doc.makeNo (A : Doc) (k : Int) (nm : ByteArray) : Bool := decide (A.lim < A.n + 1) || tmplB k nm && decide (A.lim < A.n + 2)
def Doc.made (A : Doc) (k : Int) (nm da : ByteArray) (l : List Attr) : Doc :=
  if tmplB k nm then (((A.add (newNd k nm da l noFl)).add (newNd 4 .empty .empty [] noFl)).set A.n (.setOwn (A.n + 1))).set (A.n + 1) (.setHost A.n) else A.add (newNd k nm da l noFl)

theorem WF.made (w : WF A) {k : Int} {nm : ByteArray} (h : A.makeNo k nm = false) (da : ByteArray) (l : List Attr) (ha : l.length ≤ 50) : WF (A.made k nm da l) := by
  unfold Doc.makeNo at h
  rw [Bool.or_eq_false_iff] at h
  have h1 : (A.n : Int) < A.lim := by have := h.1; simp at this; omega
  have w1 := w.add h1 k nm da l noFl ha
  unfold Doc.made
  cases ht : tmplB k nm
  · exact w1
  · have h2 : (A.n : Int) + 1 < A.lim := by have := h.2; rw [ht] at this; simp at this; omega
    have w2 := w1.add (by show ((A.n + 1 : Nat) : Int) < A.lim; omega) 4 .empty .empty [] noFl (Nat.zero_le _)
    have e1 : (A.add (newNd k nm da l noFl)).n = A.n + 1 := rfl
    have hin : ∀ j, ((A.add (newNd k nm da l noFl)).add (newNd 4 .empty .empty [] noFl)).In j ↔ A.In j ∨ j = A.n ∨ j = A.n + 1 := fun j => by
      rw [add_in, add_in, e1]; constructor
      · rintro ((h | h) | h)
        · exact .inl h
        · exact .inr (.inl h)
        · exact .inr (.inr (by omega))
      · rintro (h | h | h)
        · exact .inl (.inl h)
        · exact .inl (.inr h)
        · exact .inr (by omega)
    have hnew : ((A.add (newNd k nm da l noFl)).add (newNd 4 .empty .empty [] noFl)).nd (A.n + 1) = newNd 4 .empty .empty [] noFl := by
      have := add_nd_new (A := A.add (newNd k nm da l noFl)) (newNd 4 .empty .empty [] noFl)
      rw [e1] at this
      exact (congrArg _ (by omega : (A.n : Int) + 1 = ((A.n + 1 : Nat) : Int))).trans this
    refine w2.adopt ((hin _).2 (.inr (.inl rfl))) (by omega) _ (fun _ => ⟨rfl, rfl, rfl, rfl, rfl, rfl⟩) (fun _ h => h) (fun _ _ => .inr ⟨by show (0 : Int) ≤ A.n + 1; omega, by show (A.n : Int) + 1 < ((A.n + 1 + 1 : Nat) : Int); omega⟩) (by rw [hnew]; rfl) (by rw [hnew]; rfl) fun j hj => ?_
    rcases (hin j).1 hj with hj | hj | hj
    · rw [add_nd_old (add_in.2 (.inl hj)), add_nd_old hj]
      intro e2
      have := w.host j hj
      rw [e2] at this
      rcases this with h | h <;> omega
    · have : ((A.add (newNd k nm da l noFl)).add (newNd 4 .empty .empty [] noFl)).nd j = newNd k nm da l noFl := by rw [hj, add_nd_old (add_in.2 (.inr rfl)), add_nd_new]
      rw [this]; show (-1 : Int) ≠ _; omega
    · rw [hj, hnew]; show (-1 : Int) ≠ _; omega
end

/-- one comes from i up to j -/
inductive Climb (f : Int → Int) : Int → Int → Prop
  | here (i : Int) : Climb f i i
  | up {i j : Int} : f i ≠ -1 → Climb f (f i) j → Climb f i j

noncomputable def climbB (f : Int → Int) (i j : Int) : Bool := @decide (Climb f i j) (Classical.propDecidable _)

theorem climbB_iff {f : Int → Int} {i j : Int} : climbB f i j = true ↔ Climb f i j := by
  unfold climbB
  exact @decide_eq_true_iff _ (Classical.propDecidable _)
theorem climbB_not {f : Int → Int} {i j : Int} : climbB f i j = false ↔ ¬ Climb f i j := by rw [← climbB_iff]; simp
theorem climb_step {f : Int → Int} {i j : Int} (h : i ≠ j) : Climb f i j ↔ f i ≠ -1 ∧ Climb f (f i) j :=
  ⟨fun c => by cases c with
    | here => exact absurd rfl h
    | up h1 h2 => exact ⟨h1, h2⟩, fun ⟨h1, h2⟩ => .up h1 h2⟩


section
variable {A : Doc} {R : Int → RNd} {up i before : Int}
theorem put_host {j : Int} : ((A.put up i before).nd j).host = (A.nd j).host := rest_host put_rest
theorem put_par {j : Int} (hu : up ≠ -1) : (A.put up i before).par j = if j = i then up else A.par j := by
  unfold Doc.par
  rw [put_up, put_host]
  by_cases h : j = i
  · rw [if_pos h, if_pos h, if_pos hu]
  · rw [if_neg h, if_neg h]

theorem WF.put (w : WF A) (hu : A.In up) (hi : A.In i) (hh : (A.nd i).host = -1) (hc : ¬ Climb A.par up i) (hb : Before A up i before) : WF (A.put up i before) := by
  have hui : up ≠ i := fun e => hc (e ▸ .here _)
  have f : ∀ {α : Type} (g : Nd → α), (∀ x, g x.rest = g x) → ∀ j, g ((A.put up i before).nd j) = g (A.nd j) := fun g hg j => by
    rw [← hg, put_rest, hg]
  have w1 := w.toWFT.put hu hi hb
  refine { toWFT := w1, pos := by rw [put_n]; exact w.pos, le := by rw [put_n, put_lim]; exact w.le, lim := by rw [put_lim]; exact w.lim, shadow := fun j hj => ?_, own := fun j hj => ?_, slot := fun j hj => ?_, att := fun j hj => ?_, hup := fun j hj h => ?_, gin := fun j hj x hx => by rw [f Nd.given (fun _ => rfl)] at hx; rw [f Nd.slot (fun _ => rfl), put_in]; exact w.gin j (put_in.1 hj) x hx, gnod := fun j hj => by rw [f Nd.given (fun _ => rfl)]; exact w.gnod j (put_in.1 hj), sgiv := fun j hj h => by rw [f Nd.slot (fun _ => rfl)] at h ⊢; rw [f Nd.given (fun _ => rfl)]; exact w.sgiv j (put_in.1 hj) h, rank := ?_ }
  · rw [put_n, f Nd.shadow (fun _ => rfl)]; exact w.shadow j (put_in.1 hj)
  · rw [put_n, f Nd.own (fun _ => rfl)]; exact w.own j (put_in.1 hj)
  · rw [put_n, f Nd.slot (fun _ => rfl)]; exact w.slot j (put_in.1 hj)
  · rw [f Nd.attrs (fun _ => rfl)]; exact w.att j (put_in.1 hj)
  · rw [put_host] at h
    rw [put_up, if_neg (fun e => by subst e; exact h hh)]
    exact w.hup j (put_in.1 hj) h
  · obtain ⟨rk, hrk⟩ := w.rank
    refine ⟨fun x => @ite _ (Climb A.par x i) (Classical.propDecidable _) (rk x + rk up + 1) (rk x), fun j hj hp => ?_⟩
    have hj' := put_in.1 hj
    rw [put_par (neg_of_in hu)] at hp ⊢
    by_cases e : j = i
    · rw [if_pos e] at hp ⊢
      subst e
      have hh2 : Climb A.par j j := .here j
      simp only [if_neg hc, if_pos hh2]
      omega
    · rw [if_neg e] at hp ⊢
      have h1 := hrk j hj' hp
      by_cases hcl : Climb A.par j i
      · have h2 := ((climb_step e).1 hcl).2
        simp only [if_pos h2, if_pos hcl]; omega
      · have h2 : ¬ Climb A.par (A.par j) i := fun h => hcl (.up hp h)
        simp only [if_neg h2, if_neg hcl]; exact h1

theorem WF.take (w : WF A) (hi : A.In i) : WF (A.take i) := by
  have f : ∀ {α : Type} (g : Nd → α), (∀ x, g x.rest = g x) → ∀ j, g ((A.take i).nd j) = g (A.nd j) := fun g hg j => by
    rw [← hg, take_rest, hg]
  have w1 := w.toWFT.take hi
  refine { toWFT := w1, pos := by rw [take_n]; exact w.pos, le := by rw [take_n, take_lim]; exact w.le, lim := by rw [take_lim]; exact w.lim, shadow := fun j hj => ?_, own := fun j hj => ?_, slot := fun j hj => ?_, att := fun j hj => ?_, hup := fun j hj h => ?_, gin := fun j hj x hx => by rw [f Nd.given (fun _ => rfl)] at hx; rw [f Nd.slot (fun _ => rfl), take_in]; exact w.gin j (take_in.1 hj) x hx, gnod := fun j hj => by rw [f Nd.given (fun _ => rfl)]; exact w.gnod j (take_in.1 hj), sgiv := fun j hj h => by rw [f Nd.slot (fun _ => rfl)] at h ⊢; rw [f Nd.given (fun _ => rfl)]; exact w.sgiv j (take_in.1 hj) h, rank := ?_ }
  · rw [take_n, f Nd.shadow (fun _ => rfl)]; exact w.shadow j (take_in.1 hj)
  · rw [take_n, f Nd.own (fun _ => rfl)]; exact w.own j (take_in.1 hj)
  · rw [take_n, f Nd.slot (fun _ => rfl)]; exact w.slot j (take_in.1 hj)
  · rw [f Nd.attrs (fun _ => rfl)]; exact w.att j (take_in.1 hj)
  · rw [rest_host take_rest] at h
    rw [take_up]; split
    · rfl
    · exact w.hup j (take_in.1 hj) h
  · obtain ⟨rk, hrk⟩ := w.rank
    refine ⟨rk, fun j hj hp => ?_⟩
    have hj' := take_in.1 hj
    have e : (A.take i).par j = A.par j ∨ (A.take i).par j = -1 ∨ (A.take i).par j = (A.nd j).host ∧ (A.nd j).up ≠ -1 := by
      unfold Doc.par
      rw [take_up, rest_host take_rest]
      by_cases h : j = i
      · rw [if_pos h]
        by_cases h2 : (A.nd j).up = -1
        · left; simp [h2]
        · right; right; simp [h2]
      · rw [if_neg h]; exact .inl rfl
    rcases e with e | e | ⟨e, h2⟩
    · rw [e] at hp ⊢; exact hrk j hj' hp
    · exact absurd e hp
    · rw [e] at hp
      exact absurd (w.hup j hj' hp) h2

/-- what stands behind a node in a list; -1: nothing -/
def nextIn : List Int → Int → Int
  | [], _ => -1
  | k :: t, i => if k = i then t.headD (-1) else nextIn t i
theorem nextIn_mid {l1 l2 : List Int} (h : i ∉ l1) : nextIn (l1 ++ i :: l2) i = l2.headD (-1) := by
  induction l1 with
  | nil => simp [nextIn]
  | cons k t ih =>
    simp only [List.mem_cons, not_or] at h
    rw [List.cons_append, nextIn, if_neg (fun e => h.1 e.symm), ih h.2]
theorem Link.next (h : Link A R) (w : WF A) (hi : A.In i) (hu : (A.nd i).up ≠ -1) : (R i).next = nextIn (A.nd (A.nd i).up).kids i := by
  have hui := in_of_ok (w.up i hi) hu
  obtain ⟨l1, l2, he, h1, _⟩ := mem_split (w.upk i hi hu) (w.nod _ hui)
  have hK := (h.kin _ hui).seg
  rw [he] at hK ⊢
  obtain ⟨_, _, hn, _⟩ := (Seg.append _ _ _ _).1 hK
  rw [hn, nextIn_mid h1]
theorem Before.next (w : WF A) (hi : A.In i) (hu : A.In up) (hiu : (A.nd i).up = up) : Before A up i (nextIn (A.nd up).kids i) := by
  subst hiu
  obtain ⟨l1, l2, he, h1, h2⟩ := mem_split (w.upk i hi (neg_of_in hu)) (w.nod _ hu)
  have hk := w.kin _ hu
  rw [he] at hk ⊢
  rw [nextIn_mid h1]
  cases l2 with
  | nil => exact .inl rfl
  | cons k t =>
    have := hk k (by simp)
    exact .inr ⟨this.1, this.2, fun e => h2 (by rw [List.headD_cons] at e; simp [e])⟩
end
end Go.Proofs.YtehjhigaebpfkaaDoor
