/- The nodes of a document as package dom keeps them, with their links: what taking out and putting in does to the links. No program is in sight. -/
namespace Go.Proofs.YtgdmaikjaopddaaGreatDoor

structure Fl where
  closed : Bool
  manual : Bool
  delegates : Bool
  serial : Bool
  clonable : Bool
  deriving DecidableEq

abbrev Attr := ByteArray × ByteArray

/-- a node, as the program keeps it -/
structure RNd where
  kind : Int
  name : ByteArray
  data : ByteArray
  attrs : List Attr
  fl : Fl
  up : Int
  shadow : Int
  host : Int
  own : Int
  first : Int
  last : Int
  next : Int
  prev : Int
  slot : Int
  given : List Int

namespace RNd
def setUp (v : Int) (x : RNd) : RNd := { x with up := v }
def setShadow (v : Int) (x : RNd) : RNd := { x with shadow := v }
def setHost (v : Int) (x : RNd) : RNd := { x with host := v }
def setOwn (v : Int) (x : RNd) : RNd := { x with own := v }
def setFirst (v : Int) (x : RNd) : RNd := { x with first := v }
def setLast (v : Int) (x : RNd) : RNd := { x with last := v }
def setNext (v : Int) (x : RNd) : RNd := { x with next := v }
def setPrev (v : Int) (x : RNd) : RNd := { x with prev := v }
def setSlot (v : Int) (x : RNd) : RNd := { x with slot := v }
end RNd

def upd (R : Int → RNd) (i : Int) (f : RNd → RNd) : Int → RNd := fun j => if j = i then f (R j) else R j

def afterR (R : Int → RNd) (up a b : Int) : Int → RNd :=
  let R1 := if a = -1 then upd R up (.setFirst b) else upd R a (.setNext b)
  if b = -1 then upd R1 up (.setLast a) else upd R1 b (.setPrev a)
def takeR (R : Int → RNd) (i : Int) : Int → RNd :=
  upd (upd (upd (if (R i).up = -1 then R else afterR R (R i).up (R i).prev (R i).next) i (.setUp (-1))) i (.setPrev (-1))) i (.setNext (-1))
def putR (R : Int → RNd) (up i before : Int) : Int → RNd :=
  let R1 := takeR R i
  afterR (afterR (upd R1 i (.setUp up)) up (if before = -1 then (R1 up).last else (R1 before).prev) i) up i before

def Ok (n : Nat) (x : Int) : Prop := x = -1 ∨ 0 ≤ x ∧ x < n
structure RngOne (n : Nat) (x : RNd) : Prop where
  up : Ok n x.up
  shadow : Ok n x.shadow
  host : Ok n x.host
  own : Ok n x.own
  first : Ok n x.first
  last : Ok n x.last
  next : Ok n x.next
  prev : Ok n x.prev
  slot : Ok n x.slot
def Rng (n : Nat) (R : Int → RNd) : Prop := ∀ i : Int, 0 ≤ i → i < n → RngOne n (R i)
theorem RngOne.setUp {n : Nat} {x : RNd} (h : RngOne n x) {v : Int} (hv : Ok n v) : RngOne n (x.setUp v) := ⟨hv, h.shadow, h.host, h.own, h.first, h.last, h.next, h.prev, h.slot⟩
theorem RngOne.setShadow {n : Nat} {x : RNd} (h : RngOne n x) {v : Int} (hv : Ok n v) : RngOne n (x.setShadow v) := ⟨h.up, hv, h.host, h.own, h.first, h.last, h.next, h.prev, h.slot⟩
theorem RngOne.setHost {n : Nat} {x : RNd} (h : RngOne n x) {v : Int} (hv : Ok n v) : RngOne n (x.setHost v) := ⟨h.up, h.shadow, hv, h.own, h.first, h.last, h.next, h.prev, h.slot⟩
theorem RngOne.setOwn {n : Nat} {x : RNd} (h : RngOne n x) {v : Int} (hv : Ok n v) : RngOne n (x.setOwn v) := ⟨h.up, h.shadow, h.host, hv, h.first, h.last, h.next, h.prev, h.slot⟩
theorem RngOne.setFirst {n : Nat} {x : RNd} (h : RngOne n x) {v : Int} (hv : Ok n v) : RngOne n (x.setFirst v) := ⟨h.up, h.shadow, h.host, h.own, hv, h.last, h.next, h.prev, h.slot⟩
theorem RngOne.setLast {n : Nat} {x : RNd} (h : RngOne n x) {v : Int} (hv : Ok n v) : RngOne n (x.setLast v) := ⟨h.up, h.shadow, h.host, h.own, h.first, hv, h.next, h.prev, h.slot⟩
theorem RngOne.setNext {n : Nat} {x : RNd} (h : RngOne n x) {v : Int} (hv : Ok n v) : RngOne n (x.setNext v) := ⟨h.up, h.shadow, h.host, h.own, h.first, h.last, hv, h.prev, h.slot⟩
theorem RngOne.setPrev {n : Nat} {x : RNd} (h : RngOne n x) {v : Int} (hv : Ok n v) : RngOne n (x.setPrev v) := ⟨h.up, h.shadow, h.host, h.own, h.first, h.last, h.next, hv, h.slot⟩
theorem RngOne.setSlot {n : Nat} {x : RNd} (h : RngOne n x) {v : Int} (hv : Ok n v) : RngOne n (x.setSlot v) := ⟨h.up, h.shadow, h.host, h.own, h.first, h.last, h.next, h.prev, hv⟩

section
variable {n : Nat} {R : Int → RNd}
theorem Ok.none : Ok n (-1) := .inl rfl
theorem Rng.upd (h : Rng n R) {i : Int} {f : RNd → RNd} (hf : RngOne n (R i) → RngOne n (f (R i))) (hi : 0 ≤ i ∧ i < n) : Rng n (upd R i f) := by
  intro j hj hj'
  unfold YtgdmaikjaopddaaGreatDoor.upd
  split
  · rename_i e; subst e; exact hf (h j hj hj')
  · exact h j hj hj'
theorem Rng.after (h : Rng n R) {up a b : Int} (hu : 0 ≤ up ∧ up < n) (ha : Ok n a) (hb : Ok n b) : Rng n (afterR R up a b) := by
  have h1 : Rng n (if a = -1 then YtgdmaikjaopddaaGreatDoor.upd R up (.setFirst b) else YtgdmaikjaopddaaGreatDoor.upd R a (.setNext b)) := by
    split
    · exact h.upd (·.setFirst hb) hu
    · rename_i hne; exact h.upd (·.setNext hb) (ha.resolve_left hne)
  unfold afterR
  by_cases hbe : b = -1
  · simp only [hbe, if_true]; rw [hbe] at h1; exact h1.upd (·.setLast ha) hu
  · simp only [hbe, if_false]; exact h1.upd (·.setPrev ha) (hb.resolve_left hbe)
theorem Rng.take (h : Rng n R) {i : Int} (hi : 0 ≤ i ∧ i < n) : Rng n (takeR R i) := by
  unfold takeR
  refine Rng.upd (Rng.upd (Rng.upd ?_ (·.setUp .none) hi) (·.setPrev .none) hi) (·.setNext .none) hi
  split
  · exact h
  · rename_i hne
    have k := h i hi.1 hi.2
    exact h.after (k.up.resolve_left hne) k.prev k.next
theorem Rng.put (h : Rng n R) {up i before : Int} (hu : 0 ≤ up ∧ up < n) (hi : 0 ≤ i ∧ i < n) (hb : Ok n before) : Rng n (putR R up i before) := by
  have h1 := h.take hi
  have h2 : Rng n (YtgdmaikjaopddaaGreatDoor.upd (takeR R i) i (.setUp up)) := h1.upd (·.setUp (.inr hu)) hi
  refine (h2.after hu ?_ (.inr hi)).after hu (.inr hi) hb
  split
  · exact (h1 up hu.1 hu.2).last
  · rename_i hne; have := hb.resolve_left hne; exact (h1 before this.1 this.2).prev
end

/-- the list that one meets from x on, by the next ones -/
def From (n : Nat) (R : Int → RNd) : Int → List Int → Prop
  | x, [] => x = -1
  | x, k :: t => x = k ∧ 0 ≤ k ∧ k < n ∧ From n R (R k).next t
theorem From.head {n : Nat} {R : Int → RNd} {x : Int} {l : List Int} (h : From n R x l) : x = l.head?.getD (-1) := by
  cases l with
  | nil => exact h
  | cons k t => exact h.1
theorem icast {k : Int} {n : Nat} (h : 0 ≤ k) (h' : k < n) : ∃ j : Nat, k = (j : Int) ∧ j < n := by
  obtain ⟨j, rfl⟩ := Int.eq_ofNat_of_zero_le h
  exact ⟨j, rfl, by omega⟩
end Go.Proofs.YtgdmaikjaopddaaGreatDoor
