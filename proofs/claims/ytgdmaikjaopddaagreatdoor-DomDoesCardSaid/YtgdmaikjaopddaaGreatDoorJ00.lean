/- Plain words for memory: what is held, each in blocks of its own ("Sep"), with what a step may turn ("Only"). No program is in sight. -/
import Derived.Below
import Derived.Laws.OwnMore
import Derived.Deep.AppendLies
import Derived.Deep.Draws
import Derived.Maps.AppendAt
import Derived.OwnWalk
import Derived.Laws.Rows
import Derived.RegionTactic
import Derived.Great.BuildSlice
namespace Go.Proofs.YtgdmaikjaopddaaGreatDoor
open Go.RowKit

/-- only blocks in F, and new ones, have turned -/
structure Only (F : Nat → Prop) (w w' : World) : Prop where
  os : w'.os = w.os
  tape : w'.tape = w.tape
  output : w'.output = w.output
  size : w.heap.size ≤ w'.heap.size
  block : ∀ k, k < w.heap.size → ¬ F k → w'.heap[k]? = w.heap[k]?

section only
variable {F G : Nat → Prop} {a b c w : World}
theorem Only.refl (F : Nat → Prop) (w : World) : Only F w w := ⟨rfl, rfl, rfl, Nat.le_refl _, fun _ _ _ => rfl⟩
theorem Only.trans (h : Only F a b) (k : Only F b c) : Only F a c :=
  ⟨k.os.trans h.os, k.tape.trans h.tape, k.output.trans h.output, Nat.le_trans h.size k.size,
    fun i hi hF => (k.block i (Nat.lt_of_lt_of_le hi h.size) hF).trans (h.block i hi hF)⟩
theorem Only.mono (h : Only F a b) (hF : ∀ k, k < a.heap.size → F k → G k) : Only G a b :=
  ⟨h.os, h.tape, h.output, h.size, fun i hi hG => h.block i hi fun hk => hG (hF i hi hk)⟩
theorem Only.drew (h : Only F a w) : Only F a w.drew := ⟨h.os, h.tape, h.output, h.size, h.block⟩
theorem Only.drewN (h : Only F a w) (n : Nat) : Only F a (w.drewN n) := ⟨h.os, h.tape, h.output, h.size, h.block⟩
theorem Only.alloc (h : Only F a w) (o : Obj) : Only F a (w.alloc o) :=
  h.trans ⟨rfl, rfl, rfl, by simp, fun k hk _ => Below.heap_alloc _ _ _ hk⟩
theorem Only.setCell (h : Only F a w) {p : Addr} (hp : F p.block ∨ a.heap.size ≤ p.block) (u : Value) : Only F a (w.setCell p u) :=
  ⟨h.os, h.tape, h.output, by simpa [World.setCell] using h.size, fun i hi hn => (Below.heap_setCell w p u i (by
    rintro rfl
    rcases hp with hp | hp
    · exact hn hp
    · omega)).trans (h.block i hi hn)⟩
theorem Only.grown {row : Option Nat} (h : Only F a w) (hg : w.grownBy b row) (hr : ∀ k, row = some k → F k ∨ a.heap.size ≤ k) : Only F a b :=
  ⟨hg.os.trans h.os, hg.tape.trans h.tape, hg.output.trans h.output, Nat.le_trans h.size hg.size, fun i hi hn =>
    (hg.block i (Nat.lt_of_lt_of_le hi h.size) (fun e => by
      rcases hr i e.symm with hF | hl
      · exact hn hF
      · omega)).trans (h.block i hi hn)⟩
theorem Only.below (h : Below a.heap.size a w) : Only F a w := ⟨h.os, h.tape, h.output, h.size, fun i hi _ => h.block i hi⟩
end only

/-- something that is held in blocks of its own -/
structure Res where
  holds : World → (Nat → Prop) → Prop
  loc : ∀ {w w' : World} {F : Nat → Prop}, holds w F → (∀ k, F k → w'.heap[k]? = w.heap[k]?) → holds w' F
  lt : ∀ {w : World} {F : Nat → Prop} {k : Nat}, holds w F → F k → k < w.heap.size

def SepL (w : World) : List Res → (Nat → Prop) → Prop
  | [], F => ∀ k, ¬ F k
  | r :: rs, F => ∃ G H : Nat → Prop, r.holds w G ∧ SepL w rs H ∧ (∀ k, G k → ¬ H k) ∧ ∀ k, F k ↔ G k ∨ H k

theorem SepL.local' {w w' : World} : ∀ {rs : List Res} {F : Nat → Prop}, SepL w rs F → (∀ k, F k → w'.heap[k]? = w.heap[k]?) → SepL w' rs F
  | [], _, h, _ => h
  | r :: rs, F, h, hk => by
    obtain ⟨G, H, hr, hrs, hd, hF⟩ := h
    exact ⟨G, H, r.loc hr fun k hg => hk k ((hF k).2 (.inl hg)), SepL.local' hrs fun k hh => hk k ((hF k).2 (.inr hh)), hd, hF⟩
theorem SepL.lt {w : World} : ∀ {rs : List Res} {F : Nat → Prop} {k : Nat}, SepL w rs F → F k → k < w.heap.size
  | [], _, _, h, hF => absurd hF (h _)
  | r :: rs, F, k, h, hk => by
    obtain ⟨G, H, hr, hrs, _, hF⟩ := h
    rcases (hF k).1 hk with hg | hh
    · exact r.lt hr hg
    · exact SepL.lt hrs hh
theorem SepL.append {w : World} : ∀ {rs ss : List Res} {F : Nat → Prop}, SepL w (rs ++ ss) F ↔ ∃ G H : Nat → Prop, SepL w rs G ∧ SepL w ss H ∧ (∀ k, G k → ¬ H k) ∧ ∀ k, F k ↔ G k ∨ H k
  | [], ss, F => by
    constructor
    · intro h; exact ⟨fun _ => False, F, fun _ h => h, h, fun _ h => h.elim, fun k => by simp⟩
    · rintro ⟨G, H, hG, hH, _, hF⟩
      have : F = H := by funext k; exact propext ((hF k).trans ⟨fun h => h.elim (fun g => absurd g (hG k)) id, .inr⟩)
      rw [this]; exact hH
  | r :: rs, ss, F => by
    constructor
    · rintro ⟨G, H, hr, h, hd, hF⟩
      obtain ⟨G', H', h1, h2, hd', hF'⟩ := SepL.append.1 h
      refine ⟨fun k => G k ∨ G' k, H', ⟨G, G', hr, h1, fun k hg hg' => hd k hg ((hF' k).2 (.inl hg')), fun _ => Iff.rfl⟩, h2, ?_, fun k => ?_⟩
      · rintro k (hg | hg) hh
        · exact hd k hg ((hF' k).2 (.inr hh))
        · exact hd' k hg hh
      · rw [hF k, hF' k, or_assoc]
    · rintro ⟨G, H, ⟨G1, G2, hr, h1, hd1, hG⟩, h2, hd, hF⟩
      refine ⟨G1, fun k => G2 k ∨ H k, hr, SepL.append.2 ⟨G2, H, h1, h2, fun k hg => hd k ((hG k).2 (.inr hg)), fun _ => Iff.rfl⟩, ?_, fun k => ?_⟩
      · rintro k hg (hh | hh)
        · exact hd1 k hg hh
        · exact hd k ((hG k).2 (.inl hg)) hh
      · rw [hF k, hG k, or_assoc]
theorem SepL.perm {w : World} {rs ss : List Res} (p : rs.Perm ss) : ∀ {F : Nat → Prop}, SepL w rs F → SepL w ss F := by
  induction p with
  | nil => intro F h; exact h
  | cons r _ ih => rintro F ⟨G, H, hr, h, hd, hF⟩; exact ⟨G, H, hr, ih h, hd, hF⟩
  | swap a b l =>
    rintro F ⟨G, H, hb, ⟨G', H', ha, hl, hd', hF'⟩, hd, hF⟩
    refine ⟨G', fun k => G k ∨ H' k, ha, ⟨G, H', hb, hl, fun k hg hh => hd k hg ((hF' k).2 (.inr hh)), fun _ => Iff.rfl⟩, ?_, fun k => ?_⟩
    · rintro k hg (hh | hh)
      · exact hd k hh ((hF' k).2 (.inl hg))
      · exact hd' k hg hh
    · rw [hF k, hF' k]; constructor <;> (rintro (h | h | h) <;> simp [h])
  | trans _ _ ih1 ih2 => intro F h; exact ih2 (ih1 h)

/-- W: the world in which the law was called; w: now. Nothing of W has turned; each thing has blocks of its own, all newer than W. -/
def Sep (W w : World) (rs : List Res) : Prop := Below W.heap.size W w ∧ ∃ F : Nat → Prop, SepL w rs F ∧ ∀ k, F k → W.heap.size ≤ k

section sep
variable {W w w' : World} {r r' : Res} {rs ss xs : List Res}
theorem Sep.start (W : World) : Sep W W [] := ⟨Below.refl _ _, fun _ => False, fun _ h => h, fun _ h => h.elim⟩
theorem Sep.below (h : Sep W w rs) : Below W.heap.size W w := h.1
theorem Sep.size (h : Sep W w rs) : W.heap.size ≤ w.heap.size := h.1.size
theorem Sep.perm (h : Sep W w rs) (p : rs.Perm ss) : Sep W w ss := let ⟨hb, F, hF, hk⟩ := h; ⟨hb, F, hF.perm p, hk⟩
theorem Sep.swap {a b : Res} (h : Sep W w (a :: b :: rs)) : Sep W w (b :: a :: rs) := h.perm (.swap b a rs)
/-- bring the third one to the front -/
theorem Sep.third {a b c : Res} (h : Sep W w (a :: b :: c :: rs)) : Sep W w (c :: a :: b :: rs) :=
  h.perm ((List.Perm.cons a (.swap c b rs)).trans (.swap c a (b :: rs)))
theorem Sep.fourth {a b c d : Res} (h : Sep W w (a :: b :: c :: d :: rs)) : Sep W w (d :: a :: b :: c :: rs) :=
  h.perm ((List.Perm.cons a (List.Perm.cons b (.swap d c rs))).trans ((List.Perm.cons a (.swap d b (c :: rs))).trans (.swap d a (b :: c :: rs))))
/-- the first one goes behind the second, the third .. -/
theorem Sep.back2 {a b c : Res} (h : Sep W w (a :: b :: c :: rs)) : Sep W w (b :: c :: a :: rs) := h.perm ((List.Perm.swap b a (c :: rs)).trans (.cons b (.swap c a rs)))
theorem Sep.back3 {a b c d : Res} (h : Sep W w (a :: b :: c :: d :: rs)) : Sep W w (b :: c :: d :: a :: rs) :=
  h.perm ((List.Perm.swap b a (c :: d :: rs)).trans (.cons b ((List.Perm.swap c a (d :: rs)).trans (.cons c (.swap d a rs)))))
theorem Sep.tail (h : Sep W w (r :: rs)) : Sep W w rs := by
  obtain ⟨hb, F, ⟨G, H, _, h2, _, hF⟩, hk⟩ := h
  exact ⟨hb, H, h2, fun k hh => hk k ((hF k).2 (.inr hh))⟩
theorem Sep.head (h : Sep W w (r :: rs)) : ∃ G : Nat → Prop, r.holds w G := let ⟨_, _, ⟨G, _, hr, _⟩, _⟩ := h; ⟨G, hr⟩

/-- the step: what the first ones hold turns, and what is new -/
theorem Sep.stepL (h : Sep W w (xs ++ rs)) : ∃ G : Nat → Prop, SepL w xs G ∧ (∀ k, G k → W.heap.size ≤ k ∧ k < w.heap.size) ∧
    ∀ (w' : World) (G' : Nat → Prop) (ys : List Res), Only G w w' → SepL w' ys G' → (∀ k, G' k → G k ∨ w.heap.size ≤ k) → Sep W w' (ys ++ rs) := by
  obtain ⟨hb, F, hF, hk⟩ := h
  obtain ⟨G, H, hG, hH, hd, hF⟩ := SepL.append.1 hF
  refine ⟨G, hG, fun k hg => ⟨hk k ((hF k).2 (.inl hg)), hG.lt hg⟩, fun w' G' ys ho hy hsub => ⟨⟨ho.os.trans hb.os, ho.tape.trans hb.tape, ho.output.trans hb.output, Nat.le_trans hb.size ho.size, fun k hkW => ?_⟩, fun k => G' k ∨ H k, ?_, ?_⟩⟩
  · rw [ho.block k (Nat.lt_of_lt_of_le hkW hb.size) (fun hg => by have := hk k ((hF k).2 (.inl hg)); omega)]
    exact hb.block k hkW
  · refine SepL.append.2 ⟨G', H, hy, hH.local' fun k hh => ho.block k (hH.lt hh) (fun hg => hd k hg hh), fun k hg' hh => ?_, fun _ => Iff.rfl⟩
    rcases hsub k hg' with hg | hl
    · exact hd k hg hh
    · have := hH.lt hh; omega
  · rintro k (hg' | hh)
    · rcases hsub k hg' with hg | hl
      · exact hk k ((hF k).2 (.inl hg))
      · exact Nat.le_trans hb.size hl
    · exact hk k ((hF k).2 (.inr hh))

theorem SepL.one {G : Nat → Prop} (h : r.holds w G) : SepL w [r] G := ⟨G, fun _ => False, h, fun _ h => h, fun _ _ h => h, fun k => by simp⟩
theorem SepL.one' {G : Nat → Prop} (h : SepL w [r] G) : r.holds w G := by
  obtain ⟨G1, H, h1, h2, _, hF⟩ := h
  have : G = G1 := by funext k; exact propext ((hF k).trans ⟨fun h => h.elim id (fun g => absurd g (h2 k)), .inl⟩)
  rw [this]; exact h1

/-- one thing turns -/
theorem Sep.step (h : Sep W w (r :: rs)) : ∃ G : Nat → Prop, r.holds w G ∧ (∀ k, G k → W.heap.size ≤ k ∧ k < w.heap.size) ∧
    ∀ (w' : World) (G' : Nat → Prop) (r' : Res), Only G w w' → r'.holds w' G' → (∀ k, G' k → G k ∨ w.heap.size ≤ k) → Sep W w' (r' :: rs) := by
  obtain ⟨G, hG, hl, hs⟩ := Sep.stepL (xs := [r]) h
  exact ⟨G, hG.one', hl, fun w' G' r' ho hr hsub => hs w' G' [r'] ho (.one hr) hsub⟩

/-- something new, all else as it was -/
theorem Sep.new (h : Sep W w rs) {G' : Nat → Prop} (ho : Only (fun _ => False) w w') (hr : r.holds w' G') (hn : ∀ k, G' k → w.heap.size ≤ k) : Sep W w' (r :: rs) := by
  obtain ⟨G, hG, _, hs⟩ := Sep.stepL (xs := []) (rs := rs) h
  exact hs w' G' [r] (ho.mono fun _ _ h => h.elim) (.one hr) fun k hk => .inr (hn k hk)
/-- nothing that is held turns -/
theorem Sep.same (h : Sep W w rs) (ho : Only (fun _ => False) w w') : Sep W w' rs := by
  obtain ⟨G, hG, _, hs⟩ := Sep.stepL (xs := []) (rs := rs) h
  exact hs w' (fun _ => False) [] (ho.mono fun _ _ h => h.elim) (fun _ h => h) fun k hk => hk.elim
theorem Sep.drew (h : Sep W w rs) : Sep W w.drew rs := h.same (Only.drew (.refl _ _))
theorem Sep.drewN (h : Sep W w rs) (n : Nat) : Sep W (w.drewN n) rs := h.same (Only.drewN (.refl _ _) n)
theorem Sep.alloc (h : Sep W w rs) (o : Obj) : Sep W (w.alloc o) rs := h.same (Only.alloc (.refl _ _) o)
theorem Sep.belowed (h : Sep W w rs) (hb : Below w.heap.size w w') : Sep W w' rs := h.same (Only.below hb)
end sep

/-! rows: slices that own what they show -/

def rowHolds (e size : Nat) (v : Value) (n : Nat) (xs : List Value) (w : World) (F : Nat → Prop) : Prop :=
  xs.length = n * size ∧
  ((n = 0 ∧ (∃ a, v = .slice a 0 0) ∧ ∀ k, ¬ F k) ∨
   ∃ g cap cur, v = .slice (some ⟨g, 0, none⟩) n cap ∧ w.heap[g]? = some (.cells cur e (0, 0)) ∧ n ≤ cap ∧ cap ≤ maxLen ∧ cur.size = cap * size ∧ cur.toList.take (n * size) = xs ∧ ∀ k, F k ↔ k = g)

def row (e size : Nat) (v : Value) (n : Nat) (xs : List Value) : Res where
  holds := rowHolds e size v n xs
  loc := by
    rintro w w' F ⟨hl, h⟩ hk
    refine ⟨hl, h.imp id ?_⟩
    rintro ⟨g, cap, cur, hv, hg, h1, h2, h3, h4, h5⟩
    exact ⟨g, cap, cur, hv, (hk g ((h5 g).2 rfl)).trans hg, h1, h2, h3, h4, h5⟩
  lt := by
    rintro w F k ⟨_, ⟨_, _, h⟩ | ⟨g, cap, cur, _, hg, _, _, _, _, h5⟩⟩ hk
    · exact absurd hk (h k)
    · rw [(h5 k).1 hk]; exact (Array.getElem?_eq_some_iff.1 hg).1

/-- a block that is known whole -/
def blk (g e : Nat) (cs : Array Value) : Res where
  holds := fun w F => w.heap[g]? = some (.cells cs e (0, 0)) ∧ ∀ k, F k ↔ k = g
  loc := by rintro w w' F ⟨h, hF⟩ hk; exact ⟨(hk g ((hF g).2 rfl)).trans h, hF⟩
  lt := by rintro w F k ⟨h, hF⟩ hk; rw [(hF k).1 hk]; exact (Array.getElem?_eq_some_iff.1 h).1

section rows
variable {W w w' : World} {rs : List Res} {e size n : Nat} {v : Value} {xs : List Value} {F : Nat → Prop}

theorem rowHolds_nil (w : World) (e size : Nat) (a : Option Addr) : rowHolds e size (.slice a 0 0) 0 [] w (fun _ => False) := ⟨by simp, .inl ⟨rfl, ⟨a, rfl⟩, fun _ h => h⟩⟩
theorem rowHolds.form (h : rowHolds e size v n xs w F) : ∃ a cap, v = .slice a n cap ∧ n ≤ cap ∧ cap ≤ maxLen := by
  rcases h.2 with ⟨rfl, ⟨a, rfl⟩, _⟩ | ⟨g, cap, cur, rfl, _, h1, h2, _⟩
  · exact ⟨a, 0, rfl, Nat.le_refl _, by simp [maxLen]⟩
  · exact ⟨_, cap, rfl, h1, h2⟩
theorem rowHolds.cells (h : rowHolds e size v n xs w F) (hn : 0 < n) : ∃ g cap, v = .slice (some ⟨g, 0, none⟩) n cap ∧ n ≤ cap ∧ F g ∧ w.frozen? ⟨g, 0, none⟩ = false ∧ (∀ j u, xs[j]? = some u → w.cell? ⟨g, j, none⟩ = some u) := by
  rcases h.2 with ⟨rfl, _, _⟩ | ⟨g, cap, cur, rfl, hg, h1, h2, h3, h4, h5⟩
  · omega
  · refine ⟨g, cap, rfl, h1, (h5 g).2 rfl, by simp [World.frozen?, hg], fun j u hu => ?_⟩
    rw [cell_of_row w g j cur e (0, 0) hg]
    rw [← h4, List.getElem?_take] at hu
    split at hu
    · simpa using hu
    · cases hu
theorem rowHolds.len (h : rowHolds e size v n xs w F) : xs.length = n * size := h.1
theorem rowHolds.own (h : rowHolds e size v n xs w F) (hn : 0 < n) : w.ownsRow 0 e size v n xs := by
  rcases h with ⟨hl, ⟨rfl, _, _⟩ | ⟨g, cap, cur, rfl, hg, h1, h2, h3, h4, h5⟩⟩
  · omega
  · exact ⟨hl, .inr ⟨g, cap, cur, rfl, Nat.zero_le _, hg, h1, h2, h3, h4⟩⟩
theorem rowHolds_of_own {base : Nat} (h : w.ownsRow base e size v n xs) : rowHolds e size v n xs w (fun k => v.ownBlock = some k) := by
  rcases h with ⟨hl, ⟨rfl, rfl⟩ | ⟨g, cap, cur, rfl, _, hg, h1, h2, h3, h4⟩⟩
  · exact ⟨hl, .inl ⟨rfl, ⟨none, rfl⟩, fun k => by simp [Value.ownBlock]⟩⟩
  · exact ⟨hl, .inr ⟨g, cap, cur, rfl, hg, h1, h2, h3, h4, fun k => by simp [Value.ownBlock, eq_comm]⟩⟩

/-- what an append takes from: m elements -/
def Src (w : World) (size : Nat) (A : Option Addr) (m : Nat) (news : List Value) : Prop :=
  news.length = m * size ∧ (0 < m → ∃ ad, A = some ad ∧ ∀ j u, news[j]? = some u → w.cell? (ad.add j) = some u)

theorem rowHolds.src {A : Option Addr} {c : Nat} (h : rowHolds e size (.slice A n c) n xs w F) : Src w size A n xs := by
  refine ⟨h.1, fun hn => ?_⟩
  obtain ⟨g, cap, hv, _, _, _, hc⟩ := h.cells hn
  injection hv with hA
  refine ⟨_, hA, fun j u hu => ?_⟩
  have hadd : (⟨g, 0, none⟩ : Addr).add j = ⟨g, j, none⟩ := by unfold Addr.add; split <;> simp_all
  rw [hadd]; exact hc j u hu

theorem run_append_none {P : Program} {t ty : TypeId} {i : TypeInfo} (ht : P.underlying t = some (.slice e)) (hi : P.info? e = some i) (a A : Option Addr) (c : Nat) :
    (Builtin.append_ #[t, t] ty #[.slice a 0 0, .slice A 0 c]).run P w = .ok (.slice a 0 0) w := by
  cases a <;> cases A <;> simp [Builtin.append_, run_underlying ht, sizeOf, typeInfo, hi, Builtin.lenOf, Builtin.firstCells, loadCells, loadCellsFrom, storeCells]

theorem run_append_zero {P : Program} {t ty : TypeId} {i : TypeInfo} (ht : P.underlying t = some (.slice e)) (hi : P.info? e = some i) (g : Addr) (cap : Nat) (hn : n ≤ cap) (A : Option Addr) (c : Nat) :
    (Builtin.append_ #[t, t] ty #[.slice (some g) n cap, .slice A 0 c]).run P w = .ok (.slice (some g) n cap) w := by
  cases A <;> simp [Builtin.append_, run_underlying ht, sizeOf, typeInfo, hi, Builtin.lenOf, Builtin.firstCells, loadCells, loadCellsFrom, storeCells, hn]

/-- append of m elements that stand at an address -/
theorem rowHolds_append {P : Program} {t ty : TypeId} {i : TypeInfo} {z : Value} {bytes : Nat} (ht : P.underlying t = some (.slice e)) (hi : P.info? e = some i) (hz : i.zero = some z)
    (hsize : i.size = size) (hby : i.bytes = bytes) (hzs : z.cells.size = size) (hsz : 0 < size)
    (h : rowHolds e size v n xs w F) (A : Option Addr) (m c : Nat) (news : List Value) (hs : Src w size A m news) (h1 : ∀ u ∈ news, u.oneCell' = true)
    (h63 : n + m ≤ maxLen) (hbytes : (n + m) * bytes ≤ 140737488355328) :
    ∃ v' w' F', (Builtin.append_ #[t, t] ty #[v, .slice A m c]).run P w = .ok v' w' ∧ rowHolds e size v' (n + m) (xs ++ news) w' F' ∧ Only F w w' ∧ ∀ k, F' k → F k ∨ w.heap.size ≤ k := by
  rcases Nat.eq_zero_or_pos m with rfl | hm
  · have hnews : news = [] := List.eq_nil_of_length_eq_zero (by simpa using hs.1)
    subst hnews
    simp only [List.append_nil, Nat.add_zero]
    refine ⟨v, w, F, ?_, h, .refl _ _, fun k hk => .inl hk⟩
    rcases h.2 with ⟨rfl, ⟨a, rfl⟩, _⟩ | ⟨g, cap, cur, rfl, _, hc, _⟩
    · exact run_append_none ht hi a A c
    · exact run_append_zero ht hi _ cap hc A c
  · obtain ⟨ad, rfl, hc⟩ := hs.2 hm
    rcases h.2 with ⟨rfl, ⟨a, rfl⟩, hF⟩ | ⟨g, cap, cur, rfl, hg, h2, h3, h4, h5, h6⟩
    · have hx : xs = [] := List.eq_nil_of_length_eq_zero (by simpa using h.1)
      subst hx
      subst hsize
      subst hby
      have hge : ∀ old, m ≤ grownCap w m old e := fun old => grownCap_ge w m old e
      have hcm : ∀ old, grownCap w m old e ≤ maxLen := fun old => grownCap_le_maxLen w m old e (by omega)
      have hsmall : m ≤ 9223372036854775807 := by simp only [maxLen] at h63; omega
      have fin : ∀ old, rowHolds e i.size (.slice (some ⟨w.heap.size, 0, none⟩) m (grownCap w m old e)) m news
          (w.drew.alloc (.cells (#[] ++ news.toArray ++ Builtin.zeroCells z.cells (grownCap w m old e - m)) e)) (fun k => k = w.heap.size) := by
        intro old
        refine ⟨hs.1, .inr ⟨w.heap.size, _, _, rfl, heap_alloc_new w.drew _, hge old, hcm old, ?_, ?_, fun _ => Iff.rfl⟩⟩
        · have := hge old
          simp only [Array.size_append, List.size_toArray, List.length_nil, size_zeroCells, hzs, hs.1, Nat.zero_add, ← Nat.add_mul]
          congr 1
          omega
        · simp only [Array.toList_append, List.nil_append, ← hs.1]
          exact List.take_left
      have hon : ∀ o, Only F w (w.drew.alloc o) := fun o => (Only.drew (.refl _ _)).alloc o
      have hby' : m * i.bytes ≤ 140737488355328 := by simpa using hbytes
      cases a with
      | none =>
        have hr := run_append_nil (P := P) w t ty e i z ht hi hz ad m c news hs.1 hc hm (by omega) (by omega)
        refine ⟨_, _, fun k => k = w.heap.size, hr, ?_, hon _, fun k hk => .inr (by omega)⟩
        simpa using fin 0
      | some b =>
        have hr := run_append_grow (P := P) w t ty e i z ht hi hz b 0 0 [] (by simp) (by simp) ad m c news hs.1 hc (by omega) (by omega) (growslice_fits (by omega) (by simpa using hby'))
        simp only [Nat.zero_add] at hr ⊢
        refine ⟨_, _, fun k => k = w.heap.size, hr, ?_, hon _, fun k hk => .inr (by omega)⟩
        simpa using fin 0
    · have hn := h2
      have h0 : w.ownsRow 0 e size (.slice (some ⟨g, 0, none⟩) n cap) n xs := ⟨h.1, .inr ⟨g, cap, cur, rfl, Nat.zero_le _, hg, h2, h3, h4, h5⟩⟩
      obtain ⟨v', w', hrun, k2, k3, _, k5⟩ := run_append_own_at (P := P) w 0 t ty e i z size bytes ht hi hz hsize hby hzs hsz _ n xs h0 ad m c news hs.1 hc h1 h63 hbytes (Nat.zero_le _)
      have hF : ∀ k, (Value.slice (some ⟨g, 0, none⟩) n cap).ownBlock = some k → F k := fun k hk => by
        simp [Value.ownBlock] at hk; exact (h6 k).2 hk.symm
      refine ⟨v', w', fun k => v'.ownBlock = some k, hrun, rowHolds_of_own k2, Only.grown (.refl _ _) k3 fun k hk => .inl (hF k hk), fun k hk => ?_⟩
      rcases k5 with k5 | k5
      · exact .inl (hF k (k5 ▸ hk))
      · rw [k5] at hk; injection hk with hk; exact .inr (by omega)

/-- the same, in the walk: onto a row that is held -/
theorem wpList_app {P : Program} {ops : Array Oper} {rest : List Oper} {o : Oper} {a : Act} {Q : Exit → Act → World → Prop} (hgd : o.guard = none) (s x : Operand) (t : TypeId)
    (ho : o.op = .call { callee := .builtin .append, args := #[s, x], argTypes := #[t, t] })
    {i : TypeInfo} {z : Value} {bytes : Nat} (ht : P.underlying t = some (.slice e)) (hi : P.info? e = some i) (hz : i.zero = some z)
    (hsize : i.size = size) (hby : i.bytes = bytes) (hzs : z.cells.size = size) (hsz : 0 < size)
    (hs : a.eval s = v) (h : Sep W w (row e size v n xs :: rs)) (A : Option Addr) (m c : Nat) (news : List Value) (hx : a.eval x = .slice A m c) (hsrc : Src w size A m news) (h1 : ∀ u ∈ news, u.oneCell' = true)
    (h63 : n + m ≤ maxLen) (hbytes : (n + m) * bytes ≤ 140737488355328)
    (hK : ∀ v' w', Sep W w' (row e size v' (n + m) (xs ++ news) :: rs) → wpList P ops Q rest (a.put o.dst v') w') : wpList P ops Q (o :: rest) a w := by
  obtain ⟨G, hG, _, hstep⟩ := h.step
  obtain ⟨v', w', F', hrun, h2, h3, h4⟩ := rowHolds_append (P := P) (ty := o.type) ht hi hz hsize hby hzs hsz hG A m c news hsrc h1 h63 hbytes
  refine wpList_plain hgd fun K hKK => ?_
  unfold Oper.wp execOp
  simp only [ho, resolve, invoke, builtin, Sem.run_bind, Sem.run_pure, Result.andThen_ok, List.map_toArray, List.map_cons, List.map_nil, hs, hx, hrun]
  exact hKK _ _ (hK v' w' (hstep w' F' _ h3 h2 h4))
end rows

/-- what a call that changes nothing hands back: things that are new -/
def Fresh (w w' : World) (rs : List Res) : Prop := Below w.heap.size w w' ∧ ∃ G : Nat → Prop, SepL w' rs G ∧ ∀ k, G k → w.heap.size ≤ k
theorem Sep.fresh {W w w' : World} {rs ss : List Res} (h : Sep W w rs) (hf : Fresh w w' ss) : Sep W w' (ss ++ rs) := by
  obtain ⟨G, hG, _, hs⟩ := Sep.stepL (xs := []) (rs := rs) h
  obtain ⟨hb, G', hG', hn⟩ := hf
  exact hs w' G' ss (Only.below hb) hG' fun k hk => .inr (hn k hk)
theorem Fresh.same {w w' : World} (h : Below w.heap.size w w') : Fresh w w' [] := ⟨h, fun _ => False, fun _ h => h, fun _ h => h.elim⟩
theorem Fresh.one {w w' : World} {r : Res} {G : Nat → Prop} (hb : Below w.heap.size w w') (h : r.holds w' G) (hn : ∀ k, G k → w.heap.size ≤ k) : Fresh w w' [r] := ⟨hb, G, .one h, hn⟩
/-- one call behind the other -/
theorem Fresh.trans {a b c : World} {rs ss : List Res} (h : Fresh a b rs) (k : Fresh b c ss) : Fresh a c (ss ++ rs) := by
  obtain ⟨hb, G, hG, hn⟩ := h
  obtain ⟨hc, H, hH, hm⟩ := k
  refine ⟨hb.trans (hc.mono hb.size), fun x => H x ∨ G x, SepL.append.2 ⟨H, G, hH, hG.local' fun x hx => hc.block x (hG.lt hx), fun x hx hg => ?_, fun _ => Iff.rfl⟩, ?_⟩
  · have := hm x hx; have := hG.lt hg; omega
  · rintro x (hx | hx)
    · exact Nat.le_trans hb.size (hm x hx)
    · exact hn x hx
theorem Fresh.drew {a b : World} {rs : List Res} (h : Fresh a b rs) : Fresh a b.drew rs := ⟨h.1.drew, let ⟨G, hG, hn⟩ := h.2; ⟨G, hG.local' fun _ _ => rfl, hn⟩⟩
theorem Fresh.of_sep {w w' : World} {rs : List Res} (h : Sep w w' rs) : Fresh w w' rs := h
theorem Fresh.sep {w w' : World} {rs : List Res} (h : Fresh w w' rs) : Sep w w' rs := h

theorem Sep.nilRow {W w : World} {rs : List Res} (h : Sep W w rs) (e size : Nat) (a : Option Addr) : Sep W w (row e size (.slice a 0 0) 0 [] :: rs) :=
  h.new (.refl _ _) (rowHolds_nil w e size a) fun _ h => h.elim
theorem Res.alloc {r : Res} {w : World} {F : Nat → Prop} (h : r.holds w F) (o : Obj) : r.holds (w.alloc o) F := r.loc h fun _ hk => Below.heap_alloc _ _ _ (r.lt h hk)
theorem Res.below {r : Res} {w w' : World} {F : Nat → Prop} (h : r.holds w F) (hb : Below w.heap.size w w') : r.holds w' F := r.loc h fun k hk => hb.block k (r.lt h hk)
theorem Res.drew {r : Res} {w : World} {F : Nat → Prop} (h : r.holds w F) : r.holds w.drew F := r.loc h fun _ _ => rfl

/-- a call that has boxes of its own (w0: with them), makes new things, and writes its boxes at last -/
theorem Fresh.boxed {w w0 w3 w4 : World} {rs : List Res} {F : Nat → Prop} (hb : Below w.heap.size w w0) (hF : ∀ k, F k → w.heap.size ≤ k ∧ k < w0.heap.size) (h : Fresh w0 w3 rs) (ho : Only F w3 w4) : Fresh w w4 rs := by
  obtain ⟨hb0, G, hG, hn⟩ := h
  have h3 : Below w.heap.size w w3 := hb.trans (hb0.mono hb.size)
  refine ⟨⟨ho.os.trans h3.os, ho.tape.trans h3.tape, ho.output.trans h3.output, Nat.le_trans h3.size ho.size, fun k hk => ?_⟩, G, hG.local' fun k hk => ?_, fun k hk => Nat.le_trans hb.size (hn k hk)⟩
  · rw [ho.block k (Nat.lt_of_lt_of_le hk h3.size) (fun hf => by have := (hF k hf).1; omega)]; exact h3.block k hk
  · exact ho.block k (hG.lt hk) (fun hf => by have := (hF k hf).2; have := hn k hk; omega)

/-- a block of so many cells, none of them frozen -/
def boxAt (w : World) (g n : Nat) : Prop := ∃ old t, w.heap[g]? = some (.cells old t (0, 0)) ∧ old.size = n
section
variable {P : Program}
theorem step_store_row {o : Oper} {a : Act} {w : World} {K : Act → World → Prop} {Q : Exit → Act → World → Prop} {E : Prop} {ops : Array Oper} (hgd : o.guard = none) (ty : TypeId) (x y : Operand) (ho : o.op = .store ty x y)
    (g : Nat) (cells : Array Value) (hx : a.eval x = .pointer (some ⟨g, 0, none⟩)) (hy : a.eval y = .agg cells)
    (t : TypeId) (old : Array Value) (hg : w.heap[g]? = some (.cells old t (0, 0))) (hi : (P.info? ty).map (·.size) = some cells.size)
    (hold : old.size = cells.size) (h1 : cells.all (·.oneCell') = true)
    (h : K (a.put o.dst undef) (w.setRow g cells)) : if Region.wanted o (yielded ops a.tmps) = true then Oper.wp P o a w K Q else E := by
  have hw : Region.wanted o (yielded ops a.tmps) = true := by simp [Region.wanted, hgd]
  rw [if_pos hw]
  exact wp_store_row ty x y ho g cells hx hy t old hg hi hold h1 h
theorem run_storeAt_row (w : World) (g : Nat) (t ty : TypeId) (old cells : Array Value) (hg : w.heap[g]? = some (.cells old t (0, 0))) (hi : (P.info? ty).map (·.size) = some cells.size)
    (ho : old.size = cells.size) (h1 : cells.all (·.oneCell') = true) : (Instr.storeAt ty (.pointer (some ⟨g, 0, none⟩)) (.agg cells)).run P w = .ok () (w.setRow g cells) := by
  simp only [Instr.storeAt, Instr.sureAddr, Sem.run_bind, Sem.run_pure, Result.andThen_ok, run_storeVar_row w g t ty old cells hg hi ho h1]
theorem run_storeAt_box (w : World) (g : Nat) (ty : TypeId) (cells : Array Value) (hg : boxAt w g cells.size) (hi : (P.info? ty).map (·.size) = some cells.size)
    (h1 : cells.all (·.oneCell') = true) : (Instr.storeAt ty (.pointer (some ⟨g, 0, none⟩)) (.agg cells)).run P w = .ok () (w.setRow g cells) := by
  obtain ⟨old, t, hg, ho⟩ := hg
  exact run_storeAt_row w g t ty old cells hg hi ho h1
theorem run_storeCells_box (w : World) (g : Nat) (cells : Array Value) (hg : boxAt w g cells.size) (h1 : cells.all (·.oneCell') = true) : (storeCells ⟨g, 0, none⟩ cells.toList).run P w = .ok () (w.setRow g cells) := by
  obtain ⟨old, t, hg, ho⟩ := hg
  have := run_storeCells_from (P := P) g t cells.toList 0 old w hg (by simp; omega) (fun v hv => (Array.all_eq_true_iff_forall_mem.1 h1) v (by simpa using hv))
  simpa using this
theorem results_cell_tmp {fn : Func} {p r : Tmp} {ty : TypeId} (h : fn.results = #[.cell p ty, .tmp r]) (tmps : Array Value) (w : World) (g : Nat) (t : TypeId) (cs : Array Value) (fr : Nat × Nat) (d : TypeDesc)
    (hp : tmps.getD p undef = .pointer (some ⟨g, 0, none⟩)) (hg : w.heap[g]? = some (.cells cs t fr))
    (hu : P.underlying ty = some d) (hd : (match d with | .struct _ | .array _ _ => true | _ => false) = true) (hi : (P.info? ty).map (·.size) = some cs.size) :
    (results fn tmps).run P w = .ok (.tuple #[.agg cs, tmps.getD r undef]) w := by
  have hp' : tmps[p]?.getD undef = .pointer (some ⟨g, 0, none⟩) := by simpa using hp
  simp [results, h, hp', asAddr, run_loadVar_row w g t ty cs fr d hg hu hd hi]
theorem Only.setRow {F : Nat → Prop} {a w : World} (h : Only F a w) {g : Nat} (hg : F g ∨ a.heap.size ≤ g) (cs : Array Value) : Only F a (w.setRow g cs) :=
  ⟨h.os, h.tape, h.output, by simpa using h.size, fun k hk hn => (setRow_other w g k cs (by
    rintro rfl
    rcases hg with hg | hg
    · exact hn hg
    · omega)).trans (h.block k hk hn)⟩
end

/-- as it was below w0's end: what a region that draws its order may lean on -/
abbrev Still (w0 w : World) : Prop := Below w0.heap.size w0 w ∧ (∀ a : Addr, a.block < w0.heap.size → w.cell? a = w0.cell? a) ∧ ∀ k n, boxAt w0 k n → boxAt w k n
theorem Still.of {w0 w : World} (h : Below w0.heap.size w0 w) : Still w0 w :=
  ⟨h, fun _ ha => h.cell ha, fun k _ ⟨old, t, hk, hn⟩ => ⟨old, t, (h.block k (Array.getElem?_eq_some_iff.1 hk).1).trans hk, hn⟩⟩
theorem Still.fresh {w0 w w' : World} {rs : List Res} (h : Still w0 w) (hf : Fresh w w' rs) : Still w0 w' := .of (h.1.trans (hf.1.mono h.1.size))
theorem Still.drew {w0 : World} : Still w0 w0.drew := .of (Below.refl _ _).drew

/-- what stands in a cell, whatever it is -/
def got (w : World) (g j : Nat) : Value := (w.cell? ⟨g, j, none⟩).getD undef
theorem boxAt.cell {w : World} {g n j : Nat} (h : boxAt w g n) (hj : j < n) : w.cell? ⟨g, j, none⟩ = some (got w g j) := by
  obtain ⟨old, t, hg, rfl⟩ := h
  have : w.cell? ⟨g, j, none⟩ = some old[j] := by rw [cell_of_row w g j old t _ hg]; simp [hj]
  unfold got
  rw [this]; rfl
theorem boxAt.frozen {w : World} {g n : Nat} (h : boxAt w g n) (j : Nat) : w.frozen? ⟨g, j, none⟩ = false := by
  obtain ⟨old, t, hg, rfl⟩ := h
  simp [World.frozen?, hg]
theorem boxAt.setCell {w : World} {g n : Nat} (h : boxAt w g n) (j : Nat) (v : Value) : boxAt (w.setCell ⟨g, j, none⟩ v) g n := by
  obtain ⟨old, t, hg, rfl⟩ := h
  exact ⟨old.setIfInBounds j v, t, by simp [World.setCell, Array.getElem?_modify, hg], by simp⟩
theorem boxAt.of {w w' : World} {g n : Nat} (h : boxAt w g n) (hg : w'.heap[g]? = w.heap[g]?) : boxAt w' g n := by
  obtain ⟨old, t, h, hn⟩ := h
  exact ⟨old, t, hg.trans h, hn⟩
/-- as it was, but for the box g of n cells, and what is new -/
abbrev Beside (w0 : World) (g n : Nat) (w : World) : Prop := Only (fun k => k = g) w0 w ∧ (∀ a : Addr, a.block < w0.heap.size → a.block ≠ g → w.cell? a = w0.cell? a) ∧ boxAt w g n
theorem Beside.of {w0 w : World} {g n : Nat} (h : Only (fun k => k = g) w0 w) (hb : boxAt w g n) : Beside w0 g n w := ⟨h, fun _ ha hg => World.cell?_of_block (h.block _ ha hg), hb⟩
theorem Beside.fresh {w0 w w' : World} {g n : Nat} {rs : List Res} (h : Beside w0 g n w) (hf : Fresh w w' rs) : Beside w0 g n w' := by
  have hg : g < w.heap.size := by obtain ⟨_, _, hg, _⟩ := h.2.2; exact (Array.getElem?_eq_some_iff.1 hg).1
  exact .of (h.1.trans (Only.below hf.1)) (h.2.2.of (hf.1.block g hg))
theorem Beside.drew {w0 : World} {g n : Nat} (h : boxAt w0 g n) : Beside w0 g n w0.drew := .of (Only.drew (.refl _ _)) h
theorem Beside.setCell {w0 w : World} {g n : Nat} (h : Beside w0 g n w) (j : Nat) (v : Value) : Beside w0 g n (w.setCell ⟨g, j, none⟩ v) := .of (h.1.setCell (.inl rfl) v) (h.2.2.setCell j v)

theorem step_store_box {P : Program} {o : Oper} {a : Act} {w : World} {K : Act → World → Prop} {Q : Exit → Act → World → Prop} {E : Prop} {ops : Array Oper} (hgd : o.guard = none) (ty : TypeId) (x y : Operand) (ho : o.op = .store ty x y)
    (g : Nat) (cells : Array Value) (hx : a.eval x = .pointer (some ⟨g, 0, none⟩)) (hy : a.eval y = .agg cells) (hg : boxAt w g cells.size) (hi : (P.info? ty).map (·.size) = some cells.size)
    (h1 : cells.all (·.oneCell') = true) (h : K (a.put o.dst undef) (w.setRow g cells)) : if Region.wanted o (yielded ops a.tmps) = true then Oper.wp P o a w K Q else E := by
  obtain ⟨old, t, hg, ho'⟩ := hg
  exact step_store_row hgd ty x y ho g cells hx hy t old hg hi ho' h1 h
theorem Beside.setRow {w0 w : World} {g n : Nat} (h : Beside w0 g n w) (cs : Array Value) (hn : cs.size = n) : Beside w0 g n (w.setRow g cs) := by
  obtain ⟨old, t, hg, _⟩ := h.2.2
  exact .of (h.1.setRow (.inl rfl) cs) ⟨cs, t, setRow_heap w g old cs t _ hg, hn⟩

theorem got_set {w : World} {g n j : Nat} (h : boxAt w g n) (hj : j < n) (v : Value) : got (w.setCell ⟨g, j, none⟩ v) g j = v := by
  obtain ⟨old, t, hg, rfl⟩ := h
  have : (w.setCell ⟨g, j, none⟩ v).heap[g]? = some (.cells (old.setIfInBounds j v) t (0, 0)) := by simp [World.setCell, Array.getElem?_modify, hg]
  unfold got
  rw [cell_of_row _ g j _ t _ this]
  simp [hj]
theorem got_set_ne {w : World} {g n j k : Nat} (h : boxAt w g n) (hjk : j ≠ k) (v : Value) : got (w.setCell ⟨g, k, none⟩ v) g j = got w g j := by
  obtain ⟨old, t, hg, rfl⟩ := h
  have : (w.setCell ⟨g, k, none⟩ v).heap[g]? = some (.cells (old.setIfInBounds k v) t (0, 0)) := by simp [World.setCell, Array.getElem?_modify, hg]
  unfold got
  rw [cell_of_row _ g j _ t _ this, cell_of_row w g j _ t _ hg, Array.getElem?_setIfInBounds_ne (by omega)]

theorem step_app {P : Program} {ops : Array Oper} {o : Oper} {a : Act} {w : World} {K : Act → World → Prop} {Q : Exit → Act → World → Prop} {E : Prop} {e size n : Nat} {v : Value} {xs : List Value} {F : Nat → Prop}
    (hgd : o.guard = none) (s x : Operand) (t : TypeId)
    (ho : o.op = .call { callee := .builtin .append, args := #[s, x], argTypes := #[t, t] })
    {i : TypeInfo} {z : Value} {bytes : Nat} (ht : P.underlying t = some (.slice e)) (hi : P.info? e = some i) (hz : i.zero = some z)
    (hsize : i.size = size) (hby : i.bytes = bytes) (hzs : z.cells.size = size) (hsz : 0 < size)
    (hs : a.eval s = v) (h : rowHolds e size v n xs w F) (A : Option Addr) (m c : Nat) (news : List Value) (hx : a.eval x = .slice A m c) (hsrc : Src w size A m news) (h1 : ∀ u ∈ news, u.oneCell' = true)
    (h63 : n + m ≤ maxLen) (hbytes : (n + m) * bytes ≤ 140737488355328)
    (hK : ∀ v' w' F', rowHolds e size v' (n + m) (xs ++ news) w' F' → Only F w w' → (∀ k, F' k → F k ∨ w.heap.size ≤ k) → K (a.put o.dst v') w') :
    if Region.wanted o (yielded ops a.tmps) = true then Oper.wp P o a w K Q else E := by
  have hw : Region.wanted o (yielded ops a.tmps) = true := by simp [Region.wanted, hgd]
  rw [if_pos hw]
  obtain ⟨v', w', F', hrun, h2, h3, h4⟩ := rowHolds_append (P := P) (ty := o.type) ht hi hz hsize hby hzs hsz h A m c news hsrc h1 h63 hbytes
  unfold Oper.wp execOp
  simp only [ho, resolve, invoke, builtin, Sem.run_bind, Sem.run_pure, Result.andThen_ok, List.map_toArray, List.map_cons, List.map_nil, hs, hx, hrun]
  exact hK v' w' F' h2 h3 h4
theorem src_block {w : World} {g : Nat} {cs : Array Value} {e : Nat} {m size : Nat} (h : w.heap[g]? = some (.cells cs e (0, 0))) (hn : cs.size = m * size) : Src w size (some ⟨g, 0, none⟩) m cs.toList :=
  ⟨by simpa using hn, fun _ => ⟨_, rfl, World.news_of_block h⟩⟩

/-! an append in a region that draws its order: its outcome under names, so that the walk carries it -/
def CanApp (P : Program) (ts : Array TypeId) (ty : TypeId) (vs : Array Value) (w : World) : Prop := ∃ v' w', (Builtin.append_ ts ty vs).run P w = .ok v' w'
noncomputable def appV (P : Program) (ts : Array TypeId) (ty : TypeId) (vs : Array Value) (w : World) : Value := match (Builtin.append_ ts ty vs).run P w with | .ok v _ => v | _ => undef
noncomputable def appW (P : Program) (ts : Array TypeId) (ty : TypeId) (vs : Array Value) (w : World) : World := match (Builtin.append_ ts ty vs).run P w with | .ok _ w' => w' | _ => w
theorem run_can {P : Program} {ts : Array TypeId} {ty : TypeId} {vs : Array Value} {w : World} (h : CanApp P ts ty vs w) : (Builtin.append_ ts ty vs).run P w = .ok (appV P ts ty vs w) (appW P ts ty vs w) := by
  obtain ⟨v', w', hr⟩ := h
  unfold appV appW
  rw [hr]
theorem can_of {P : Program} {ts : Array TypeId} {ty : TypeId} {vs : Array Value} {w w' : World} {v' : Value} (h : (Builtin.append_ ts ty vs).run P w = .ok v' w') : CanApp P ts ty vs w ∧ appV P ts ty vs w = v' ∧ appW P ts ty vs w = w' := by
  refine ⟨⟨_, _, h⟩, ?_, ?_⟩
  · unfold appV; rw [h]
  · unfold appW; rw [h]
theorem wp_can {P : Program} {dst : Option Tmp} {s x : Operand} {t t2 ty : TypeId} {pos : String} {after : Array Edge} {guard : Option (Nat × Bool)} {a : Act} {w : World} {K : Act → World → Prop} {Q : Exit → Act → World → Prop}
    (h : CanApp P #[t, t2] ty #[a.eval s, a.eval x] w) :
    Oper.wp P { dst := dst, op := .call { callee := .builtin .append, args := #[s, x], argTypes := #[t, t2] }, type := ty, pos := pos, after := after, guard := guard } a w K Q =
      K (a.put dst (appV P #[t, t2] ty #[a.eval s, a.eval x] w)) (appW P #[t, t2] ty #[a.eval s, a.eval x] w) := by
  unfold Oper.wp execOp
  simp only [resolve, invoke, builtin, Sem.run_bind, Sem.run_pure, Result.andThen_ok, List.map_toArray, List.map_cons, List.map_nil, run_can h]
  rfl
/-! the same of a load, and of a slice that is built of one part -/
def LoadCan (P : Program) (t : TypeId) (x : Value) (w : World) : Prop := ∃ v, (Instr.loadAt t x).run P w = .ok v w
noncomputable def loadV (P : Program) (t : TypeId) (x : Value) (w : World) : Value := match (Instr.loadAt t x).run P w with | .ok v _ => v | _ => undef
theorem load_of {P : Program} {t : TypeId} {x v : Value} {w : World} (h : (Instr.loadAt t x).run P w = .ok v w) : LoadCan P t x w ∧ loadV P t x w = v := by
  refine ⟨⟨_, h⟩, ?_⟩
  unfold loadV; rw [h]
theorem wp_load_can {P : Program} {dst : Option Tmp} {x : Operand} {t ty : TypeId} {pos : String} {after : Array Edge} {guard : Option (Nat × Bool)} {a : Act} {w : World} {K : Act → World → Prop} {Q : Exit → Act → World → Prop}
    (h : LoadCan P t (a.eval x) w) : Oper.wp P { dst := dst, op := .load t x, type := ty, pos := pos, after := after, guard := guard } a w K Q = K (a.put dst (loadV P t (a.eval x) w)) w := by
  obtain ⟨v, hv⟩ := h
  unfold Oper.wp execOp loadV
  simp only [Sem.run_bind, Sem.run_pure, Result.andThen_ok, hv]
  rfl
def BuildCan (P : Program) (t : TypeId) (n i : Nat) (x : Value) (w : World) : Prop := ∃ v w', (Instr.buildSlice t n #[(i, x)]).run P w = .ok v w'
noncomputable def buildV (P : Program) (t : TypeId) (n i : Nat) (x : Value) (w : World) : Value := match (Instr.buildSlice t n #[(i, x)]).run P w with | .ok v _ => v | _ => undef
noncomputable def buildW (P : Program) (t : TypeId) (n i : Nat) (x : Value) (w : World) : World := match (Instr.buildSlice t n #[(i, x)]).run P w with | .ok _ w' => w' | _ => w
theorem build_of {P : Program} {t : TypeId} {n i : Nat} {x v : Value} {w w' : World} (h : (Instr.buildSlice t n #[(i, x)]).run P w = .ok v w') : BuildCan P t n i x w ∧ buildV P t n i x w = v ∧ buildW P t n i x w = w' := by
  refine ⟨⟨_, _, h⟩, ?_, ?_⟩
  · unfold buildV; rw [h]
  · unfold buildW; rw [h]
theorem wp_build_can {P : Program} {dst : Option Tmp} {x : Operand} {t ty : TypeId} {n i : Nat} {pos : String} {after : Array Edge} {guard : Option (Nat × Bool)} {a : Act} {w : World} {K : Act → World → Prop} {Q : Exit → Act → World → Prop}
    (h : BuildCan P t n i (a.eval x) w) : Oper.wp P { dst := dst, op := .buildSlice t n #[(i, x)], type := ty, pos := pos, after := after, guard := guard } a w K Q = K (a.put dst (buildV P t n i (a.eval x) w)) (buildW P t n i (a.eval x) w) := by
  obtain ⟨v, w', hv⟩ := h
  unfold Oper.wp execOp buildV buildW
  simp only [Sem.run_bind, Sem.run_pure, Result.andThen_ok, List.map_toArray, List.map_cons, List.map_nil, hv]
  rfl
theorem run_loadAt_row {P : Program} (w : World) (g : Nat) (t ty : TypeId) (cs : Array Value) (fr : Nat × Nat) (d : TypeDesc) (hg : w.heap[g]? = some (.cells cs t fr))
    (hu : P.underlying ty = some d) (hd : (match d with | .struct _ | .array _ _ => true | _ => false) = true) (hi : (P.info? ty).map (·.size) = some cs.size) :
    (Instr.loadAt ty (.pointer (some ⟨g, 0, none⟩))).run P w = .ok (.agg cs) w := by
  simp only [Instr.loadAt, Instr.sureAddr, Sem.run_bind, Sem.run_pure, Result.andThen_ok, run_loadVar_row w g t ty cs fr d hg hu hd hi]
end Go.Proofs.YtgdmaikjaopddaaGreatDoor
