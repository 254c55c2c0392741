/- tree.writable at a name with an odd sign. -/
import Derived.Test.YtgdmaikjaopddaaGreatDoorJ12
import Derived.Test.YtgdmaikjaopddaaGreatDoorJ13
namespace Go.Proofs.YtgdmaikjaopddaaGreatDoor
open Go.RowKit

set_option maxRecDepth 100000 in
set_option maxHeartbeats 2000000 in
theorem writable_dry (n v : ByteArray) (w : World) (h : n.toList.isEmpty = true ∨ ¬ (n.size : Int) ≤ 60 ∨ ¬ (v.size : Int) ≤ 2000) : Calls Tryz.prog 95 #[.agg #[.string n, .string v]] w fun e w' => e = .returned (.bool (writB n v)) ∧ Below w.heap.size w w' := by
  have hv : writB n v = false := by
    unfold writB
    rcases h with h | h | h <;> simp [h]
  have HV := Lib.hid hv
  clear hv
  cases h1 : n.toList.isEmpty
  · by_cases h2 : (n.size : Int) ≤ 60
    · have h3 : ¬ (v.size : Int) ≤ 2000 := by
        rcases h with h | h | h
        · rw [h1] at h; cases h
        · exact absurd h2 h
        · exact h
      have e3 : decide ((v.size : Int) ≤ 2000) = false := decide_eq_false h3
      have e2 : decide ((n.size : Int) ≤ 60) = true := decide_eq_true h2
      clear h
      go_enter Tryz.func95, Tryz.ntmps95
      go_wp2
      go_quiet (fail)
      go_wp2
      go_ret
      exact ⟨by rw [HV.out]; rfl, alloc_drewN _ _ _⟩
    · have e2 : decide ((n.size : Int) ≤ 60) = false := decide_eq_false h2
      clear h
      go_enter Tryz.func95, Tryz.ntmps95
      go_wp2
      go_quiet (fail)
      go_wp2
      go_ret
      exact ⟨by rw [HV.out]; rfl, alloc_drewN _ _ _⟩
  · clear h
    go_enter Tryz.func95, Tryz.ntmps95
    go_wp2
    go_quiet (fail)
    go_wp2
    go_ret
    exact ⟨by rw [HV.out]; rfl, alloc_drewN _ _ _⟩

set_option maxRecDepth 100000 in
set_option maxHeartbeats 2000000 in
theorem writable_odd (n v : ByteArray) (w : World) (h4 : Lib.containsAny n.data.toList oddS.data.toList = true) (h1 : n.toList.isEmpty = false) (h2 : (n.size : Int) ≤ 60) (h3 : (v.size : Int) ≤ 2000) : Calls Tryz.prog 95 #[.agg #[.string n, .string v]] w fun e w' => e = .returned (.bool (writB n v)) ∧ Below w.heap.size w w' := by
  have c1 := fun w => containsAny_any n oddS w (by decide) (by decide) (by omega) oddS_asc
  rw [h4] at c1
  have hv : writB n v = false := by simp [writB, h4]
  have HV := Lib.hid hv
  clear hv h4
  obtain ⟨w0, hw0⟩ : ∃ w0, w0 = w.alloc (.cells #[.string n, .string v] 67) := ⟨_, rfl⟩
  have HBW := Lib.hid (show Below w.heap.size w w0 from hw0 ▸ alloc_drewN w _ 0)
  have g0 : ∀ p : Later w0, p.w.cell? ⟨w.heap.size, 0, none⟩ = some (.string n) := fun p => p.cell (hw0 ▸ World.cell?_alloc_at _ _ _ _ (by simp))
  have g1 : ∀ p : Later w0, p.w.cell? ⟨w.heap.size, 1, none⟩ = some (.string v) := fun p => p.cell (hw0 ▸ World.cell?_alloc_at _ _ _ _ (by simp))
  have C1 := Lib.hid c1
  have HW0 := Lib.hid hw0
  clear c1 hw0
  go_enter Tryz.func95, Tryz.ntmps95
  go_wp2_with fail
  rw [← HW0.out]
  refine wp_region_later (by kernel_rfl) (by kernel_rfl) ?_
  repeat (go_big_quiet_step ((go_at_call 104; exact Calls.later fun w _ => C1.out w)))
  refine wpQuiet_nil ?_
  rintro w1 ⟨⟨_, hb1⟩, rfl⟩
  clear g0 g1
  go_wp2
  go_ret
  exact ⟨by rw [HV.out]; rfl, HBW.out.trans (hb1.mono HBW.out.size)⟩

theorem writable_any (n v : ByteArray) (w : World) : Calls Tryz.prog 95 #[.agg #[.string n, .string v]] w fun e w' => e = .returned (.bool (writB n v)) ∧ Below w.heap.size w w' := by
  cases h4 : Lib.containsAny n.data.toList oddS.data.toList
  · exact writable_part n v w h4
  · cases h1 : n.toList.isEmpty
    · by_cases h2 : (n.size : Int) ≤ 60
      · by_cases h3 : (v.size : Int) ≤ 2000
        · exact writable_odd n v w h4 h1 h2 h3
        · exact writable_dry n v w (.inr (.inr h3))
      · exact writable_dry n v w (.inr (.inl h2))
    · exact writable_dry n v w (.inl h1)
end Go.Proofs.YtgdmaikjaopddaaGreatDoor

/- Attributes as they lie in a world; where one of a name stands among them: package slices' IndexFunc, ContainsFunc, tree.twice, and a node's place. -/
namespace Go.Proofs.YtgdmaikjaopddaaGreatDoor
open Go.RowKit

/-- attributes as they lie in a world -/
def AttrsAt (w : World) (A : Option Addr) (l : List Attr) : Prop := l.length ≤ 9223372036854775807 ∧ ∀ k (h : k < l.length), ∃ b o, A = some ⟨b, o, none⟩ ∧ w.cell? ⟨b, o + k * 2, none⟩ = some (.string l[k].1) ∧ w.cell? ⟨b, o + k * 2 + 1, none⟩ = some (.string l[k].2)
theorem AttrsAt.at {w : World} {A : Option Addr} {l : List Attr} (h : AttrsAt w A l) (hz : 0 < l.length) : ∃ b o, A = some ⟨b, o, none⟩ ∧ b < w.heap.size ∧ ∀ k (h : k < l.length), w.cell? ⟨b, o + k * 2, none⟩ = some (.string l[k].1) ∧ w.cell? ⟨b, o + k * 2 + 1, none⟩ = some (.string l[k].2) := by
  obtain ⟨b, o, rfl, h1, _⟩ := h.2 0 hz
  refine ⟨b, o, rfl, World.block_lt_of_cell? w ⟨b, o + 0 * 2, none⟩ h1, fun j hj => ?_⟩
  obtain ⟨b', o', e, hc⟩ := h.2 j hj
  injection e with e
  injection e with e1 e2
  subst e1; subst e2
  exact hc
theorem AttrsAt.keep {w w' : World} {A : Option Addr} {l : List Attr} (h : AttrsAt w A l) (hb : Below w.heap.size w w') : AttrsAt w' A l :=
  ⟨h.1, fun k hk => by
    obtain ⟨b, o, e, h1, h2⟩ := h.2 k hk
    exact ⟨b, o, e, (hb.cell (p := ⟨b, o + k * 2, none⟩) (World.block_lt_of_cell? w ⟨b, _, none⟩ h1)).trans h1, (hb.cell (p := ⟨b, o + k * 2 + 1, none⟩) (World.block_lt_of_cell? w ⟨b, _, none⟩ h2)).trans h2⟩⟩
theorem AttrsAt.take {w : World} {A : Option Addr} {l : List Attr} (h : AttrsAt w A l) (n : Nat) : AttrsAt w A (l.take n) := ⟨by rw [List.length_take]; have := h.1; omega, fun k hk => by
  have hk' : k < l.length := by rw [List.length_take] at hk; omega
  rw [List.getElem_take]; exact h.2 k hk'⟩
theorem AttrsAt.nil (w : World) (A : Option Addr) : AttrsAt w A [] := ⟨Nat.zero_le _, fun k hk => absurd hk (Nat.not_lt_zero k)⟩
theorem acells_at : ∀ {l : List Attr} {k : Nat} (h : k < l.length), (acells l)[k * 2]? = some (.string l[k].1) ∧ (acells l)[k * 2 + 1]? = some (.string l[k].2)
  | [], k, h => absurd h (Nat.not_lt_zero k)
  | x :: t, 0, _ => ⟨rfl, rfl⟩
  | x :: t, k + 1, h => by
    have := acells_at (l := t) (k := k) (by simpa using h)
    have e : ∀ j, (acells (x :: t))[j + 2]? = (acells t)[j]? := fun j => rfl
    rw [show (k + 1) * 2 = k * 2 + 2 by omega, show k * 2 + 2 + 1 = (k * 2 + 1) + 2 by omega, e, e]
    exact this
theorem rowHolds.attrsAt {v : Value} {l : List Attr} {w : World} {F : Nat → Prop} (h : (arow v l).holds w F) (hn : l.length ≤ 9223372036854775807) {A : Option Addr} {c : Nat} (hv : v = .slice A l.length c) : AttrsAt w A l := by
  refine ⟨hn, fun k hk => ?_⟩
  obtain ⟨g, cap, hv', _, _, _, hc⟩ := rowHolds.cells h (by omega)
  rw [hv] at hv'
  injection hv' with e1
  have := acells_at hk
  exact ⟨g, 0, e1, by rw [Nat.zero_add]; exact hc _ _ this.1, by rw [Nat.zero_add]; exact hc _ _ this.2⟩

def hasB (l : List Attr) (nm : ByteArray) : Bool := l.any fun x => x.1.toList == nm.toList
/-- where one of a name stands: -1, or the first of it -/
def At (l : List Attr) (nm : ByteArray) (r : Int) : Prop := r = -1 ∧ hasB l nm = false ∨ ∃ (k : Nat) (hk : k < l.length), r = k ∧ (l[k].1.toList == nm.toList) = true ∧ hasB (l.take k) nm = false
theorem hasB_succ {l : List Attr} {k : Nat} (h : k < l.length) (nm : ByteArray) : hasB (l.take (k + 1)) nm = (hasB (l.take k) nm || (l[k].1.toList == nm.toList)) := by
  unfold hasB
  rw [List.take_succ_eq_append_getElem h, List.any_append]
  simp only [List.any_cons, List.any_nil, Bool.or_false]

set_option maxRecDepth 100000 in
theorem isName_any (F : Nat) (hF : F = 84 ∨ F = 107) (q : Nat) (nm n v : ByteArray) (w : World) (hq : w.cell? ⟨q, 0, none⟩ = some (.string nm)) :
    Calls Tryz.prog F #[.agg #[.string n, .string v], .pointer (some ⟨q, 0, none⟩)] w fun e w' => e = .returned (.bool (n.toList == nm.toList)) ∧ Below w.heap.size w w' := by
  have hlt : q < w.heap.size := World.block_lt_of_cell? w ⟨q, 0, none⟩ hq
  have g0 : (w.alloc (.cells #[.string n, .string v] 67)).cell? ⟨q, 0, none⟩ = some (.string nm) := by rw [World.cell?_alloc_lt w _ _ hlt]; exact hq
  have g1 : (w.alloc (.cells #[.string n, .string v] 67)).cell? ⟨w.heap.size, 0, none⟩ = some (.string n) := World.cell?_alloc_at _ _ _ _ (by simp)
  have HB := Lib.hid (fun m => alloc_drewN w (.cells #[.string n, .string v] 67) m)
  clear hlt
  rcases hF with rfl | rfl
  · go_enter Tryz.func84, Tryz.ntmps84
    go_wp2
    go_ret
    exact ⟨rfl, HB.out 0⟩
  · go_enter Tryz.func107, Tryz.ntmps107
    go_wp2
    go_ret
    exact ⟨rfl, HB.out 0⟩

set_option maxRecDepth 100000 in
theorem idxName (F : Nat) (hF : F = 84 ∨ F = 107) (A : Option Addr) (c q : Nat) (nm : ByteArray) (l : List Attr) (w : World) (hl : AttrsAt w A l) (hq : w.cell? ⟨q, 0, none⟩ = some (.string nm)) :
    Calls Tryz.prog 83 #[.slice A l.length c, .func (.func F) #[] #[.pointer (some ⟨q, 0, none⟩)]] w fun e w' => (∃ r : Int, e = .returned (int r) ∧ At l nm r) ∧ Below w.heap.size w w' := by
  have hn := hl.1
  have hqb : q < w.heap.size := World.block_lt_of_cell? w ⟨q, 0, none⟩ hq
  have HL := Lib.hid hl
  have HQ := Lib.hid hq
  have Hqb := Lib.hid hqb
  have HF := Lib.hid hF
  clear hl hq hqb hF
  go_enter Tryz.func83, Tryz.ntmps83
  go_wp2
  go_loopw [8] (fun i wr => ∃ k : Nat, k ≤ l.length ∧ i = .int .i64 k ∧ hasB (l.take k) nm = false ∧ Below w.heap.size w wr) (fun i _ => l.length - (intOf i).toNat)
  case atStart => exact ⟨0, Nat.zero_le _, rfl, rfl, Below.refl _ _⟩
  case round =>
    obtain ⟨k, hk, rfl, hno, hB⟩ := hrel
    have HN := Lib.hid hno
    have HB := Lib.hid hB
    clear hno hB
    by_cases hlt : k < l.length
    · obtain ⟨b, o, rfl, _, hc⟩ := (HL.out.keep HB.out).at (by omega)
      have f0 := (hc k hlt).1
      have f1 := (hc k hlt).2
      have fq := (HB.out.cell (p := ⟨q, 0, none⟩) Hqb.out).trans HQ.out
      have HSN := Lib.hid (hasB_succ hlt nm)
      have FQ := Lib.hid fq
      clear fq hc
      rcases HF.out with rfl | rfl
      all_goals
        cases he : (l[k].1.toList == nm.toList)
        · go_wp2_with ((first | go_at_call 84 | go_at_call 107); refine (isName_any _ HF.out q nm l[k].1 l[k].2 _ FQ.out).mono ?_; rintro e w' ⟨rfl, hb'⟩; rw [he]; have HB' := Lib.hid (HB.out.trans (hb'.mono HB.out.size)); clear hb')
          go_roundw
          case rel => exact ⟨k + 1, by omega, by go_num, by rw [HSN.out, HN.out, he]; rfl, HB'.out⟩
          case measure => simp [intOf]; omega
        · go_wp2_with ((first | go_at_call 84 | go_at_call 107); refine (isName_any _ HF.out q nm l[k].1 l[k].2 _ FQ.out).mono ?_; rintro e w' ⟨rfl, hb'⟩; rw [he]; have HB' := Lib.hid (HB.out.trans (hb'.mono HB.out.size)); clear hb')
          go_ret
          exact ⟨⟨k, rfl, .inr ⟨k, hlt, rfl, he, HN.out⟩⟩, HB'.out⟩
    · obtain rfl : k = l.length := by omega
      go_wp2
      go_ret
      refine ⟨⟨-1, rfl, .inl ⟨rfl, ?_⟩⟩, HB.out⟩
      have := HN.out
      rwa [List.take_length] at this

set_option maxRecDepth 100000 in
theorem containsName (A : Option Addr) (c q : Nat) (nm : ByteArray) (l : List Attr) (w : World) (hl : AttrsAt w A l) (hq : w.cell? ⟨q, 0, none⟩ = some (.string nm)) :
    Calls Tryz.prog 106 #[.slice A l.length c, .func (.func 107) #[] #[.pointer (some ⟨q, 0, none⟩)]] w fun e w' => e = .returned (.bool (hasB l nm)) ∧ Below w.heap.size w w' := by
  have C := Lib.hid (idxName _ (.inr rfl) A c q nm l w hl hq)
  clear hl hq
  go_enter Tryz.func106, Tryz.ntmps106
  go_wp2_with fail
  refine C.out.mono ?_
  rintro e w' ⟨⟨r, rfl, hr⟩, hb'⟩
  have hv : decide ((0 : Int) ≤ r) = hasB l nm := by
    rcases hr with ⟨rfl, h⟩ | ⟨k, hk, rfl, h, _⟩
    · rw [h]; rfl
    · have h1 : hasB l nm = true := by
        unfold hasB
        rw [List.any_eq_true]
        exact ⟨l[k], by simp, h⟩
      rw [h1]; simp
  have HV := Lib.hid hv
  have HB := Lib.hid hb'
  clear hr hv hb'
  go_wp2
  go_ret
  exact ⟨by rw [← HV.out]; rfl, HB.out⟩

set_option maxRecDepth 100000 in
theorem twice_any (A : Option Addr) (c : Nat) (nm : ByteArray) (l : List Attr) (w : World) (hl : AttrsAt w A l) :
    Calls Tryz.prog 96 #[.slice A l.length c, .string nm] w fun e w' => e = .returned (.bool (hasB l nm)) ∧ Below w.heap.size w w' := by
  have hq : (w.alloc (.cells #[.string nm] 9)).cell? ⟨w.heap.size, 0, none⟩ = some (.string nm) := World.cell?_alloc_at _ _ _ _ (by simp)
  have HA := Lib.hid (alloc_drewN w (.cells #[.string nm] 9) 0)
  have C := Lib.hid (containsName A c w.heap.size nm l _ (hl.keep HA.out) hq)
  have hsz : w.heap.size ≤ (w.alloc (.cells #[.string nm] 9)).heap.size := by simp
  have HZ := Lib.hid hsz
  clear hl hsz
  go_enter Tryz.func96, Tryz.ntmps96
  go_wp2_with (go_at_call 106; refine C.out.mono ?_; rintro e w' ⟨rfl, hb'⟩; have HB' := Lib.hid (Below.trans HA.out (hb'.mono HZ.out)); clear hb')
  go_ret
  exact ⟨rfl, HB'.out⟩

set_option maxRecDepth 100000 in
theorem place_any (B o c : Nat) (A : Option Addr) (nm : ByteArray) (l : List Attr) (w : World) (hl : AttrsAt w A l) (hc : w.cell? ⟨B, o + 3, none⟩ = some (.slice A l.length c)) :
    Calls Tryz.prog 62 #[.pointer (some ⟨B, o, none⟩), .string nm] w fun e w' => (∃ r : Int, e = .returned (int r) ∧ At l nm r) ∧ Below w.heap.size w w' := by
  have hB : B < w.heap.size := World.block_lt_of_cell? w ⟨B, o + 3, none⟩ hc
  have g0 : (w.alloc (.cells #[.string nm] 9)).cell? ⟨B, o + 3, none⟩ = some (.slice A l.length c) := by rw [World.cell?_alloc_lt w _ _ hB]; exact hc
  have hq : (w.alloc (.cells #[.string nm] 9)).cell? ⟨w.heap.size, 0, none⟩ = some (.string nm) := World.cell?_alloc_at _ _ _ _ (by simp)
  have HA := Lib.hid (alloc_drewN w (.cells #[.string nm] 9) 0)
  have C := Lib.hid (idxName _ (.inl rfl) A c w.heap.size nm l _ (hl.keep HA.out) hq)
  have hsz : w.heap.size ≤ (w.alloc (.cells #[.string nm] 9)).heap.size := by simp
  have HZ := Lib.hid hsz
  clear hl hc hB hsz
  go_enter Tryz.func62, Tryz.ntmps62
  go_wp2_with (go_at_call 83; refine C.out.mono ?_; rintro e w' ⟨⟨r, rfl, hr⟩, hb'⟩; have HR := Lib.hid hr; have HB' := Lib.hid (Below.trans HA.out (hb'.mono HZ.out)); clear hr hb')
  go_ret
  exact ⟨⟨r, rfl, HR.out⟩, HB'.out⟩
end Go.Proofs.YtgdmaikjaopddaaGreatDoor
