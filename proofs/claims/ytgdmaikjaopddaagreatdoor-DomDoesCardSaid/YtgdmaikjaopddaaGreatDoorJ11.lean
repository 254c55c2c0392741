/- strings.ContainsAny for any text, at signs that are ASCII: the road of the shelf that lacks: a short text with other signs. -/
import Derived.Test.YtgdmaikjaopddaaGreatDoorJ09
import Derived.Laws.Runes
import Derived.Laws.RangeString
import Derived.Deep.LoopGhost
namespace Go.Proofs.YtgdmaikjaopddaaGreatDoor
open Go.RowKit

theorem enc_forms (r : Int) (h : 128 ≤ r) : ∃ c : Nat, Utf8.encode r = ⟨#[UInt8.ofNat (0xC0 + c / 64), UInt8.ofNat (0x80 + c % 64)]⟩ ∨ Utf8.encode r = ⟨#[UInt8.ofNat (0xE0 + c / 4096), UInt8.ofNat (0x80 + c / 64 % 64), UInt8.ofNat (0x80 + c % 64)]⟩ ∨ Utf8.encode r = ⟨#[UInt8.ofNat (0xF0 + c / 262144), UInt8.ofNat (0x80 + c / 4096 % 64), UInt8.ofNat (0x80 + c / 64 % 64), UInt8.ofNat (0x80 + c % 64)]⟩ := by
  unfold Utf8.encode
  generalize hc : (if Utf8.valid r then r.toNat else Utf8.runeError) = c
  have h128 : ¬ c < 0x80 := by
    rw [← hc]; split
    · omega
    · decide
  refine ⟨c, ?_⟩
  simp only [if_neg h128]
  split
  · exact .inl rfl
  · split
    · exact .inr (.inl rfl)
    · exact .inr (.inr rfl)
theorem enc_last (r : Int) (h : 128 ≤ r) : ∃ n, n ≤ 2 ∧ (Utf8.encode r).size = n + 2 ∧ ∃ hn : n + 1 < (Utf8.encode r).size, 128 ≤ ((Utf8.encode r)[n + 1]'hn).toNat := by
  have hb (k : Nat) (hk : k < 64) : 128 ≤ (UInt8.ofNat (0x80 + k)).toNat := by
    rw [UInt8.toNat_ofNat']; omega
  obtain ⟨c, hc⟩ := enc_forms r h
  generalize Utf8.encode r = rs at hc
  rcases hc with rfl | rfl | rfl
  · exact ⟨0, by decide, rfl, by show 1 < 2; decide, hb _ (Nat.mod_lt _ (by decide))⟩
  · exact ⟨1, by decide, rfl, by show 2 < 3; decide, hb _ (Nat.mod_lt _ (by decide))⟩
  · exact ⟨2, by decide, rfl, by show 3 < 4; decide, hb _ (Nat.mod_lt _ (by decide))⟩

theorem indexByte_far (c : UInt8) (hc : 128 ≤ c.toNat) : ∀ l : List UInt8, (∀ b ∈ l, b.toNat < 128) → Lib.indexByte l c = -1 := by
  intro l h
  have h1 := Lib.contains_iff_indexByte l c
  have h2 : l.contains c = false := by
    simp only [List.contains_eq_mem, decide_eq_false_iff_not]
    intro hm
    have := h c hm
    omega
  rw [h2] at h1
  have h3 := of_decide_eq_false h1.symm
  have h4 : -1 ≤ Lib.indexByte l c := by
    have := Lib.indexAny_ge [c] l
    rwa [Lib.indexAny_one] at this
  omega

/-- texts of ASCII signs alone -/
def Asc (s : ByteArray) : Prop := ∀ b ∈ s.data.toList, b.toNat < 128
theorem Asc.piece {s : ByteArray} (h : Asc s) (a b : Nat) : Asc (s.extract a b) := fun x hx => h x (by
  simp only [ByteArray.data_extract, Array.toList_extract] at hx
  exact List.mem_of_mem_drop (List.mem_of_mem_take (by simpa [List.extract_eq_take_drop] using hx)))
theorem Asc.at {s : ByteArray} (h : Asc s) (i : Nat) (hi : i < s.size) : (s[i]'hi).toNat < 128 := h _ (by
  have := Lib.data_getElem? s i hi
  exact List.mem_of_getElem? this)

set_option maxRecDepth 100000 in
set_option maxHeartbeats 2000000 in
theorem idxRune_far (s : ByteArray) (r : Int) (w : World) (hs : Asc s) (hz : s.size ≤ 1000) (h0 : 128 ≤ r) (h1 : r ≠ 65533) (hv : Lib.validRune r = true) :
    Calls Tryz.prog 121 #[.string s, .int .i32 r] w fun e w' => e = .returned (.int .i64 (-1)) ∧ Below w.heap.size w w' := by
  obtain ⟨n, hn2, hn, hn1, hlast⟩ := enc_last r h0
  have w1 : (n : Int) + 2 - 1 = (n : Int) + 1 := by omega
  have w3 : IntKind.i64.wrap ((n : Int) + 2) = (n : Int) + 2 := by rw [IntKind.wrap_i64]; omega
  have w2 : (n : Int) + 1 + 1 = (n : Int) + 2 := by omega
  have i2 : ∀ w, (Instr.index 9 (.string (Utf8.encode r)) (.int .i64 ((n : Int) + 1))).run Tryz.prog w = .ok (.int .u8 (((Utf8.encode r)[n + 1]'hn1).toNat : Int)) w := fun w => by
    rw [run_index_string w _ _ _ _ Tryz.underlying9, dif_pos (by omega)]
    rfl
  have e1 : (r == 65533) = false := by simpa using h1
  have e2 : decide (r < 128) = false := by simp; omega
  have HS := Lib.hid hs
  have hfar := fun i => indexByte_far _ hlast (s.extract (i + 1) s.size).data.toList (hs.piece _ _)
  have hat := fun i (hi : i < s.size) => hs.at i hi
  have HF := Lib.hid hfar
  have HA := Lib.hid hat
  clear hs hfar hat h1
  go_enter Tryz.func121, Tryz.ntmps121
  go_wp2_with (go_at_call 128; refine (Tryz.utf8_ValidRune _ _).mono ?_; rintro e w' ⟨rfl, rfl⟩; rw [hv])
  go_wp2
  go_step3
  go_wp2
  go_loop [9] (fun v => v = int ((n : Int) + 1)) (fun _ => 0)
  case atStart => rfl
  case round =>
    obtain rfl := hrel
    by_cases hi : n + 1 < s.size
    · have t1 : decide ((n : Int) + 1 < s.size) = true := by simp; omega
      have t2 := HA.out _ hi
      have t3 : (((s[n + 1]'hi).toNat : Int) != ((Utf8.encode r)[n + 1]'hn1).toNat) = true := by simp only [bne_iff_ne, ne_eq]; omega
      have i1 : ∀ w, (Instr.index 9 (.string s) (.int .i64 ((n : Int) + 1))).run Tryz.prog w = .ok (.int .u8 ((s[n + 1]'hi).toNat : Int)) w := fun w => by
        rw [run_index_string w _ _ _ _ Tryz.underlying9, dif_pos (by omega)]
        rfl
      have i3 : ∀ w, (Instr.slice 9 (.string s) (some (.int .i64 ((n : Int) + 2))) none none).run Tryz.prog w = .ok (.string (s.extract (n + 2) s.size)) w := fun w => by
        rw [run_slice_string_l w 9 s Tryz.underlying9 .i64 _ (by omega) (by omega)]
        rfl
      have t4 : Lib.indexByte (s.extract (n + 2) s.size).data.toList ((((Utf8.encode r)[n + 1]'hn1).toNat : Int)).toNat.toUInt8 = -1 := by
        have := HF.out (n + 1)
        simpa using this
      have hc : ∀ w, Calls Tryz.prog 127 #[.string (s.extract (n + 2) s.size), .int .u8 (((Utf8.encode r)[n + 1]'hn1).toNat : Int)] w fun e w' => e = .returned (.int .i64 (-1)) ∧ w' = w := fun w => by
        have := Tryz.strings_IndexByte (s.extract (n + 2) s.size) (((Utf8.encode r)[n + 1]'hn1).toNat : Int) w
        rw [t4] at this
        exact this
      clear t4
      go_wp2
      go_step3
      go_wp2
      go_quiet (fail)
      go_wp2
      have hb : Below w'.heap.size w' (w'.drewN nq) := ⟨rfl, rfl, rfl, Nat.le_refl _, fun _ _ => rfl⟩
      have HB := Lib.hid hb
      clear hb
      generalize w'.drewN nq = w2 at *
      go_quiet ((go_at_call 127; exact Calls.quiet_of_same (hc _)))
      go_wp2
      simp +zetaDelta only [Exit.noGoto, Exit.inBlock, Exit.then]
      go_ret
      exact ⟨rfl, HB.out.trans ⟨rfl, rfl, rfl, Nat.le_refl _, fun _ _ => rfl⟩⟩
    · have t1 : decide ((n : Int) + 1 < s.size) = false := by simp; omega
      go_wp2
      go_ret
      exact ⟨rfl, Below.refl _ _⟩

set_option maxRecDepth 100000 in
set_option maxHeartbeats 2000000 in
theorem idxRune_err (s : ByteArray) (w : World) (hs : Asc s) :
    Calls Tryz.prog 121 #[.string s, .int .i32 65533] w fun e w' => e = .returned (.int .i64 (-1)) ∧ Below w.heap.size w w' := by
  have HA := Lib.hid (fun i (hi : i < s.size) => hs.at i hi)
  have hbel : ∀ pos, Below w.heap.size w (w.iter s pos) := fun pos => (Below.refl _ _).alloc (Nat.le_refl _) _
  have HB := Lib.hid hbel
  clear hs hbel
  go_enter Tryz.func121, Tryz.ntmps121
  go_wp2
  go_loopg [5, 6] s.size (fun g _ _ wx => ∃ i : Nat, i + g = s.size ∧ wx = w.iter s i)
  case atStart => exact ⟨0, by omega, rfl⟩
  case round =>
    obtain ⟨i, hig, rfl⟩ := hrel
    cases gk with
    | zero =>
      obtain rfl : i = s.size := by omega
      have hnx := run_next_end (P := Tryz.prog) w s s.size
      go_wp2
      go_ret
      exact ⟨rfl, HB.out _⟩
    | succ g =>
      have hi : i < s.size := by omega
      obtain ⟨x, hx⟩ : ∃ x : UInt8, s[i]'hi = x := ⟨_, rfl⟩
      have hx128 : x.toNat < 128 := hx ▸ HA.out i hi
      have hnx := fun ty => run_next_ascii (P := Tryz.prog) w s i ty hi (by rw [hx]; exact hx128)
      rw [hx] at hnx
      have e1 : ((x.toNat : Int) == 65533) = false := by simp; omega
      clear hx
      go_wp2
      go_roundg g
      case measure => omega
      case rel => exact ⟨i + 1, by omega, rfl⟩
theorem idxRune_any (s : ByteArray) (r : Int) (w : World) (hs : Asc s) (hz : s.size ≤ 1000) (h0 : 128 ≤ r) (hv : r = 65533 ∨ Lib.validRune r = true) :
    Calls Tryz.prog 121 #[.string s, .int .i32 r] w fun e w' => e = .returned (.int .i64 (-1)) ∧ Below w.heap.size w w' := by
  by_cases h : r = 65533
  · subst h; exact idxRune_err s w hs
  · exact idxRune_far s r w hs hz h0 h (hv.resolve_left h)

/-- a far sign: what the text's place tells -/
def Far (s : ByteArray) (i : Nat) : Prop := ∃ c d : Nat, Utf8.decode s i = (c, d) ∧ 128 ≤ c ∧ (c = 65533 ∨ Lib.validRune c = true) ∧ 1 ≤ d ∧ i + d ≤ s.size ∧ ∀ j (_ : j < d) (hj : i + j < s.size), 128 ≤ (s[i + j]'hj).toNat
theorem get_at (s : ByteArray) (k : Nat) (h : k < s.size) : s.get! k = s[k]'h := by
  simp [ByteArray.get!, getElem!_pos, h]
  rfl
theorem far_of (s : ByteArray) (i : Nat) (hi : i < s.size) (h : 128 ≤ (s[i]'hi).toNat) : Far s i := by
  have hone : ∀ j (_ : j < 1) (hj : i + j < s.size), 128 ≤ (s[i + j]'hj).toNat := fun j h1 hj => by
    obtain rfl : j = 0 := by omega
    exact h
  have herr : Utf8.decode s i = (Utf8.runeError, 1) → Far s i := fun e => ⟨65533, 1, e, by decide, .inl rfl, by decide, by omega, hone⟩
  have hc (k : Nat) (hk : (decide (i + k < s.size) && ((s.get! (i + k)).toNat / 64 == 2)) = true) : ∃ hj : i + k < s.size, 128 ≤ (s[i + k]'hj).toNat := by
    simp only [Bool.and_eq_true, decide_eq_true_eq, beq_iff_eq] at hk
    refine ⟨hk.1, ?_⟩
    rw [get_at s _ hk.1] at hk
    omega
  have hv (c : Nat) (h : Utf8.valid (c : Int) = true) : Lib.validRune c = true := by
    rw [validRune_eq] at h
    simpa [Lib.validRune, validRune] using h
  have e0 : s.get! (i + 0) = s[i]'hi := get_at s i hi
  have hd : Utf8.decode s i = Utf8.decode s i := rfl
  conv at hd => rhs; unfold Utf8.decode
  simp only [e0] at hd
  rw [if_neg (by omega)] at hd
  split at hd
  · rename_i hcd
    simp only [Bool.and_eq_true] at hcd
    obtain ⟨j1, h1⟩ := hc 1 (by simpa using hcd.2)
    split at hd
    · rename_i hge
      refine ⟨_, _, hd, hge, .inr (hv _ ?_), by decide, by omega, fun j hj hjs => ?_⟩
      · rw [validRune_eq]; unfold validRune; rw [decide_eq_true_eq]; omega
      · match j, hj with
        | 0, _ => exact h
        | 1, _ => exact h1
    · exact herr hd
  · split at hd
    · rename_i hcd
      simp only [Bool.and_eq_true] at hcd
      obtain ⟨j1, h1⟩ := hc 1 (by simpa using hcd.1.2)
      obtain ⟨j2, h2⟩ := hc 2 (by simpa using hcd.2)
      split at hd
      · rename_i hge
        simp only [Bool.and_eq_true, decide_eq_true_eq] at hge
        refine ⟨_, _, hd, by omega, .inr (hv _ hge.2), by decide, by omega, fun j hj hjs => ?_⟩
        match j, hj with
        | 0, _ => exact h
        | 1, _ => exact h1
        | 2, _ => exact h2
      · exact herr hd
    · split at hd
      · rename_i hcd
        simp only [Bool.and_eq_true] at hcd
        obtain ⟨j1, h1⟩ := hc 1 (by simpa using hcd.1.1.2)
        obtain ⟨j2, h2⟩ := hc 2 (by simpa using hcd.1.2)
        obtain ⟨j3, h3⟩ := hc 3 (by simpa using hcd.2)
        split at hd
        · rename_i hge
          simp only [Bool.and_eq_true, decide_eq_true_eq] at hge
          refine ⟨_, _, hd, by omega, .inr (hv _ hge.2), by decide, by omega, fun j hj hjs => ?_⟩
          match j, hj with
          | 0, _ => exact h
          | 1, _ => exact h1
          | 2, _ => exact h2
          | 3, _ => exact h3
        · exact herr hd
      · exact herr hd
theorem run_next_in (wx : World) (k : Nat) (s : ByteArray) (pos : Nat) (hk : wx.heap[k]? = some (.stringIter s pos)) (h : pos < s.size) :
    ∃ wy, (∀ ty, (Instr.next (.pointer (some ⟨k, 0, none⟩)) true ty).run Tryz.prog wx = .ok (.tuple #[.bool true, .int .i64 pos, .int .i32 ((Utf8.decode s pos).1 : Int)]) wy) ∧ wy.heap[k]? = some (.stringIter s (pos + (Utf8.decode s pos).2)) ∧ Below k wx wy := by
  have hlt : k < wx.heap.size := by
    rcases Nat.lt_or_ge k wx.heap.size with h | h
    · exact h
    · rw [Array.getElem?_eq_none h] at hk; cases hk
  refine ⟨{ wx with heap := wx.heap.setIfInBounds k (.stringIter s (pos + (Utf8.decode s pos).2)) }, fun ty => ?_, by simp [hlt], ⟨rfl, rfl, rfl, by simp, fun j hj => ?_⟩⟩
  · simp only [Instr.next, getObj, setObj, Sem.run_bind, Sem.run, hk, Result.andThen, h, if_true]
    simp [goInt, Sem.run, hk]
  · rw [Array.getElem?_setIfInBounds_ne (by omega)]
theorem run_next_out (wx : World) (k : Nat) (s : ByteArray) (hk : wx.heap[k]? = some (.stringIter s s.size)) (ty : TypeId) :
    (Instr.next (.pointer (some ⟨k, 0, none⟩)) true ty).run Tryz.prog wx = .ok (.tuple #[.bool false]) wx := by
  simp [Instr.next, getObj, Sem.run, hk]

theorem NoAny_far {s chars : ByteArray} (hc : Asc chars) {i d : Nat} (h : Lib.NoAny s.data.toList chars.data.toList i) (hf : ∀ j (_ : j < d) (hj : i + j < s.size), 128 ≤ (s[i + j]'hj).toNat) : Lib.NoAny s.data.toList chars.data.toList (i + d) := by
  intro j b hj hb
  rcases Nat.lt_or_ge j i with hlt | hge
  · exact h j b hlt hb
  · obtain ⟨m, rfl⟩ : ∃ m, j = i + m := ⟨j - i, by omega⟩
    have hjs : i + m < s.size := by
      rw [Lib.size_eq]
      exact (List.getElem?_eq_some_iff.1 hb).1
    have h1 := hf m (by omega) hjs
    have h2 := Lib.data_getElem? s (i + m) hjs
    rw [hb] at h2
    injection h2 with h2
    rw [← h2] at h1
    simp only [List.contains_eq_mem, decide_eq_false_iff_not]
    intro hm
    have := hc b hm
    omega

set_option maxHeartbeats 8000000 in
set_option maxRecDepth 1000000 in
theorem indexAny_short (s chars : ByteArray) (w : World) (h2 : 2 ≤ chars.size) (hz : chars.size ≤ 1000) (h8 : s.size ≤ 8) (hc : Asc chars) :
    Calls Tryz.prog 115 #[.string s, .string chars] w fun e w' => e = .returned (.int .i64 (Lib.indexAny s.data.toList chars.data.toList)) ∧ Below w.heap.size w w' := by
  have HC := Lib.hid hc
  have HF := Lib.hid (fun i (hi : i < s.size) h => far_of s i hi h)
  have hemp : chars.toList.isEmpty = false := by
    rw [Lib.toList_data]
    cases h : chars.data.toList with
    | nil => have := Lib.size_eq chars; rw [h, List.length_nil] at this; omega
    | cons _ _ => rfl
  have hn1 : ((chars.size : Int) == 1) = false := beq_eq_false_iff_ne.2 (by omega)
  have h8z : decide ((8 : Int) < (s.size : Int)) = false := decide_eq_false (by omega)
  clear hc
  go_enter Tryz.func115, Tryz.ntmps115
  go_wp2_with (go_at_call 122; refine (Tryz.strings_shouldUseASCIISet _ _).mono ?_; rintro e w' ⟨rfl, hw⟩; rw [hw, h8z])
  go_loopg [9, 10] s.size (fun g _ _ wx => ∃ i : Nat, i + g = s.size ∧ wx.heap[w.heap.size]? = some (.stringIter s i) ∧ Below w.heap.size w wx ∧ Lib.NoAny s.data.toList chars.data.toList i)
  case atStart => exact ⟨0, by omega, World.iter_heap _ _ _, (Below.refl _ _).alloc (Nat.le_refl _) _, Lib.NoAny.zero _ _⟩
  case round =>
    obtain ⟨i, hig, hit, hB, hno⟩ := hrel
    have HN := Lib.hid hno
    have HB := Lib.hid hB
    clear hno hB
    cases gk with
    | zero =>
      obtain rfl : i = s.size := by omega
      have hnx := run_next_out wr w.heap.size s hit
      go_wp2
      go_ret
      exact ⟨by rw [Lib.indexAny_none (by rw [← Lib.size_eq]; exact HN.out)]; rfl, HB.out⟩
    | succ g =>
      have hi : i < s.size := by omega
      obtain ⟨wy, hnx, hity, hby⟩ := run_next_in wr w.heap.size s i hit hi
      have HY := Lib.hid (HB.out.trans hby)
      have HI := Lib.hid hity
      have hlt : w.heap.size < wy.heap.size := by
        rcases Nat.lt_or_ge w.heap.size wy.heap.size with h | h
        · exact h
        · rw [Array.getElem?_eq_none h] at hity; cases hity
      clear hity hby hit
      obtain ⟨x, hx⟩ : ∃ x : UInt8, s[i]'hi = x := ⟨_, rfl⟩
      have hxl : s.data.toList[i]? = some x := by rw [← hx]; exact Lib.data_getElem? s i hi
      have Hx := Lib.hid hxl
      clear hxl
      by_cases hx128 : x.toNat < 128
      · have hdec := decode_ascii s i hi (by rw [hx]; exact hx128)
        rw [hdec, hx] at hnx
        have HD := Lib.hid hdec
        have hcon := Lib.contains_iff_indexByte chars.data.toList x
        have hback : ((x.toNat : Int)).toNat.toUInt8 = x := by simp
        clear hdec hx
        cases hin : chars.data.toList.contains x
        · rw [hin] at hcon
          have hltz : ¬ ((0 : Int) ≤ Lib.indexByte chars.data.toList x) := of_decide_eq_false hcon.symm
          clear hcon
          go_wp2_with (go_at_call 121; refine (Tryz.strings_IndexRune_ascii _ _ _ (by omega) (by omega)).mono ?_; rintro e w' ⟨rfl, hw⟩; rw [hw, hback])
          go_roundg g
          case measure => omega
          case rel => exact ⟨i + 1, by omega, by have := HI.out; rw [HD.out] at this; exact this, HY.out, HN.out.succ Hx.out hin⟩
        · rw [hin] at hcon
          have hge : (0 : Int) ≤ Lib.indexByte chars.data.toList x := of_decide_eq_true hcon.symm
          clear hcon
          go_wp2_with (go_at_call 121; refine (Tryz.strings_IndexRune_ascii _ _ _ (by omega) (by omega)).mono ?_; rintro e w' ⟨rfl, hw⟩; rw [hw, hback])
          go_ret
          exact ⟨by rw [Lib.indexAny_hit HN.out Hx.out hin]; rfl, HY.out⟩
      · obtain ⟨c, d, hdec, hc1, hc2, hd1, hd2, hf⟩ := HF.out i hi (by rw [hx]; omega)
        rw [hdec] at hnx
        have HD := Lib.hid hdec
        have Hf := Lib.hid hf
        clear hdec hx hf
        obtain ⟨g', hg'⟩ : ∃ g', g + 1 = g' + d := ⟨g + 1 - d, by omega⟩
        have hr := fun wz => idxRune_any chars (c : Int) wz HC.out hz (by omega) (hc2.imp (by omega) id)
        clear hc2
        go_wp2_with (go_at_call 121; refine (hr _).mono ?_; rintro e w3 ⟨rfl, hb3⟩)
        have hb4 := hb3.mono (Nat.le_of_lt hlt)
        have HB4 := Lib.hid hb4
        have hi3 := hb3.block _ hlt
        have HI3 := Lib.hid hi3
        clear hb3 hb4 hi3
        go_roundg g'
        case measure => omega
        case rel => exact ⟨i + d, by omega, by rw [HI3.out, HI.out, HD.out], HY.out.trans HB4.out, NoAny_far HC.out HN.out Hf.out⟩

theorem indexAny_any (s chars : ByteArray) (w : World) (h2 : 2 ≤ chars.size) (hz : chars.size ≤ 1000) (hs : s.size ≤ 1000000) (hc : Asc chars) :
    Calls Tryz.prog 115 #[.string s, .string chars] w fun e w' => e = .returned (.int .i64 (Lib.indexAny s.data.toList chars.data.toList)) ∧ Below w.heap.size w w' := by
  by_cases h8 : s.size ≤ 8
  · exact indexAny_short s chars w h2 hz h8 hc
  · refine (Tryz.strings_IndexAny_long (zero_of_info (n := 256) (by kernel_rfl)).1 s chars w h2 (by omega) (by omega) (by omega) (fun j b hb => hc b (List.mem_of_getElem? hb))).mono fun e w' ⟨h1, h2⟩ => ⟨h1, ?_⟩
    rw [h2]
    exact ((Below.refl _ _).alloc (Nat.le_refl _) _).alloc (by simp) _

set_option maxRecDepth 100000 in
theorem containsAny_any (s chars : ByteArray) (w : World) (h2 : 2 ≤ chars.size) (hz : chars.size ≤ 1000) (hs : s.size ≤ 1000000) (hc : Asc chars) :
    Calls Tryz.prog 104 #[.string s, .string chars] w fun e w' => e = .returned (.bool (Lib.containsAny s.data.toList chars.data.toList)) ∧ Below w.heap.size w w' := by
  have c := indexAny_any s chars w h2 hz hs hc
  clear hc
  go_enter Tryz.func104, Tryz.ntmps104
  go_wp2_with (go_at_call 115; refine c.mono ?_; rintro e w' ⟨rfl, hw⟩)
  go_ret
  exact ⟨rfl, hw⟩
end Go.Proofs.YtgdmaikjaopddaaGreatDoor
