/- Names of elements: what package names says of them. -/
import Derived.Test.YtehjhigaebpfkaaDoorDom0
import Derived.Test.YtehjhigaebpfkaaDoorShelf
import Derived.Lib.LaidTab
import Derived.Lib.SlicesS
import Derived.Lib.ConvBytes
namespace Go.Proofs.YtehjhigaebpfkaaDoor
open Go.RowKit

/-- what the table of white space holds, in whatever world the law was called -/
def Laid (W : World) : Prop := Lib.TabIs Tryd.prog W "strings.asciiSpace" .u8 Lib.asciiSpaceTab
theorem Laid.below {W w : World} (h : Laid W) (hb : Below W.heap.size W w) : Laid w := by
  unfold Laid Lib.TabIs World.var? at *
  cases hg : Tryd.prog.globalNamed "strings.asciiSpace" with
  | none => simp [hg] at h
  | some g =>
    simp only [hg, Option.bind_some] at h ⊢
    have hlt : g < W.heap.size := by
      rcases Nat.lt_or_ge g W.heap.size with hl | hl
      · exact hl
      · simp [Array.getElem?_eq_none hl] at h
    rw [hb.block g hlt]; exact h

def letterB (c : Int) : Bool := decide (97 ≤ c ∧ c ≤ 122)
/-- a byte that may not stand in a name -/
def oddB (c : Int) : Bool := !letterB c && (decide (c < 48) || decide (57 < c)) && c != 45 && c != 46 && c != 95

set_option maxRecDepth 100000 in
theorem letter_any (c : Int) (w : World) : Calls Tryd.prog 101 #[.int .u8 c] w fun e w' => e = .returned (.bool (letterB c)) ∧ w = w' := by
  by_cases h1 : 97 ≤ c
  · have t1 : decide (c ≥ 97) = true := by simpa using h1
    have t3 : letterB c = decide (c ≤ 122) := by simp [letterB, h1]
    have T3 := Lib.hid t3
    clear t3
    go_enter Tryd.func101, Tryd.ntmps101
    go_wp2
    go_ret
    exact ⟨by rw [T3.out]; rfl, rfl⟩
  · have t1 : decide (c ≥ 97) = false := by simpa using h1
    have t3 : letterB c = false := by simp [letterB, h1]
    have T3 := Lib.hid t3
    clear t3
    go_enter Tryd.func101, Tryd.ntmps101
    go_wp2
    go_ret
    exact ⟨by rw [T3.out]; rfl, rfl⟩

set_option maxRecDepth 100000 in
theorem odd_0 (c : Int) (w : World) (h1 : letterB c = true) : Calls Tryd.prog 102 #[.int .u8 c] w fun e w' => e = .returned (.bool false) ∧ w = w' := by
  go_enter Tryd.func102, Tryd.ntmps102
  go_wp2_with (go_at_call 101; refine (letter_any _ _).mono ?_; rintro e w' ⟨rfl, rfl⟩)
  go_ret
  exact ⟨rfl, rfl⟩
set_option maxRecDepth 100000 in
theorem odd_1 (c : Int) (w : World) (h1 : letterB c = false) (h2 : decide (c < 48) = false) (h3 : decide (c > 57) = false) : Calls Tryd.prog 102 #[.int .u8 c] w fun e w' => e = .returned (.bool false) ∧ w = w' := by
  go_enter Tryd.func102, Tryd.ntmps102
  go_wp2_with (go_at_call 101; refine (letter_any _ _).mono ?_; rintro e w' ⟨rfl, rfl⟩)
  go_ret
  exact ⟨rfl, rfl⟩
set_option maxRecDepth 100000 in
theorem odd_2 (c : Int) (w : World) (h1 : letterB c = false) (h2 : decide (c < 48) = true) (h4 : (c != 45) = false) : Calls Tryd.prog 102 #[.int .u8 c] w fun e w' => e = .returned (.bool false) ∧ w = w' := by
  go_enter Tryd.func102, Tryd.ntmps102
  go_wp2_with (go_at_call 101; refine (letter_any _ _).mono ?_; rintro e w' ⟨rfl, rfl⟩)
  go_ret
  exact ⟨rfl, rfl⟩
set_option maxRecDepth 100000 in
theorem odd_3 (c : Int) (w : World) (h1 : letterB c = false) (h2 : decide (c < 48) = true) (h4 : (c != 45) = true) (h5 : (c != 46) = false) : Calls Tryd.prog 102 #[.int .u8 c] w fun e w' => e = .returned (.bool false) ∧ w = w' := by
  go_enter Tryd.func102, Tryd.ntmps102
  go_wp2_with (go_at_call 101; refine (letter_any _ _).mono ?_; rintro e w' ⟨rfl, rfl⟩)
  go_ret
  exact ⟨rfl, rfl⟩
set_option maxRecDepth 100000 in
theorem odd_4 (c : Int) (w : World) (h1 : letterB c = false) (h2 : decide (c < 48) = true) (h4 : (c != 45) = true) (h5 : (c != 46) = true) (h6 : (c != 95) = false) : Calls Tryd.prog 102 #[.int .u8 c] w fun e w' => e = .returned (.bool false) ∧ w = w' := by
  go_enter Tryd.func102, Tryd.ntmps102
  go_wp2_with (go_at_call 101; refine (letter_any _ _).mono ?_; rintro e w' ⟨rfl, rfl⟩)
  go_ret
  exact ⟨rfl, rfl⟩
set_option maxRecDepth 100000 in
theorem odd_5 (c : Int) (w : World) (h1 : letterB c = false) (h2 : decide (c < 48) = true) (h4 : (c != 45) = true) (h5 : (c != 46) = true) (h6 : (c != 95) = true) : Calls Tryd.prog 102 #[.int .u8 c] w fun e w' => e = .returned (.bool true) ∧ w = w' := by
  go_enter Tryd.func102, Tryd.ntmps102
  go_wp2_with (go_at_call 101; refine (letter_any _ _).mono ?_; rintro e w' ⟨rfl, rfl⟩)
  go_ret
  exact ⟨rfl, rfl⟩
set_option maxRecDepth 100000 in
theorem odd_6 (c : Int) (w : World) (h1 : letterB c = false) (h2 : decide (c < 48) = false) (h3 : decide (c > 57) = true) (h4 : (c != 45) = false) : Calls Tryd.prog 102 #[.int .u8 c] w fun e w' => e = .returned (.bool false) ∧ w = w' := by
  go_enter Tryd.func102, Tryd.ntmps102
  go_wp2_with (go_at_call 101; refine (letter_any _ _).mono ?_; rintro e w' ⟨rfl, rfl⟩)
  go_ret
  exact ⟨rfl, rfl⟩
set_option maxRecDepth 100000 in
theorem odd_7 (c : Int) (w : World) (h1 : letterB c = false) (h2 : decide (c < 48) = false) (h3 : decide (c > 57) = true) (h4 : (c != 45) = true) (h5 : (c != 46) = false) : Calls Tryd.prog 102 #[.int .u8 c] w fun e w' => e = .returned (.bool false) ∧ w = w' := by
  go_enter Tryd.func102, Tryd.ntmps102
  go_wp2_with (go_at_call 101; refine (letter_any _ _).mono ?_; rintro e w' ⟨rfl, rfl⟩)
  go_ret
  exact ⟨rfl, rfl⟩
set_option maxRecDepth 100000 in
theorem odd_8 (c : Int) (w : World) (h1 : letterB c = false) (h2 : decide (c < 48) = false) (h3 : decide (c > 57) = true) (h4 : (c != 45) = true) (h5 : (c != 46) = true) (h6 : (c != 95) = false) : Calls Tryd.prog 102 #[.int .u8 c] w fun e w' => e = .returned (.bool false) ∧ w = w' := by
  go_enter Tryd.func102, Tryd.ntmps102
  go_wp2_with (go_at_call 101; refine (letter_any _ _).mono ?_; rintro e w' ⟨rfl, rfl⟩)
  go_ret
  exact ⟨rfl, rfl⟩
set_option maxRecDepth 100000 in
theorem odd_9 (c : Int) (w : World) (h1 : letterB c = false) (h2 : decide (c < 48) = false) (h3 : decide (c > 57) = true) (h4 : (c != 45) = true) (h5 : (c != 46) = true) (h6 : (c != 95) = true) : Calls Tryd.prog 102 #[.int .u8 c] w fun e w' => e = .returned (.bool true) ∧ w = w' := by
  go_enter Tryd.func102, Tryd.ntmps102
  go_wp2_with (go_at_call 101; refine (letter_any _ _).mono ?_; rintro e w' ⟨rfl, rfl⟩)
  go_ret
  exact ⟨rfl, rfl⟩
theorem odd_any (c : Int) (w : World) : Calls Tryd.prog 102 #[.int .u8 c] w fun e w' => e = .returned (.bool (oddB c)) ∧ w = w' := by
  cases h1 : letterB c
  · cases h2 : decide (c < 48)
    · cases h3 : decide (c > 57)
      · exact (odd_1 c w h1 h2 h3).mono fun e w' ⟨he, hw⟩ => ⟨he.trans (by unfold oddB; simp_all <;> omega), hw⟩
      · cases h4 : (c != 45)
        · exact (odd_6 c w h1 h2 h3 h4).mono fun e w' ⟨he, hw⟩ => ⟨he.trans (by unfold oddB; simp_all <;> omega), hw⟩
        · cases h5 : (c != 46)
          · exact (odd_7 c w h1 h2 h3 h4 h5).mono fun e w' ⟨he, hw⟩ => ⟨he.trans (by unfold oddB; simp_all <;> omega), hw⟩
          · cases h6 : (c != 95)
            · exact (odd_8 c w h1 h2 h3 h4 h5 h6).mono fun e w' ⟨he, hw⟩ => ⟨he.trans (by unfold oddB; simp_all <;> omega), hw⟩
            · exact (odd_9 c w h1 h2 h3 h4 h5 h6).mono fun e w' ⟨he, hw⟩ => ⟨he.trans (by unfold oddB; simp_all <;> omega), hw⟩
    · cases h4 : (c != 45)
      · exact (odd_2 c w h1 h2 h4).mono fun e w' ⟨he, hw⟩ => ⟨he.trans (by unfold oddB; simp_all <;> omega), hw⟩
      · cases h5 : (c != 46)
        · exact (odd_3 c w h1 h2 h4 h5).mono fun e w' ⟨he, hw⟩ => ⟨he.trans (by unfold oddB; simp_all <;> omega), hw⟩
        · cases h6 : (c != 95)
          · exact (odd_4 c w h1 h2 h4 h5 h6).mono fun e w' ⟨he, hw⟩ => ⟨he.trans (by unfold oddB; simp_all <;> omega), hw⟩
          · exact (odd_5 c w h1 h2 h4 h5 h6).mono fun e w' ⟨he, hw⟩ => ⟨he.trans (by unfold oddB; simp_all <;> omega), hw⟩
  · exact (odd_0 c w h1).mono fun e w' ⟨he, hw⟩ => ⟨he.trans (by unfold oddB; simp_all <;> omega), hw⟩

/-- does one of the first k answer yes -/
theorem any_snoc {l : List Int} {k : Nat} (h : k < l.length) (f : Int → Bool) : (l.take (k + 1)).any f = ((l.take k).any f || f l[k]) := by
  rw [List.take_succ_eq_append_getElem h, List.any_append]
  simp only [List.any_cons, List.any_nil, Bool.or_false]

set_option maxRecDepth 100000 in
theorem idxBytes (b c : Nat) (zs : List Int) (w : World) (hc : ∀ j (h : j < zs.length), w.cell? ⟨b, j, none⟩ = some (.int .u8 zs[j])) (hn : zs.length ≤ 1000000) :
    Calls Tryd.prog 111 #[.slice (some ⟨b, 0, none⟩) zs.length c, .func (.func 102) #[] #[]] w fun e w' => (∃ r : Int, e = .returned (int r) ∧ decide (r ≥ 0) = zs.any oddB) ∧ w = w' := by
  have HC := Lib.hid hc
  clear hc
  go_enter Tryd.func111, Tryd.ntmps111
  go_wp2
  go_loop [8] (fun i => ∃ k : Nat, k ≤ zs.length ∧ i = .int .i64 k ∧ (zs.take k).any oddB = false) (fun i => zs.length - (intOf i).toNat)
  case atStart => exact ⟨0, Nat.zero_le _, rfl, rfl⟩
  case round =>
    obtain ⟨k, hk, rfl, hno⟩ := hrel
    have HN := Lib.hid hno
    clear hno
    by_cases hlt : k < zs.length
    · have ck := HC.out k hlt
      cases ho : oddB zs[k]
      · have HO := Lib.hid ho
        clear ho
        go_wp2_with (go_at_call 102; refine (odd_any _ _).mono ?_; rintro e w' ⟨rfl, rfl⟩; rw [HO.out])
        go_round
        case rel => exact ⟨k + 1, by omega, by go_num, by rw [any_snoc hlt, HN.out, HO.out]; rfl⟩
        case measure => simp [intOf]; omega
      · have HO := Lib.hid ho
        clear ho
        go_wp2_with (go_at_call 102; refine (odd_any _ _).mono ?_; rintro e w' ⟨rfl, rfl⟩; rw [HO.out])
        go_ret
        refine ⟨⟨k, rfl, ?_⟩, rfl⟩
        have h1 : zs.any oddB = true := by
          rw [List.any_eq_true]
          exact ⟨zs[k], by simp, HO.out⟩
        rw [h1]; simp
    · have : k = zs.length := by omega
      subst this
      go_wp2
      go_ret
      refine ⟨⟨-1, rfl, ?_⟩, rfl⟩
      have := HN.out
      rw [List.take_length] at this
      rw [this]; rfl

set_option maxRecDepth 100000 in
theorem containsBytes (b c n : Nat) (zs : List Int) (w : World) (hz : zs.length = n) (hc : ∀ j (h : j < zs.length), w.cell? ⟨b, j, none⟩ = some (.int .u8 zs[j])) (hn : zs.length ≤ 1000000) :
    Calls Tryd.prog 103 #[.slice (some ⟨b, 0, none⟩) n c, .func (.func 102) #[] #[]] w fun e w' => e = .returned (.bool (zs.any oddB)) ∧ w = w' := by
  subst hz
  have HC := Lib.hid hc
  clear hc
  go_enter Tryd.func103, Tryd.ntmps103
  go_wp2_with fail
  refine (idxBytes b c zs w HC.out hn).mono ?_
  rintro e w' ⟨⟨r, rfl, hr⟩, rfl⟩
  have HR := Lib.hid hr
  clear hr
  go_wp2
  go_ret
  exact ⟨by rw [← HR.out]; rfl, rfl⟩

def bytesOf (s : ByteArray) : List Int := s.data.toList.map fun b => (b.toNat : Int)
/-- may a name be an element's -/
def validB (s : ByteArray) : Bool := !s.toList.isEmpty && !decide ((60 : Int) < (s.size : Int)) && (match bytesOf s with | [] => false | c :: _ => letterB c) && !(bytesOf s).any oddB
theorem toList_data (s : ByteArray) : s.toList = s.data.toList := ByteArray.toList_eq s
theorem bytesOf_head (s : ByteArray) (h : 0 < s.size) : ∃ t, bytesOf s = (s[0].toNat : Int) :: t := by
  have : s.data.toList ≠ [] := by
    intro e
    have := congrArg List.length e
    simp at this
    rw [this] at h
    simp at h
  obtain ⟨c, t, hc⟩ := List.exists_cons_of_ne_nil this
  refine ⟨t.map fun b => (b.toNat : Int), ?_⟩
  have h0 : s[0] = c := by
    show s.data[0] = c
    have : s.data.toList[0]? = some c := by rw [hc]; rfl
    have h2 : s.data[0]? = some c := by simpa using this
    rw [Array.getElem?_eq_getElem (by simpa using h)] at h2
    exact Option.some.inj h2
  unfold bytesOf
  rw [hc, h0]; rfl
theorem below_bytes (w : World) (e : TypeId) (s : ByteArray) : Below w.heap.size w (Lib.bytesWorld w e s) :=
  ⟨by simp [Lib.bytesWorld, World.freeze]; rfl, by simp [Lib.bytesWorld, World.freeze], by simp [Lib.bytesWorld, World.freeze]; rfl, by rw [Lib.bytesWorld_size]; omega, fun k hk => Lib.bytesWorld_at_old w e s k hk⟩

set_option maxRecDepth 100000 in
theorem Valid_any (s : ByteArray) (w : World) (hs : s.size ≤ 1000000) : Calls Tryd.prog 89 #[.string s] w fun e w' => e = .returned (.bool (validB s)) ∧ Below w.heap.size w w' := by
  cases h1 : s.toList.isEmpty
  · have hpos : 0 < s.size := by
      rcases Nat.eq_zero_or_pos s.size with h0 | h0
      · exfalso
        rw [toList_data] at h1
        have : s.data.toList = [] := List.length_eq_zero_iff.1 (by simpa using h0)
        rw [this] at h1; simp at h1
      · exact h0
    obtain ⟨t, ht⟩ := bytesOf_head s hpos
    cases h2 : decide ((60 : Int) < (s.size : Int))
    · cases h3 : letterB (s[0].toNat : Int)
      · have hv : validB s = false := by simp [validB, ht, h3]
        have HV := Lib.hid hv
        have H3 := Lib.hid h3
        clear h3 ht hv
        go_enter Tryd.func89, Tryd.ntmps89
        go_wp2_with (go_at_call 101; refine (letter_any _ _).mono ?_; rintro e w' ⟨rfl, rfl⟩; rw [H3.out])
        go_ret
        exact ⟨by rw [HV.out]; rfl, Below.refl _ _⟩
      · have hv : validB s = !(bytesOf s).any oddB := by simp [validB, ht, h3, h1, h2]
        have HV := Lib.hid hv
        have H3 := Lib.hid h3
        have hcv := fun W : World => Lib.run_convert_string_bytes (P := Tryd.prog) W 9 50 5 s Tryd.underlying9 Tryd.underlying50 Tryd.underlying5
        clear h3 ht hv
        go_enter Tryd.func89, Tryd.ntmps89
        go_wp2_with (go_at_call 101; refine (letter_any _ _).mono ?_; rintro e w' ⟨rfl, rfl⟩; rw [H3.out])
        refine (containsBytes _ _ _ (bytesOf s) _ (by simp [bytesOf]) (fun j hj => ?_) (by simpa [bytesOf] using hs)).mono ?_
        · rw [Lib.bytesWorld_cell _ _ _ _ (by simpa [bytesOf] using hj)]
          have hj' : j < s.data.size := by simpa [bytesOf] using hj
          simp only [bytesOf, List.getD, List.getElem_map, Array.getElem?_toList, Array.getElem?_eq_getElem hj', Option.getD_some, Array.getElem_toList]
        rintro e w' ⟨rfl, rfl⟩
        go_wp2
        go_ret
        exact ⟨by rw [HV.out]; rfl, below_bytes _ _ _⟩
    · have hv : validB s = false := by simp [validB, h2]
      have HV := Lib.hid hv
      clear ht hv
      go_enter Tryd.func89, Tryd.ntmps89
      go_wp2
      go_ret
      exact ⟨by rw [HV.out]; rfl, Below.refl _ _⟩
  · have hv : validB s = false := by simp [validB, h1]
    have HV := Lib.hid hv
    clear hv
    go_enter Tryd.func89, Tryd.ntmps89
    go_wp2
    go_ret
    exact ⟨by rw [HV.out]; rfl, Below.refl _ _⟩

/-- is a name one of some, with blanks between them -/
def amongB (l name : ByteArray) : Bool := Lib.containsS ((Lib.fields l.data.toList).map fun x => ⟨x.toArray⟩) name

set_option maxRecDepth 100000 in
theorem among_any (l name : ByteArray) (w : World) (hT : Laid w) (hl : l.size < 4294967281) (ha : ∀ (j : Nat) b, l.data.toList[j]? = some b → b.toNat < 128) (hn : (Lib.fields l.data.toList).length ≤ 1000000) :
    Calls Tryd.prog 76 #[.string l, .string name] w fun e w' => e = .returned (.bool (amongB l name)) ∧ Below w.heap.size w w' := by
  have HT := Lib.hid hT
  have HA := Lib.hid ha
  clear hT ha
  go_enter Tryd.func76, Tryd.ntmps76
  go_wp2_with fail
  refine (Tryd.strings_Fields_laid l w hl HA.out HT.out).mono ?_
  rintro e w1 ⟨rfl, rfl⟩
  go_wp2_with fail
  refine (Tryd.slices_Contains_string _ 0 _ _ ((Lib.fields l.data.toList).map fun x => ⟨x.toArray⟩) name _ (by simp) (by omega) (fun j hj => ?_)).mono ?_
  · have hj' : j < (Lib.fields l.data.toList).length := by simpa using hj
    rw [Nat.zero_add, cell_of_row _ _ _ _ _ _ (heap_alloc_new w _)]
    simp [List.getD, List.getElem?_eq_getElem hj']
  rintro e w2 ⟨rfl, rfl⟩
  go_wp2
  go_ret
  refine ⟨?_, (Below.refl _ _).alloc (Nat.le_refl _) _⟩
  unfold amongB
  rw [List.take_of_length_le (by simp)]
  rfl

def voids : ByteArray := ⟨#[97, 114, 101, 97, 32, 98, 97, 115, 101, 32, 98, 114, 32, 99, 111, 108, 32, 101, 109, 98, 101, 100, 32, 104, 114, 32, 105, 109, 103, 32, 105, 110, 112, 117, 116, 32, 108, 105, 110, 107, 32, 109, 101, 116, 97, 32, 115, 111, 117, 114, 99, 101, 32, 116, 114, 97, 99, 107, 32, 119, 98, 114]⟩
def voidB (name : ByteArray) : Bool := amongB voids name

set_option maxRecDepth 100000 in
theorem Void_any (name : ByteArray) (w : World) (hT : Laid w) : Calls Tryd.prog 61 #[.string name] w fun e w' => e = .returned (.bool (voidB name)) ∧ Below w.heap.size w w' := by
  have HT := Lib.hid hT
  clear hT
  go_enter Tryd.func61, Tryd.ntmps61
  go_wp2_with fail
  refine (among_any voids name w HT.out (by decide) (fun j b hb => ?_) (by decide)).mono ?_
  · have : ∀ b ∈ voids.data.toList, b.toNat < 128 := by decide
    exact this b (List.mem_of_getElem? hb)
  rintro e w1 ⟨rfl, hb⟩
  have HB := Lib.hid hb
  clear hb
  go_wp2
  go_ret
  exact ⟨rfl, HB.out⟩
end Go.Proofs.YtehjhigaebpfkaaDoor
