/- Names of elements: what package names says of them. -/
import Derived.Test.YtgdmaikjaopddaaGreatDoorJ02
import Derived.Test.YtgdmaikjaopddaaGreatDoorJ03
import Derived.Lib.LaidTab
import Derived.Lib.SlicesS
import Derived.Lib.ConvBytes
namespace Go.Proofs.YtgdmaikjaopddaaGreatDoor
open Go.RowKit

/-- what the table of white space holds, in whatever world the law was called -/
def Laid (W : World) : Prop := Lib.TabIs Tryz.prog W "strings.asciiSpace" .u8 Lib.asciiSpaceTab
theorem Laid.below {W w : World} (h : Laid W) (hb : Below W.heap.size W w) : Laid w := by
  unfold Laid Lib.TabIs World.var? at *
  cases hg : Tryz.prog.globalNamed "strings.asciiSpace" with
  | none => simp [hg] at h
  | some g =>
    simp only [hg, Option.bind_some] at h ⊢
    have hlt : g < W.heap.size := by
      rcases Nat.lt_or_ge g W.heap.size with hl | hl
      · exact hl
      · simp [Array.getElem?_eq_none hl] at h
    rw [hb.block g hlt]; exact h

def letterB (c : Int) : Bool := decide (97 ≤ c ∧ c ≤ 122)
/-- a byte that may not stand in a name -/
def oddB (c : Int) : Bool := !letterB c && (decide (c < 48) || decide (57 < c)) && c != 45 && c != 46 && c != 95

set_option maxRecDepth 100000 in
theorem letter_any (c : Int) (w : World) : Calls Tryz.prog 108 #[.int .u8 c] w fun e w' => e = .returned (.bool (letterB c)) ∧ w = w' := by
  by_cases h1 : 97 ≤ c
  · have t1 : decide (c ≥ 97) = true := by simpa using h1
    have t3 : letterB c = decide (c ≤ 122) := by simp [letterB, h1]
    have T3 := Lib.hid t3
    clear t3
    go_enter Tryz.func108, Tryz.ntmps108
    go_wp2
    go_ret
    exact ⟨by rw [T3.out]; rfl, rfl⟩
  · have t1 : decide (c ≥ 97) = false := by simpa using h1
    have t3 : letterB c = false := by simp [letterB, h1]
    have T3 := Lib.hid t3
    clear t3
    go_enter Tryz.func108, Tryz.ntmps108
    go_wp2
    go_ret
    exact ⟨by rw [T3.out]; rfl, rfl⟩

set_option maxRecDepth 100000 in
theorem odd_0 (c : Int) (w : World) (h1 : letterB c = true) : Calls Tryz.prog 109 #[.int .u8 c] w fun e w' => e = .returned (.bool false) ∧ w = w' := by
  go_enter Tryz.func109, Tryz.ntmps109
  go_wp2_with (go_at_call 108; refine (letter_any _ _).mono ?_; rintro e w' ⟨rfl, rfl⟩)
  go_ret
  exact ⟨rfl, rfl⟩
set_option maxRecDepth 100000 in
theorem odd_1 (c : Int) (w : World) (h1 : letterB c = false) (h2 : decide (c < 48) = false) (h3 : decide (c > 57) = false) : Calls Tryz.prog 109 #[.int .u8 c] w fun e w' => e = .returned (.bool false) ∧ w = w' := by
  go_enter Tryz.func109, Tryz.ntmps109
  go_wp2_with (go_at_call 108; refine (letter_any _ _).mono ?_; rintro e w' ⟨rfl, rfl⟩)
  go_ret
  exact ⟨rfl, rfl⟩
set_option maxRecDepth 100000 in
theorem odd_2 (c : Int) (w : World) (h1 : letterB c = false) (h2 : decide (c < 48) = true) (h4 : (c != 45) = false) : Calls Tryz.prog 109 #[.int .u8 c] w fun e w' => e = .returned (.bool false) ∧ w = w' := by
  go_enter Tryz.func109, Tryz.ntmps109
  go_wp2_with (go_at_call 108; refine (letter_any _ _).mono ?_; rintro e w' ⟨rfl, rfl⟩)
  go_ret
  exact ⟨rfl, rfl⟩
set_option maxRecDepth 100000 in
theorem odd_3 (c : Int) (w : World) (h1 : letterB c = false) (h2 : decide (c < 48) = true) (h4 : (c != 45) = true) (h5 : (c != 46) = false) : Calls Tryz.prog 109 #[.int .u8 c] w fun e w' => e = .returned (.bool false) ∧ w = w' := by
  go_enter Tryz.func109, Tryz.ntmps109
  go_wp2_with (go_at_call 108; refine (letter_any _ _).mono ?_; rintro e w' ⟨rfl, rfl⟩)
  go_ret
  exact ⟨rfl, rfl⟩
set_option maxRecDepth 100000 in
theorem odd_4 (c : Int) (w : World) (h1 : letterB c = false) (h2 : decide (c < 48) = true) (h4 : (c != 45) = true) (h5 : (c != 46) = true) (h6 : (c != 95) = false) : Calls Tryz.prog 109 #[.int .u8 c] w fun e w' => e = .returned (.bool false) ∧ w = w' := by
  go_enter Tryz.func109, Tryz.ntmps109
  go_wp2_with (go_at_call 108; refine (letter_any _ _).mono ?_; rintro e w' ⟨rfl, rfl⟩)
  go_ret
  exact ⟨rfl, rfl⟩
set_option maxRecDepth 100000 in
theorem odd_5 (c : Int) (w : World) (h1 : letterB c = false) (h2 : decide (c < 48) = true) (h4 : (c != 45) = true) (h5 : (c != 46) = true) (h6 : (c != 95) = true) : Calls Tryz.prog 109 #[.int .u8 c] w fun e w' => e = .returned (.bool true) ∧ w = w' := by
  go_enter Tryz.func109, Tryz.ntmps109
  go_wp2_with (go_at_call 108; refine (letter_any _ _).mono ?_; rintro e w' ⟨rfl, rfl⟩)
  go_ret
  exact ⟨rfl, rfl⟩
set_option maxRecDepth 100000 in
theorem odd_6 (c : Int) (w : World) (h1 : letterB c = false) (h2 : decide (c < 48) = false) (h3 : decide (c > 57) = true) (h4 : (c != 45) = false) : Calls Tryz.prog 109 #[.int .u8 c] w fun e w' => e = .returned (.bool false) ∧ w = w' := by
  go_enter Tryz.func109, Tryz.ntmps109
  go_wp2_with (go_at_call 108; refine (letter_any _ _).mono ?_; rintro e w' ⟨rfl, rfl⟩)
  go_ret
  exact ⟨rfl, rfl⟩
set_option maxRecDepth 100000 in
theorem odd_7 (c : Int) (w : World) (h1 : letterB c = false) (h2 : decide (c < 48) = false) (h3 : decide (c > 57) = true) (h4 : (c != 45) = true) (h5 : (c != 46) = false) : Calls Tryz.prog 109 #[.int .u8 c] w fun e w' => e = .returned (.bool false) ∧ w = w' := by
  go_enter Tryz.func109, Tryz.ntmps109
  go_wp2_with (go_at_call 108; refine (letter_any _ _).mono ?_; rintro e w' ⟨rfl, rfl⟩)
  go_ret
  exact ⟨rfl, rfl⟩
set_option maxRecDepth 100000 in
theorem odd_8 (c : Int) (w : World) (h1 : letterB c = false) (h2 : decide (c < 48) = false) (h3 : decide (c > 57) = true) (h4 : (c != 45) = true) (h5 : (c != 46) = true) (h6 : (c != 95) = false) : Calls Tryz.prog 109 #[.int .u8 c] w fun e w' => e = .returned (.bool false) ∧ w = w' := by
  go_enter Tryz.func109, Tryz.ntmps109
  go_wp2_with (go_at_call 108; refine (letter_any _ _).mono ?_; rintro e w' ⟨rfl, rfl⟩)
  go_ret
  exact ⟨rfl, rfl⟩
set_option maxRecDepth 100000 in
theorem odd_9 (c : Int) (w : World) (h1 : letterB c = false) (h2 : decide (c < 48) = false) (h3 : decide (c > 57) = true) (h4 : (c != 45) = true) (h5 : (c != 46) = true) (h6 : (c != 95) = true) : Calls Tryz.prog 109 #[.int .u8 c] w fun e w' => e = .returned (.bool true) ∧ w = w' := by
  go_enter Tryz.func109, Tryz.ntmps109
  go_wp2_with (go_at_call 108; refine (letter_any _ _).mono ?_; rintro e w' ⟨rfl, rfl⟩)
  go_ret
  exact ⟨rfl, rfl⟩
theorem odd_any (c : Int) (w : World) : Calls Tryz.prog 109 #[.int .u8 c] w fun e w' => e = .returned (.bool (oddB c)) ∧ w = w' := by
  cases h1 : letterB c
  · cases h2 : decide (c < 48)
    · cases h3 : decide (c > 57)
      · exact (odd_1 c w h1 h2 h3).mono fun e w' ⟨he, hw⟩ => ⟨he.trans (by unfold oddB; simp_all <;> omega), hw⟩
      · cases h4 : (c != 45)
        · exact (odd_6 c w h1 h2 h3 h4).mono fun e w' ⟨he, hw⟩ => ⟨he.trans (by unfold oddB; simp_all <;> omega), hw⟩
        · cases h5 : (c != 46)
          · exact (odd_7 c w h1 h2 h3 h4 h5).mono fun e w' ⟨he, hw⟩ => ⟨he.trans (by unfold oddB; simp_all <;> omega), hw⟩
          · cases h6 : (c != 95)
            · exact (odd_8 c w h1 h2 h3 h4 h5 h6).mono fun e w' ⟨he, hw⟩ => ⟨he.trans (by unfold oddB; simp_all <;> omega), hw⟩
            · exact (odd_9 c w h1 h2 h3 h4 h5 h6).mono fun e w' ⟨he, hw⟩ => ⟨he.trans (by unfold oddB; simp_all <;> omega), hw⟩
    · cases h4 : (c != 45)
      · exact (odd_2 c w h1 h2 h4).mono fun e w' ⟨he, hw⟩ => ⟨he.trans (by unfold oddB; simp_all <;> omega), hw⟩
      · cases h5 : (c != 46)
        · exact (odd_3 c w h1 h2 h4 h5).mono fun e w' ⟨he, hw⟩ => ⟨he.trans (by unfold oddB; simp_all <;> omega), hw⟩
        · cases h6 : (c != 95)
          · exact (odd_4 c w h1 h2 h4 h5 h6).mono fun e w' ⟨he, hw⟩ => ⟨he.trans (by unfold oddB; simp_all <;> omega), hw⟩
          · exact (odd_5 c w h1 h2 h4 h5 h6).mono fun e w' ⟨he, hw⟩ => ⟨he.trans (by unfold oddB; simp_all <;> omega), hw⟩
  · exact (odd_0 c w h1).mono fun e w' ⟨he, hw⟩ => ⟨he.trans (by unfold oddB; simp_all <;> omega), hw⟩

/-- does one of the first k answer yes -/
theorem any_snoc {l : List Int} {k : Nat} (h : k < l.length) (f : Int → Bool) : (l.take (k + 1)).any f = ((l.take k).any f || f l[k]) := by
  rw [List.take_succ_eq_append_getElem h, List.any_append]
  simp only [List.any_cons, List.any_nil, Bool.or_false]

set_option maxRecDepth 100000 in
theorem idxBytes (b c : Nat) (zs : List Int) (w : World) (hc : ∀ j (h : j < zs.length), w.cell? ⟨b, j, none⟩ = some (.int .u8 zs[j])) (hn : zs.length ≤ 1000000) :
    Calls Tryz.prog 117 #[.slice (some ⟨b, 0, none⟩) zs.length c, .func (.func 109) #[] #[]] w fun e w' => (∃ r : Int, e = .returned (int r) ∧ decide (r ≥ 0) = zs.any oddB) ∧ w = w' := by
  have HC := Lib.hid hc
  clear hc
  go_enter Tryz.func117, Tryz.ntmps117
  go_wp2
  go_loop [8] (fun i => ∃ k : Nat, k ≤ zs.length ∧ i = .int .i64 k ∧ (zs.take k).any oddB = false) (fun i => zs.length - (intOf i).toNat)
  case atStart => exact ⟨0, Nat.zero_le _, rfl, rfl⟩
  case round =>
    obtain ⟨k, hk, rfl, hno⟩ := hrel
    have HN := Lib.hid hno
    clear hno
    by_cases hlt : k < zs.length
    · have ck := HC.out k hlt
      cases ho : oddB zs[k]
      · have HO := Lib.hid ho
        clear ho
        go_wp2_with (go_at_call 109; refine (odd_any _ _).mono ?_; rintro e w' ⟨rfl, rfl⟩; rw [HO.out])
        go_round
        case rel => exact ⟨k + 1, by omega, by go_num, by rw [any_snoc hlt, HN.out, HO.out]; rfl⟩
        case measure => simp [intOf]; omega
      · have HO := Lib.hid ho
        clear ho
        go_wp2_with (go_at_call 109; refine (odd_any _ _).mono ?_; rintro e w' ⟨rfl, rfl⟩; rw [HO.out])
        go_ret
        refine ⟨⟨k, rfl, ?_⟩, rfl⟩
        have h1 : zs.any oddB = true := by
          rw [List.any_eq_true]
          exact ⟨zs[k], by simp, HO.out⟩
        rw [h1]; simp
    · have : k = zs.length := by omega
      subst this
      go_wp2
      go_ret
      refine ⟨⟨-1, rfl, ?_⟩, rfl⟩
      have := HN.out
      rw [List.take_length] at this
      rw [this]; rfl

set_option maxRecDepth 100000 in
theorem containsBytes (b c n : Nat) (zs : List Int) (w : World) (hz : zs.length = n) (hc : ∀ j (h : j < zs.length), w.cell? ⟨b, j, none⟩ = some (.int .u8 zs[j])) (hn : zs.length ≤ 1000000) :
    Calls Tryz.prog 110 #[.slice (some ⟨b, 0, none⟩) n c, .func (.func 109) #[] #[]] w fun e w' => e = .returned (.bool (zs.any oddB)) ∧ w = w' := by
  subst hz
  have HC := Lib.hid hc
  clear hc
  go_enter Tryz.func110, Tryz.ntmps110
  go_wp2_with fail
  refine (idxBytes b c zs w HC.out hn).mono ?_
  rintro e w' ⟨⟨r, rfl, hr⟩, rfl⟩
  have HR := Lib.hid hr
  clear hr
  go_wp2
  go_ret
  exact ⟨by rw [← HR.out]; rfl, rfl⟩

def bytesOf (s : ByteArray) : List Int := s.data.toList.map fun b => (b.toNat : Int)
/-- may a name be an element's -/
def validB (s : ByteArray) : Bool := !s.toList.isEmpty && !decide ((60 : Int) < (s.size : Int)) && (match bytesOf s with | [] => false | c :: _ => letterB c) && !(bytesOf s).any oddB
theorem toList_data (s : ByteArray) : s.toList = s.data.toList := ByteArray.toList_eq s
theorem bytesOf_head (s : ByteArray) (h : 0 < s.size) : ∃ t, bytesOf s = (s[0].toNat : Int) :: t := by
  have : s.data.toList ≠ [] := by
    intro e
    have := congrArg List.length e
    simp at this
    rw [this] at h
    simp at h
  obtain ⟨c, t, hc⟩ := List.exists_cons_of_ne_nil this
  refine ⟨t.map fun b => (b.toNat : Int), ?_⟩
  have h0 : s[0] = c := by
    show s.data[0] = c
    have : s.data.toList[0]? = some c := by rw [hc]; rfl
    have h2 : s.data[0]? = some c := by simpa using this
    rw [Array.getElem?_eq_getElem (by simpa using h)] at h2
    exact Option.some.inj h2
  unfold bytesOf
  rw [hc, h0]; rfl
theorem below_bytes (w : World) (e : TypeId) (s : ByteArray) : Below w.heap.size w (Lib.bytesWorld w e s) :=
  ⟨by simp [Lib.bytesWorld, World.freeze]; rfl, by simp [Lib.bytesWorld, World.freeze], by simp [Lib.bytesWorld, World.freeze]; rfl, by rw [Lib.bytesWorld_size]; omega, fun k hk => Lib.bytesWorld_at_old w e s k hk⟩

set_option maxRecDepth 100000 in
theorem Valid_any (s : ByteArray) (w : World) (hs : s.size ≤ 1000000) : Calls Tryz.prog 97 #[.string s] w fun e w' => e = .returned (.bool (validB s)) ∧ Below w.heap.size w w' := by
  cases h1 : s.toList.isEmpty
  · have hpos : 0 < s.size := by
      rcases Nat.eq_zero_or_pos s.size with h0 | h0
      · exfalso
        rw [toList_data] at h1
        have : s.data.toList = [] := List.length_eq_zero_iff.1 (by simpa using h0)
        rw [this] at h1; simp at h1
      · exact h0
    obtain ⟨t, ht⟩ := bytesOf_head s hpos
    cases h2 : decide ((60 : Int) < (s.size : Int))
    · cases h3 : letterB (s[0].toNat : Int)
      · have hv : validB s = false := by simp [validB, ht, h3]
        have HV := Lib.hid hv
        have H3 := Lib.hid h3
        clear h3 ht hv
        go_enter Tryz.func97, Tryz.ntmps97
        go_wp2_with (go_at_call 108; refine (letter_any _ _).mono ?_; rintro e w' ⟨rfl, rfl⟩; rw [H3.out])
        go_ret
        exact ⟨by rw [HV.out]; rfl, Below.refl _ _⟩
      · have hv : validB s = !(bytesOf s).any oddB := by simp [validB, ht, h3, h1, h2]
        have HV := Lib.hid hv
        have H3 := Lib.hid h3
        have hcv := fun W : World => Lib.run_convert_string_bytes (P := Tryz.prog) W 9 129 5 s Tryz.underlying9 Tryz.underlying129 Tryz.underlying5
        clear h3 ht hv
        go_enter Tryz.func97, Tryz.ntmps97
        go_wp2_with (go_at_call 108; refine (letter_any _ _).mono ?_; rintro e w' ⟨rfl, rfl⟩; rw [H3.out])
        refine (containsBytes _ _ _ (bytesOf s) _ (by simp [bytesOf]) (fun j hj => ?_) (by simpa [bytesOf] using hs)).mono ?_
        · rw [Lib.bytesWorld_cell _ _ _ _ (by simpa [bytesOf] using hj)]
          have hj' : j < s.data.size := by simpa [bytesOf] using hj
          simp only [bytesOf, List.getD, List.getElem_map, Array.getElem?_toList, Array.getElem?_eq_getElem hj', Option.getD_some, Array.getElem_toList]
        rintro e w' ⟨rfl, rfl⟩
        go_wp2
        go_ret
        exact ⟨by rw [HV.out]; rfl, below_bytes _ _ _⟩
    · have hv : validB s = false := by simp [validB, h2]
      have HV := Lib.hid hv
      clear ht hv
      go_enter Tryz.func97, Tryz.ntmps97
      go_wp2
      go_ret
      exact ⟨by rw [HV.out]; rfl, Below.refl _ _⟩
  · have hv : validB s = false := by simp [validB, h1]
    have HV := Lib.hid hv
    clear hv
    go_enter Tryz.func97, Tryz.ntmps97
    go_wp2
    go_ret
    exact ⟨by rw [HV.out]; rfl, Below.refl _ _⟩

/-- is a name one of some, with blanks between them -/
def amongB (l name : ByteArray) : Bool := Lib.containsS ((Lib.fields l.data.toList).map fun x => ⟨x.toArray⟩) name

set_option maxRecDepth 100000 in
theorem among_any (l name : ByteArray) (w : World) (hT : Laid w) (hl : l.size < 4294967281) (ha : ∀ (j : Nat) b, l.data.toList[j]? = some b → b.toNat < 128) (hn : (Lib.fields l.data.toList).length ≤ 1000000) :
    Calls Tryz.prog 91 #[.string l, .string name] w fun e w' => e = .returned (.bool (amongB l name)) ∧ Below w.heap.size w w' := by
  have HT := Lib.hid hT
  have HA := Lib.hid ha
  clear hT ha
  go_enter Tryz.func91, Tryz.ntmps91
  go_wp2_with fail
  refine (Tryz.strings_Fields_laid l w hl HA.out HT.out).mono ?_
  rintro e w1 ⟨rfl, rfl⟩
  go_wp2_with fail
  refine (Tryz.slices_Contains_string _ 0 _ _ ((Lib.fields l.data.toList).map fun x => ⟨x.toArray⟩) name _ (by simp) (by omega) (fun j hj => ?_)).mono ?_
  · have hj' : j < (Lib.fields l.data.toList).length := by simpa using hj
    rw [Nat.zero_add, cell_of_row _ _ _ _ _ _ (heap_alloc_new w _)]
    simp [List.getD, List.getElem?_eq_getElem hj']
  rintro e w2 ⟨rfl, rfl⟩
  go_wp2
  go_ret
  refine ⟨?_, (Below.refl _ _).alloc (Nat.le_refl _) _⟩
  unfold amongB
  rw [List.take_of_length_le (by simp)]
  rfl

def voids : ByteArray := ⟨#[97, 114, 101, 97, 32, 98, 97, 115, 101, 32, 98, 114, 32, 99, 111, 108, 32, 101, 109, 98, 101, 100, 32, 104, 114, 32, 105, 109, 103, 32, 105, 110, 112, 117, 116, 32, 108, 105, 110, 107, 32, 109, 101, 116, 97, 32, 115, 111, 117, 114, 99, 101, 32, 116, 114, 97, 99, 107, 32, 119, 98, 114]⟩
def voidB (name : ByteArray) : Bool := amongB voids name

set_option maxRecDepth 100000 in
theorem Void_any (name : ByteArray) (w : World) (hT : Laid w) : Calls Tryz.prog 68 #[.string name] w fun e w' => e = .returned (.bool (voidB name)) ∧ Below w.heap.size w w' := by
  have HT := Lib.hid hT
  clear hT
  go_enter Tryz.func68, Tryz.ntmps68
  go_wp2_with fail
  refine (among_any voids name w HT.out (by decide) (fun j b hb => ?_) (by decide)).mono ?_
  · have : ∀ b ∈ voids.data.toList, b.toNat < 128 := by decide
    exact this b (List.mem_of_getElem? hb)
  rintro e w1 ⟨rfl, hb⟩
  have HB := Lib.hid hb
  clear hb
  go_wp2
  go_ret
  exact ⟨rfl, HB.out⟩
end Go.Proofs.YtgdmaikjaopddaaGreatDoor

/- What may be made: package tree's Sound of one item without attributes, and package dom's right. -/
namespace Go.Proofs.YtgdmaikjaopddaaGreatDoor
open Go.RowKit

def itemVal (k : Int) (nm da : ByteArray) (A : Option Addr) (n c : Nat) : Value := .agg #[int 0, .int .u8 k, .string nm, .string da, .slice A n c]

set_option maxRecDepth 100000 in
theorem many_any (k : Int) (nm da : ByteArray) (A : Option Addr) (n c : Nat) (w : World) :
    Calls Tryz.prog 98 #[itemVal k nm da A n c] w fun e w' => e = .returned (.bool (decide ((n : Int) > 50))) ∧ Below w.heap.size w w' := by
  unfold itemVal
  go_enter Tryz.func98, Tryz.ntmps98
  go_wp2
  go_ret
  exact ⟨rfl, (Below.refl _ _).alloc (Nat.le_refl _) _⟩

/-- an item without attributes, by itself -/
def rightB (k : Int) (nm da : ByteArray) : Bool :=
  if k = 1 then validB nm && da.toList.isEmpty else if k = 2 then nm.toList.isEmpty && !da.toList.isEmpty else if k = 3 then nm.toList.isEmpty else if k = 6 then da.toList.isEmpty else false

set_option maxRecDepth 100000 in
theorem right_bare (k : Int) (nm da : ByteArray) (A : Option Addr) (c : Nat) (w : World) (hs : nm.size ≤ 1000000) :
    Calls Tryz.prog 85 #[itemVal k nm da A 0 c, .bool true] w fun e w' => e = .returned (.bool (rightB k nm da)) ∧ Below w.heap.size w w' := by
  unfold itemVal
  by_cases h1 : k = 1
  · subst h1
    cases hv : validB nm
    · have hr : rightB 1 nm da = false := by simp [rightB, hv]
      have HR := Lib.hid hr
      have HV := Lib.hid hv
      clear hr hv
      go_enter Tryz.func85, Tryz.ntmps85
      go_wp2
      refine wp_loop_rounds 1 ?_
      rw [rounds_succ]
      go_wp2_with fail
      refine (Valid_any _ _ hs).mono ?_
      rintro e w1 ⟨rfl, hb1⟩
      rw [HV.out]
      have hb2 : Below w.heap.size w w1 := ((Below.refl _ _).alloc (Nat.le_refl _) _).trans (hb1.mono (by simp))
      have hcl : ∀ j, j < 5 → w1.cell? ⟨w.heap.size, j, none⟩ = (#[int 0, .int .u8 1, .string nm, .string da, .slice A 0 c] : Array Value)[j]? := fun j _ => by rw [hb1.cell (by simp), cell_of_row _ _ _ _ _ _ (heap_alloc_new w _)]
      have c0 : w1.cell? ⟨w.heap.size, 0, none⟩ = some (int 0) := hcl 0 (by omega)
      have c1 : w1.cell? ⟨w.heap.size, 1, none⟩ = some (.int .u8 1) := hcl 1 (by omega)
      have c2 : w1.cell? ⟨w.heap.size, 2, none⟩ = some (.string nm) := hcl 2 (by omega)
      have c3 : w1.cell? ⟨w.heap.size, 3, none⟩ = some (.string da) := hcl 3 (by omega)
      have c4 : w1.cell? ⟨w.heap.size, 4, none⟩ = some (.slice A 0 c) := hcl 4 (by omega)
      have HB := Lib.hid hb2
      clear hb1 hb2 hcl
      go_wp2
      go_ret
      exact ⟨by rw [HR.out]; rfl, HB.out⟩
    · cases hd : da.toList.isEmpty
      · have hr : rightB 1 nm da = false := by simp [rightB, hv, hd]
        have HR := Lib.hid hr
        have HV := Lib.hid hv
        clear hr hv
        go_enter Tryz.func85, Tryz.ntmps85
        go_wp2
        refine wp_loop_rounds 1 ?_
        rw [rounds_succ]
        go_wp2_with fail
        refine (Valid_any _ _ hs).mono ?_
        rintro e w1 ⟨rfl, hb1⟩
        rw [HV.out]
        have hb2 : Below w.heap.size w w1 := ((Below.refl _ _).alloc (Nat.le_refl _) _).trans (hb1.mono (by simp))
        have hcl : ∀ j, j < 5 → w1.cell? ⟨w.heap.size, j, none⟩ = (#[int 0, .int .u8 1, .string nm, .string da, .slice A 0 c] : Array Value)[j]? := fun j _ => by rw [hb1.cell (by simp), cell_of_row _ _ _ _ _ _ (heap_alloc_new w _)]
        have c0 : w1.cell? ⟨w.heap.size, 0, none⟩ = some (int 0) := hcl 0 (by omega)
        have c1 : w1.cell? ⟨w.heap.size, 1, none⟩ = some (.int .u8 1) := hcl 1 (by omega)
        have c2 : w1.cell? ⟨w.heap.size, 2, none⟩ = some (.string nm) := hcl 2 (by omega)
        have c3 : w1.cell? ⟨w.heap.size, 3, none⟩ = some (.string da) := hcl 3 (by omega)
        have c4 : w1.cell? ⟨w.heap.size, 4, none⟩ = some (.slice A 0 c) := hcl 4 (by omega)
        have HB := Lib.hid hb2
        clear hb1 hb2 hcl
        go_wp2
        go_ret
        exact ⟨by rw [HR.out]; rfl, HB.out⟩
      · have hr : rightB 1 nm da = true := by simp [rightB, hv, hd]
        have HR := Lib.hid hr
        have HV := Lib.hid hv
        clear hr hv
        go_enter Tryz.func85, Tryz.ntmps85
        go_wp2
        refine wp_loop_rounds 1 ?_
        rw [rounds_succ]
        go_wp2_with fail
        refine (Valid_any _ _ hs).mono ?_
        rintro e w1 ⟨rfl, hb1⟩
        rw [HV.out]
        have hb2 : Below w.heap.size w w1 := ((Below.refl _ _).alloc (Nat.le_refl _) _).trans (hb1.mono (by simp))
        have hcl : ∀ j, j < 5 → w1.cell? ⟨w.heap.size, j, none⟩ = (#[int 0, .int .u8 1, .string nm, .string da, .slice A 0 c] : Array Value)[j]? := fun j _ => by rw [hb1.cell (by simp), cell_of_row _ _ _ _ _ _ (heap_alloc_new w _)]
        have c0 : w1.cell? ⟨w.heap.size, 0, none⟩ = some (int 0) := hcl 0 (by omega)
        have c1 : w1.cell? ⟨w.heap.size, 1, none⟩ = some (.int .u8 1) := hcl 1 (by omega)
        have c2 : w1.cell? ⟨w.heap.size, 2, none⟩ = some (.string nm) := hcl 2 (by omega)
        have c3 : w1.cell? ⟨w.heap.size, 3, none⟩ = some (.string da) := hcl 3 (by omega)
        have c4 : w1.cell? ⟨w.heap.size, 4, none⟩ = some (.slice A 0 c) := hcl 4 (by omega)
        have HB := Lib.hid hb2
        clear hb1 hb2 hcl
        go_wp2_with fail
        refine (many_any 1 nm da A 0 c _).mono ?_
        rintro e w2 ⟨rfl, hb3⟩
        have HB3 := Lib.hid (HB.out.trans (hb3.mono HB.out.size))
        clear hb3
        go_wp2
        go_ret
        exact ⟨by rw [HR.out]; rfl, HB3.out⟩
  · have e1 : (k == 1) = false := by simpa using h1
    by_cases h2 : k = 2
    · subst h2
      cases hn : nm.toList.isEmpty
      · have hr : rightB 2 nm da = false := by simp [rightB, hn]
        have HR := Lib.hid hr
        clear hr
        go_enter Tryz.func85, Tryz.ntmps85
        go_wp2
        all_goals go_ret
        all_goals exact ⟨by rw [HR.out]; rfl, (Below.refl _ _).alloc (Nat.le_refl _) _⟩
      · cases hd : da.toList.isEmpty
        · have hd' : (!da.toList.isEmpty) = true := by simp [hd]
          have hr : rightB 2 nm da = true := by simp [rightB, hn, hd]
          have HR := Lib.hid hr
          clear hr
          go_enter Tryz.func85, Tryz.ntmps85
          go_wp2
          all_goals go_ret
          all_goals exact ⟨by rw [HR.out]; rfl, (Below.refl _ _).alloc (Nat.le_refl _) _⟩
        · have hd' : (!da.toList.isEmpty) = false := by simp [hd]
          have hr : rightB 2 nm da = false := by simp [rightB, hn, hd]
          have HR := Lib.hid hr
          clear hr
          go_enter Tryz.func85, Tryz.ntmps85
          go_wp2
          all_goals go_ret
          all_goals exact ⟨by rw [HR.out]; rfl, (Below.refl _ _).alloc (Nat.le_refl _) _⟩
    · have e2 : (k == 2) = false := by simpa using h2
      by_cases h3 : k = 3
      · subst h3
        cases hn : nm.toList.isEmpty
        · have hr : rightB 3 nm da = false := by simp [rightB, hn]
          have HR := Lib.hid hr
          clear hr
          go_enter Tryz.func85, Tryz.ntmps85
          go_wp2
          all_goals go_ret
          all_goals exact ⟨by rw [HR.out]; rfl, (Below.refl _ _).alloc (Nat.le_refl _) _⟩
        · have hr : rightB 3 nm da = true := by simp [rightB, hn]
          have HR := Lib.hid hr
          clear hr
          go_enter Tryz.func85, Tryz.ntmps85
          go_wp2
          all_goals go_ret
          all_goals exact ⟨by rw [HR.out]; rfl, (Below.refl _ _).alloc (Nat.le_refl _) _⟩
      · have e3 : (k == 3) = false := by simpa using h3
        by_cases h6 : k = 6
        · subst h6
          cases hd : da.toList.isEmpty
          · have hr : rightB 6 nm da = false := by simp [rightB, hd]
            have HR := Lib.hid hr
            clear hr
            go_enter Tryz.func85, Tryz.ntmps85
            go_wp2
            all_goals go_ret
            all_goals exact ⟨by rw [HR.out]; rfl, (Below.refl _ _).alloc (Nat.le_refl _) _⟩
          · have hr : rightB 6 nm da = true := by simp [rightB, hd]
            have HR := Lib.hid hr
            clear hr
            go_enter Tryz.func85, Tryz.ntmps85
            go_wp2
            all_goals go_ret
            all_goals exact ⟨by rw [HR.out]; rfl, (Below.refl _ _).alloc (Nat.le_refl _) _⟩
        · have e6 : (k == 6) = false := by simpa using h6
          have hr : rightB k nm da = false := by simp [rightB, h1, h2, h3, h6]
          have HR := Lib.hid hr
          clear hr h1 h2 h3 h6
          go_enter Tryz.func85, Tryz.ntmps85
          go_wp2
          go_ret
          exact ⟨by rw [HR.out]; rfl, (Below.refl _ _).alloc (Nat.le_refl _) _⟩

/-- Sound of one item without attributes -/
theorem cell_alloc_new (w : World) (cs : Array Value) (e j : Nat) : (w.alloc (.cells cs e)).cell? ⟨w.heap.size, j, none⟩ = cs[j]? := cell_of_row _ _ _ _ _ _ (heap_alloc_new w _)

set_option maxRecDepth 100000 in
theorem sound_bare (g k' : Nat) (k : Int) (nm da : ByteArray) (A : Option Addr) (c : Nat) (w : World) (hT : Laid w) (hs : nm.size ≤ 1000000)
    (hc : ∀ j, j < 5 → w.cell? ⟨g, j, none⟩ = (#[int 0, .int .u8 k, .string nm, .string da, .slice A 0 c] : Array Value)[j]?) :
    Calls Tryz.prog 63 #[.slice (some ⟨g, 0, none⟩) 1 k'] w fun e w' => e = .returned (.bool (rightB k nm da)) ∧ Below w.heap.size w w' := by
  have c0 : w.cell? ⟨g, 0, none⟩ = some (int 0) := hc 0 (by omega)
  have c1 : w.cell? ⟨g, 1, none⟩ = some (.int .u8 k) := hc 1 (by omega)
  have c2 : w.cell? ⟨g, 2, none⟩ = some (.string nm) := hc 2 (by omega)
  have c3 : w.cell? ⟨g, 3, none⟩ = some (.string da) := hc 3 (by omega)
  have c4 : w.cell? ⟨g, 4, none⟩ = some (.slice A 0 c) := hc 4 (by omega)
  clear hc
  have HT := Lib.hid hT
  clear hT
  cases hr : rightB k nm da
  · have HR := Lib.hid hr
    clear hr
    go_enter Tryz.func63, Tryz.ntmps63
    go_wp2
    refine wp_loop_rounds 2 ?_
    rw [rounds_succ]
    go_wp2_with fail
    refine (right_bare k nm da A c _ hs).mono ?_
    rintro e w1 ⟨rfl, hb1⟩
    rw [HR.out]
    have hb2 : Below w.heap.size w w1 := ((Below.refl _ _).alloc (Nat.le_refl _) _).trans (hb1.mono (by simp))
    have HB := Lib.hid hb2
    clear hb1 hb2
    go_wp2
    go_ret
    exact ⟨rfl, HB.out⟩
  · by_cases h1 : k = 1
    · subst h1
      cases hv : voidB nm
      · have HVo := Lib.hid hv
        clear hv
        have HR := Lib.hid hr
        clear hr
        go_enter Tryz.func63, Tryz.ntmps63
        go_wp2
        refine wp_loop_rounds 2 ?_
        rw [rounds_succ]
        go_wp2_with fail
        refine (right_bare 1 nm da A c _ hs).mono ?_
        rintro e w1 ⟨rfl, hb1⟩
        rw [HR.out]
        have hb2 : Below w.heap.size w w1 := ((Below.refl _ _).alloc (Nat.le_refl _) _).trans (hb1.mono (by simp))
        have hcl : ∀ j, j < 5 → w1.cell? ⟨w.heap.size, j, none⟩ = (#[int 0, .int .u8 1, .string nm, .string da, .slice A 0 c] : Array Value)[j]? := fun j _ => by rw [hb1.cell (by simp), cell_alloc_new]
        have d0 : w1.cell? ⟨w.heap.size, 0, none⟩ = some (int 0) := hcl 0 (by omega)
        have d1 : w1.cell? ⟨w.heap.size, 1, none⟩ = some (.int .u8 1) := hcl 1 (by omega)
        have d2 : w1.cell? ⟨w.heap.size, 2, none⟩ = some (.string nm) := hcl 2 (by omega)
        have HB := Lib.hid hb2
        clear hb1 hb2 hcl
        go_wp2_with fail
        refine (Void_any nm w1 (HT.out.below HB.out)).mono ?_
        rintro e w2 ⟨rfl, hb3⟩
        rw [HVo.out]
        have HB3 := Lib.hid (HB.out.trans (hb3.mono HB.out.size))
        clear hb3
        go_wp2
        rw [rounds_succ]
        go_wp2
        go_ret
        exact ⟨rfl, HB3.out⟩
      · have HVo := Lib.hid hv
        clear hv
        have HR := Lib.hid hr
        clear hr
        go_enter Tryz.func63, Tryz.ntmps63
        go_wp2
        refine wp_loop_rounds 2 ?_
        rw [rounds_succ]
        go_wp2_with fail
        refine (right_bare 1 nm da A c _ hs).mono ?_
        rintro e w1 ⟨rfl, hb1⟩
        rw [HR.out]
        have hb2 : Below w.heap.size w w1 := ((Below.refl _ _).alloc (Nat.le_refl _) _).trans (hb1.mono (by simp))
        have hcl : ∀ j, j < 5 → w1.cell? ⟨w.heap.size, j, none⟩ = (#[int 0, .int .u8 1, .string nm, .string da, .slice A 0 c] : Array Value)[j]? := fun j _ => by rw [hb1.cell (by simp), cell_alloc_new]
        have d0 : w1.cell? ⟨w.heap.size, 0, none⟩ = some (int 0) := hcl 0 (by omega)
        have d1 : w1.cell? ⟨w.heap.size, 1, none⟩ = some (.int .u8 1) := hcl 1 (by omega)
        have d2 : w1.cell? ⟨w.heap.size, 2, none⟩ = some (.string nm) := hcl 2 (by omega)
        have HB := Lib.hid hb2
        clear hb1 hb2 hcl
        go_wp2_with fail
        refine (Void_any nm w1 (HT.out.below HB.out)).mono ?_
        rintro e w2 ⟨rfl, hb3⟩
        rw [HVo.out]
        have HB3 := Lib.hid (HB.out.trans (hb3.mono HB.out.size))
        clear hb3
        go_wp2
        rw [rounds_succ]
        go_wp2
        go_ret
        exact ⟨rfl, HB3.out⟩
    · have e1 : (k == 1) = false := by simpa using h1
      clear h1
      have HR := Lib.hid hr
      clear hr
      go_enter Tryz.func63, Tryz.ntmps63
      go_wp2
      refine wp_loop_rounds 2 ?_
      rw [rounds_succ]
      go_wp2_with fail
      refine (right_bare k nm da A c _ hs).mono ?_
      rintro e w1 ⟨rfl, hb1⟩
      rw [HR.out]
      have hb2 : Below w.heap.size w w1 := ((Below.refl _ _).alloc (Nat.le_refl _) _).trans (hb1.mono (by simp))
      have hcl : ∀ j, j < 5 → w1.cell? ⟨w.heap.size, j, none⟩ = (#[int 0, .int .u8 k, .string nm, .string da, .slice A 0 c] : Array Value)[j]? := fun j _ => by rw [hb1.cell (by simp), cell_alloc_new]
      have d0 : w1.cell? ⟨w.heap.size, 0, none⟩ = some (int 0) := hcl 0 (by omega)
      have d1 : w1.cell? ⟨w.heap.size, 1, none⟩ = some (.int .u8 k) := hcl 1 (by omega)
      have d2 : w1.cell? ⟨w.heap.size, 2, none⟩ = some (.string nm) := hcl 2 (by omega)
      have HB := Lib.hid hb2
      clear hb1 hb2 hcl
      go_wp2
      rw [rounds_succ]
      go_wp2
      go_ret
      exact ⟨rfl, HB.out⟩
end Go.Proofs.YtgdmaikjaopddaaGreatDoor
