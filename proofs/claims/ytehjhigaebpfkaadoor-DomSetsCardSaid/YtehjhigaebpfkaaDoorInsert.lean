/- Putting in and taking out: within, fits, Insert, Remove. -/
import Derived.Test.YtehjhigaebpfkaaDoorDocs
import Derived.Test.YtehjhigaebpfkaaDoorNames
namespace Go.Proofs.YtehjhigaebpfkaaDoor
open Go.RowKit

section
variable {W w : World} {rs : List Res} {p B cap n : Nat} {lim : Int} {A : Doc} {R : Int → RNd} {av gv : Nat → Value} {Fa Fg : Nat → Nat → Prop}

def parR (R : Int → RNd) (i : Int) : Int := if (R i).up ≠ -1 then (R i).up else (R i).host
def ms (rk : Int → Nat) (t : Value) : Nat := if intOf t = -1 then 0 else rk (intOf t) + 1
theorem ms_lt {rk : Int → Nat} {x y : Int} (hx : x ≠ -1) (h : y ≠ -1 → rk y < rk x) : ms rk (.int .i64 y) < ms rk (.int .i64 x) := by
  unfold ms
  show (if y = -1 then 0 else rk y + 1) < if x = -1 then 0 else rk x + 1
  rw [if_neg hx]
  split
  · omega
  · rename_i h1; have := h h1; omega

set_option maxRecDepth 100000 in
theorem within_any (hC : DocC p B cap n lim R av gv Fa Fg w) (hr : Rng n R) (rk : Int → Nat) (hrk : ∀ i : Int, 0 ≤ i → i < n → parR R i ≠ -1 → rk (parR R i) < rk i) (i j : Int) (hi : 0 ≤ i) (hi' : i < n) (hj : j ≠ -1) :
    Calls Tryd.prog 62 #[ptr p, int i, int j] w fun e w' => e = .returned (.bool (climbB (parR R) i j)) ∧ w = w' := by
  have h0 := hC.cell0
  have HC := Lib.hid hC
  have HR := Lib.hid hr
  have Hrk := Lib.hid hrk
  clear hC hr hrk
  go_enter Tryd.func62, Tryd.ntmps62
  go_wp2
  go_step3
  go_wp2
  go_step3
  go_wp2
  go_loop [1] (fun t => ∃ x : Int, t = int x ∧ Ok n x ∧ (Climb (parR R) i j ↔ x ≠ -1 ∧ Climb (parR R) x j)) (fun t => ms rk t)
  case atStart => exact ⟨i, rfl, .inr ⟨hi, hi'⟩, by constructor <;> simp_all; omega⟩
  case round =>
    obtain ⟨x, rfl, hx, hcl⟩ := hrel
    have HCl := Lib.hid hcl
    clear hcl
    rcases hx with rfl | ⟨hx0, hx1⟩
    · have hb : climbB (parR R) i j = false := by
        rw [climbB_not, HCl.out]
        exact fun h => h.1 rfl
      have HB := Lib.hid hb
      clear hb
      go_wp2
      go_ret
      exact ⟨by rw [HB.out]; rfl, rfl⟩
    · obtain ⟨x, rfl, hx'⟩ := icast hx0 hx1
      have ex : ((x : Int) != -1) = true := by simp
      have u5 := HC.out.cell hx' (k := 9) (by omega) rfl
      have u7 := HC.out.cell hx' (k := 11) (by omega) rfl
      have hne : (x : Int) ≠ -1 := by omega
      have hrx := HR.out x hx0 hx1
      by_cases hxj : (x : Int) = j
      · have hb : climbB (parR R) i j = true := by
          rw [climbB_iff, HCl.out, hxj]
          exact ⟨hj, .here _⟩
        have HB := Lib.hid hb
        have exj : ((x : Int) == j) = true := by simpa using hxj
        clear hb hxj hrx hne
        go_wp2
        go_ret
        exact ⟨by rw [HB.out]; rfl, rfl⟩
      · have exj : ((x : Int) == j) = false := by simpa using hxj
        have hst := climb_step (f := parR R) hxj
        by_cases hup : (R x).up = -1
        · have eup : ((R x).up != -1) = false := by simpa using hup
          have hpar : parR R x = (R x).host := by unfold parR; rw [if_neg (by simpa using hup)]
          have HP := Lib.hid hpar
          have HSt := Lib.hid hst
          have HRx := Lib.hid hrx
          clear hpar hup hst hrx hxj hne
          go_wp2
          go_round
          case rel => exact ⟨_, rfl, HRx.out.host, HCl.out.trans ⟨fun h => HP.out ▸ (HSt.out.1 h.2), fun h => ⟨by omega, HSt.out.2 (HP.out ▸ h)⟩⟩⟩
          case measure =>
            exact ms_lt (by omega) (HP.out ▸ Hrk.out x hx0 hx1)
        · have eup : ((R x).up != -1) = true := by simpa using hup
          have hpar : parR R x = (R x).up := by unfold parR; rw [if_pos hup]
          have HP := Lib.hid hpar
          have HSt := Lib.hid hst
          have HRx := Lib.hid hrx
          have Hup := Lib.hid hup
          clear hpar hst hrx hxj hne hup
          go_wp2
          go_round
          case rel => exact ⟨_, rfl, HRx.out.up, HCl.out.trans ⟨fun h => HP.out ▸ (HSt.out.1 h.2), fun h => ⟨by omega, HSt.out.2 (HP.out ▸ h)⟩⟩⟩
          case measure =>
            exact ms_lt (by omega) (HP.out ▸ Hrk.out x hx0 hx1)

/-- may things be put into a node -/
def takesB (k : Int) (nm : ByteArray) : Bool := k == 4 || k == 5 || (k == 1 && !voidB nm)
noncomputable def fitsB (R : Int → RNd) (up i : Int) : Bool := takesB (R up).kind (R up).name && (i != 0 && (R i).host == -1 && !climbB (parR R) up i)

set_option maxRecDepth 100000 in
theorem fits_4z (hC : DocC p B cap n lim R av gv Fa Fg w) (hT : Laid w) (hr : Rng n R) (rk : Int → Nat) (hrk : ∀ i : Int, 0 ≤ i → i < n → parR R i ≠ -1 → rk (parR R i) < rk i) (up i : Nat) (hu : up < n) (_hi : i < n) (hk : (R up).kind = 4) (hz : (i : Int) = 0) :
    Calls Tryd.prog 42 #[ptr p, int up, int i] w fun e w' => e = .returned (.bool (false)) ∧ Below w.heap.size w w' := by
  have h0 := hC.cell0
  have u0 : w.cell? ⟨B, up * 19, none⟩ = _ := hC.cell hu (k := 0) (by omega) rfl
  rw [hk] at u0
  clear hk
  have hz' : ((i : Int) != 0) = false := by simpa using hz
  clear hz
  have HC := Lib.hid hC
  have HR := Lib.hid hr
  have Hrk := Lib.hid hrk
  have HT := Lib.hid hT
  clear hC hr hrk hT
  go_enter Tryd.func42, Tryd.ntmps42
  go_wp2
  go_ret
  exact ⟨rfl, Below.refl _ _⟩
set_option maxRecDepth 100000 in
theorem fits_4h (hC : DocC p B cap n lim R av gv Fa Fg w) (hT : Laid w) (hr : Rng n R) (rk : Int → Nat) (hrk : ∀ i : Int, 0 ≤ i → i < n → parR R i ≠ -1 → rk (parR R i) < rk i) (up i : Nat) (hu : up < n) (hi : i < n) (hk : (R up).kind = 4) (hz : (i : Int) ≠ 0) (hh : ((R i).host == -1) = false) :
    Calls Tryd.prog 42 #[ptr p, int up, int i] w fun e w' => e = .returned (.bool (false)) ∧ Below w.heap.size w w' := by
  have h0 := hC.cell0
  have u0 : w.cell? ⟨B, up * 19, none⟩ = _ := hC.cell hu (k := 0) (by omega) rfl
  rw [hk] at u0
  clear hk
  have v7 := hC.cell hi (k := 11) (by omega) rfl
  have hz' : ((i : Int) != 0) = true := by simpa using hz
  have hz2 : (i : Int) ≠ -1 := by omega
  clear hz
  have HC := Lib.hid hC
  have HR := Lib.hid hr
  have Hrk := Lib.hid hrk
  have HT := Lib.hid hT
  have Hz2 := Lib.hid hz2
  clear hz2
  clear hC hr hrk hT
  go_enter Tryd.func42, Tryd.ntmps42
  go_wp2
  go_ret
  exact ⟨rfl, Below.refl _ _⟩
set_option maxRecDepth 100000 in
theorem fits_4c (hC : DocC p B cap n lim R av gv Fa Fg w) (hT : Laid w) (hr : Rng n R) (rk : Int → Nat) (hrk : ∀ i : Int, 0 ≤ i → i < n → parR R i ≠ -1 → rk (parR R i) < rk i) (up i : Nat) (hu : up < n) (hi : i < n) (hk : (R up).kind = 4) (hz : (i : Int) ≠ 0) (hh : (R i).host = -1) :
    Calls Tryd.prog 42 #[ptr p, int up, int i] w fun e w' => e = .returned (.bool (!climbB (parR R) up i)) ∧ Below w.heap.size w w' := by
  have h0 := hC.cell0
  have u0 : w.cell? ⟨B, up * 19, none⟩ = _ := hC.cell hu (k := 0) (by omega) rfl
  rw [hk] at u0
  clear hk
  have v7 := hC.cell hi (k := 11) (by omega) rfl
  have hz' : ((i : Int) != 0) = true := by simpa using hz
  rw [hh] at v7
  clear hh
  have hz2 : (i : Int) ≠ -1 := by omega
  clear hz
  have HC := Lib.hid hC
  have HR := Lib.hid hr
  have Hrk := Lib.hid hrk
  have HT := Lib.hid hT
  have Hz2 := Lib.hid hz2
  clear hz2
  clear hC hr hrk hT
  go_enter Tryd.func42, Tryd.ntmps42
  go_wp2_with fail
  refine (within_any HC.out HR.out rk Hrk.out up i (by omega) (by omega) Hz2.out).mono ?_
  rintro e w2 ⟨rfl, rfl⟩
  generalize hcb : climbB (parR R) up i = cb
  have HCB := Lib.hid hcb
  clear hcb
  go_wp2
  go_ret
  exact ⟨by rw [HCB.out]; rfl, Below.refl _ _⟩
set_option maxRecDepth 100000 in
theorem fits_5z (hC : DocC p B cap n lim R av gv Fa Fg w) (hT : Laid w) (hr : Rng n R) (rk : Int → Nat) (hrk : ∀ i : Int, 0 ≤ i → i < n → parR R i ≠ -1 → rk (parR R i) < rk i) (up i : Nat) (hu : up < n) (_hi : i < n) (hk : (R up).kind = 5) (hz : (i : Int) = 0) :
    Calls Tryd.prog 42 #[ptr p, int up, int i] w fun e w' => e = .returned (.bool (false)) ∧ Below w.heap.size w w' := by
  have h0 := hC.cell0
  have u0 : w.cell? ⟨B, up * 19, none⟩ = _ := hC.cell hu (k := 0) (by omega) rfl
  rw [hk] at u0
  clear hk
  have hz' : ((i : Int) != 0) = false := by simpa using hz
  clear hz
  have HC := Lib.hid hC
  have HR := Lib.hid hr
  have Hrk := Lib.hid hrk
  have HT := Lib.hid hT
  clear hC hr hrk hT
  go_enter Tryd.func42, Tryd.ntmps42
  go_wp2
  go_ret
  exact ⟨rfl, Below.refl _ _⟩
set_option maxRecDepth 100000 in
theorem fits_5h (hC : DocC p B cap n lim R av gv Fa Fg w) (hT : Laid w) (hr : Rng n R) (rk : Int → Nat) (hrk : ∀ i : Int, 0 ≤ i → i < n → parR R i ≠ -1 → rk (parR R i) < rk i) (up i : Nat) (hu : up < n) (hi : i < n) (hk : (R up).kind = 5) (hz : (i : Int) ≠ 0) (hh : ((R i).host == -1) = false) :
    Calls Tryd.prog 42 #[ptr p, int up, int i] w fun e w' => e = .returned (.bool (false)) ∧ Below w.heap.size w w' := by
  have h0 := hC.cell0
  have u0 : w.cell? ⟨B, up * 19, none⟩ = _ := hC.cell hu (k := 0) (by omega) rfl
  rw [hk] at u0
  clear hk
  have v7 := hC.cell hi (k := 11) (by omega) rfl
  have hz' : ((i : Int) != 0) = true := by simpa using hz
  have hz2 : (i : Int) ≠ -1 := by omega
  clear hz
  have HC := Lib.hid hC
  have HR := Lib.hid hr
  have Hrk := Lib.hid hrk
  have HT := Lib.hid hT
  have Hz2 := Lib.hid hz2
  clear hz2
  clear hC hr hrk hT
  go_enter Tryd.func42, Tryd.ntmps42
  go_wp2
  go_ret
  exact ⟨rfl, Below.refl _ _⟩
set_option maxRecDepth 100000 in
theorem fits_5c (hC : DocC p B cap n lim R av gv Fa Fg w) (hT : Laid w) (hr : Rng n R) (rk : Int → Nat) (hrk : ∀ i : Int, 0 ≤ i → i < n → parR R i ≠ -1 → rk (parR R i) < rk i) (up i : Nat) (hu : up < n) (hi : i < n) (hk : (R up).kind = 5) (hz : (i : Int) ≠ 0) (hh : (R i).host = -1) :
    Calls Tryd.prog 42 #[ptr p, int up, int i] w fun e w' => e = .returned (.bool (!climbB (parR R) up i)) ∧ Below w.heap.size w w' := by
  have h0 := hC.cell0
  have u0 : w.cell? ⟨B, up * 19, none⟩ = _ := hC.cell hu (k := 0) (by omega) rfl
  rw [hk] at u0
  clear hk
  have v7 := hC.cell hi (k := 11) (by omega) rfl
  have hz' : ((i : Int) != 0) = true := by simpa using hz
  rw [hh] at v7
  clear hh
  have hz2 : (i : Int) ≠ -1 := by omega
  clear hz
  have HC := Lib.hid hC
  have HR := Lib.hid hr
  have Hrk := Lib.hid hrk
  have HT := Lib.hid hT
  have Hz2 := Lib.hid hz2
  clear hz2
  clear hC hr hrk hT
  go_enter Tryd.func42, Tryd.ntmps42
  go_wp2_with fail
  refine (within_any HC.out HR.out rk Hrk.out up i (by omega) (by omega) Hz2.out).mono ?_
  rintro e w2 ⟨rfl, rfl⟩
  generalize hcb : climbB (parR R) up i = cb
  have HCB := Lib.hid hcb
  clear hcb
  go_wp2
  go_ret
  exact ⟨by rw [HCB.out]; rfl, Below.refl _ _⟩
set_option maxRecDepth 100000 in
theorem fits_1z (hC : DocC p B cap n lim R av gv Fa Fg w) (hT : Laid w) (hr : Rng n R) (rk : Int → Nat) (hrk : ∀ i : Int, 0 ≤ i → i < n → parR R i ≠ -1 → rk (parR R i) < rk i) (up i : Nat) (hu : up < n) (_hi : i < n) (hk : (R up).kind = 1) (hv : voidB (R up).name = false) (hz : (i : Int) = 0) :
    Calls Tryd.prog 42 #[ptr p, int up, int i] w fun e w' => e = .returned (.bool (false)) ∧ Below w.heap.size w w' := by
  have h0 := hC.cell0
  have u0 : w.cell? ⟨B, up * 19, none⟩ = _ := hC.cell hu (k := 0) (by omega) rfl
  rw [hk] at u0
  have u1 := hC.cell hu (k := 1) (by omega) rfl
  have HV := Lib.hid hv
  clear hv
  clear hk
  have hz' : ((i : Int) != 0) = false := by simpa using hz
  clear hz
  have HC := Lib.hid hC
  have HR := Lib.hid hr
  have Hrk := Lib.hid hrk
  have HT := Lib.hid hT
  clear hC hr hrk hT
  go_enter Tryd.func42, Tryd.ntmps42
  go_wp2_with fail
  refine (Void_any _ _ HT.out).mono ?_
  rintro e w1 ⟨rfl, hb⟩
  rw [HV.out]
  have hC1 := HC.out.below hb
  have g0 := hC1.cell0
  have HB := Lib.hid hb
  have HC1 := Lib.hid hC1
  clear hb hC1
  go_wp2
  go_ret
  exact ⟨rfl, HB.out⟩
set_option maxRecDepth 100000 in
theorem fits_1h (hC : DocC p B cap n lim R av gv Fa Fg w) (hT : Laid w) (hr : Rng n R) (rk : Int → Nat) (hrk : ∀ i : Int, 0 ≤ i → i < n → parR R i ≠ -1 → rk (parR R i) < rk i) (up i : Nat) (hu : up < n) (hi : i < n) (hk : (R up).kind = 1) (hv : voidB (R up).name = false) (hz : (i : Int) ≠ 0) (hh : ((R i).host == -1) = false) :
    Calls Tryd.prog 42 #[ptr p, int up, int i] w fun e w' => e = .returned (.bool (false)) ∧ Below w.heap.size w w' := by
  have h0 := hC.cell0
  have u0 : w.cell? ⟨B, up * 19, none⟩ = _ := hC.cell hu (k := 0) (by omega) rfl
  rw [hk] at u0
  have u1 := hC.cell hu (k := 1) (by omega) rfl
  have HV := Lib.hid hv
  clear hv
  clear hk
  have v7 := hC.cell hi (k := 11) (by omega) rfl
  have hz' : ((i : Int) != 0) = true := by simpa using hz
  have hz2 : (i : Int) ≠ -1 := by omega
  clear hz
  have HC := Lib.hid hC
  have HR := Lib.hid hr
  have Hrk := Lib.hid hrk
  have HT := Lib.hid hT
  have Hz2 := Lib.hid hz2
  clear hz2
  clear hC hr hrk hT
  go_enter Tryd.func42, Tryd.ntmps42
  go_wp2_with fail
  refine (Void_any _ _ HT.out).mono ?_
  rintro e w1 ⟨rfl, hb⟩
  rw [HV.out]
  have hC1 := HC.out.below hb
  have g0 := hC1.cell0
  have g7 := hC1.cell hi (k := 11) (by omega) rfl
  have HB := Lib.hid hb
  have HC1 := Lib.hid hC1
  clear hb hC1
  go_wp2
  go_ret
  exact ⟨rfl, HB.out⟩
set_option maxRecDepth 100000 in
theorem fits_1c (hC : DocC p B cap n lim R av gv Fa Fg w) (hT : Laid w) (hr : Rng n R) (rk : Int → Nat) (hrk : ∀ i : Int, 0 ≤ i → i < n → parR R i ≠ -1 → rk (parR R i) < rk i) (up i : Nat) (hu : up < n) (hi : i < n) (hk : (R up).kind = 1) (hv : voidB (R up).name = false) (hz : (i : Int) ≠ 0) (hh : (R i).host = -1) :
    Calls Tryd.prog 42 #[ptr p, int up, int i] w fun e w' => e = .returned (.bool (!climbB (parR R) up i)) ∧ Below w.heap.size w w' := by
  have h0 := hC.cell0
  have u0 : w.cell? ⟨B, up * 19, none⟩ = _ := hC.cell hu (k := 0) (by omega) rfl
  rw [hk] at u0
  have u1 := hC.cell hu (k := 1) (by omega) rfl
  have HV := Lib.hid hv
  clear hv
  clear hk
  have v7 := hC.cell hi (k := 11) (by omega) rfl
  have hz' : ((i : Int) != 0) = true := by simpa using hz
  rw [hh] at v7
  clear hh
  have hz2 : (i : Int) ≠ -1 := by omega
  clear hz
  have HC := Lib.hid hC
  have HR := Lib.hid hr
  have Hrk := Lib.hid hrk
  have HT := Lib.hid hT
  have Hz2 := Lib.hid hz2
  clear hz2
  clear hC hr hrk hT
  go_enter Tryd.func42, Tryd.ntmps42
  go_wp2_with fail
  refine (Void_any _ _ HT.out).mono ?_
  rintro e w1 ⟨rfl, hb⟩
  rw [HV.out]
  have hC1 := HC.out.below hb
  have g0 := hC1.cell0
  have g7 := hC1.cell hi (k := 11) (by omega) rfl
  have g8 := hb.cell (p := ⟨B, i * 19 + 11, none⟩) HC.out.Bw
  rw [v7] at g8
  clear g7
  have HB := Lib.hid hb
  have HC1 := Lib.hid hC1
  clear hb hC1
  go_wp2_with fail
  refine (within_any HC1.out HR.out rk Hrk.out up i (by omega) (by omega) Hz2.out).mono ?_
  rintro e w2 ⟨rfl, rfl⟩
  generalize hcb : climbB (parR R) up i = cb
  have HCB := Lib.hid hcb
  clear hcb
  go_wp2
  go_ret
  exact ⟨by rw [HCB.out]; rfl, HB.out⟩
set_option maxRecDepth 100000 in
theorem fits_V (hC : DocC p B cap n lim R av gv Fa Fg w) (hT : Laid w) (hr : Rng n R) (rk : Int → Nat) (hrk : ∀ i : Int, 0 ≤ i → i < n → parR R i ≠ -1 → rk (parR R i) < rk i) (up i : Nat) (hu : up < n) (_hi : i < n) (hk : (R up).kind = 1) (hv : voidB (R up).name = true)  :
    Calls Tryd.prog 42 #[ptr p, int up, int i] w fun e w' => e = .returned (.bool (false)) ∧ Below w.heap.size w w' := by
  have h0 := hC.cell0
  have u0 : w.cell? ⟨B, up * 19, none⟩ = _ := hC.cell hu (k := 0) (by omega) rfl
  rw [hk] at u0
  have u1 := hC.cell hu (k := 1) (by omega) rfl
  have HV := Lib.hid hv
  clear hv
  clear hk
  have HC := Lib.hid hC
  have HR := Lib.hid hr
  have Hrk := Lib.hid hrk
  have HT := Lib.hid hT
  clear hC hr hrk hT
  go_enter Tryd.func42, Tryd.ntmps42
  go_wp2_with fail
  refine (Void_any _ _ HT.out).mono ?_
  rintro e w1 ⟨rfl, hb⟩
  rw [HV.out]
  have hC1 := HC.out.below hb
  have g0 := hC1.cell0
  have HB := Lib.hid hb
  have HC1 := Lib.hid hC1
  clear hb hC1
  go_wp2
  go_ret
  exact ⟨rfl, HB.out⟩
set_option maxRecDepth 100000 in
theorem fits_N (hC : DocC p B cap n lim R av gv Fa Fg w) (hT : Laid w) (hr : Rng n R) (rk : Int → Nat) (hrk : ∀ i : Int, 0 ≤ i → i < n → parR R i ≠ -1 → rk (parR R i) < rk i) (up i : Nat) (hu : up < n) (_hi : i < n) (h4 : ((R up).kind == 4) = false) (h5 : ((R up).kind == 5) = false) (h1 : ((R up).kind == 1) = false)  :
    Calls Tryd.prog 42 #[ptr p, int up, int i] w fun e w' => e = .returned (.bool (false)) ∧ Below w.heap.size w w' := by
  have h0 := hC.cell0
  have u0 : w.cell? ⟨B, up * 19, none⟩ = _ := hC.cell hu (k := 0) (by omega) rfl
  have HC := Lib.hid hC
  have HR := Lib.hid hr
  have Hrk := Lib.hid hrk
  have HT := Lib.hid hT
  clear hC hr hrk hT
  go_enter Tryd.func42, Tryd.ntmps42
  go_wp2
  go_ret
  exact ⟨rfl, Below.refl _ _⟩

theorem fits_any (hC : DocC p B cap n lim R av gv Fa Fg w) (hT : Laid w) (hr : Rng n R) (rk : Int → Nat) (hrk : ∀ i : Int, 0 ≤ i → i < n → parR R i ≠ -1 → rk (parR R i) < rk i) (up i : Nat) (hu : up < n) (hi : i < n) : Calls Tryd.prog 42 #[ptr p, int up, int i] w fun e w' => e = .returned (.bool (fitsB R up i)) ∧ Below w.heap.size w w' := by
  have fin : ∀ {b : Bool}, fitsB R up i = b → Calls Tryd.prog 42 #[ptr p, int up, int i] w (fun e w' => e = .returned (.bool b) ∧ Below w.heap.size w w') → Calls Tryd.prog 42 #[ptr p, int up, int i] w fun e w' => e = .returned (.bool (fitsB R up i)) ∧ Below w.heap.size w w' := fun h c => h ▸ c
  by_cases h4 : (R up).kind = 4
  · by_cases hz : (i : Int) = 0
    · exact fin (by simp [fitsB, takesB, h4, hz]) (fits_4z hC hT hr rk hrk up i hu hi h4 hz)
    · cases hh : ((R i).host == -1)
      · exact fin (by simp [fitsB, takesB, h4, hh]) (fits_4h hC hT hr rk hrk up i hu hi h4 hz hh)
      · have hh' : (R i).host = -1 := by simpa using hh
        exact fin (by simp [fitsB, takesB, h4, hh']; intro _; exact fun h => hz (by simpa using h)) (fits_4c hC hT hr rk hrk up i hu hi h4 hz hh')
  · by_cases h5 : (R up).kind = 5
    · by_cases hz : (i : Int) = 0
      · exact fin (by simp [fitsB, takesB, h5, hz]) (fits_5z hC hT hr rk hrk up i hu hi h5 hz)
      · cases hh : ((R i).host == -1)
        · exact fin (by simp [fitsB, takesB, h5, hh]) (fits_5h hC hT hr rk hrk up i hu hi h5 hz hh)
        · have hh' : (R i).host = -1 := by simpa using hh
          exact fin (by simp [fitsB, takesB, h5, hh']; intro _; exact fun h => hz (by simpa using h)) (fits_5c hC hT hr rk hrk up i hu hi h5 hz hh')
    · by_cases h1 : (R up).kind = 1
      · cases hv : voidB (R up).name
        · by_cases hz : (i : Int) = 0
          · exact fin (by simp [fitsB, takesB, h1, hv, hz]) (fits_1z hC hT hr rk hrk up i hu hi h1 hv hz)
          · cases hh : ((R i).host == -1)
            · exact fin (by simp [fitsB, takesB, h1, hv, hh]) (fits_1h hC hT hr rk hrk up i hu hi h1 hv hz hh)
            · have hh' : (R i).host = -1 := by simpa using hh
              exact fin (by simp [fitsB, takesB, h1, hv, hh']; intro _; exact fun h => hz (by simpa using h)) (fits_1c hC hT hr rk hrk up i hu hi h1 hv hz hh')
        · exact fin (by simp [fitsB, takesB, h1, hv]) (fits_V hC hT hr rk hrk up i hu hi h1 hv)
      · exact fin (by simp [fitsB, takesB, h1, h4, h5]) (fits_N hC hT hr rk hrk up i hu hi (by simpa using h4) (by simpa using h5) (by simpa using h1))

theorem climb_congr {f g : Int → Int} {S : Int → Prop} (hfg : ∀ x, S x → f x = g x) (hS : ∀ x, S x → f x ≠ -1 → S (f x)) {i j : Int} (hi : S i) (h : Climb f i j) : Climb g i j := by
  induction h with
  | here => exact .here _
  | up h1 _ ih =>
    have := ih (hS _ hi h1)
    rw [hfg _ hi] at h1 this
    exact .up h1 this

noncomputable def Doc.fitsB (A : Doc) (up i : Int) : Bool := takesB (A.nd up).kind (A.nd up).name && (i != 0 && (A.nd i).host == -1 && !climbB A.par up i)

theorem Link.par (hl : Link A R) {i : Int} (hi : A.In i) : parR R i = A.par i := by
  have s := hl.same i hi
  unfold parR Doc.par
  rw [s.up, s.host]
theorem WF.par_in (hw : WF A) {i : Int} (hi : A.In i) (h : A.par i ≠ -1) : A.In (A.par i) := by
  unfold Doc.par at h ⊢
  split at h
  · rename_i h1; rw [if_pos h1]; exact in_of_ok (hw.up i hi) h1
  · rename_i h1; rw [if_neg h1]; exact in_of_ok (hw.host i hi) h
theorem Link.climb (hl : Link A R) (hw : WF A) {i j : Int} (hi : A.In i) : climbB (parR R) i j = climbB A.par i j := by
  have e : Climb (parR R) i j ↔ Climb A.par i j :=
    ⟨climb_congr (S := A.In) (fun x hx => hl.par hx) (fun x hx h => by rw [hl.par hx] at h ⊢; exact hw.par_in hx h) hi,
     climb_congr (S := A.In) (fun x hx => (hl.par hx).symm) (fun x hx h => hw.par_in hx h) hi⟩
  rw [Bool.eq_iff_iff, climbB_iff, climbB_iff, e]
theorem Link.fits (hl : Link A R) (hw : WF A) {up i : Int} (hu : A.In up) (hi : A.In i) : fitsB R up i = A.fitsB up i := by
  unfold Proofs.YtehjhigaebpfkaaDoor.fitsB Doc.fitsB
  rw [(hl.same up hu).kind, (hl.same up hu).name, (hl.same i hi).host, hl.climb hw hu]
theorem Link.rank (hl : Link A R) (hw : WF A) : ∃ rk : Int → Nat, ∀ i : Int, 0 ≤ i → i < A.n → parR R i ≠ -1 → rk (parR R i) < rk i := by
  obtain ⟨rk, h⟩ := hw.rank
  exact ⟨rk, fun i h0 h1 hp => by rw [hl.par ⟨h0, h1⟩] at hp ⊢; exact h i ⟨h0, h1⟩ hp⟩

section sepl
variable {n : Nat}
theorem lacks_sep_no (h : Sep W w (docR p B n lim R :: rs)) (i : Int) (hi : 0 ≤ i) (hi' : i < n) : Calls Tryd.prog 41 #[ptr p, int i] w fun e w' => e = .returned (.bool false) ∧ w = w' := by
  obtain ⟨cap, av, gv, Fa, Fg, hC, _⟩ := docR_step h
  exact lacks_no hC i hi hi'
theorem lacks_sep_yes (h : Sep W w (docR p B n lim R :: rs)) (i : Int) (hi : i < 0 ∨ n ≤ i) : Calls Tryd.prog 41 #[ptr p, int i] w fun e w' => e = .returned (.bool true) ∧ w = w' := by
  obtain ⟨cap, av, gv, Fa, Fg, hC, _⟩ := docR_step h
  exact lacks_yes hC i hi
theorem fits_sep (h : Sep W w (docR p B A.n A.lim R :: rs)) (hw : WF A) (hl : Link A R) (hT : Laid W) (up i : Int) (hu : A.In up) (hi : A.In i) :
    Calls Tryd.prog 42 #[ptr p, int up, int i] w fun e w' => e = .returned (.bool (A.fitsB up i)) ∧ Sep W w' (docR p B A.n A.lim R :: rs) := by
  obtain ⟨cap, av, gv, Fa, Fg, hC, _⟩ := docR_step h
  obtain ⟨rk, hrk⟩ := hl.rank hw
  rw [← hl.fits hw hu hi]
  obtain ⟨u, rfl, hu'⟩ := icast hu.1 hu.2
  obtain ⟨j, rfl, hi'⟩ := icast hi.1 hi.2
  exact (fits_any hC (hT.below h.below) (hl.rng hw) rk hrk u j hu' hi').mono fun e w' ⟨he, hb⟩ => ⟨he, h.belowed hb⟩
theorem cell_sep (h : Sep W w (docR p B n lim R :: rs)) : ∃ (cap : Nat) (av gv : Nat → Value), w.cell? ⟨p, 0, none⟩ = some (.slice (some ⟨B, 0, none⟩) n cap) ∧ ∀ i k : Nat, i < n → k < 19 → ∀ u, (ncell (R i) (av i) (gv i))[k]? = some u → w.cell? ⟨B, i * 19 + k, none⟩ = some u := by
  obtain ⟨cap, av, gv, Fa, Fg, hC, _⟩ := docR_step h
  exact ⟨cap, av, gv, hC.cell0, fun i k hi hk u hu => hC.cell hi hk hu⟩
end sepl

set_option maxRecDepth 100000 in
set_option maxHeartbeats 1000000 in
theorem insert_n (h : Sep W w (docR p B A.n A.lim R :: rs)) (hw : WF A) (hl : Link A R) (hT : Laid W) (up i : Nat) (hu : up < A.n) (hi : i < A.n)  (hf : A.fitsB up i = true) (hk : (A.nd i).kind ≠ 4) :
    Calls Tryd.prog 15 #[ptr p, int up, int i, int (-1)] w fun e w' => e = .returned (.int .u16 0) ∧ Sep W w' (docR p B A.n A.lim (putR R up i (-1)) :: rs) := by
  have hIu : A.In up := ⟨by omega, by omega⟩
  have hIi : A.In i := ⟨by omega, by omega⟩
  have H := Lib.hid h
  have HF := Lib.hid hf
  have ek : ((R i).kind == 4) = false := by rw [(hl.same i hIi).kind]; simpa using hk
  have e3 : ((-1 : Int) == i) = false := by simp
  have Hw := Lib.hid hw
  have Hl := Lib.hid hl
  have HT := Lib.hid hT
  clear h hf hk hw hl hT
  go_enter Tryd.func15, Tryd.ntmps15
  go_wp2_with fail
  refine (lacks_sep_no H.out up (by omega) (by omega)).mono ?_
  rintro e w' ⟨rfl, rfl⟩
  go_wp2_with fail
  refine (lacks_sep_no H.out i (by omega) (by omega)).mono ?_
  rintro e w' ⟨rfl, rfl⟩
  go_wp2_with fail
  refine (fits_sep H.out Hw.out Hl.out HT.out up i hIu hIi).mono ?_
  rintro e w1 ⟨rfl, h1⟩
  rw [HF.out]
  have H1 := Lib.hid h1
  obtain ⟨cap, av, gv, c0, hc⟩ := cell_sep h1
  have u0 : w1.cell? ⟨B, i * 19, none⟩ = _ := hc i 0 hi (by omega) _ rfl
  clear h1 hc
  go_wp2_with fail
  refine (put_any H1.out (Hl.out.rng Hw.out) up i (-1) hIu hIi Ok.none).mono ?_
  rintro e w2 ⟨rfl, h2⟩
  have H2 := Lib.hid h2
  clear h2
  go_wp2
  go_ret
  exact ⟨rfl, H2.out⟩

set_option maxRecDepth 100000 in
set_option maxHeartbeats 1000000 in
theorem insert_b (h : Sep W w (docR p B A.n A.lim R :: rs)) (hw : WF A) (hl : Link A R) (hT : Laid W) (up i : Nat) (hu : up < A.n) (hi : i < A.n) (b : Nat) (hb : b < A.n) (hbu : (A.nd b).up = up) (hbi : (b : Int) ≠ i) (hf : A.fitsB up i = true) (hk : (A.nd i).kind ≠ 4) :
    Calls Tryd.prog 15 #[ptr p, int up, int i, int b] w fun e w' => e = .returned (.int .u16 0) ∧ Sep W w' (docR p B A.n A.lim (putR R up i b) :: rs) := by
  have hIu : A.In up := ⟨by omega, by omega⟩
  have hIi : A.In i := ⟨by omega, by omega⟩
  have H := Lib.hid h
  have HF := Lib.hid hf
  have ek : ((R i).kind == 4) = false := by rw [(hl.same i hIi).kind]; simpa using hk
  have eb : ((b : Int) != -1) = true := by simp
  have hRb : (R b).up = up := (hl.same b ⟨by omega, by omega⟩).up.trans hbu
  have e3 : ((b : Int) == i) = false := by simpa using hbi
  have HRb := Lib.hid hRb
  clear hRb hbu hbi
  have Hw := Lib.hid hw
  have Hl := Lib.hid hl
  have HT := Lib.hid hT
  clear h hf hk hw hl hT
  go_enter Tryd.func15, Tryd.ntmps15
  go_wp2_with fail
  refine (lacks_sep_no H.out up (by omega) (by omega)).mono ?_
  rintro e w' ⟨rfl, rfl⟩
  go_wp2_with fail
  refine (lacks_sep_no H.out i (by omega) (by omega)).mono ?_
  rintro e w' ⟨rfl, rfl⟩
  go_wp2_with fail
  refine (lacks_sep_no H.out b (by omega) (by omega)).mono ?_
  rintro e w' ⟨rfl, rfl⟩
  go_wp2_with fail
  refine (fits_sep H.out Hw.out Hl.out HT.out up i hIu hIi).mono ?_
  rintro e w1 ⟨rfl, h1⟩
  rw [HF.out]
  have H1 := Lib.hid h1
  obtain ⟨cap, av, gv, c0, hc⟩ := cell_sep h1
  have u0 : w1.cell? ⟨B, i * 19, none⟩ = _ := hc i 0 hi (by omega) _ rfl
  have ub := hc b 9 hb (by omega) _ rfl
  rw [HRb.out] at ub
  clear h1 hc
  go_wp2_with fail
  refine (put_any H1.out (Hl.out.rng Hw.out) up i b hIu hIi (.inr ⟨by omega, by omega⟩)).mono ?_
  rintro e w2 ⟨rfl, h2⟩
  have H2 := Lib.hid h2
  clear h2
  go_wp2
  go_ret
  exact ⟨rfl, H2.out⟩

set_option maxRecDepth 100000 in
set_option maxHeartbeats 1000000 in
theorem insert_i (h : Sep W w (docR p B A.n A.lim R :: rs)) (hw : WF A) (hl : Link A R) (hT : Laid W) (up i : Nat) (hu : up < A.n) (hi : i < A.n) (hiu : (A.nd i).up = up) (hf : A.fitsB up i = true) (hk : (A.nd i).kind ≠ 4) :
    Calls Tryd.prog 15 #[ptr p, int up, int i, int i] w fun e w' => e = .returned (.int .u16 0) ∧ Sep W w' (docR p B A.n A.lim (putR R up i (nextIn (A.nd up).kids i)) :: rs) := by
  have hIu : A.In up := ⟨by omega, by omega⟩
  have hIi : A.In i := ⟨by omega, by omega⟩
  have H := Lib.hid h
  have HF := Lib.hid hf
  have ek : ((R i).kind == 4) = false := by rw [(hl.same i hIi).kind]; simpa using hk
  have eb : ((i : Int) != -1) = true := by simp
  have hRb : (R i).up = up := (hl.same i hIi).up.trans hiu
  have hnx : (R i).next = nextIn (A.nd up).kids i := by
    have := hl.next hw hIi (by rw [hiu]; omega)
    rw [hiu] at this; exact this
  have HRb := Lib.hid hRb
  have Hnx := Lib.hid hnx
  clear hRb hiu hnx
  have Hw := Lib.hid hw
  have Hl := Lib.hid hl
  have HT := Lib.hid hT
  clear h hf hk hw hl hT
  go_enter Tryd.func15, Tryd.ntmps15
  go_wp2_with fail
  refine (lacks_sep_no H.out up (by omega) (by omega)).mono ?_
  rintro e w' ⟨rfl, rfl⟩
  go_wp2_with fail
  refine (lacks_sep_no H.out i (by omega) (by omega)).mono ?_
  rintro e w' ⟨rfl, rfl⟩
  go_wp2_with fail
  refine (lacks_sep_no H.out i (by omega) (by omega)).mono ?_
  rintro e w' ⟨rfl, rfl⟩
  go_wp2_with fail
  refine (fits_sep H.out Hw.out Hl.out HT.out up i hIu hIi).mono ?_
  rintro e w1 ⟨rfl, h1⟩
  rw [HF.out]
  have H1 := Lib.hid h1
  obtain ⟨cap, av, gv, c0, hc⟩ := cell_sep h1
  have u0 : w1.cell? ⟨B, i * 19, none⟩ = _ := hc i 0 hi (by omega) _ rfl
  have ub := hc i 9 hi (by omega) _ rfl
  rw [HRb.out] at ub
  have un := hc i 15 hi (by omega) _ rfl
  rw [Hnx.out] at un
  clear h1 hc
  go_wp2_with fail
  refine (put_any H1.out (Hl.out.rng Hw.out) up i (nextIn (A.nd up).kids i) hIu hIi (Hnx.out ▸ (Hl.out.rng Hw.out i hIi.1 hIi.2).next)).mono ?_
  rintro e w2 ⟨rfl, h2⟩
  have H2 := Lib.hid h2
  clear h2
  go_wp2
  go_ret
  exact ⟨rfl, H2.out⟩
end
end Go.Proofs.YtehjhigaebpfkaaDoor
