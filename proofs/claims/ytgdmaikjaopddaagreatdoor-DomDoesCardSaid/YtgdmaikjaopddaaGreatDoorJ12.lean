/- names.Lower: a text with small letters. -/
import Derived.Test.YtgdmaikjaopddaaGreatDoorJ11
import Derived.Laws.BytesString
namespace Go.Proofs.YtgdmaikjaopddaaGreatDoor
open Go.RowKit

def lowB (c : Int) : Int := if 65 ≤ c ∧ c ≤ 90 then c + 32 else c
theorem lowB_rng {c : Int} (h0 : 0 ≤ c) (h1 : c < 256) : 0 ≤ lowB c ∧ lowB c < 256 := by unfold lowB; split <;> omega

set_option maxRecDepth 100000 in
theorem small_any (c : Int) (w : World) (h0 : 0 ≤ c) (h1 : c < 256) : Calls Tryz.prog 116 #[.int .u8 c] w fun e w' => e = .returned (.int .u8 (lowB c)) ∧ w' = w := by
  by_cases h2 : 65 ≤ c
  · by_cases h3 : c ≤ 90
    · have hl : lowB c = c + 32 := by unfold lowB; rw [if_pos ⟨h2, h3⟩]
      have e1 : IntKind.u8.wrap (c + 97) = c + 97 := by rw [IntKind.wrap_u8]; omega
      have e2 : IntKind.u8.wrap (c + 97 - 65) = c + 32 := by rw [IntKind.wrap_u8]; omega
      go_enter Tryz.func116, Tryz.ntmps116
      go_wp2
      go_ret
      exact ⟨by rw [hl]; rfl, rfl⟩
    · have hl : lowB c = c := by unfold lowB; rw [if_neg (by omega)]
      go_enter Tryz.func116, Tryz.ntmps116
      go_wp2
      go_ret
      exact ⟨rfl, rfl⟩
  · have hl : lowB c = c := by unfold lowB; rw [if_neg (by omega)]
    go_enter Tryz.func116, Tryz.ntmps116
    go_wp2
    go_ret
    exact ⟨rfl, rfl⟩

/-- the row of a text's bytes, of which so many are small -/
structure LowC (W wr : World) (B i : Nat) (zs : List Int) : Prop where
  below : Below B W wr
  cells : ∀ j (h : j < zs.length), wr.cell? ⟨B, j, none⟩ = some (.int .u8 (if j < i then lowB zs[j] else zs[j]))
  open' : ∀ j, j < zs.length → wr.frozen? ⟨B, j, none⟩ = false
theorem LowC.step {W wr : World} {B i : Nat} {zs : List Int} (h : LowC W wr B i zs) (hi : i < zs.length) : LowC W (wr.setCell ⟨B, i, none⟩ (.int .u8 (lowB zs[i]))) B (i + 1) zs where
  below := h.below.setCell (p := ⟨B, i, none⟩) (Nat.le_refl _) _
  cells j hj := by
    by_cases e : j = i
    · subst e
      rw [World.cell?_setCell_same (h := h.cells j hj), if_pos (by omega)]
    · rw [World.cell?_setCell_other (h := by intro he; injection he with _ he; omega), h.cells j hj]
      by_cases hl : j < i
      · rw [if_pos hl, if_pos (by omega)]
      · rw [if_neg hl, if_neg (by omega)]
  open' j hj := by rw [World.frozen?_setCell]; exact h.open' j hj

theorem bytes_push (ns : List Int) (h : ∀ x ∈ ns, 0 ≤ x ∧ x < 256) : bytesOf (ns.foldl (fun r n => r.push (UInt8.ofNat n.toNat)) ByteArray.empty) = ns := by
  have hg : ∀ (ns : List Int) (r : ByteArray), (∀ x ∈ ns, 0 ≤ x ∧ x < 256) → bytesOf (ns.foldl (fun r n => r.push (UInt8.ofNat n.toNat)) r) = bytesOf r ++ ns := by
    intro ns
    induction ns with
    | nil => intro r _; simp
    | cons n t ih =>
      intro r h
      rw [List.foldl_cons, ih _ (fun x hx => h x (List.mem_cons_of_mem _ hx))]
      have hn := h n (List.mem_cons_self ..)
      have e1 : bytesOf (r.push (UInt8.ofNat n.toNat)) = bytesOf r ++ [n] := by
        unfold bytesOf
        rw [ByteArray.data_push, Array.toList_push, List.map_append]
        simp only [List.map_cons, List.map_nil]
        rw [UInt8.toNat_ofNat', Nat.mod_eq_of_lt (by omega), Int.toNat_of_nonneg hn.1]
      rw [e1]; simp
  have := hg ns ByteArray.empty h
  simpa [bytesOf] using this

set_option maxRecDepth 100000 in
set_option maxHeartbeats 2000000 in
theorem Lower_any (s : ByteArray) (w : World) (hs : s.size ≤ 1000000) : Calls Tryz.prog 105 #[.string s] w fun e w' => (∃ t : ByteArray, e = .returned (.string t) ∧ bytesOf t = (bytesOf s).map lowB) ∧ Below w.heap.size w w' := by
  have hcv := fun W : World => Lib.run_convert_string_bytes (P := Tryz.prog) W 9 129 5 s Tryz.underlying9 Tryz.underlying129 Tryz.underlying5
  have hlen : (bytesOf s).length = s.size := by simp [bytesOf]
  have hrg : ∀ j (h : j < (bytesOf s).length), 0 ≤ (bytesOf s)[j] ∧ (bytesOf s)[j] < 256 := fun j h => by
    simp only [bytesOf, List.getElem_map]
    have := (s.data.toList[j]'(by simpa [bytesOf] using h)).toNat_lt
    omega
  have hst : LowC w (Lib.bytesWorld w 5 s) w.heap.size 0 (bytesOf s) := by
    refine ⟨below_bytes _ _ _, fun j hj => ?_, fun j hj => ?_⟩
    · rw [Lib.bytesWorld_cell _ _ _ _ (by omega)]
      have hj' : j < s.data.size := by simpa [bytesOf] using hj
      simp [bytesOf, List.getD, Array.getElem?_eq_getElem hj']
    · have hsz : s.size ≤ (Lib.bytesCells w 5 s).size := by simp [Lib.bytesCells]
      simp only [World.frozen?, Lib.bytesWorld_at_new, Bool.and_eq_false_iff, decide_eq_false_iff_not]
      left; omega
  have HR := Lib.hid hrg
  have HS := Lib.hid hst
  generalize bytesOf s = zs at *
  clear hrg hst
  go_enter Tryz.func105, Tryz.ntmps105
  go_wp2
  generalize Lib.bytesWorld w 5 s = w0 at *
  go_loopw [10] (fun v wr => ∃ i : Nat, v = int i ∧ i ≤ s.size ∧ LowC w wr w.heap.size i zs) (fun v _ => s.size - (intOf v).toNat)
  case atStart => exact ⟨0, rfl, Nat.zero_le _, HS.out⟩
  case round =>
    obtain ⟨i, rfl, hi, hL⟩ := hrel
    have HL := Lib.hid hL
    by_cases hlt : i < s.size
    · have u1 := hL.cells i (by omega)
      rw [if_neg (by omega)] at u1
      have u2 := hL.open' i (by omega)
      have hr := HR.out i (by omega)
      have hwr : IntKind.i64.wrap ((i : Int) + 1) = ((i + 1 : Nat) : Int) := by rw [IntKind.wrap_i64]; omega
      have HG := Lib.hid (hL.step (by omega))
      clear hL
      go_wp2_with (go_at_call 116; refine (small_any _ _ hr.1 hr.2).mono ?_; rintro e w' ⟨rfl, rfl⟩)
      go_roundw
      case rel => exact ⟨i + 1, rfl, hlt, HG.out⟩
      case measure => simp [intOf]; omega
    · obtain rfl : i = s.size := by omega
      have hconv : ∀ c, (convert 129 9 (.slice (some ⟨w.heap.size, 0, none⟩) s.size c)).run Tryz.prog wr = .ok (.string ((zs.map lowB).foldl (fun r n => r.push (UInt8.ofNat n.toNat)) ByteArray.empty)) wr := fun c => by
        rw [run_convert_bytes_string wr _ _ _ _ _ _ Tryz.underlying129 Tryz.underlying5 Tryz.underlying9]
        refine run_bytesToString wr _ _ _ _ ?_
        have h := run_loadCells_list (P := Tryz.prog) wr ⟨w.heap.size, 0, none⟩ ((zs.map lowB).map (Value.int .u8)) (fun j v hv => by
          have hj : j < zs.length := by
            have := (List.getElem?_eq_some_iff.1 hv).1
            simpa using this
          have hc := hL.cells j hj
          rw [if_pos (by omega)] at hc
          simp only [List.getElem?_map, List.getElem?_eq_getElem hj, Option.map_some, Option.some.injEq] at hv
          have ea : (⟨w.heap.size, 0, none⟩ : Addr).add j = ⟨w.heap.size, j, none⟩ := by unfold Addr.add; simp; exact fun h => h.symm
          rw [ea, hc, ← hv])
        simpa [hlen] using h
      have hby := bytes_push (zs.map lowB) (fun x hx => by
        obtain ⟨y, hy, rfl⟩ := List.mem_map.1 hx
        obtain ⟨j, hj, rfl⟩ := List.getElem_of_mem hy
        have := HR.out j hj
        exact lowB_rng this.1 this.2)
      have HBY := Lib.hid hby
      clear hL hby
      generalize (zs.map lowB).foldl (fun r n => r.push (UInt8.ofNat n.toNat)) ByteArray.empty = q at *
      go_wp2
      go_ret
      exact ⟨⟨q, rfl, HBY.out⟩, HL.out.below⟩
end Go.Proofs.YtgdmaikjaopddaaGreatDoor

/- tree.writable: may an attribute be written. -/
namespace Go.Proofs.YtgdmaikjaopddaaGreatDoor
open Go.RowKit

def oddS : ByteArray := ⟨#[0, 32, 9, 10, 12, 47, 62, 61]⟩
theorem oddS_asc : Asc oddS := by
  intro b hb
  have : oddS.data.toList = [0, 32, 9, 10, 12, 47, 62, 61] := rfl
  rw [this] at hb
  simp only [List.mem_cons, List.not_mem_nil, or_false] at hb
  rcases hb with rfl | rfl | rfl | rfl | rfl | rfl | rfl | rfl <;> decide
/-- may an attribute be written -/
def writB (n v : ByteArray) : Bool := !n.toList.isEmpty && decide ((n.size : Int) ≤ 60) && decide ((v.size : Int) ≤ 2000) && !(Lib.containsAny n.data.toList oddS.data.toList) && decide ((bytesOf n).map lowB = bytesOf n)

theorem bytes_inj {a b : ByteArray} (h : bytesOf a = bytesOf b) : a.toList = b.toList := by
  rw [toList_data, toList_data]
  have hi : Function.Injective (fun b : UInt8 => (b.toNat : Int)) := fun x y h => by
    have : x.toNat = y.toNat := Int.ofNat_inj.1 h
    exact UInt8.toNat_inj.1 this
  exact List.map_inj_right (fun _ _ h => hi h) |>.1 h

theorem low_eq {t n : ByteArray} (h : bytesOf t = (bytesOf n).map lowB) : (t.toList == n.toList) = decide ((bytesOf n).map lowB = bytesOf n) := by
  rw [← h]
  by_cases e : bytesOf t = bytesOf n
  · rw [decide_eq_true e, bytes_inj e]; simp
  · rw [decide_eq_false e]
    simp only [beq_eq_false_iff_ne, ne_eq]
    intro h2
    apply e
    unfold bytesOf
    rw [← toList_data, ← toList_data, h2]

theorem alloc_drewN (w : World) (o : Obj) (m : Nat) : Below w.heap.size w ((w.alloc o).drewN m) := by
  have h := (Below.refl w.heap.size w).alloc (Nat.le_refl _) o
  exact ⟨h.os, h.tape, h.output, h.size, h.block⟩
theorem keepW {w1 w2 : World} {g : Nat} {a b : Value} (h : w1.cell? ⟨g, 0, none⟩ = some a ∧ w1.cell? ⟨g, 1, none⟩ = some b) (hb : Below w1.heap.size w1 w2) (hg : g < w1.heap.size) : w2.cell? ⟨g, 0, none⟩ = some a ∧ w2.cell? ⟨g, 1, none⟩ = some b :=
  ⟨(hb.cell (p := ⟨g, 0, none⟩) hg).trans h.1, (hb.cell (p := ⟨g, 1, none⟩) hg).trans h.2⟩

set_option maxRecDepth 100000 in
set_option maxHeartbeats 2000000 in
theorem writable_part (n v : ByteArray) (w : World) (h4 : Lib.containsAny n.data.toList oddS.data.toList = false) : Calls Tryz.prog 95 #[.agg #[.string n, .string v]] w fun e w' => e = .returned (.bool (writB n v)) ∧ Below w.heap.size w w' := by
  cases h1 : n.toList.isEmpty
  · by_cases h2 : (n.size : Int) ≤ 60
    · by_cases h3 : (v.size : Int) ≤ 2000
      · have c1 := fun w => containsAny_any n oddS w (by decide) (by decide) (by omega) oddS_asc
        have c2 := fun w => Lower_any n w (by omega)
        have hv : writB n v = (!(Lib.containsAny n.data.toList oddS.data.toList) && decide ((bytesOf n).map lowB = bytesOf n)) := by simp [writB, h1, h2, h3]
        have HV := Lib.hid hv
        clear hv
        have hbw : Below w.heap.size w ((w.alloc (.cells #[.string n, .string v] 67)).drew) := alloc_drewN w _ 1
        have hS0 : ((w.alloc (.cells #[.string n, .string v] 67)).drew).cell? ⟨w.heap.size, 0, none⟩ = some (.string n) ∧ ((w.alloc (.cells #[.string n, .string v] 67)).drew).cell? ⟨w.heap.size, 1, none⟩ = some (.string v) := ⟨World.cell?_alloc_at _ _ _ _ (by simp), World.cell?_alloc_at _ _ _ _ (by simp)⟩
        have hg : w.heap.size < ((w.alloc (.cells #[.string n, .string v] 67)).drew).heap.size := by simp
        have HBW := Lib.hid hbw
        have HS0 := Lib.hid hS0
        have Hg := Lib.hid hg
        have g0 : (w.alloc (.cells #[.string n, .string v] 67)).cell? ⟨w.heap.size, 0, none⟩ = some (.string n) := hS0.1
        have g1 : (w.alloc (.cells #[.string n, .string v] 67)).cell? ⟨w.heap.size, 1, none⟩ = some (.string v) := hS0.2
        clear hbw hS0 hg
        have C1 := Lib.hid c1
        have C2 := Lib.hid c2
        clear c1 c2
        go_enter Tryz.func95, Tryz.ntmps95
        go_wp2_with fail
        generalize w.alloc (.cells #[.string n, .string v] 67) = w0 at *
        go_region_held3 (fun w' => w'.cell? ⟨w.heap.size, 0, none⟩ = some (.string n) ∧ w'.cell? ⟨w.heap.size, 1, none⟩ = some (.string v))
          (first
            | with_reducible exact HS0.out
            | with_reducible exact keepW HS0.out hb1 Hg.out
            | with_reducible exact keepW (keepW HS0.out hb1 Hg.out) hb2 Hg1.out)
          ((first
            | (go_at_call 104; refine (C1.out _).mono ?_; rintro e w1 ⟨rfl, hb1⟩; rw [h4]; have Hg1 := Lib.hid (Nat.lt_of_lt_of_le Hg.out hb1.size))
            | (go_at_call 105; refine (C2.out _).mono ?_; rintro e w2 ⟨⟨t, rfl, ht⟩, hb2⟩; have hle := low_eq ht)))
        go_wp2
        go_ret
        refine ⟨?_, ?_⟩
        · rw [HV.out, h4]; rfl
        · exact (HBW.out.trans (hb1.mono (Nat.le_of_lt Hg.out))).trans (hb2.mono (Nat.le_of_lt Hg1.out))
      · have hv : writB n v = false := by simp [writB, h3]
        have e3 : decide ((v.size : Int) ≤ 2000) = false := decide_eq_false h3
        have e2 : decide ((n.size : Int) ≤ 60) = true := decide_eq_true h2
        have HV := Lib.hid hv
        clear hv
        go_enter Tryz.func95, Tryz.ntmps95
        go_wp2
        go_quiet (fail)
        go_wp2
        go_ret
        exact ⟨by rw [HV.out]; rfl, alloc_drewN _ _ _⟩
    · have hv : writB n v = false := by simp [writB, h2]
      have e2 : decide ((n.size : Int) ≤ 60) = false := decide_eq_false h2
      have HV := Lib.hid hv
      clear hv
      go_enter Tryz.func95, Tryz.ntmps95
      go_wp2
      go_quiet (fail)
      go_wp2
      go_ret
      exact ⟨by rw [HV.out]; rfl, alloc_drewN _ _ _⟩
  · have hv : writB n v = false := by simp [writB, h1]
    have HV := Lib.hid hv
    clear hv
    go_enter Tryz.func95, Tryz.ntmps95
    go_wp2
    go_quiet (fail)
    go_wp2
    go_ret
    exact ⟨by rw [HV.out]; rfl, alloc_drewN _ _ _⟩
end Go.Proofs.YtgdmaikjaopddaaGreatDoor
