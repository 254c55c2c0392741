/- names.Lower: a text with small letters. -/
import Derived.Test.YtehjhigaebpfkaaDoorAnys
import Derived.Laws.BytesString
namespace Go.Proofs.YtehjhigaebpfkaaDoor
open Go.RowKit

def lowB (c : Int) : Int := if 65 ≤ c ∧ c ≤ 90 then c + 32 else c
theorem lowB_rng {c : Int} (h0 : 0 ≤ c) (h1 : c < 256) : 0 ≤ lowB c ∧ lowB c < 256 := by unfold lowB; split <;> omega

set_option maxRecDepth 100000 in
theorem small_any (c : Int) (w : World) (h0 : 0 ≤ c) (h1 : c < 256) : Calls Tryd.prog 110 #[.int .u8 c] w fun e w' => e = .returned (.int .u8 (lowB c)) ∧ w' = w := by
  by_cases h2 : 65 ≤ c
  · by_cases h3 : c ≤ 90
    · have hl : lowB c = c + 32 := by unfold lowB; rw [if_pos ⟨h2, h3⟩]
      have e1 : IntKind.u8.wrap (c + 97) = c + 97 := by rw [IntKind.wrap_u8]; omega
      have e2 : IntKind.u8.wrap (c + 97 - 65) = c + 32 := by rw [IntKind.wrap_u8]; omega
      go_enter Tryd.func110, Tryd.ntmps110
      go_wp2
      go_ret
      exact ⟨by rw [hl]; rfl, rfl⟩
    · have hl : lowB c = c := by unfold lowB; rw [if_neg (by omega)]
      go_enter Tryd.func110, Tryd.ntmps110
      go_wp2
      go_ret
      exact ⟨rfl, rfl⟩
  · have hl : lowB c = c := by unfold lowB; rw [if_neg (by omega)]
    go_enter Tryd.func110, Tryd.ntmps110
    go_wp2
    go_ret
    exact ⟨rfl, rfl⟩

/-- the row of a text's bytes, of which so many are small -/
structure LowC (W wr : World) (B i : Nat) (zs : List Int) : Prop where
  below : Below B W wr
  cells : ∀ j (h : j < zs.length), wr.cell? ⟨B, j, none⟩ = some (.int .u8 (if j < i then lowB zs[j] else zs[j]))
  open' : ∀ j, j < zs.length → wr.frozen? ⟨B, j, none⟩ = false
theorem LowC.step {W wr : World} {B i : Nat} {zs : List Int} (h : LowC W wr B i zs) (hi : i < zs.length) : LowC W (wr.setCell ⟨B, i, none⟩ (.int .u8 (lowB zs[i]))) B (i + 1) zs where
  below := h.below.setCell (p := ⟨B, i, none⟩) (Nat.le_refl _) _
  cells j hj := by
    by_cases e : j = i
    · subst e
      rw [World.cell?_setCell_same (h := h.cells j hj), if_pos (by omega)]
    · rw [World.cell?_setCell_other (h := by intro he; injection he with _ he; omega), h.cells j hj]
      by_cases hl : j < i
      · rw [if_pos hl, if_pos (by omega)]
      · rw [if_neg hl, if_neg (by omega)]
  open' j hj := by rw [World.frozen?_setCell]; exact h.open' j hj

theorem bytes_push (ns : List Int) (h : ∀ x ∈ ns, 0 ≤ x ∧ x < 256) : bytesOf (ns.foldl (fun r n => r.push (UInt8.ofNat n.toNat)) ByteArray.empty) = ns := by
  have hg : ∀ (ns : List Int) (r : ByteArray), (∀ x ∈ ns, 0 ≤ x ∧ x < 256) → bytesOf (ns.foldl (fun r n => r.push (UInt8.ofNat n.toNat)) r) = bytesOf r ++ ns := by
    intro ns
    induction ns with
    | nil => intro r _; simp
    | cons n t ih =>
      intro r h
      rw [List.foldl_cons, ih _ (fun x hx => h x (List.mem_cons_of_mem _ hx))]
      have hn := h n (List.mem_cons_self ..)
      have e1 : bytesOf (r.push (UInt8.ofNat n.toNat)) = bytesOf r ++ [n] := by
        unfold bytesOf
        rw [ByteArray.data_push, Array.toList_push, List.map_append]
        simp only [List.map_cons, List.map_nil]
        rw [UInt8.toNat_ofNat', Nat.mod_eq_of_lt (by omega), Int.toNat_of_nonneg hn.1]
      rw [e1]; simp
  have := hg ns ByteArray.empty h
  simpa [bytesOf] using this

set_option maxRecDepth 100000 in
set_option maxHeartbeats 2000000 in
theorem Lower_any (s : ByteArray) (w : World) (hs : s.size ≤ 1000000) : Calls Tryd.prog 98 #[.string s] w fun e w' => (∃ t : ByteArray, e = .returned (.string t) ∧ bytesOf t = (bytesOf s).map lowB) ∧ Below w.heap.size w w' := by
  have hcv := fun W : World => Lib.run_convert_string_bytes (P := Tryd.prog) W 9 50 5 s Tryd.underlying9 Tryd.underlying50 Tryd.underlying5
  have hlen : (bytesOf s).length = s.size := by simp [bytesOf]
  have hrg : ∀ j (h : j < (bytesOf s).length), 0 ≤ (bytesOf s)[j] ∧ (bytesOf s)[j] < 256 := fun j h => by
    simp only [bytesOf, List.getElem_map]
    have := (s.data.toList[j]'(by simpa [bytesOf] using h)).toNat_lt
    omega
  have hst : LowC w (Lib.bytesWorld w 5 s) w.heap.size 0 (bytesOf s) := by
    refine ⟨below_bytes _ _ _, fun j hj => ?_, fun j hj => ?_⟩
    · rw [Lib.bytesWorld_cell _ _ _ _ (by omega)]
      have hj' : j < s.data.size := by simpa [bytesOf] using hj
      simp [bytesOf, List.getD, Array.getElem?_eq_getElem hj']
    · have hsz : s.size ≤ (Lib.bytesCells w 5 s).size := by simp [Lib.bytesCells]
      simp only [World.frozen?, Lib.bytesWorld_at_new, Bool.and_eq_false_iff, decide_eq_false_iff_not]
      left; omega
  have HR := Lib.hid hrg
  have HS := Lib.hid hst
  generalize bytesOf s = zs at *
  clear hrg hst
  go_enter Tryd.func98, Tryd.ntmps98
  go_wp2
  generalize Lib.bytesWorld w 5 s = w0 at *
  go_loopw [10] (fun v wr => ∃ i : Nat, v = int i ∧ i ≤ s.size ∧ LowC w wr w.heap.size i zs) (fun v _ => s.size - (intOf v).toNat)
  case atStart => exact ⟨0, rfl, Nat.zero_le _, HS.out⟩
  case round =>
    obtain ⟨i, rfl, hi, hL⟩ := hrel
    have HL := Lib.hid hL
    by_cases hlt : i < s.size
    · have u1 := hL.cells i (by omega)
      rw [if_neg (by omega)] at u1
      have u2 := hL.open' i (by omega)
      have hr := HR.out i (by omega)
      have hwr : IntKind.i64.wrap ((i : Int) + 1) = ((i + 1 : Nat) : Int) := by rw [IntKind.wrap_i64]; omega
      have HG := Lib.hid (hL.step (by omega))
      clear hL
      go_wp2_with (go_at_call 110; refine (small_any _ _ hr.1 hr.2).mono ?_; rintro e w' ⟨rfl, rfl⟩)
      go_roundw
      case rel => exact ⟨i + 1, rfl, hlt, HG.out⟩
      case measure => simp [intOf]; omega
    · obtain rfl : i = s.size := by omega
      have hconv : ∀ c, (convert 50 9 (.slice (some ⟨w.heap.size, 0, none⟩) s.size c)).run Tryd.prog wr = .ok (.string ((zs.map lowB).foldl (fun r n => r.push (UInt8.ofNat n.toNat)) ByteArray.empty)) wr := fun c => by
        rw [run_convert_bytes_string wr _ _ _ _ _ _ Tryd.underlying50 Tryd.underlying5 Tryd.underlying9]
        refine run_bytesToString wr _ _ _ _ ?_
        have h := run_loadCells_list (P := Tryd.prog) wr ⟨w.heap.size, 0, none⟩ ((zs.map lowB).map (Value.int .u8)) (fun j v hv => by
          have hj : j < zs.length := by
            have := (List.getElem?_eq_some_iff.1 hv).1
            simpa using this
          have hc := hL.cells j hj
          rw [if_pos (by omega)] at hc
          simp only [List.getElem?_map, List.getElem?_eq_getElem hj, Option.map_some, Option.some.injEq] at hv
          have ea : (⟨w.heap.size, 0, none⟩ : Addr).add j = ⟨w.heap.size, j, none⟩ := by unfold Addr.add; simp; exact fun h => h.symm
          rw [ea, hc, ← hv])
        simpa [hlen] using h
      have hby := bytes_push (zs.map lowB) (fun x hx => by
        obtain ⟨y, hy, rfl⟩ := List.mem_map.1 hx
        obtain ⟨j, hj, rfl⟩ := List.getElem_of_mem hy
        have := HR.out j hj
        exact lowB_rng this.1 this.2)
      have HBY := Lib.hid hby
      clear hL hby
      generalize (zs.map lowB).foldl (fun r n => r.push (UInt8.ofNat n.toNat)) ByteArray.empty = q at *
      go_wp2
      go_ret
      exact ⟨⟨q, rfl, HBY.out⟩, HL.out.below⟩
end Go.Proofs.YtehjhigaebpfkaaDoor
