/- The library's IndexFunc, ContainsFunc over numbers, for the functions that package dom hands them. -/
import Derived.Test.YtehjhigaebpfkaaDoorBoxes
namespace Go.Proofs.YtehjhigaebpfkaaDoor
open Go.RowKit

theorem any_snoc' {l : List Int} {k : Nat} (h : k < l.length) (f : Int → Bool) : (l.take (k + 1)).any f = ((l.take k).any f || f l[k]) := by
  rw [List.take_succ_eq_append_getElem h, List.any_append]
  simp only [List.any_cons, List.any_nil, Bool.or_false]

/-- a slice of numbers, as it lies in a world -/
def IntsAt (w : World) (a : Option Addr) (zs : List Int) : Prop := zs.length ≤ 9223372036854775807 ∧ ∀ j (h : j < zs.length), ∃ b o, a = some ⟨b, o, none⟩ ∧ w.cell? ⟨b, o + j, none⟩ = some (int zs[j])
theorem IntsAt.at {w : World} {a : Option Addr} {zs : List Int} (h : IntsAt w a zs) (hz : 0 < zs.length) : ∃ b o, a = some ⟨b, o, none⟩ ∧ ∀ j (h : j < zs.length), w.cell? ⟨b, o + j, none⟩ = some (int zs[j]) := by
  obtain ⟨b, o, rfl, _⟩ := h.2 0 hz
  refine ⟨b, o, rfl, fun j hj => ?_⟩
  obtain ⟨b', o', e, hc⟩ := h.2 j hj
  injection e with e
  injection e with e1 e2
  subst e1; subst e2
  exact hc
theorem Sep.intsAt {W w : World} {rs : List Res} {a : Option Addr} {c : Nat} {l : List Int} (h : Sep W w (irow (.slice a l.length c) l :: rs)) (hl : l.length ≤ 9223372036854775807) : IntsAt w a l := by
  refine ⟨hl, fun j hj => ?_⟩
  obtain ⟨g, c', hv, hc⟩ := h.irow_open (by omega)
  injection hv with hv
  exact ⟨g, 0, hv, by rw [Nat.zero_add]; exact hc j l[j] (by simp [hj])⟩

set_option maxRecDepth 100000 in
theorem idx_free (q : Nat) (f : Int → Bool) (a : Option Addr) (c : Nat) (zs : List Int) (w : World) (hz : IntsAt w a zs)
    (hf : ∀ y ∈ zs, Calls Tryd.prog 74 #[int y, .pointer (some ⟨q, 0, none⟩)] w fun e w' => e = .returned (.bool (f y)) ∧ w = w') :
    Calls Tryd.prog 91 #[.slice a zs.length c, .func (.func 74) #[] #[.pointer (some ⟨q, 0, none⟩)]] w fun e w' => (∃ r : Int, e = .returned (int r) ∧ (r = -1 ∧ zs.any f = false ∨ ∃ (k : Nat) (hk : k < zs.length), r = k ∧ f zs[k] = true ∧ (zs.take k).any f = false)) ∧ w = w' := by
  have HZ := Lib.hid hz
  have HF := Lib.hid hf
  have hn := hz.1
  clear hz hf
  go_enter Tryd.func91, Tryd.ntmps91
  go_wp2
  go_loop [8] (fun i => ∃ k : Nat, k ≤ zs.length ∧ i = .int .i64 k ∧ (zs.take k).any f = false) (fun i => zs.length - (intOf i).toNat)
  case atStart => exact ⟨0, Nat.zero_le _, rfl, by simp⟩
  case round =>
    obtain ⟨k, hk, rfl, hno⟩ := hrel
    have HN := Lib.hid hno
    clear hno
    by_cases hlt : k < zs.length
    · obtain ⟨b, o, rfl, hc⟩ := HZ.out.at (by omega)
      have ck := hc k hlt
      have hfk := HF.out zs[k] (List.getElem_mem hlt)
      clear hc
      cases ho : f zs[k]
      · have HO := Lib.hid ho
        clear ho
        go_wp2_with fail
        refine hfk.mono ?_
        rintro e w' ⟨rfl, rfl⟩
        rw [HO.out]
        go_wp2_with fail
        go_round
        case rel => exact ⟨k + 1, by omega, by go_num, by rw [any_snoc' hlt, HN.out, HO.out]; rfl⟩
        case measure => simp [intOf]; omega
      · have HO := Lib.hid ho
        clear ho
        go_wp2_with fail
        refine hfk.mono ?_
        rintro e w' ⟨rfl, rfl⟩
        rw [HO.out]
        go_wp2
        go_ret
        exact ⟨⟨k, rfl, .inr ⟨k, hlt, rfl, HO.out, HN.out⟩⟩, rfl⟩
    · have : k = zs.length := by omega
      subst this
      go_wp2
      go_ret
      have := HN.out
      rw [List.take_length] at this
      exact ⟨⟨-1, rfl, .inl ⟨rfl, by simpa using this⟩⟩, rfl⟩

set_option maxRecDepth 100000 in
theorem idx_lacks (q : Nat) (f : Int → Bool) (a : Option Addr) (c : Nat) (zs : List Int) (w : World) (hz : IntsAt w a zs)
    (hf : ∀ y ∈ zs, Calls Tryd.prog 41 #[ptr q, int y] w fun e w' => e = .returned (.bool (f y)) ∧ w = w') :
    Calls Tryd.prog 91 #[.slice a zs.length c, .func (.func 41) #[ptr q] #[]] w fun e w' => (∃ r : Int, e = .returned (int r) ∧ (r = -1 ∧ zs.any f = false ∨ ∃ (k : Nat) (hk : k < zs.length), r = k ∧ f zs[k] = true ∧ (zs.take k).any f = false)) ∧ w = w' := by
  have HZ := Lib.hid hz
  have HF := Lib.hid hf
  have hn := hz.1
  clear hz hf
  go_enter Tryd.func91, Tryd.ntmps91
  go_wp2
  go_loop [8] (fun i => ∃ k : Nat, k ≤ zs.length ∧ i = .int .i64 k ∧ (zs.take k).any f = false) (fun i => zs.length - (intOf i).toNat)
  case atStart => exact ⟨0, Nat.zero_le _, rfl, by simp⟩
  case round =>
    obtain ⟨k, hk, rfl, hno⟩ := hrel
    have HN := Lib.hid hno
    clear hno
    by_cases hlt : k < zs.length
    · obtain ⟨b, o, rfl, hc⟩ := HZ.out.at (by omega)
      have ck := hc k hlt
      have hfk := HF.out zs[k] (List.getElem_mem hlt)
      clear hc
      cases ho : f zs[k]
      · have HO := Lib.hid ho
        clear ho
        go_wp2_with fail
        refine hfk.mono ?_
        rintro e w' ⟨rfl, rfl⟩
        rw [HO.out]
        go_wp2_with fail
        go_round
        case rel => exact ⟨k + 1, by omega, by go_num, by rw [any_snoc' hlt, HN.out, HO.out]; rfl⟩
        case measure => simp [intOf]; omega
      · have HO := Lib.hid ho
        clear ho
        go_wp2_with fail
        refine hfk.mono ?_
        rintro e w' ⟨rfl, rfl⟩
        rw [HO.out]
        go_wp2
        go_ret
        exact ⟨⟨k, rfl, .inr ⟨k, hlt, rfl, HO.out, HN.out⟩⟩, rfl⟩
    · have : k = zs.length := by omega
      subst this
      go_wp2
      go_ret
      have := HN.out
      rw [List.take_length] at this
      exact ⟨⟨-1, rfl, .inl ⟨rfl, by simpa using this⟩⟩, rfl⟩

set_option maxRecDepth 100000 in
theorem contains_lacks (q : Nat) (f : Int → Bool) (a : Option Addr) (c : Nat) (zs : List Int) (w : World) (hz : IntsAt w a zs)
    (hf : ∀ y ∈ zs, Calls Tryd.prog 41 #[ptr q, int y] w fun e w' => e = .returned (.bool (f y)) ∧ w = w') :
    Calls Tryd.prog 70 #[.slice a zs.length c, .func (.func 41) #[ptr q] #[]] w fun e w' => e = .returned (.bool (zs.any f)) ∧ w = w' := by
  have HZ := Lib.hid hz
  have HF := Lib.hid hf
  clear hz hf
  go_enter Tryd.func70, Tryd.ntmps70
  go_wp2_with fail
  refine (idx_lacks q f a c zs w HZ.out HF.out).mono ?_
  rintro e w' ⟨⟨r, rfl, hr⟩, rfl⟩
  rcases hr with ⟨rfl, h⟩ | ⟨k, hk, rfl, h, _⟩
  · have H := Lib.hid h
    clear h
    go_wp2
    go_ret
    exact ⟨by rw [H.out]; rfl, rfl⟩
  · have h2 : zs.any f = true := List.any_eq_true.2 ⟨zs[k], List.getElem_mem hk, h⟩
    have H := Lib.hid h2
    have t1 : decide ((k : Int) ≥ 0) = true := by simp
    clear h h2
    go_wp2
    go_ret
    exact ⟨by rw [H.out]; rfl, rfl⟩

set_option maxRecDepth 100000 in
theorem idx_gives (q : Nat) (f : Int → Bool) (a : Option Addr) (c : Nat) (zs : List Int) (w : World) (hz : IntsAt w a zs)
    (hf : ∀ y ∈ zs, Calls Tryd.prog 71 #[int y, .pointer (some ⟨q, 0, none⟩)] w fun e w' => e = .returned (.bool (f y)) ∧ w = w') :
    Calls Tryd.prog 91 #[.slice a zs.length c, .func (.func 71) #[] #[.pointer (some ⟨q, 0, none⟩)]] w fun e w' => (∃ r : Int, e = .returned (int r) ∧ (r = -1 ∧ zs.any f = false ∨ ∃ (k : Nat) (hk : k < zs.length), r = k ∧ f zs[k] = true ∧ (zs.take k).any f = false)) ∧ w = w' := by
  have HZ := Lib.hid hz
  have HF := Lib.hid hf
  have hn := hz.1
  clear hz hf
  go_enter Tryd.func91, Tryd.ntmps91
  go_wp2
  go_loop [8] (fun i => ∃ k : Nat, k ≤ zs.length ∧ i = .int .i64 k ∧ (zs.take k).any f = false) (fun i => zs.length - (intOf i).toNat)
  case atStart => exact ⟨0, Nat.zero_le _, rfl, by simp⟩
  case round =>
    obtain ⟨k, hk, rfl, hno⟩ := hrel
    have HN := Lib.hid hno
    clear hno
    by_cases hlt : k < zs.length
    · obtain ⟨b, o, rfl, hc⟩ := HZ.out.at (by omega)
      have ck := hc k hlt
      have hfk := HF.out zs[k] (List.getElem_mem hlt)
      clear hc
      cases ho : f zs[k]
      · have HO := Lib.hid ho
        clear ho
        go_wp2_with fail
        refine hfk.mono ?_
        rintro e w' ⟨rfl, rfl⟩
        rw [HO.out]
        go_wp2_with fail
        go_round
        case rel => exact ⟨k + 1, by omega, by go_num, by rw [any_snoc' hlt, HN.out, HO.out]; rfl⟩
        case measure => simp [intOf]; omega
      · have HO := Lib.hid ho
        clear ho
        go_wp2_with fail
        refine hfk.mono ?_
        rintro e w' ⟨rfl, rfl⟩
        rw [HO.out]
        go_wp2
        go_ret
        exact ⟨⟨k, rfl, .inr ⟨k, hlt, rfl, HO.out, HN.out⟩⟩, rfl⟩
    · have : k = zs.length := by omega
      subst this
      go_wp2
      go_ret
      have := HN.out
      rw [List.take_length] at this
      exact ⟨⟨-1, rfl, .inl ⟨rfl, by simpa using this⟩⟩, rfl⟩

set_option maxRecDepth 100000 in
theorem contains_gives (q : Nat) (f : Int → Bool) (a : Option Addr) (c : Nat) (zs : List Int) (w : World) (hz : IntsAt w a zs)
    (hf : ∀ y ∈ zs, Calls Tryd.prog 71 #[int y, .pointer (some ⟨q, 0, none⟩)] w fun e w' => e = .returned (.bool (f y)) ∧ w = w') :
    Calls Tryd.prog 70 #[.slice a zs.length c, .func (.func 71) #[] #[.pointer (some ⟨q, 0, none⟩)]] w fun e w' => e = .returned (.bool (zs.any f)) ∧ w = w' := by
  have HZ := Lib.hid hz
  have HF := Lib.hid hf
  clear hz hf
  go_enter Tryd.func70, Tryd.ntmps70
  go_wp2_with fail
  refine (idx_gives q f a c zs w HZ.out HF.out).mono ?_
  rintro e w' ⟨⟨r, rfl, hr⟩, rfl⟩
  rcases hr with ⟨rfl, h⟩ | ⟨k, hk, rfl, h, _⟩
  · have H := Lib.hid h
    clear h
    go_wp2
    go_ret
    exact ⟨by rw [H.out]; rfl, rfl⟩
  · have h2 : zs.any f = true := List.any_eq_true.2 ⟨zs[k], List.getElem_mem hk, h⟩
    have H := Lib.hid h2
    have t1 : decide ((k : Int) ≥ 0) = true := by simp
    clear h h2
    go_wp2
    go_ret
    exact ⟨by rw [H.out]; rfl, rfl⟩

end Go.Proofs.YtehjhigaebpfkaaDoor
