/- The library's DeleteFunc over numbers, each once: one is taken out of a row. -/
import Derived.Test.YtehjhigaebpfkaaDoorFinds
import Derived.Lib.SliceRun
namespace Go.Proofs.YtehjhigaebpfkaaDoor
open Go.RowKit

theorem cell_lt' {w : World} {g j : Nat} {v : Value} (h : w.cell? ⟨g, j, none⟩ = some v) : g < w.heap.size := by
  unfold World.cell? at h
  cases hgg : w.heap[g]? with
  | none => rw [hgg] at h; cases h
  | some o => exact (Array.getElem?_eq_some_iff.1 hgg).1
/-- a cell of a row is written -/
theorem rowHolds.set {e : Nat} {v : Value} {n : Nat} {xs : List Value} {w : World} {F : Nat → Prop} (h : rowHolds e 1 v n xs w F) {j : Nat} (hj : j < n) (u : Value) :
    ∃ g c, v = .slice (some ⟨g, 0, none⟩) n c ∧ n ≤ c ∧ F g ∧ rowHolds e 1 v n (xs.set j u) (w.setCell ⟨g, j, none⟩ u) F ∧ (∃ old, w.cell? ⟨g, j, none⟩ = some old) ∧ w.frozen? ⟨g, j, none⟩ = false := by
  rcases h.2 with ⟨rfl, _, _⟩ | ⟨g, cap, cur, rfl, hg, h1, h2, h3, h4, h5⟩
  · omega
  · have hjc : j < cur.size := by rw [h3]; omega
    refine ⟨g, cap, rfl, h1, (h5 g).2 rfl, ⟨by rw [List.length_set]; exact h.1, .inr ⟨g, cap, cur.setIfInBounds j u, rfl, by simp [World.setCell, Array.getElem?_modify, hg], h1, h2, by simpa using h3, ?_, h5⟩⟩, ⟨cur[j], by rw [cell_of_row w g j cur e (0, 0) hg]; simp [hjc]⟩, by simp [World.frozen?, hg]⟩
    rw [← h4]
    simp only [Array.toList_setIfInBounds, Nat.mul_one]
    rw [List.take_set]
theorem rowHolds.get {e : Nat} {v : Value} {n : Nat} {xs : List Value} {w : World} {F : Nat → Prop} (h : rowHolds e 1 v n xs w F) {j : Nat} {u : Value} (hu : xs[j]? = some u) {g c : Nat} (hv : v = .slice (some ⟨g, 0, none⟩) n c) : w.cell? ⟨g, j, none⟩ = some u := by
  have hn : 0 < n := by
    have h1 := h.1
    have h2 := (List.getElem?_eq_some_iff.1 hu).1
    omega
  obtain ⟨g', c', hv', _, _, _, hc⟩ := h.cells hn
  have : g = g' := by rw [hv'] at hv; injection hv with h1; injection h1 with h1; injection h1 with h1; exact h1.symm
  subst this
  exact hc j u hu
/-- the last one is left out -/
theorem rowHolds.init {e : Nat} {g c n : Nat} {xs : List Value} {w : World} {F : Nat → Prop} (h : rowHolds e 1 (.slice (some ⟨g, 0, none⟩) (n + 1) c) (n + 1) xs w F) : rowHolds e 1 (.slice (some ⟨g, 0, none⟩) n c) n (xs.take n) w F := by
  rcases h.2 with ⟨h0, _⟩ | ⟨g', cap, cur, hv, hg, h1, h2, h3, h4, h5⟩
  · omega
  · injection hv with e1 _ e3
    injection e1 with e1
    injection e1 with e1
    subst e1; subst e3
    refine ⟨?_, .inr ⟨g, c, cur, rfl, hg, by omega, h2, h3, ?_, h5⟩⟩
    · have := h.1; rw [List.length_take]; omega
    · rw [← h4, List.take_take]; congr 1; omega

/-- numbers, of which those ahead of the last k that stand behind place i have moved one ahead -/
def shifted (zs : List Int) (i j : Nat) : List Int := zs.take i ++ (zs.drop (i + 1)).take (j - i - 1) ++ zs.drop (j - 1)
theorem shifted_len {zs : List Int} {i j : Nat} (h1 : i < j) (h2 : j ≤ zs.length) : (shifted zs i j).length = zs.length := by
  unfold shifted
  simp only [List.length_append, List.length_take, List.length_drop]
  omega
theorem shifted_start (zs : List Int) {i : Nat} (hi : i < zs.length) : shifted zs i (i + 1) = zs := by
  unfold shifted
  simp
theorem shifted_at {zs : List Int} {i j : Nat} (h1 : i < j) (h2 : j < zs.length) : (shifted zs i j)[j]? = some zs[j] := by
  unfold shifted
  have hl : (zs.take i ++ (zs.drop (i + 1)).take (j - i - 1)).length = j - 1 := by
    simp only [List.length_append, List.length_take, List.length_drop]; omega
  rw [List.getElem?_append_right (by rw [hl]; omega), hl, List.getElem?_drop]
  have : j - 1 + (j - (j - 1)) = j := by omega
  rw [this]; simp
theorem shifted_step {zs : List Int} {i j : Nat} (h1 : i < j) (h2 : j < zs.length) : (shifted zs i j).set (j - 1) zs[j] = shifted zs i (j + 1) := by
  unfold shifted
  have hl : (zs.take i ++ (zs.drop (i + 1)).take (j - i - 1)).length = j - 1 := by
    simp only [List.length_append, List.length_take, List.length_drop]; omega
  rw [List.set_append_right _ _ (by rw [hl]; exact Nat.le_refl _), hl, Nat.sub_self]
  have e1 : zs.drop (j - 1) = zs[j - 1] :: zs.drop j := by
    rw [List.drop_eq_getElem_cons (by omega)]; congr 2; omega
  rw [e1, List.set_cons_zero]
  have e2 : (zs.drop (i + 1)).take (j + 1 - i - 1) = (zs.drop (i + 1)).take (j - i - 1) ++ [zs[j]] := by
    have : j + 1 - i - 1 = (j - i - 1) + 1 := by omega
    rw [this, List.take_succ_eq_append_getElem (by rw [List.length_drop]; omega)]
    congr 2
    rw [List.getElem_drop]; congr 1; omega
  rw [e2]
  simp
theorem shifted_end {zs : List Int} {i : Nat} (hi : i < zs.length) : (shifted zs i zs.length).take (zs.length - 1) = zs.eraseIdx i := by
  unfold shifted
  have hl : (zs.take i ++ (zs.drop (i + 1)).take (zs.length - i - 1)).length = zs.length - 1 := by
    simp only [List.length_append, List.length_take, List.length_drop]; omega
  have e : (zs.drop (i + 1)).take (zs.length - i - 1) = zs.drop (i + 1) := List.take_of_length_le (by rw [List.length_drop]; omega)
  rw [List.take_append_of_le_length (by rw [hl]; exact Nat.le_refl _), List.take_of_length_le (by rw [hl]; exact Nat.le_refl _), e, List.eraseIdx_eq_take_drop_succ]
theorem icells_set (zs : List Int) (j : Nat) (x : Int) : (icells zs).set j (int x) = icells (zs.set j x) := by
  unfold icells
  rw [List.map_set]

theorem rowHolds.intsAt {v : Value} {zs : List Int} {w : World} {F : Nat → Prop} (h : rowHolds TInt 1 v zs.length (icells zs) w F) (hn : zs.length ≤ 1000000) {a : Option Addr} {c : Nat} (hv : v = .slice a zs.length c) : IntsAt w a zs := by
  refine ⟨by omega, fun j hj => ?_⟩
  obtain ⟨g, c', hv', _, _, _, hc⟩ := h.cells (by omega)
  rw [hv'] at hv
  injection hv with hv
  exact ⟨g, 0, hv.symm, by rw [Nat.zero_add]; exact hc j _ (by simp [icells, hj])⟩

set_option maxRecDepth 100000 in
theorem free1_any (q : Nat) (x y : Int) (w : World) (hq : w.cell? ⟨q, 0, none⟩ = some (int x)) : Calls Tryd.prog 74 #[int y, .pointer (some ⟨q, 0, none⟩)] w fun e w' => e = .returned (.bool (y == x)) ∧ w = w' := by
  go_enter Tryd.func74, Tryd.ntmps74
  go_wp2
  go_ret
  exact ⟨rfl, rfl⟩

theorem zeroInt : ∀ w, (zeroValue TInt).run Tryd.prog w = .ok (int 0) w := Tryd.zeroValue3

set_option maxRecDepth 100000 in
set_option maxHeartbeats 1000000 in
theorem delete_raw {v : Value} {zs : List Int} {w : World} {F : Nat → Prop} (h : rowHolds TInt 1 v zs.length (icells zs) w F) (hd : zs.Nodup) (hn : zs.length ≤ 1000000) (q : Nat) (x : Int) (hq : w.cell? ⟨q, 0, none⟩ = some (int x)) (hqF : ¬ F q) :
    Calls Tryd.prog 73 #[v, .func (.func 74) #[] #[.pointer (some ⟨q, 0, none⟩)]] w fun e w' => ∃ v', e = .returned v' ∧ rowHolds TInt 1 v' (zs.erase x).length (icells (zs.erase x)) w' F ∧ Only F w w' := by
  have H := Lib.hid h
  have hq' := Lib.hid hq
  have hql := cell_lt' hq
  obtain ⟨a, c, rfl, _⟩ := h.form
  have HI := Lib.hid (h.intsAt hn rfl)
  clear h hq
  go_enter Tryd.func73, Tryd.ntmps73
  go_wp2_with fail
  refine (idx_free q (fun y => y == x) a c zs w HI.out (fun y _ => free1_any q x y w hq'.out)).mono ?_
  rintro e w1 ⟨⟨r, rfl, hr⟩, rfl⟩
  rcases hr with ⟨rfl, hno⟩ | ⟨k, hk, rfl, hx, hnk⟩
  · have he : zs.erase x = zs := by
      refine List.erase_of_not_mem fun hm => ?_
      rw [List.any_eq_false] at hno
      exact hno x hm (by simp)
    have HE := Lib.hid he
    clear hno he
    go_wp2
    go_ret
    exact ⟨_, rfl, by rw [HE.out]; exact H.out, Only.refl _ _⟩
  · simp only [beq_iff_eq] at hx
    have hsp : zs = zs.take k ++ x :: zs.drop (k + 1) := by
      rw [← hx, List.getElem_cons_drop, List.take_append_drop]
    have hxk : x ∉ zs.take k := fun hm => by
      rw [List.any_eq_false] at hnk
      exact hnk x hm (by simp)
    have he : zs.erase x = zs.eraseIdx k := by
      rw [List.eraseIdx_eq_take_drop_succ]
      conv => lhs; rw [hsp]
      exact erase_mid hxk
    have hxd : x ∉ zs.drop (k + 1) := by
      rw [hsp] at hd
      exact (List.nodup_cons.1 (List.nodup_append.1 hd).2.1).1
    have HE := Lib.hid he
    have Hxd := Lib.hid hxd
    have hwr0 : IntKind.i64.wrap ((k : Int) + 1) = ((k + 1 : Nat) : Int) := by rw [IntKind.wrap_i64]; omega
    have hk1 : ((k : Int) == -1) = false := by simp
    clear he hd hx hsp hxk hxd hnk
    go_wp2_with fail
    go_loopw [5, 6] (fun iv jv wr => ∃ i : Nat, jv = int ((i + 1 : Nat) : Int) ∧ k ≤ i ∧ i < zs.length ∧ iv = int i ∧ rowHolds TInt 1 (.slice a zs.length c) zs.length (icells (shifted zs k (i + 1))) wr F ∧ Only F w wr) (fun _ jv _ => zs.length - (intOf jv).toNat)
    case atStart => exact ⟨k, rfl, Nat.le_refl _, hk, rfl, by rw [shifted_start zs hk]; exact H.out, Only.refl _ _⟩
    case round =>
      obtain ⟨i, rfl, hki, hi, rfl, hR, hO⟩ := hrel
      have HR := Lib.hid hR
      have HO := Lib.hid hO
      obtain ⟨g, c', hv, _, hFg, _, ⟨old, hold⟩, hfz⟩ := hR.set (j := i) hi (int 0)
      obtain ⟨rfl, rfl⟩ : a = some ⟨g, 0, none⟩ ∧ c = c' := by injection hv with h1 _ h3; exact ⟨h1, h3⟩
      have hFg' := Lib.hid hFg
      clear hv hFg
      by_cases hjl : i + 1 < zs.length
      · obtain ⟨g', _, hv, _, _, hset, _, _⟩ := hR.set (j := i) hi (int zs[i + 1])
        obtain rfl : g = g' := by injection hv with h1; injection h1 with h1; injection h1
        have cj : wr.cell? ⟨g, i + 1, none⟩ = some (int zs[i + 1]) := hR.get (j := i + 1) (u := int zs[i + 1]) (by simp only [icells, List.getElem?_map, shifted_at (Nat.lt_succ_of_le hki) hjl]; rfl) rfl
        have cq : wr.cell? ⟨q, 0, none⟩ = some (int x) := (World.cell?_of_block (hO.block q hql hqF)).trans hq'.out
        have t1 : decide (((i + 1 : Nat) : Int) < zs.length) = true := by simp; omega
        have t2 : (zs[i + 1] == x) = false := by
          simp only [beq_eq_false_iff_ne]
          intro e
          refine Hxd.out (e ▸ ?_)
          have : zs[i + 1] = (zs.drop (k + 1))[i - k]'(by rw [List.length_drop]; omega) := by
            rw [List.getElem_drop]; congr 1; omega
          rw [this]
          exact List.getElem_mem _
        have T2 := Lib.hid t2
        have hset' := Lib.hid hset
        have Hcq := Lib.hid cq
        obtain ⟨y, hy⟩ : ∃ y, y = zs[i + 1] := ⟨_, rfl⟩
        rw [← hy] at cj T2 hset'
        obtain ⟨j, hj⟩ : ∃ j, j = i + 1 := ⟨_, rfl⟩
        have Hy := Lib.hid hy
        have Hj := Lib.hid hj
        rw [← hj] at cj t1 hjl ⊢
        have hwr : IntKind.i64.wrap ((j : Int) + 1) = ((j + 1 : Nat) : Int) := by rw [IntKind.wrap_i64]; omega
        have hwr2 : IntKind.i64.wrap ((i : Int) + 1) = (j : Int) := by rw [IntKind.wrap_i64]; omega
        clear hR hO hv hset cq t2 hy hj
        go_wp2_with fail
        refine (free1_any q x y wr Hcq.out).mono ?_
        rintro e w2 ⟨rfl, rfl⟩
        rw [T2.out]
        go_wp2_with fail
        go_roundw
        case rel =>
          refine ⟨j, rfl, by have := Hj.out; omega, hjl, rfl, ?_, HO.out.setCell (p := ⟨g, i, none⟩) (.inl hFg'.out) _⟩
          have hst := shifted_step (zs := zs) (i := k) (j := j) (by have := Hj.out; omega) hjl
          have e1 : j - 1 = i := by have := Hj.out; omega
          rw [← hst, e1, ← icells_set]
          have := hset'.out
          rw [← Hj.out, Hy.out] at this
          have e2 : zs[i + 1] = zs[j] := by congr 1; exact Hj.out.symm
          rw [e2] at this
          rw [Hy.out, e2]
          exact this
        case measure => simp [intOf]; omega
      · have hin : i + 1 = zs.length := by omega
        have t1 : decide (((i + 1 : Nat) : Int) < zs.length) = false := by simp; omega
        have hil : zs.length - 1 = i := by omega
        obtain ⟨g', _, hv, _, _, hset, _, _⟩ := hR.set (j := i) hi (int 0)
        obtain rfl : g = g' := by injection hv with h1; injection h1 with h1; injection h1
        have hset' := Lib.hid hset
        have Hin := Lib.hid hin
        have hcl : ∀ ty, (Builtin.clear_ #[29] ty #[.slice (some ⟨g, i, none⟩) (zs.length - i) (c - i)]).run Tryd.prog wr = .ok (.tuple #[]) (wr.setCell ⟨g, i, none⟩ (int 0)) := fun ty => by
          have e : zs.length - i = 1 := by omega
          rw [e]
          have d1 : ∀ j, j < 1 → (wr.cell? ⟨g, i + j, none⟩).isSome = true := fun j hj => by
            have : j = 0 := by omega
            subst this
            rw [Nat.add_zero, hold]; rfl
          have d2 : ∀ j, j < 1 → wr.frozen? ⟨g, i + j, none⟩ = false := fun j hj => by
            have : j = 0 := by omega
            subst this
            rw [Nat.add_zero]; exact hfz
          exact Lib.run_clear_slice wr 29 TInt ty (int 0) Tryd.underlying29 zeroInt rfl rfl g i 1 (c - i) (by omega) d1 d2
        clear hR hO hv hset
        go_wp2
        go_ret
        refine ⟨_, rfl, ?_, HO.out.setCell (p := ⟨g, i, none⟩) (.inl hFg'.out) _⟩
        have hl : (zs.erase x).length = i := by
          rw [HE.out, List.length_eraseIdx, if_pos hk]; exact hil
        have hs := hset'.out
        have hL : (shifted zs k (i + 1)).take i = zs.erase x := by
          have := shifted_end hk
          rw [← Hin.out, Nat.add_sub_cancel] at this
          rw [HE.out]; exact this
        rw [← Hin.out] at hs
        have := rowHolds.init hs
        rw [hl, ← hL]
        have e : ((icells (shifted zs k (i + 1))).set i (int 0)).take i = icells ((shifted zs k (i + 1)).take i) := by
          rw [List.take_set_of_le (Nat.le_refl i)]
          simp [icells, List.map_take]
        rw [e] at this
        exact this
end Go.Proofs.YtehjhigaebpfkaaDoor
