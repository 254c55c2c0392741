/- The library's DeleteFunc over numbers, each once: one is taken out of a row. -/
import Derived.Test.YtgdmaikjaopddaaGreatDoorJ09
import Derived.Lib.SliceRun
import Derived.BigRegion
namespace Go.Proofs.YtgdmaikjaopddaaGreatDoor
open Go.RowKit

theorem cell_lt' {w : World} {g j : Nat} {v : Value} (h : w.cell? ⟨g, j, none⟩ = some v) : g < w.heap.size := by
  unfold World.cell? at h
  cases hgg : w.heap[g]? with
  | none => rw [hgg] at h; cases h
  | some o => exact (Array.getElem?_eq_some_iff.1 hgg).1
/-- a cell of a row is written -/
theorem rowHolds.set {e : Nat} {v : Value} {n : Nat} {xs : List Value} {w : World} {F : Nat → Prop} (h : rowHolds e 1 v n xs w F) {j : Nat} (hj : j < n) (u : Value) :
    ∃ g c, v = .slice (some ⟨g, 0, none⟩) n c ∧ n ≤ c ∧ F g ∧ rowHolds e 1 v n (xs.set j u) (w.setCell ⟨g, j, none⟩ u) F ∧ (∃ old, w.cell? ⟨g, j, none⟩ = some old) ∧ w.frozen? ⟨g, j, none⟩ = false := by
  rcases h.2 with ⟨rfl, _, _⟩ | ⟨g, cap, cur, rfl, hg, h1, h2, h3, h4, h5⟩
  · omega
  · have hjc : j < cur.size := by rw [h3]; omega
    refine ⟨g, cap, rfl, h1, (h5 g).2 rfl, ⟨by rw [List.length_set]; exact h.1, .inr ⟨g, cap, cur.setIfInBounds j u, rfl, by simp [World.setCell, Array.getElem?_modify, hg], h1, h2, by simpa using h3, ?_, h5⟩⟩, ⟨cur[j], by rw [cell_of_row w g j cur e (0, 0) hg]; simp [hjc]⟩, by simp [World.frozen?, hg]⟩
    rw [← h4]
    simp only [Array.toList_setIfInBounds, Nat.mul_one]
    rw [List.take_set]
theorem rowHolds.get {e : Nat} {v : Value} {n : Nat} {xs : List Value} {w : World} {F : Nat → Prop} (h : rowHolds e 1 v n xs w F) {j : Nat} {u : Value} (hu : xs[j]? = some u) {g c : Nat} (hv : v = .slice (some ⟨g, 0, none⟩) n c) : w.cell? ⟨g, j, none⟩ = some u := by
  have hn : 0 < n := by
    have h1 := h.1
    have h2 := (List.getElem?_eq_some_iff.1 hu).1
    omega
  obtain ⟨g', c', hv', _, _, _, hc⟩ := h.cells hn
  have : g = g' := by rw [hv'] at hv; injection hv with h1; injection h1 with h1; injection h1 with h1; exact h1.symm
  subst this
  exact hc j u hu
/-- the last one is left out -/
theorem rowHolds.init {e : Nat} {g c n : Nat} {xs : List Value} {w : World} {F : Nat → Prop} (h : rowHolds e 1 (.slice (some ⟨g, 0, none⟩) (n + 1) c) (n + 1) xs w F) : rowHolds e 1 (.slice (some ⟨g, 0, none⟩) n c) n (xs.take n) w F := by
  rcases h.2 with ⟨h0, _⟩ | ⟨g', cap, cur, hv, hg, h1, h2, h3, h4, h5⟩
  · omega
  · injection hv with e1 _ e3
    injection e1 with e1
    injection e1 with e1
    subst e1; subst e3
    refine ⟨?_, .inr ⟨g, c, cur, rfl, hg, by omega, h2, h3, ?_, h5⟩⟩
    · have := h.1; rw [List.length_take]; omega
    · rw [← h4, List.take_take]; congr 1; omega

/-- numbers, of which those ahead of the last k that stand behind place i have moved one ahead -/
def shifted (zs : List Int) (i j : Nat) : List Int := zs.take i ++ (zs.drop (i + 1)).take (j - i - 1) ++ zs.drop (j - 1)
theorem shifted_len {zs : List Int} {i j : Nat} (h1 : i < j) (h2 : j ≤ zs.length) : (shifted zs i j).length = zs.length := by
  unfold shifted
  simp only [List.length_append, List.length_take, List.length_drop]
  omega
theorem shifted_start (zs : List Int) {i : Nat} (hi : i < zs.length) : shifted zs i (i + 1) = zs := by
  unfold shifted
  simp
theorem shifted_at {zs : List Int} {i j : Nat} (h1 : i < j) (h2 : j < zs.length) : (shifted zs i j)[j]? = some zs[j] := by
  unfold shifted
  have hl : (zs.take i ++ (zs.drop (i + 1)).take (j - i - 1)).length = j - 1 := by
    simp only [List.length_append, List.length_take, List.length_drop]; omega
  rw [List.getElem?_append_right (by rw [hl]; omega), hl, List.getElem?_drop]
  have : j - 1 + (j - (j - 1)) = j := by omega
  rw [this]; simp
theorem shifted_step {zs : List Int} {i j : Nat} (h1 : i < j) (h2 : j < zs.length) : (shifted zs i j).set (j - 1) zs[j] = shifted zs i (j + 1) := by
  unfold shifted
  have hl : (zs.take i ++ (zs.drop (i + 1)).take (j - i - 1)).length = j - 1 := by
    simp only [List.length_append, List.length_take, List.length_drop]; omega
  rw [List.set_append_right _ _ (by rw [hl]; exact Nat.le_refl _), hl, Nat.sub_self]
  have e1 : zs.drop (j - 1) = zs[j - 1] :: zs.drop j := by
    rw [List.drop_eq_getElem_cons (by omega)]; congr 2; omega
  rw [e1, List.set_cons_zero]
  have e2 : (zs.drop (i + 1)).take (j + 1 - i - 1) = (zs.drop (i + 1)).take (j - i - 1) ++ [zs[j]] := by
    have : j + 1 - i - 1 = (j - i - 1) + 1 := by omega
    rw [this, List.take_succ_eq_append_getElem (by rw [List.length_drop]; omega)]
    congr 2
    rw [List.getElem_drop]; congr 1; omega
  rw [e2]
  simp
theorem shifted_end {zs : List Int} {i : Nat} (hi : i < zs.length) : (shifted zs i zs.length).take (zs.length - 1) = zs.eraseIdx i := by
  unfold shifted
  have hl : (zs.take i ++ (zs.drop (i + 1)).take (zs.length - i - 1)).length = zs.length - 1 := by
    simp only [List.length_append, List.length_take, List.length_drop]; omega
  have e : (zs.drop (i + 1)).take (zs.length - i - 1) = zs.drop (i + 1) := List.take_of_length_le (by rw [List.length_drop]; omega)
  rw [List.take_append_of_le_length (by rw [hl]; exact Nat.le_refl _), List.take_of_length_le (by rw [hl]; exact Nat.le_refl _), e, List.eraseIdx_eq_take_drop_succ]
theorem icells_set (zs : List Int) (j : Nat) (x : Int) : (icells zs).set j (int x) = icells (zs.set j x) := by
  unfold icells
  rw [List.map_set]

theorem rowHolds.intsAt {v : Value} {zs : List Int} {w : World} {F : Nat → Prop} (h : rowHolds TInt 1 v zs.length (icells zs) w F) (hn : zs.length ≤ 1000000) {a : Option Addr} {c : Nat} (hv : v = .slice a zs.length c) : IntsAt w a zs := by
  refine ⟨by omega, fun j hj => ?_⟩
  obtain ⟨g, c', hv', _, _, _, hc⟩ := h.cells (by omega)
  rw [hv'] at hv
  injection hv with hv
  exact ⟨g, 0, hv.symm, by rw [Nat.zero_add]; exact hc j _ (by simp [icells, hj])⟩

set_option maxRecDepth 100000 in
theorem free1_any (q : Nat) (x y : Int) (w : World) (hq : w.cell? ⟨q, 0, none⟩ = some (int x)) : Calls Tryz.prog 90 #[int y, .pointer (some ⟨q, 0, none⟩)] w fun e w' => e = .returned (.bool (y == x)) ∧ w = w' := by
  go_enter Tryz.func90, Tryz.ntmps90
  go_wp2
  go_ret
  exact ⟨rfl, rfl⟩

theorem zeroInt : ∀ w, (zeroValue TInt).run Tryz.prog w = .ok (int 0) w := Tryz.zeroValue3

set_option maxRecDepth 100000 in
set_option maxHeartbeats 1000000 in
theorem delete_raw {v : Value} {zs : List Int} {w : World} {F : Nat → Prop} (h : rowHolds TInt 1 v zs.length (icells zs) w F) (hd : zs.Nodup) (hn : zs.length ≤ 1000000) (q : Nat) (x : Int) (hq : w.cell? ⟨q, 0, none⟩ = some (int x)) (hqF : ¬ F q) :
    Calls Tryz.prog 89 #[v, .func (.func 90) #[] #[.pointer (some ⟨q, 0, none⟩)]] w fun e w' => ∃ v', e = .returned v' ∧ rowHolds TInt 1 v' (zs.erase x).length (icells (zs.erase x)) w' F ∧ Only F w w' := by
  have H := Lib.hid h
  have hq' := Lib.hid hq
  have hql := cell_lt' hq
  obtain ⟨a, c, rfl, _⟩ := h.form
  have HI := Lib.hid (h.intsAt hn rfl)
  clear h hq
  go_enter Tryz.func89, Tryz.ntmps89
  go_wp2_with fail
  refine (idx_free q (fun y => y == x) a c zs w HI.out (fun y _ => free1_any q x y w hq'.out)).mono ?_
  rintro e w1 ⟨⟨r, rfl, hr⟩, rfl⟩
  rcases hr with ⟨rfl, hno⟩ | ⟨k, hk, rfl, hx, hnk⟩
  · have he : zs.erase x = zs := by
      refine List.erase_of_not_mem fun hm => ?_
      rw [List.any_eq_false] at hno
      exact hno x hm (by simp)
    have HE := Lib.hid he
    clear hno he
    go_wp2
    go_ret
    exact ⟨_, rfl, by rw [HE.out]; exact H.out, Only.refl _ _⟩
  · simp only [beq_iff_eq] at hx
    have hsp : zs = zs.take k ++ x :: zs.drop (k + 1) := by
      rw [← hx, List.getElem_cons_drop, List.take_append_drop]
    have hxk : x ∉ zs.take k := fun hm => by
      rw [List.any_eq_false] at hnk
      exact hnk x hm (by simp)
    have he : zs.erase x = zs.eraseIdx k := by
      rw [List.eraseIdx_eq_take_drop_succ]
      conv => lhs; rw [hsp]
      exact erase_mid hxk
    have hxd : x ∉ zs.drop (k + 1) := by
      rw [hsp] at hd
      exact (List.nodup_cons.1 (List.nodup_append.1 hd).2.1).1
    have HE := Lib.hid he
    have Hxd := Lib.hid hxd
    have hwr0 : IntKind.i64.wrap ((k : Int) + 1) = ((k + 1 : Nat) : Int) := by rw [IntKind.wrap_i64]; omega
    have hk1 : ((k : Int) == -1) = false := by simp
    clear he hd hx hsp hxk hxd hnk
    go_wp2_with fail
    go_loopw [5, 6] (fun iv jv wr => ∃ i : Nat, jv = int ((i + 1 : Nat) : Int) ∧ k ≤ i ∧ i < zs.length ∧ iv = int i ∧ rowHolds TInt 1 (.slice a zs.length c) zs.length (icells (shifted zs k (i + 1))) wr F ∧ Only F w wr) (fun _ jv _ => zs.length - (intOf jv).toNat)
    case atStart => exact ⟨k, rfl, Nat.le_refl _, hk, rfl, by rw [shifted_start zs hk]; exact H.out, Only.refl _ _⟩
    case round =>
      obtain ⟨i, rfl, hki, hi, rfl, hR, hO⟩ := hrel
      have HR := Lib.hid hR
      have HO := Lib.hid hO
      obtain ⟨g, c', hv, _, hFg, _, ⟨old, hold⟩, hfz⟩ := hR.set (j := i) hi (int 0)
      obtain ⟨rfl, rfl⟩ : a = some ⟨g, 0, none⟩ ∧ c = c' := by injection hv with h1 _ h3; exact ⟨h1, h3⟩
      have hFg' := Lib.hid hFg
      clear hv hFg
      by_cases hjl : i + 1 < zs.length
      · obtain ⟨g', _, hv, _, _, hset, _, _⟩ := hR.set (j := i) hi (int zs[i + 1])
        obtain rfl : g = g' := by injection hv with h1; injection h1 with h1; injection h1
        have cj : wr.cell? ⟨g, i + 1, none⟩ = some (int zs[i + 1]) := hR.get (j := i + 1) (u := int zs[i + 1]) (by simp only [icells, List.getElem?_map, shifted_at (Nat.lt_succ_of_le hki) hjl]; rfl) rfl
        have cq : wr.cell? ⟨q, 0, none⟩ = some (int x) := (World.cell?_of_block (hO.block q hql hqF)).trans hq'.out
        have t1 : decide (((i + 1 : Nat) : Int) < zs.length) = true := by simp; omega
        have t2 : (zs[i + 1] == x) = false := by
          simp only [beq_eq_false_iff_ne]
          intro e
          refine Hxd.out (e ▸ ?_)
          have : zs[i + 1] = (zs.drop (k + 1))[i - k]'(by rw [List.length_drop]; omega) := by
            rw [List.getElem_drop]; congr 1; omega
          rw [this]
          exact List.getElem_mem _
        have T2 := Lib.hid t2
        have hset' := Lib.hid hset
        have Hcq := Lib.hid cq
        obtain ⟨y, hy⟩ : ∃ y, y = zs[i + 1] := ⟨_, rfl⟩
        rw [← hy] at cj T2 hset'
        obtain ⟨j, hj⟩ : ∃ j, j = i + 1 := ⟨_, rfl⟩
        have Hy := Lib.hid hy
        have Hj := Lib.hid hj
        rw [← hj] at cj t1 hjl ⊢
        have hwr : IntKind.i64.wrap ((j : Int) + 1) = ((j + 1 : Nat) : Int) := by rw [IntKind.wrap_i64]; omega
        have hwr2 : IntKind.i64.wrap ((i : Int) + 1) = (j : Int) := by rw [IntKind.wrap_i64]; omega
        clear hR hO hv hset cq t2 hy hj
        go_wp2_with fail
        refine (free1_any q x y wr Hcq.out).mono ?_
        rintro e w2 ⟨rfl, rfl⟩
        rw [T2.out]
        go_wp2_with fail
        go_roundw
        case rel =>
          refine ⟨j, rfl, by have := Hj.out; omega, hjl, rfl, ?_, HO.out.setCell (p := ⟨g, i, none⟩) (.inl hFg'.out) _⟩
          have hst := shifted_step (zs := zs) (i := k) (j := j) (by have := Hj.out; omega) hjl
          have e1 : j - 1 = i := by have := Hj.out; omega
          rw [← hst, e1, ← icells_set]
          have := hset'.out
          rw [← Hj.out, Hy.out] at this
          have e2 : zs[i + 1] = zs[j] := by congr 1; exact Hj.out.symm
          rw [e2] at this
          rw [Hy.out, e2]
          exact this
        case measure => simp [intOf]; omega
      · have hin : i + 1 = zs.length := by omega
        have t1 : decide (((i + 1 : Nat) : Int) < zs.length) = false := by simp; omega
        have hil : zs.length - 1 = i := by omega
        obtain ⟨g', _, hv, _, _, hset, _, _⟩ := hR.set (j := i) hi (int 0)
        obtain rfl : g = g' := by injection hv with h1; injection h1 with h1; injection h1
        have hset' := Lib.hid hset
        have Hin := Lib.hid hin
        have hcl : ∀ ty, (Builtin.clear_ #[31] ty #[.slice (some ⟨g, i, none⟩) (zs.length - i) (c - i)]).run Tryz.prog wr = .ok (.tuple #[]) (wr.setCell ⟨g, i, none⟩ (int 0)) := fun ty => by
          have e : zs.length - i = 1 := by omega
          rw [e]
          have d1 : ∀ j, j < 1 → (wr.cell? ⟨g, i + j, none⟩).isSome = true := fun j hj => by
            have : j = 0 := by omega
            subst this
            rw [Nat.add_zero, hold]; rfl
          have d2 : ∀ j, j < 1 → wr.frozen? ⟨g, i + j, none⟩ = false := fun j hj => by
            have : j = 0 := by omega
            subst this
            rw [Nat.add_zero]; exact hfz
          exact Lib.run_clear_slice wr 31 TInt ty (int 0) Tryz.underlying31 zeroInt rfl rfl g i 1 (c - i) (by omega) d1 d2
        clear hR hO hv hset
        go_wp2
        go_ret
        refine ⟨_, rfl, ?_, HO.out.setCell (p := ⟨g, i, none⟩) (.inl hFg'.out) _⟩
        have hl : (zs.erase x).length = i := by
          rw [HE.out, List.length_eraseIdx, if_pos hk]; exact hil
        have hs := hset'.out
        have hL : (shifted zs k (i + 1)).take i = zs.erase x := by
          have := shifted_end hk
          rw [← Hin.out, Nat.add_sub_cancel] at this
          rw [HE.out]; exact this
        rw [← Hin.out] at hs
        have := rowHolds.init hs
        rw [hl, ← hL]
        have e : ((icells (shifted zs k (i + 1))).set i (int 0)).take i = icells ((shifted zs k (i + 1)).take i) := by
          rw [List.take_set_of_le (Nat.le_refl i)]
          simp [icells, List.map_take]
        rw [e] at this
        exact this
end Go.Proofs.YtgdmaikjaopddaaGreatDoor

/- Giving nodes to a slot: free. -/
namespace Go.Proofs.YtgdmaikjaopddaaGreatDoor
open Go.RowKit

namespace RNd
def setGiven (l : List Int) (x : RNd) : RNd := { x with given := l }
end RNd
namespace Nd
def setGiven (l : List Int) (x : Nd) : Nd := { x with given := l }
def setSlot (v : Int) (x : Nd) : Nd := { x with slot := v }
end Nd

section
variable {p b cap n : Nat} {lim : Int} {R : Int → RNd} {av gv : Nat → Value} {Fa Fg : Nat → Nat → Prop} {w w' : World}

theorem DocC.onlyG (h : DocC p b cap n lim R av gv Fa Fg w) {i : Nat} (hi : i < n) (ho : Only (Fg i) w w') : w'.heap[p]? = w.heap[p]? ∧ w'.heap[b]? = w.heap[b]? ∧ (∀ j, j < n → ∀ k, Fa j k → w'.heap[k]? = w.heap[k]?) ∧ ∀ j, j < n → j ≠ i → ∀ k, Fg j k → w'.heap[k]? = w.heap[k]? := by
  refine ⟨ho.block p h.pw fun hk => (h.pg hi hk).1 rfl, ho.block b h.Bw fun hk => (h.pg hi hk).2 rfl, fun j hj k hk => ho.block k ((arow _ _).lt (h.attrs j hj) hk) fun hg => h.ag hj hi hk hg, fun j hj hji k hk => ho.block k ((irow _ _).lt (h.given j hj) hk) fun hg => h.dg j hj i hi hji k hk hg⟩

/-- what is given to a node has turned, and is told to it -/
theorem DocC.setGiven (h : DocC p b cap n lim R av gv Fa Fg w) {i : Nat} (hi : i < n) {v' : Value} {l' : List Int} {F' : Nat → Prop} (ho : Only (Fg i) w w') (hr : (irow v' l').holds w' F') (hF : ∀ k, F' k → Fg i k ∨ w.heap.size ≤ k) :
    DocC p b cap n lim (upd R i (.setGiven l')) av (updV gv i v') Fa (updF Fg i F') (w'.setCell ⟨b, i * 19 + 18, none⟩ v') := by
  obtain ⟨hp, hb, hA, hG⟩ := h.onlyG hi ho
  obtain ⟨cur, hc, h1, h2⟩ := h.nodes
  have hfar : ∀ k', k' ≠ b → (w'.setCell ⟨b, i * 19 + 18, none⟩ v').heap[k']? = w'.heap[k']? := fun k' hk' => Below.heap_setCell _ _ _ _ hk'
  have hat : ∀ j : Nat, (upd R i (.setGiven l') j).attrs = (R j).attrs := fun j => by unfold upd; split <;> rfl
  have hF'b : ∀ k, F' k → k ≠ b := fun k hk e => by
    rcases hF k hk with h3 | h3
    · exact (h.pg hi h3).2 e
    · have := h.Bw; omega
  refine ⟨(hfar p h.pb).trans (hp.trans h.doc), ⟨cur.setIfInBounds (i * 19 + 18) v', by simp [World.setCell, Array.getElem?_modify, hb.trans hc], by simpa using h1, fun j hj k hk => ?_⟩, h.hn, h.hcap, fun j hj => ?_, fun j hj => ?_, h.da, fun x hx y hy hxy k hkx hky => ?_⟩
  · rw [Array.getElem?_setIfInBounds]
    by_cases hji : j = i
    · subst hji
      rw [show upd R j (RNd.setGiven l') j = (R j).setGiven l' by simp [upd]]
      have ev : updV gv j v' j = v' := by unfold updV; rw [if_pos rfl]
      rw [ev]
      by_cases hkk : k = 18
      · subst hkk
        have hlt : j * 19 + 18 < cur.size := by
          rw [h1]
          have := h.hn
          have : (j + 1) * 19 ≤ cap * 19 := Nat.mul_le_mul_right 19 (by omega)
          omega
        rw [if_pos rfl, if_pos hlt]; rfl
      · rw [if_neg (by omega), h2 j hj k hk]
        have h3 : ncell ((R j).setGiven l') (av j) v' = (ncell (R j) (av j) (gv j)).set 18 v' := rfl
        rw [h3, List.getElem?_set_ne (by omega)]
    · have e1 : (upd R i (RNd.setGiven l') j) = R j := by unfold upd; rw [if_neg (by omega)]
      have e2 : updV gv i v' j = gv j := by unfold updV; rw [if_neg hji]
      rw [e1, e2, if_neg (by omega)]
      exact h2 j hj k hk
  · rw [hat j]
    exact (arow _ _).loc (h.attrs j hj) fun k' hk' => (hfar k' (h.pa hj hk').2).trans (hA j hj k' hk')
  · by_cases hji : j = i
    · subst hji
      have e1 : (upd R j (RNd.setGiven l') j).given = l' := by simp [upd, RNd.setGiven]
      have e2 : updV gv j v' j = v' := by unfold updV; rw [if_pos rfl]
      have e3 : updF Fg j F' j = F' := by unfold updF; funext k; simp
      rw [e1, e2, e3]
      exact (irow _ _).loc hr fun k' hk' => hfar k' (hF'b k' hk')
    · have e1 : (upd R i (RNd.setGiven l') j).given = (R j).given := by unfold upd; rw [if_neg (by omega)]
      have e2 : updV gv i v' j = gv j := by unfold updV; rw [if_neg hji]
      have e3 : updF Fg i F' j = Fg j := by unfold updF; funext k; simp [hji]
      rw [e1, e2, e3]
      exact (irow _ _).loc (h.given j hj) fun k' hk' => (hfar k' (h.pg hj hk').2).trans (hG j hj hji k' hk')
  · have key : ∀ {y : Nat}, y < n → y ≠ i → ∀ k, F' k → ¬ Fg y k := fun {y} hy hyi k hk hky => by
      rcases hF k hk with h3 | h3
      · exact h.dg i hi y hy (fun e => hyi e.symm) k h3 hky
      · have := (irow _ _).lt (h.given y hy) hky; omega
    by_cases hxi : x = i
    · have hyi : y ≠ i := fun e => hxy (hxi.trans e.symm)
      have e1 : updF Fg i F' x = F' := by unfold updF; rw [if_pos hxi]
      have e2 : updF Fg i F' y = Fg y := by unfold updF; rw [if_neg hyi]
      rw [e1] at hkx; rw [e2] at hky
      exact key hy hyi k hkx hky
    · have e1 : updF Fg i F' x = Fg x := by unfold updF; rw [if_neg hxi]
      rw [e1] at hkx
      by_cases hyi : y = i
      · have e2 : updF Fg i F' y = F' := by unfold updF; rw [if_pos hyi]
        rw [e2] at hky
        exact key hx hxi k hky hkx
      · have e2 : updF Fg i F' y = Fg y := by unfold updF; rw [if_neg hyi]
        rw [e2] at hky
        exact h.dg x hx y hy hxy k hkx hky
end

theorem DocC.drewN {p b cap n : Nat} {lim : Int} {R : Int → RNd} {av gv : Nat → Value} {Fa Fg : Nat → Nat → Prop} {w : World} (h : DocC p b cap n lim R av gv Fa Fg w) (m : Nat) : DocC p b cap n lim R av gv Fa Fg (w.drewN m) := h.only (G := fun _ => False) (Only.drewN (.refl _ _) m) fun _ _ _ h => h
def freeR (R : Int → RNd) (i : Int) : Int → RNd :=
  upd (if (R i).slot = -1 then R else upd R (R i).slot (fun x => x.setGiven (x.given.erase i))) i (.setSlot (-1))

section
variable {W w : World} {rs : List Res} {p B n : Nat} {lim : Int} {R : Int → RNd}
set_option maxRecDepth 100000 in
set_option maxHeartbeats 1000000 in
theorem free_core (h : Sep W w (docR p B n lim R :: rs)) (i : Nat) (hi : i < n) (hs : Ok n (R i).slot) (hgd : ∀ s : Nat, s < n → (R s).given.Nodup ∧ (R s).given.length ≤ 1000000) :
    Calls Tryz.prog 66 #[ptr p, int i] w fun e w' => e = .returned (.tuple #[]) ∧ Sep W w' (docR p B n lim (freeR R i) :: rs) := by
  obtain ⟨G, ⟨cap, av, gv, Fa, Fg, hC0, hG⟩, hlt, hstep⟩ := h.step
  have hgl : w.heap.size < (w.alloc (.cells #[int i] TInt)).heap.size := by simp
  have hq := cell_alloc_new w #[int i] TInt 0
  have hal : Only G w (w.alloc (.cells #[int i] TInt)) := Only.alloc (.refl _ _) _
  have hC := hC0.alloc (.cells #[int (i : Int)] TInt)
  have hnF : ∀ k, Foot p B n Fa Fg k → k ≠ w.heap.size := fun k hk => Nat.ne_of_lt (hC0.lt hk)
  have Hst := Lib.hid hstep
  have HG := Lib.hid hG
  have HnF := Lib.hid hnF
  clear h hlt hstep hG hC0 hnF
  go_enter Tryz.func66, Tryz.ntmps66
  go_wp2
  generalize hw1 : w.alloc (.cells #[int (i : Int)] TInt) = w1 at *
  generalize hqq : w.heap.size = q at *
  have c0 := hC.cell0
  have f0 := hC.frozenB
  have hpb : p ≠ B := hC.pb
  have hpq : p ≠ q := HnF.out p (.inl rfl)
  have hbq : B ≠ q := HnF.out B (.inr (.inl rfl))
  have u17 := hC.cell hi (k := 17) (by omega) rfl
  have HC := Lib.hid hC
  rcases hs with hs1 | hs2
  · have t1 : ((R i).slot != -1) = false := by simpa using hs1
    have hfr : freeR R i = upd R i (.setSlot (-1)) := by unfold freeR; rw [if_pos hs1]
    have Hfr := Lib.hid hfr
    clear hC hs1 hfr hw1 hqq
    go_quiet (fail)
    go_wp2_with fail
    go_region
    go_wp2
    go_end0
    refine ⟨rfl, ?_⟩
    rw [Hfr.out]
    refine Hst.out _ G _ (((hal.drewN _).setCell (p := ⟨B, i * 19 + 17, none⟩) (.inl ((HG.out B).2 (.inr (.inl rfl)))) _)) ⟨cap, av, gv, Fa, Fg, (HC.out.drewN _).set hi (k := 17) (by omega) (int (-1)) (.setSlot (-1)) (fun _ _ _ => rfl) (fun _ => rfl) (fun _ => rfl), HG.out⟩ fun k hk => .inl hk
  · obtain ⟨s, hse, hsn⟩ := icast hs2.1 hs2.2
    rw [hse] at u17
    have t1 : ((s : Int) != -1) = true := by simp
    have hfr : freeR R i = upd (upd R s (fun x => x.setGiven (x.given.erase i))) i (.setSlot (-1)) := by unfold freeR; rw [hse, if_neg (by omega)]
    have Hfr := Lib.hid hfr
    have u18 := hC.cell hsn (k := 18) (by omega) rfl
    have Hgd := Lib.hid (hgd s hsn)
    clear hC hs2 hfr hw1 hqq hse hgd
    go_quiet (fail)
    go_wp2_with fail
    refine (delete_raw (v := gv s) (F := Fg s) ((HC.out.drewN nq).given s hsn) Hgd.out.1 Hgd.out.2 q i hq (fun hk => HnF.out q (.inr (.inr (.inr ⟨s, hsn, hk⟩))) rfl)).mono ?_
    rintro e w3 ⟨v', rfl, hrow, ho⟩
    obtain ⟨a', c', hv', _⟩ := hrow.form
    obtain ⟨m', hm'⟩ : ∃ m', m' = ((R s).given.erase (i : Int)).length := ⟨_, rfl⟩
    rw [← hm'] at hv'
    subst hv'
    have Hm' := Lib.hid hm'
    clear hm'
    have hC3 := (HC.out.drewN nq).setGiven hsn ho hrow (fun k hk => .inl hk)
    have hqF : ¬ Fg s q := fun hk => HnF.out q (.inr (.inr (.inr ⟨s, hsn, hk⟩))) rfl
    have hqs : q < (w1.drewN nq).heap.size := cell_lt' (w := w1.drewN nq) hq
    obtain ⟨_, hb3, _, _⟩ := (HC.out.drewN nq).onlyG hsn ho
    have e18 : w3.cell? ⟨B, s * 19 + 18, none⟩ = some (gv s) := (World.cell?_of_block hb3).trans ((HC.out.drewN nq).cell hsn (k := 18) (by omega) rfl)
    have f3 : ∀ o, w3.frozen? ⟨B, o, none⟩ = false := fun o => by
      have := (HC.out.drewN nq).frozenB o
      unfold World.frozen? at this ⊢
      rw [hb3]; exact this
    have d0 := hC3.cell0
    have df := hC3.frozenB
    have d17 := hC3.cell hi (k := 17) (by omega) rfl
    have dq : (w3.setCell ⟨B, s * 19 + 18, none⟩ (.slice a' m' c')).cell? ⟨q, 0, none⟩ = some (int i) := by
      rw [World.cell?_of_block (Below.heap_setCell _ _ _ _ (show q ≠ B from fun e => hbq e.symm)), World.cell?_of_block (ho.block q hqs hqF)]
      exact hq
    have HC3 := Lib.hid hC3
    have Ho := Lib.hid ho
    clear hC3 hqF hqs hb3 hrow ho c0 f0 u17 u18 hq
    go_wp2_with fail
    go_region
    go_wp2
    go_end0
    refine ⟨rfl, ?_⟩
    rw [Hfr.out]
    have e1 : updF Fg s (Fg s) = Fg := by funext j; unfold updF; split <;> simp_all
    have e2 : upd R s (fun x => x.setGiven (x.given.erase i)) = upd R s (.setGiven ((R s).given.erase i)) := by funext j; unfold upd; split <;> simp_all
    have hC4 := HC3.out.drewN
    rw [e1] at hC4
    rw [e2]
    have hGB : G B := (HG.out B).2 (.inr (.inl rfl))
    refine Hst.out _ G _ ((((((hal.drewN nq).trans (Ho.out.mono fun k _ hk => (HG.out k).2 (.inr (.inr (.inr ⟨s, hsn, hk⟩))))).setCell (p := ⟨B, s * 19 + 18, none⟩) (.inl hGB) _).drewN _).setCell (p := ⟨B, i * 19 + 17, none⟩) (.inl hGB) _)) ⟨cap, av, updV gv s (.slice a' m' c'), Fa, Fg, (hC4 _).set hi (k := 17) (by omega) (int (-1)) (.setSlot (-1)) (fun _ _ _ => rfl) (fun _ => rfl) (fun _ => rfl), HG.out⟩ fun k hk => .inl hk
end
end Go.Proofs.YtgdmaikjaopddaaGreatDoor

/- Giving nodes to a slot: what it makes of a document. No program is in sight. -/
namespace Go.Proofs.YtgdmaikjaopddaaGreatDoor

/-- all but what is given -/
def Nd.nogive (x : Nd) : Nd := { x with slot := 0, given := [] }
def Doc.free (A : Doc) (i : Int) : Doc := (if (A.nd i).slot = -1 then A else A.set (A.nd i).slot (fun x => x.setGiven (x.given.erase i))).set i (.setSlot (-1))
def Doc.giveTo (A : Doc) (s i : Int) : Doc := (A.set i (.setSlot s)).set s (fun x => x.setGiven (x.given ++ [i]))
def giveToR (R : Int → RNd) (s i : Int) : Int → RNd := upd (upd R i (.setSlot s)) s (fun x => x.setGiven (x.given ++ [i]))
def Doc.giveOne (A : Doc) (s i : Int) : Doc := if (A.nd i).slot = s then A else (A.free i).giveTo s i
def freeAll : List Int → Doc → Doc
  | [], A => A
  | x :: t, A => freeAll t (A.free x)
def giveAll (s : Int) : List Int → Doc → Doc
  | [], A => A
  | x :: t, A => giveAll s t (A.giveOne s x)
def Doc.giveA (A : Doc) (s : Int) (l : List Int) : Doc := giveAll s l (freeAll (A.nd s).given A)

section
variable {A : Doc} {R : Int → RNd} {i s : Int}
theorem WF.regive (w : WF A) {D : Doc} (hn : D.n = A.n) (hl : D.lim = A.lim) (hr : ∀ j, (D.nd j).nogive = (A.nd j).nogive) (h1 : ∀ j, A.In j → Ok A.n (D.nd j).slot)
    (h2 : ∀ j, A.In j → ∀ k ∈ (D.nd j).given, A.In k ∧ (D.nd k).slot = j) (h3 : ∀ j, A.In j → (D.nd j).given.Nodup) (h4 : ∀ j, A.In j → (D.nd j).slot ≠ -1 → j ∈ (D.nd (D.nd j).slot).given) : WF D := by
  have hin : ∀ j, D.In j ↔ A.In j := fun j => by unfold Doc.In; rw [hn]
  have f : ∀ {α : Type} (g : Nd → α), (∀ x, g x.nogive = g x) → ∀ j, g (D.nd j) = g (A.nd j) := fun g hg j => by rw [← hg, hr, hg]
  have fu := f Nd.up (fun _ => rfl)
  have fk := f Nd.kids (fun _ => rfl)
  have fh := f Nd.host (fun _ => rfl)
  have hpar : ∀ j, D.par j = A.par j := fun j => by unfold Doc.par; rw [fu, fh]
  refine { up := fun j hj => by rw [fu, hn]; exact w.up j ((hin j).1 hj), host := fun j hj => by rw [fh, hn]; exact w.host j ((hin j).1 hj), kin := fun j hj k hk => ?_, upk := fun j hj hu => ?_, nod := fun j hj => by rw [fk]; exact w.nod j ((hin j).1 hj), pos := by rw [hn]; exact w.pos, le := by rw [hn, hl]; exact w.le, lim := by rw [hl]; exact w.lim, shadow := fun j hj => by rw [f Nd.shadow (fun _ => rfl), hn]; exact w.shadow j ((hin j).1 hj), own := fun j hj => by rw [f Nd.own (fun _ => rfl), hn]; exact w.own j ((hin j).1 hj), slot := fun j hj => by rw [hn]; exact h1 j ((hin j).1 hj), att := fun j hj => by rw [f Nd.attrs (fun _ => rfl)]; exact w.att j ((hin j).1 hj), hup := fun j hj h => by rw [fh] at h; rw [fu]; exact w.hup j ((hin j).1 hj) h, gin := fun j hj k hk => by rw [hin]; exact h2 j ((hin j).1 hj) k hk, gnod := fun j hj => h3 j ((hin j).1 hj), sgiv := fun j hj h => h4 j ((hin j).1 hj) h, rank := ?_ }
  · rw [fk] at hk; rw [fu, hin]; exact w.kin j ((hin j).1 hj) k hk
  · rw [fu] at hu ⊢; rw [fk]; exact w.upk j ((hin j).1 hj) hu
  · obtain ⟨rk, hrk⟩ := w.rank
    exact ⟨rk, fun j hj hp => by rw [hpar] at hp ⊢; exact hrk j ((hin j).1 hj) hp⟩

theorem free_n : (A.free i).n = A.n := by unfold Doc.free; split <;> rfl
theorem free_lim : (A.free i).lim = A.lim := by unfold Doc.free; split <;> rfl
theorem free_in {j : Int} : (A.free i).In j ↔ A.In j := by unfold Doc.In; rw [free_n]
theorem free_nogive (j : Int) : ((A.free i).nd j).nogive = (A.nd j).nogive := by
  unfold Doc.free
  split
  · simp only [Doc.set_nd]; split <;> rfl
  · simp only [Doc.set_nd]
    repeat' split
    all_goals rfl
theorem free_slot (j : Int) : ((A.free i).nd j).slot = if j = i then -1 else (A.nd j).slot := by
  unfold Doc.free
  split
  · simp only [Doc.set_nd]; split <;> rfl
  · simp only [Doc.set_nd]
    by_cases h : j = i
    · simp only [if_pos h]; split <;> rfl
    · simp only [if_neg h]; split <;> rfl
theorem free_given (w : WF A) {j : Int} (hj : A.In j) : ((A.free i).nd j).given = (A.nd j).given.erase i := by
  have hno : j ≠ (A.nd i).slot → (A.nd j).given.erase i = (A.nd j).given := fun hne => List.erase_of_not_mem fun hm => hne (w.gin j hj i hm).2.symm
  unfold Doc.free
  split
  · rename_i h
    rw [hno (by rw [h]; exact neg_of_in hj)]
    simp only [Doc.set_nd]; split <;> rfl
  · simp only [Doc.set_nd]
    by_cases hs : j = (A.nd i).slot
    · rw [if_pos hs]; split <;> rfl
    · rw [if_neg hs, hno hs]; split <;> rfl
theorem WF.free (w : WF A) (i : Int) : WF (A.free i) := by
  refine w.regive free_n free_lim free_nogive (fun j hj => ?_) (fun j hj k hk => ?_) (fun j hj => ?_) (fun j hj h => ?_)
  · rw [free_slot]; split
    · exact .none
    · exact w.slot j hj
  · rw [free_given w hj] at hk
    have hki : k ≠ i := ((List.Nodup.mem_erase_iff (w.gnod j hj)).1 hk).1
    have := w.gin j hj k (List.mem_of_mem_erase hk)
    exact ⟨this.1, by rw [free_slot, if_neg hki]; exact this.2⟩
  · rw [free_given w hj]; exact (w.gnod j hj).erase i
  · rw [free_slot] at h ⊢
    by_cases e : j = i
    · rw [if_pos e] at h; exact absurd rfl h
    · rw [if_neg e] at h ⊢
      rw [free_given w (in_of_ok (w.slot j hj) h)]
      exact (List.mem_erase_of_ne e).2 (w.sgiv j hj h)
theorem Link.freed (h : Link A R) (hi : A.In i) : Link (A.free i) (freeR R i) := by
  have e := (h.same i hi).slot
  unfold Doc.free freeR
  have h2 : ∀ {D : Doc} {Q : Int → RNd}, Link D Q → Link (D.set i (.setSlot (-1))) (upd Q i (.setSlot (-1))) := fun hl => hl.set (.setSlot (-1)) (.setSlot (-1)) (fun x y s => ⟨s.kind, s.name, s.data, s.attrs, s.fl, s.up, s.shadow, s.host, s.own, rfl, s.given⟩) (fun _ => rfl) (fun _ => rfl) (fun _ => ⟨rfl, rfl, rfl, rfl⟩)
  rw [e]
  split
  · exact h2 h
  · exact h2 (h.set (i := (A.nd i).slot) (fun x => x.setGiven (x.given.erase i)) (fun x => x.setGiven (x.given.erase i)) (fun x y s => ⟨s.kind, s.name, s.data, s.attrs, s.fl, s.up, s.shadow, s.host, s.own, s.slot, by show y.given.erase i = x.given.erase i; rw [s.given]⟩) (fun _ => rfl) (fun _ => rfl) (fun _ => ⟨rfl, rfl, rfl, rfl⟩))

theorem giveTo_n : (A.giveTo s i).n = A.n := rfl
theorem giveTo_lim : (A.giveTo s i).lim = A.lim := rfl
theorem giveTo_nogive (j : Int) : ((A.giveTo s i).nd j).nogive = (A.nd j).nogive := by
  unfold Doc.giveTo
  simp only [Doc.set_nd]
  repeat' split
  all_goals rfl
theorem giveTo_slot (j : Int) : ((A.giveTo s i).nd j).slot = if j = i then s else (A.nd j).slot := by
  unfold Doc.giveTo
  simp only [Doc.set_nd]
  by_cases h : j = i
  · simp only [if_pos h]; split <;> rfl
  · simp only [if_neg h]; split <;> rfl
theorem giveTo_given (j : Int) : ((A.giveTo s i).nd j).given = if j = s then (A.nd j).given ++ [i] else (A.nd j).given := by
  unfold Doc.giveTo
  simp only [Doc.set_nd]
  by_cases h : j = s
  · simp only [if_pos h]; split <;> rfl
  · simp only [if_neg h]; split <;> rfl
theorem WF.giveTo (w : WF A) (hs : A.In s) (hi : A.In i) (h0 : (A.nd i).slot = -1) : WF (A.giveTo s i) := by
  have hni : ∀ j, A.In j → i ∉ (A.nd j).given := fun j hj hm => by
    have := (w.gin j hj i hm).2
    rw [h0] at this
    exact neg_of_in hj this.symm
  refine w.regive giveTo_n giveTo_lim giveTo_nogive (fun j hj => ?_) (fun j hj k hk => ?_) (fun j hj => ?_) (fun j hj h => ?_)
  · rw [giveTo_slot]; split
    · exact .inr hs
    · exact w.slot j hj
  · rw [giveTo_given] at hk
    rw [giveTo_slot]
    by_cases hjs : j = s
    · rw [if_pos hjs] at hk
      rcases List.mem_append.1 hk with hk | hk
      · have := w.gin j hj k hk
        rw [if_neg (show ¬ k = i from fun e => hni j hj (e ▸ hk))]; exact this
      · rw [List.mem_singleton] at hk
        subst hk
        rw [if_pos rfl]; exact ⟨hi, hjs.symm⟩
    · rw [if_neg hjs] at hk
      have := w.gin j hj k hk
      rw [if_neg (show ¬ k = i from fun e => hni j hj (e ▸ hk))]; exact this
  · rw [giveTo_given]; split
    · rw [List.nodup_append]
      exact ⟨w.gnod j hj, by simp, fun a ha b hb => by rw [List.mem_singleton] at hb; subst hb; rintro rfl; exact hni j hj ha⟩
    · exact w.gnod j hj
  · rw [giveTo_slot] at h ⊢
    by_cases e : j = i
    · rw [if_pos e, giveTo_given, if_pos rfl, e]; simp
    · rw [if_neg e] at h ⊢
      rw [giveTo_given]
      have := w.sgiv j hj h
      split
      · exact List.mem_append_left _ this
      · exact this
theorem Link.giveTo (h : Link A R) : Link (A.giveTo s i) (giveToR R s i) := by
  unfold Doc.giveTo giveToR
  have h1 := h.set (i := i) (.setSlot s) (.setSlot s) (fun x y t => ⟨t.kind, t.name, t.data, t.attrs, t.fl, t.up, t.shadow, t.host, t.own, rfl, t.given⟩) (fun _ => rfl) (fun _ => rfl) (fun _ => ⟨rfl, rfl, rfl, rfl⟩)
  exact h1.set (i := s) (fun x => x.setGiven (x.given ++ [i])) (fun x => x.setGiven (x.given ++ [i])) (fun x y t => ⟨t.kind, t.name, t.data, t.attrs, t.fl, t.up, t.shadow, t.host, t.own, t.slot, by show y.given ++ [i] = x.given ++ [i]; rw [t.given]⟩) (fun _ => rfl) (fun _ => rfl) (fun _ => ⟨rfl, rfl, rfl, rfl⟩)

theorem giveOne_n : (A.giveOne s i).n = A.n := by
  unfold Doc.giveOne
  split
  · rfl
  · exact free_n
theorem giveOne_lim : (A.giveOne s i).lim = A.lim := by
  unfold Doc.giveOne
  split
  · rfl
  · exact free_lim
theorem giveOne_in {j : Int} : (A.giveOne s i).In j ↔ A.In j := by unfold Doc.In; rw [giveOne_n]
theorem giveOne_nogive (j : Int) : ((A.giveOne s i).nd j).nogive = (A.nd j).nogive := by
  unfold Doc.giveOne
  split
  · rfl
  · exact (giveTo_nogive j).trans (free_nogive j)
theorem giveOne_slot (j : Int) : ((A.giveOne s i).nd j).slot = if j = i then s else (A.nd j).slot := by
  unfold Doc.giveOne
  split
  · rename_i h
    split
    · rename_i e; rw [e]; exact h
    · rfl
  · rw [giveTo_slot, free_slot]
    by_cases h : j = i <;> simp [h]
theorem WF.giveOne (w : WF A) (hs : A.In s) (hi : A.In i) : WF (A.giveOne s i) := by
  unfold Doc.giveOne
  split
  · exact w
  · exact (w.free i).giveTo (free_in.2 hs) (free_in.2 hi) (by rw [free_slot, if_pos rfl])
end

section
variable {s : Int}
theorem freeAll_n : ∀ (l : List Int) (A : Doc), (freeAll l A).n = A.n
  | [], _ => rfl
  | x :: t, A => (freeAll_n t (A.free x)).trans free_n
theorem freeAll_lim : ∀ (l : List Int) (A : Doc), (freeAll l A).lim = A.lim
  | [], _ => rfl
  | x :: t, A => (freeAll_lim t (A.free x)).trans free_lim
theorem freeAll_nogive (j : Int) : ∀ (l : List Int) (A : Doc), ((freeAll l A).nd j).nogive = (A.nd j).nogive
  | [], _ => rfl
  | x :: t, A => (freeAll_nogive j t (A.free x)).trans (free_nogive j)
theorem freeAll_slot (j : Int) : ∀ (l : List Int) (A : Doc), ((freeAll l A).nd j).slot = if j ∈ l then -1 else (A.nd j).slot
  | [], _ => by simp [freeAll]
  | x :: t, A => by
    rw [freeAll, freeAll_slot j t (A.free x), free_slot]
    by_cases h1 : j ∈ t <;> by_cases h2 : j = x <;> simp [h1, h2]
theorem WF.freeAll : ∀ (l : List Int) {A : Doc}, WF A → WF (freeAll l A)
  | [], _, w => w
  | x :: t, _, w => WF.freeAll t (w.free x)
theorem giveAll_n : ∀ (l : List Int) (A : Doc), (giveAll s l A).n = A.n
  | [], _ => rfl
  | x :: t, A => (giveAll_n t (A.giveOne s x)).trans giveOne_n
theorem giveAll_lim : ∀ (l : List Int) (A : Doc), (giveAll s l A).lim = A.lim
  | [], _ => rfl
  | x :: t, A => (giveAll_lim t (A.giveOne s x)).trans giveOne_lim
theorem giveAll_nogive (j : Int) : ∀ (l : List Int) (A : Doc), ((giveAll s l A).nd j).nogive = (A.nd j).nogive
  | [], _ => rfl
  | x :: t, A => (giveAll_nogive j t (A.giveOne s x)).trans (giveOne_nogive j)
theorem giveAll_slot (j : Int) : ∀ (l : List Int) (A : Doc), ((giveAll s l A).nd j).slot = if j ∈ l then s else (A.nd j).slot
  | [], _ => by simp [giveAll]
  | x :: t, A => by
    rw [giveAll, giveAll_slot j t (A.giveOne s x), giveOne_slot]
    by_cases h1 : j ∈ t <;> by_cases h2 : j = x <;> simp [h1, h2]
theorem WF.giveAll : ∀ (l : List Int) {A : Doc}, WF A → A.In s → (∀ x ∈ l, A.In x) → WF (giveAll s l A)
  | [], _, w, _, _ => w
  | x :: t, _, w, hs, hl => WF.giveAll t (w.giveOne hs (hl x (by simp))) (giveOne_in.2 hs) fun y hy => giveOne_in.2 (hl y (by simp [hy]))
theorem freeAll_snoc : ∀ (l : List Int) (x : Int) (A : Doc), freeAll (l ++ [x]) A = (freeAll l A).free x
  | [], _, _ => rfl
  | y :: t, x, A => freeAll_snoc t x (A.free y)
theorem giveAll_snoc : ∀ (l : List Int) (x : Int) (A : Doc), giveAll s (l ++ [x]) A = (giveAll s l A).giveOne s x
  | [], _, _ => rfl
  | y :: t, x, A => giveAll_snoc t x (A.giveOne s y)
end
section
variable {A : Doc} {s : Int} {l : List Int}
theorem giveA_n : (A.giveA s l).n = A.n := (giveAll_n _ _).trans (freeAll_n _ _)
theorem giveA_lim : (A.giveA s l).lim = A.lim := (giveAll_lim _ _).trans (freeAll_lim _ _)
theorem giveA_nogive (j : Int) : ((A.giveA s l).nd j).nogive = (A.nd j).nogive := (giveAll_nogive j _ _).trans (freeAll_nogive j _ _)
theorem giveA_slot (w : WF A) (hs : A.In s) {j : Int} (hj : A.In j) : ((A.giveA s l).nd j).slot = if j ∈ l then s else if (A.nd j).slot = s then -1 else (A.nd j).slot := by
  unfold Doc.giveA
  rw [giveAll_slot, freeAll_slot]
  have e : j ∈ (A.nd s).given ↔ (A.nd j).slot = s := ⟨fun h => (w.gin s hs j h).2, fun h => by
    have := w.sgiv j hj (by rw [h]; exact neg_of_in hs)
    rw [h] at this; exact this⟩
  by_cases h : (A.nd j).slot = s
  · rw [if_pos (e.2 h), if_pos h]
  · rw [if_neg (fun hm => h (e.1 hm)), if_neg h]
end
end Go.Proofs.YtgdmaikjaopddaaGreatDoor

/- Give, Slot: on a whole document. -/
namespace Go.Proofs.YtgdmaikjaopddaaGreatDoor
open Go.RowKit

def slotS : ByteArray := ⟨#[115, 108, 111, 116]⟩
def Doc.slottable (A : Doc) (i : Int) : Bool := (A.nd i).kind == 1 || (A.nd i).kind == 2
noncomputable def Doc.givesE (A : Doc) (s : Int) (l : List Int) : Int :=
  if A.In s ∧ ∀ x ∈ l, A.In x then (if (A.nd s).kind = 1 ∧ ((A.nd s).name.toList == [115, 108, 111, 116]) = true then (if ∀ x ∈ l, A.slottable x = true then (if l.length ≤ 200 then 0 else 1) else 81) else 110) else 80

section
variable {W w : World} {rs : List Res} {p : Nat} {A : Doc}
theorem free_doc (h : Sep W w (docA p A :: rs)) (i : Int) (hi : A.In i) :
    Calls Tryz.prog 66 #[ptr p, int i] w fun e w' => e = .returned (.tuple #[]) ∧ Sep W w' (docA p (A.free i) :: rs) := by
  obtain ⟨hw, B, R, hl, hS⟩ := docA_open h
  have hn := hw.n_le
  obtain ⟨j, rfl, hj⟩ := icast hi.1 hi.2
  refine (free_core hS j hj (by rw [(hl.same j hi).slot]; exact hw.slot j hi) (fun s hs => ?_)).mono ?_
  · have hin : A.In s := ⟨by omega, by omega⟩
    rw [(hl.same s hin).given]
    have := hw.given_len hin
    exact ⟨hw.gnod s hin, by omega⟩
  · rintro e w' ⟨rfl, h'⟩
    have h2 : Sep W w' (docR p B (A.free j).n (A.free j).lim (freeR R j) :: rs) := by rw [free_n, free_lim]; exact h'
    exact ⟨rfl, docA_close (hw.free j) (hl.freed hi) h2⟩

set_option maxRecDepth 100000 in
theorem slottable_doc (h : Sep W w (docA p A :: rs)) (i : Int) (hi : A.In i) :
    Calls Tryz.prog 88 #[ptr p, int i] w fun e w' => e = .returned (.bool (A.slottable i)) ∧ w = w' := by
  obtain ⟨B, cap, R, av, gv, hl, c0, hc⟩ := cell_doc h
  obtain ⟨j, rfl, hj⟩ := icast hi.1 hi.2
  have u0 : w.cell? ⟨B, j * 19, none⟩ = _ := hc j 0 hj (by omega) _ rfl
  rw [(hl.same j hi).kind] at u0
  have hr : A.slottable j = ((A.nd j).kind == 1 || (A.nd j).kind == 2) := rfl
  have HR := Lib.hid hr
  clear h hc hl hr
  cases t1 : ((A.nd j).kind == 1)
  · cases t2 : ((A.nd j).kind == 2)
    all_goals
      go_enter Tryz.func88, Tryz.ntmps88
      go_wp2
      go_ret
      exact ⟨by rw [HR.out, t1, t2]; rfl, rfl⟩
  · go_enter Tryz.func88, Tryz.ntmps88
    go_wp2
    go_ret
    exact ⟨by rw [HR.out, t1]; rfl, rfl⟩

set_option maxRecDepth 100000 in
theorem gives1_doc (h : Sep W w (docA p A :: rs)) (q : Nat) (hq : w.cell? ⟨q, 0, none⟩ = some (ptr p)) (i : Int) (hi : A.In i) :
    Calls Tryz.prog 87 #[int i, .pointer (some ⟨q, 0, none⟩)] w fun e w' => e = .returned (.bool (!A.slottable i)) ∧ w = w' := by
  have H := Lib.hid h
  clear h
  go_enter Tryz.func87, Tryz.ntmps87
  go_wp2_with fail
  refine (slottable_doc H.out i hi).mono ?_
  rintro e w' ⟨rfl, rfl⟩
  go_wp2
  go_ret
  exact ⟨rfl, rfl⟩

theorem lacks_doc (h : Sep W w (docA p A :: rs)) (i : Int) : Calls Tryz.prog 32 #[ptr p, int i] w fun e w' => e = .returned (.bool (!decide (A.In i))) ∧ w = w' := by
  by_cases hi : A.In i
  · rw [decide_eq_true hi]; exact lacks_doc_no h i hi
  · rw [decide_eq_false hi]; exact lacks_doc_yes h i hi

set_option maxRecDepth 100000 in
theorem slot_doc (h : Sep W w (docA p A :: rs)) (i : Int) (hi : A.In i) :
    Calls Tryz.prog 56 #[ptr p, int i] w fun e w' => e = .returned (int (A.nd i).slot) ∧ w = w' := by
  obtain ⟨B, cap, R, av, gv, hl, c0, hc⟩ := cell_doc h
  obtain ⟨j, rfl, hj⟩ := icast hi.1 hi.2
  have u17 := hc j 17 hj (by omega) _ rfl
  rw [(hl.same j hi).slot] at u17
  have H := Lib.hid h
  clear h hc hl
  go_enter Tryz.func56, Tryz.ntmps56
  go_wp2_with fail
  refine (lacks_doc_no H.out j hi).mono ?_
  rintro e w' ⟨rfl, rfl⟩
  go_wp2
  go_ret
  exact ⟨rfl, rfl⟩

set_option maxRecDepth 100000 in
set_option maxHeartbeats 1000000 in
theorem gives_ok (h : Sep W w (docA p A :: rs)) {a : Option Addr} {c : Nat} {l : List Int} (hr : ∀ {w' : World} {r : Res}, Sep W w' (r :: rs) → IntsAt w' a l) (s : Int) (he : A.givesE s l = 0) :
    Calls Tryz.prog 65 #[ptr p, int s, .slice a l.length c] w fun e w' => e = .returned (.int .u16 0) ∧ Sep W w' (docA p A :: rs) := by
  have hb := h.blk_new #[ptr p] 25
  have hh : ∃ h1 : A.In s ∧ ∀ x ∈ l, A.In x, (A.nd s).kind = 1 ∧ ((A.nd s).name.toList == [115, 108, 111, 116]) = true ∧ (∀ x ∈ l, A.slottable x = true) ∧ l.length ≤ 200 := by
    unfold Doc.givesE at he
    split at he
    · rename_i h1
      split at he
      · rename_i h2
        split at he
        · rename_i h3
          split at he
          · rename_i h4; exact ⟨h1, h2.1, h2.2, h3, h4⟩
          · exact absurd he (by decide)
        · exact absurd he (by decide)
      · exact absurd he (by decide)
    · exact absurd he (by decide)
  obtain ⟨⟨hs, hin⟩, hk, hnm, hsl, hlen⟩ := hh
  have hq := hb.blk_cell 0
  have hI := hr hb.tail
  have hd : Sep W (w.alloc (.cells #[ptr p] 25)) (docA p A :: rs) := hb.tail
  obtain ⟨B, cap, R, av, gv, hl, c0, hc⟩ := cell_doc hd
  obtain ⟨j, rfl, hj⟩ := icast hs.1 hs.2
  have u0 : (w.alloc (.cells #[ptr p] 25)).cell? ⟨B, j * 19, none⟩ = _ := hc j 0 hj (by omega) _ rfl
  rw [(hl.same j hs).kind, hk] at u0
  have u1 := hc j 1 hj (by omega) _ rfl
  rw [(hl.same j hs).name] at u1
  have e1 : l.any (fun x => !decide (A.In x)) = false := by
    rw [List.any_eq_false]; intro x hx; simp [hin x hx]
  have e2 : l.any (fun x => !A.slottable x) = false := by
    rw [List.any_eq_false]; intro x hx; simp [hsl x hx]
  have E1 := Lib.hid e1
  have E2 := Lib.hid e2
  have HI := Lib.hid hI
  have HD := Lib.hid hd
  have Hin := Lib.hid hin
  have t3 : decide ((l.length : Int) > 200) = false := by simp; omega
  have hq' : (w.alloc (.cells #[ptr p] 25)).cell? ⟨w.heap.size, 0, none⟩ = some (ptr p) := hq
  have Hq := Lib.hid hq'
  clear h hb hr he hk hsl hin hq hI hd hc hl e1 e2
  go_enter Tryz.func65, Tryz.ntmps65
  go_wp2_with fail
  refine (lacks_doc_no HD.out j hs).mono ?_
  rintro e w1 ⟨rfl, hw1⟩
  have HD1 := Lib.hid (hw1 ▸ HD.out : Sep W w1 (docA p A :: rs))
  have HI1 := Lib.hid (hw1 ▸ HI.out : IntsAt w1 a l)
  rw [hw1] at u0 u1 c0 Hq hq'
  generalize w.heap.size = q at *
  clear hw1 HD HI
  go_wp2_with fail
  refine (contains_lacks p (fun x => !decide (A.In x)) a c l w1 HI1.out (fun y _ => lacks_doc HD1.out y)).mono ?_
  rintro e w2 ⟨rfl, rfl⟩
  rw [E1.out]
  go_wp2_with fail
  refine (contains_gives q (fun x => !A.slottable x) a c l w1 HI1.out (fun y hy => gives1_doc HD1.out q Hq.out y (Hin.out y hy))).mono ?_
  rintro e w2 ⟨rfl, rfl⟩
  rw [E2.out]
  go_wp2
  go_ret
  exact ⟨rfl, HD1.out⟩
end
end Go.Proofs.YtgdmaikjaopddaaGreatDoor

/- Give, where it is not refused. -/
namespace Go.Proofs.YtgdmaikjaopddaaGreatDoor
open Go.RowKit

section
variable {W w : World} {rs : List Res} {p : Nat} {A : Doc}
theorem givesE_parts {s : Int} {l : List Int} (he : A.givesE s l = 0) : A.In s ∧ (∀ x ∈ l, A.In x) ∧ l.length ≤ 200 := by
  unfold Doc.givesE at he
  split at he
  · rename_i h1
    split at he
    · split at he
      · split at he
        · rename_i h4; exact ⟨h1.1, h1.2, h4⟩
        · exact absurd he (by decide)
      · exact absurd he (by decide)
    · exact absurd he (by decide)
  · exact absurd he (by decide)

attribute [local go_sem ↓] wp_can in
set_option maxRecDepth 100000 in
set_option maxHeartbeats 2000000 in
theorem give_ok (h : Sep W w (docA p A :: rs)) {a : Option Addr} {c : Nat} {l : List Int} (hr : ∀ {w' : World} {r : Res}, Sep W w' (r :: rs) → IntsAt w' a l) (s : Int) (he : A.givesE s l = 0) :
    Calls Tryz.prog 29 #[ptr p, int s, .slice a l.length c] w fun e w' => e = .returned (.int .u16 0) ∧ Sep W w' (docA p (A.giveA s l) :: rs) := by
  obtain ⟨hs, hin, hlen⟩ := givesE_parts he
  have H := Lib.hid h
  have HE := Lib.hid he
  have hr' : ∀ (w' : World) (r : Res), Sep W w' (r :: rs) → IntsAt w' a l := fun w' r h => hr h
  have HR := Lib.hid hr'
  have Hin := Lib.hid hin
  have hn0 := (docA_open h).1.n_le
  obtain ⟨j, rfl, hj⟩ := icast hs.1 hs.2
  obtain ⟨i0, hi0, hz0, hz1, hz2⟩ := info_parts infoInt
  clear h he hr hr' hin
  go_enter Tryz.func29, Tryz.ntmps29
  go_wp2_with fail
  refine (gives_ok H.out (fun h => HR.out _ _ h) j HE.out).mono ?_
  rintro e w1 ⟨rfl, h1⟩
  obtain ⟨hw, B, R, hl, hS⟩ := docA_open h1
  obtain ⟨cap, av, gv, Fa, Fg, hC, _⟩ := docR_step hS
  have c0 := hC.cell0
  have u18 := hC.cell hj (k := 18) (by omega) rfl
  have hgiv := hC.given j hj
  have hgl := hw.given_len hs
  obtain ⟨g0, hg0⟩ : ∃ g0, g0 = (A.nd j).given := ⟨_, rfl⟩
  rw [(hl.same j hs).given, ← hg0] at hgiv
  rw [← hg0] at hgl
  have hgin : ∀ x ∈ g0, A.In x := fun x hx => (hw.gin j hs x (hg0 ▸ hx)).1
  have Hgin := Lib.hid hgin
  have Hg0 := Lib.hid hg0
  have Hgiv := Lib.hid hgiv
  have H1 := Lib.hid h1
  clear h1 hS hC hgiv hl hw hgin hg0 H
  go_wp2_with fail
  refine (cloneInts (gv j) g0 w1 _ Hgiv.out (by omega)).mono ?_
  rintro e w2 ⟨vc, rfl, hf⟩
  have h2 := H1.out.fresh hf
  obtain ⟨ac, cc, rfl⟩ := row_form h2
  have H2 := Lib.hid h2
  clear h2 hf H1 c0 u18 Hgiv
  go_wp2_with fail
  go_loopw [29] (fun v wr => ∃ m : Nat, v = int m ∧ m ≤ g0.length ∧ Sep W wr (irow (.slice ac g0.length cc) g0 :: docA p (freeAll (g0.take m) A) :: rs)) (fun v _ => g0.length - (intOf v).toNat)
  case atStart => exact ⟨0, rfl, Nat.zero_le _, H2.out⟩
  case round =>
    obtain ⟨m, rfl, hm, hS⟩ := hrel
    have HS := Lib.hid hS
    clear H2
    by_cases hml : m < g0.length
    · obtain ⟨g1, d1, hv1, hc1⟩ := hS.irow_open (by omega)
      obtain ⟨rfl, rfl⟩ : ac = some ⟨g1, 0, none⟩ ∧ cc = d1 := by injection hv1 with h1 _ h3; exact ⟨h1, h3⟩
      have cl := hc1 m g0[m] (by simp [hml])
      have t1 : decide ((m : Int) < g0.length) = true := by simp; omega
      have hix : (freeAll (g0.take m) A).In g0[m] := by unfold Doc.In; rw [freeAll_n]; exact Hgin.out _ (List.getElem_mem hml)
      have hwr : IntKind.i64.wrap ((m : Int) + 1) = ((m + 1 : Nat) : Int) := by rw [IntKind.wrap_i64]; omega
      clear hS hv1 hc1
      go_wp2_with fail
      refine (free_doc HS.out.swap g0[m] hix).mono ?_
      rintro e w3 ⟨rfl, h3⟩
      have H3 := Lib.hid h3.swap
      clear h3
      go_wp2_with fail
      go_roundw
      case rel =>
        refine ⟨m + 1, rfl, hml, ?_⟩
        rw [List.take_succ_eq_append_getElem hml, freeAll_snoc]
        exact H3.out
      case measure => simp [intOf]; omega
    · obtain rfl : m = g0.length := by omega
      have t1 : decide ((g0.length : Int) < g0.length) = false := by simp
      rw [List.take_length] at HS
      obtain ⟨A1, hA1⟩ : ∃ A1, A1 = freeAll g0 A := ⟨_, rfl⟩
      have HA1 := Lib.hid hA1
      have H3 := Lib.hid (show Sep W wr (docA p A1 :: rs) from hA1 ▸ HS.out.tail)
      have hA1n : A1.n = A.n := by rw [hA1]; exact freeAll_n _ _
      clear hS HS hA1
      go_wp2_with fail
      go_loopw [39] (fun v wr => ∃ m : Nat, v = int m ∧ m ≤ l.length ∧ Sep W wr (docA p (giveAll j (l.take m) A1) :: rs)) (fun v _ => l.length - (intOf v).toNat)
      case atStart => exact ⟨0, rfl, Nat.zero_le _, H3.out⟩
      case round =>
        obtain ⟨m, rfl, hm, hS⟩ := hrel
        have HS := Lib.hid hS
        clear H3
        by_cases hml : m < l.length
        · have hI := HR.out _ _ hS
          obtain ⟨b1, o1, rfl, hc1⟩ := hI.at (by omega)
          have cl := hc1 m hml
          have t2 : decide ((m : Int) < l.length) = true := by simp; omega
          have hwr : IntKind.i64.wrap ((m : Int) + 1) = ((m + 1 : Nat) : Int) := by rw [IntKind.wrap_i64]; omega
          obtain ⟨D, hD⟩ : ∃ D, D = giveAll j (l.take m) A1 := ⟨_, rfl⟩
          have hDn : D.n = A.n := by rw [hD]; exact (giveAll_n _ _).trans hA1n
          have hxin := Hin.out _ (List.getElem_mem hml)
          obtain ⟨x, hx, hxn⟩ := icast hxin.1 hxin.2
          rw [hx] at cl
          have hix : D.In (x : Int) := ⟨by omega, by rw [hDn]; omega⟩
          have hij : D.In (j : Int) := ⟨by omega, by rw [hDn]; omega⟩
          have hnext : giveAll j (l.take (m + 1)) A1 = D.giveOne j x := by
            rw [List.take_succ_eq_append_getElem hml, giveAll_snoc, ← hD, hx]
          have HN := Lib.hid hnext
          rw [← hD] at hS
          have HSD := Lib.hid hS
          obtain ⟨B, cap, R, av, gv, hl, c0, hc⟩ := cell_doc hS
          have u17 := hc x 17 (by omega) (by omega) _ rfl
          rw [(hl.same x hix).slot] at u17
          clear hS hI hc1 hx hD hnext hc hl HS hxin
          by_cases hsl : (D.nd x).slot = j
          · have t3 : ((D.nd x).slot == (j : Int)) = true := by simpa using hsl
            have hg : D.giveOne j x = D := by unfold Doc.giveOne; rw [if_pos hsl]
            have Hg := Lib.hid hg
            clear hg hsl
            go_wp2_with fail
            go_roundw
            case rel => exact ⟨m + 1, rfl, hml, by rw [HN.out, Hg.out]; exact HSD.out⟩
            case measure => simp [intOf]; omega
          · have t3 : ((D.nd x).slot == (j : Int)) = false := by simpa using hsl
            have hg : D.giveOne j x = (D.free x).giveTo j x := by unfold Doc.giveOne; rw [if_neg hsl]
            have Hg := Lib.hid hg
            clear hg hsl
            go_wp2_with fail
            refine (free_doc HSD.out x hix).mono ?_
            rintro e w3 ⟨rfl, h3⟩
            have H3 := Lib.hid h3
            clear h3 u17 c0 cl
            have hfn : (D.free x).n = D.n := free_n
            obtain ⟨hw3, B3, R3, hl3, hS3⟩ := docA_open H3.out
            rw [hfn] at hS3
            obtain ⟨G, ⟨cap3, av3, gv3, Fa, Fg, hC, hG⟩, hlt, hst⟩ := hS3.step
            have hxD : x < D.n := by omega
            have hjD : j < D.n := by omega
            have d0 := hC.cell0
            have f0 := hC.frozenB
            have hpb : p ≠ B3 := hC.pb
            have d17 := hC.cell hxD (k := 17) (by omega) rfl
            have hCA := hC.set hxD (k := 17) (by omega) (int (j : Int)) (.setSlot (j : Int)) (fun _ _ _ => rfl) (fun _ => rfl) (fun _ => rfl)
            have hslot0 : ((D.free x).nd x).slot = -1 := by rw [free_slot, if_pos rfl]
            have hgl3 := hw3.given_len (i := (j : Int)) (free_in.2 hij)
            rw [← (hl3.same j (free_in.2 hij)).given, hfn] at hgl3
            have hn5 := hw3.n_le
            obtain ⟨wA, hwA⟩ : ∃ wA, wA = w3.setCell ⟨B3, x * 19 + 17, none⟩ (int (j : Int)) := ⟨_, rfl⟩
            rw [← hwA] at hCA
            have hLg : ((upd R3 x (.setSlot (j : Int))) j).given = (R3 j).given := by unfold upd; split <;> rfl
            have hrowA := hCA.given j hjD
            rw [hLg] at hrowA
            obtain ⟨L, hL⟩ : ∃ L, L = (R3 j).given := ⟨_, rfl⟩
            rw [← hL] at hrowA hgl3
            obtain ⟨ag, cg, hgv, _⟩ := rowHolds.form hrowA
            have dA0 := hCA.cell0
            have fA := hCA.frozenB
            have dA18 := hCA.cell hjD (k := 18) (by omega) rfl
            rw [hgv] at dA18
            rw [hgv] at hrowA
            have hCS := (hCA.alloc (.cells #[int (x : Int)] TInt)).drew
            have dS0 := hCS.cell0
            have dS18 := hCS.cell hjD (k := 18) (by omega) rfl
            rw [hgv] at dS18
            obtain ⟨v', wB, F', hrun, hrB, hoB, hfB⟩ := rowHolds_append (P := Tryz.prog) (t := 31) (ty := 31) Tryz.underlying31 hi0 hz0 hz1 hz2 rfl (by decide)
              (Res.drew (r := row TInt 1 (.slice ag L.length cg) L.length (icells L)) (Res.alloc (r := row TInt 1 (.slice ag L.length cg) L.length (icells L)) hrowA (.cells #[int (x : Int)] TInt))) (some ⟨wA.heap.size, 0, none⟩) 1 1 [int (x : Int)] (src_new wA (int (x : Int)) TInt)
              (by intro u hu; rw [List.mem_singleton.1 hu]; rfl) (by unfold maxLen; omega) (by omega)
            have hrB2 : (irow v' (L ++ [(x : Int)])).holds wB F' := by
              show rowHolds TInt 1 v' (L ++ [(x : Int)]).length (icells (L ++ [(x : Int)])) wB F'
              rw [icells_snoc, List.length_append]; exact hrB
            obtain ⟨av', cv', hvB, _⟩ := hrB.form
            have hCB := hCS.setGiven hjD hoB hrB2 hfB
            obtain ⟨hbp, hbB, _, _⟩ := hCS.onlyG hjD hoB
            have dB0 : wB.cell? ⟨p, 0, none⟩ = some (.slice (some ⟨B3, 0, none⟩) D.n cap3) := (World.cell?_of_block hbp).trans dS0
            have dB18 : wB.cell? ⟨B3, j * 19 + 18, none⟩ = some (.slice ag L.length cg) := (World.cell?_of_block hbB).trans dS18
            have fB : ∀ o, wB.frozen? ⟨B3, o, none⟩ = false := fun o => by
              have := hCS.frozenB o
              unfold World.frozen? at this ⊢
              rw [hbB]; exact this
            subst hvB
            obtain ⟨k1, k2, k3⟩ := can_of hrun
            have HCB := Lib.hid hCB
            have HoB := Lib.hid hoB
            have HfB := Lib.hid hfB
            have Hst := Lib.hid hst
            have HG := Lib.hid hG
            have Hl3 := Lib.hid hl3
            have Hw3 := Lib.hid hw3
            have HwA := Lib.hid hwA
            have HL := Lib.hid hL
            have hAs : wA.heap.size = w3.heap.size := by rw [hwA]; simp [World.setCell]
            have HAs := Lib.hid hAs
            clear hC hCA hCS hCB hrB hrB2 hoB hfB hst hG hlt hl3 hw3 hL hrowA hbp hbB hrun hS3 hgv hLg H3 hAs
            go_wp2_with fail
            rw [← HwA.out]
            clear d0 f0 d17 t3 hwA
            go_region
            go_wp2_with fail
            go_roundw
            case rel =>
              refine ⟨m + 1, rfl, hml, ?_⟩
              rw [HN.out, Hg.out]
              have hB3 : G B3 := (HG.out B3).2 (.inr (.inl rfl))
              have hal : Only G w3 ((wA.alloc (.cells #[int (x : Int)] TInt)).drew) := by
                rw [HwA.out]
                exact (((Only.refl G w3).setCell (p := ⟨B3, x * 19 + 17, none⟩) (.inl hB3) _).alloc _).drew
              have hsz : w3.heap.size ≤ ((wA.alloc (.cells #[int (x : Int)] TInt)).drew).heap.size := hal.size
              have hall : Only G w3 (wB.setCell ⟨B3, j * 19 + 18, none⟩ (.slice av' (L.length + 1) cv')) :=
                (hal.trans (HoB.out.mono fun k _ hk => (HG.out k).2 (.inr (.inr (.inr ⟨j, hjD, hk⟩))))).setCell (p := ⟨B3, j * 19 + 18, none⟩) (.inl hB3) _
              have e2 : giveToR R3 j x = upd (upd R3 x (.setSlot (j : Int))) j (.setGiven (L ++ [(x : Int)])) := by
                unfold giveToR
                funext y
                unfold upd
                split
                · rename_i hy
                  subst hy
                  have : ((if (j : Int) = x then (R3 j).setSlot (j : Int) else R3 j)).given = L := by rw [HL.out]; split <;> rfl
                  show RNd.setGiven ((if (j : Int) = x then (R3 j).setSlot (j : Int) else R3 j).given ++ [(x : Int)]) _ = _
                  rw [this]
                · rfl
              have hS := Hst.out _ (Foot p B3 D.n Fa (updF Fg j F')) (docR p B3 D.n ((D.free x).giveTo j x).lim (giveToR R3 j x)) hall ⟨cap3, av3, updV gv3 j (.slice av' (L.length + 1) cv'), Fa, updF Fg j F', by rw [e2]; exact HCB.out, fun _ => Iff.rfl⟩ (fun k hk => ?_)
              · have hwf := Hw3.out.giveTo (s := (j : Int)) (i := (x : Int)) (free_in.2 hij) (free_in.2 hix) hslot0
                have hnn : D.n = ((D.free x).giveTo j x).n := hfn.symm
                rw [hnn] at hS
                exact docA_close hwf Hl3.out.giveTo hS
              · rcases hk with rfl | rfl | ⟨y, hy, hk⟩ | ⟨y, hy, hk⟩
                · exact .inl ((HG.out _).2 (.inl rfl))
                · exact .inl hB3
                · exact .inl ((HG.out _).2 (.inr (.inr (.inl ⟨y, hy, hk⟩))))
                · by_cases hyj : y = j
                  · have e1 : updF Fg j F' y = F' := by unfold updF; rw [if_pos hyj]
                    rw [e1] at hk
                    rcases HfB.out k hk with h3 | h3
                    · exact .inl ((HG.out _).2 (.inr (.inr (.inr ⟨j, hjD, h3⟩))))
                    · exact .inr (Nat.le_trans hsz h3)
                  · have e1 : updF Fg j F' y = Fg y := by unfold updF; rw [if_neg hyj]
                    rw [e1] at hk
                    exact .inl ((HG.out _).2 (.inr (.inr (.inr ⟨y, hy, hk⟩))))
            case measure => simp [intOf]; omega
        · obtain rfl : m = l.length := by omega
          have t2 : decide ((l.length : Int) < l.length) = false := by simp
          clear hS
          rw [List.take_length] at HS
          go_wp2
          go_ret
          refine ⟨rfl, ?_⟩
          unfold Doc.giveA
          rw [← Hg0.out, ← HA1.out]
          exact HS.out
end
end Go.Proofs.YtgdmaikjaopddaaGreatDoor
