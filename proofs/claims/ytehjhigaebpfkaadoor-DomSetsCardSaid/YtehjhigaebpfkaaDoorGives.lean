/- Giving nodes to a slot: free. -/
import Derived.Test.YtehjhigaebpfkaaDoorDelFunc
import Derived.BigRegion
namespace Go.Proofs.YtehjhigaebpfkaaDoor
open Go.RowKit

namespace RNd
def setGiven (l : List Int) (x : RNd) : RNd := { x with given := l }
end RNd
namespace Nd
def setGiven (l : List Int) (x : Nd) : Nd := { x with given := l }
def setSlot (v : Int) (x : Nd) : Nd := { x with slot := v }
end Nd

section
variable {p b cap n : Nat} {lim : Int} {R : Int → RNd} {av gv : Nat → Value} {Fa Fg : Nat → Nat → Prop} {w w' : World}

theorem DocC.onlyG (h : DocC p b cap n lim R av gv Fa Fg w) {i : Nat} (hi : i < n) (ho : Only (Fg i) w w') : w'.heap[p]? = w.heap[p]? ∧ w'.heap[b]? = w.heap[b]? ∧ (∀ j, j < n → ∀ k, Fa j k → w'.heap[k]? = w.heap[k]?) ∧ ∀ j, j < n → j ≠ i → ∀ k, Fg j k → w'.heap[k]? = w.heap[k]? := by
  refine ⟨ho.block p h.pw fun hk => (h.pg hi hk).1 rfl, ho.block b h.Bw fun hk => (h.pg hi hk).2 rfl, fun j hj k hk => ho.block k ((arow _ _).lt (h.attrs j hj) hk) fun hg => h.ag hj hi hk hg, fun j hj hji k hk => ho.block k ((irow _ _).lt (h.given j hj) hk) fun hg => h.dg j hj i hi hji k hk hg⟩

/-- what is given to a node has turned, and is told to it -/
theorem DocC.setGiven (h : DocC p b cap n lim R av gv Fa Fg w) {i : Nat} (hi : i < n) {v' : Value} {l' : List Int} {F' : Nat → Prop} (ho : Only (Fg i) w w') (hr : (irow v' l').holds w' F') (hF : ∀ k, F' k → Fg i k ∨ w.heap.size ≤ k) :
    DocC p b cap n lim (upd R i (.setGiven l')) av (updV gv i v') Fa (updF Fg i F') (w'.setCell ⟨b, i * 19 + 18, none⟩ v') := by
  obtain ⟨hp, hb, hA, hG⟩ := h.onlyG hi ho
  obtain ⟨cur, hc, h1, h2⟩ := h.nodes
  have hfar : ∀ k', k' ≠ b → (w'.setCell ⟨b, i * 19 + 18, none⟩ v').heap[k']? = w'.heap[k']? := fun k' hk' => Below.heap_setCell _ _ _ _ hk'
  have hat : ∀ j : Nat, (upd R i (.setGiven l') j).attrs = (R j).attrs := fun j => by unfold upd; split <;> rfl
  have hF'b : ∀ k, F' k → k ≠ b := fun k hk e => by
    rcases hF k hk with h3 | h3
    · exact (h.pg hi h3).2 e
    · have := h.Bw; omega
  refine ⟨(hfar p h.pb).trans (hp.trans h.doc), ⟨cur.setIfInBounds (i * 19 + 18) v', by simp [World.setCell, Array.getElem?_modify, hb.trans hc], by simpa using h1, fun j hj k hk => ?_⟩, h.hn, h.hcap, fun j hj => ?_, fun j hj => ?_, h.da, fun x hx y hy hxy k hkx hky => ?_⟩
  · rw [Array.getElem?_setIfInBounds]
    by_cases hji : j = i
    · subst hji
      rw [show upd R j (RNd.setGiven l') j = (R j).setGiven l' by simp [upd]]
      have ev : updV gv j v' j = v' := by unfold updV; rw [if_pos rfl]
      rw [ev]
      by_cases hkk : k = 18
      · subst hkk
        have hlt : j * 19 + 18 < cur.size := by
          rw [h1]
          have := h.hn
          have : (j + 1) * 19 ≤ cap * 19 := Nat.mul_le_mul_right 19 (by omega)
          omega
        rw [if_pos rfl, if_pos hlt]; rfl
      · rw [if_neg (by omega), h2 j hj k hk]
        have h3 : ncell ((R j).setGiven l') (av j) v' = (ncell (R j) (av j) (gv j)).set 18 v' := rfl
        rw [h3, List.getElem?_set_ne (by omega)]
    · have e1 : (upd R i (RNd.setGiven l') j) = R j := by unfold upd; rw [if_neg (by omega)]
      have e2 : updV gv i v' j = gv j := by unfold updV; rw [if_neg hji]
      rw [e1, e2, if_neg (by omega)]
      exact h2 j hj k hk
  · rw [hat j]
    exact (arow _ _).loc (h.attrs j hj) fun k' hk' => (hfar k' (h.pa hj hk').2).trans (hA j hj k' hk')
  · by_cases hji : j = i
    · subst hji
      have e1 : (upd R j (RNd.setGiven l') j).given = l' := by simp [upd, RNd.setGiven]
      have e2 : updV gv j v' j = v' := by unfold updV; rw [if_pos rfl]
      have e3 : updF Fg j F' j = F' := by unfold updF; funext k; simp
      rw [e1, e2, e3]
      exact (irow _ _).loc hr fun k' hk' => hfar k' (hF'b k' hk')
    · have e1 : (upd R i (RNd.setGiven l') j).given = (R j).given := by unfold upd; rw [if_neg (by omega)]
      have e2 : updV gv i v' j = gv j := by unfold updV; rw [if_neg hji]
      have e3 : updF Fg i F' j = Fg j := by unfold updF; funext k; simp [hji]
      rw [e1, e2, e3]
      exact (irow _ _).loc (h.given j hj) fun k' hk' => (hfar k' (h.pg hj hk').2).trans (hG j hj hji k' hk')
  · have key : ∀ {y : Nat}, y < n → y ≠ i → ∀ k, F' k → ¬ Fg y k := fun {y} hy hyi k hk hky => by
      rcases hF k hk with h3 | h3
      · exact h.dg i hi y hy (fun e => hyi e.symm) k h3 hky
      · have := (irow _ _).lt (h.given y hy) hky; omega
    by_cases hxi : x = i
    · have hyi : y ≠ i := fun e => hxy (hxi.trans e.symm)
      have e1 : updF Fg i F' x = F' := by unfold updF; rw [if_pos hxi]
      have e2 : updF Fg i F' y = Fg y := by unfold updF; rw [if_neg hyi]
      rw [e1] at hkx; rw [e2] at hky
      exact key hy hyi k hkx hky
    · have e1 : updF Fg i F' x = Fg x := by unfold updF; rw [if_neg hxi]
      rw [e1] at hkx
      by_cases hyi : y = i
      · have e2 : updF Fg i F' y = F' := by unfold updF; rw [if_pos hyi]
        rw [e2] at hky
        exact key hx hxi k hky hkx
      · have e2 : updF Fg i F' y = Fg y := by unfold updF; rw [if_neg hyi]
        rw [e2] at hky
        exact h.dg x hx y hy hxy k hkx hky
end

theorem DocC.drewN {p b cap n : Nat} {lim : Int} {R : Int → RNd} {av gv : Nat → Value} {Fa Fg : Nat → Nat → Prop} {w : World} (h : DocC p b cap n lim R av gv Fa Fg w) (m : Nat) : DocC p b cap n lim R av gv Fa Fg (w.drewN m) := h.only (G := fun _ => False) (Only.drewN (.refl _ _) m) fun _ _ _ h => h
def freeR (R : Int → RNd) (i : Int) : Int → RNd :=
  upd (if (R i).slot = -1 then R else upd R (R i).slot (fun x => x.setGiven (x.given.erase i))) i (.setSlot (-1))

section
variable {W w : World} {rs : List Res} {p B n : Nat} {lim : Int} {R : Int → RNd}
set_option maxRecDepth 100000 in
set_option maxHeartbeats 1000000 in
theorem free_core (h : Sep W w (docR p B n lim R :: rs)) (i : Nat) (hi : i < n) (hs : Ok n (R i).slot) (hgd : ∀ s : Nat, s < n → (R s).given.Nodup ∧ (R s).given.length ≤ 1000000) :
    Calls Tryd.prog 53 #[ptr p, int i] w fun e w' => e = .returned (.tuple #[]) ∧ Sep W w' (docR p B n lim (freeR R i) :: rs) := by
  obtain ⟨G, ⟨cap, av, gv, Fa, Fg, hC0, hG⟩, hlt, hstep⟩ := h.step
  have hgl : w.heap.size < (w.alloc (.cells #[int i] TInt)).heap.size := by simp
  have hq := cell_alloc_new w #[int i] TInt 0
  have hal : Only G w (w.alloc (.cells #[int i] TInt)) := Only.alloc (.refl _ _) _
  have hC := hC0.alloc (.cells #[int (i : Int)] TInt)
  have hnF : ∀ k, Foot p B n Fa Fg k → k ≠ w.heap.size := fun k hk => Nat.ne_of_lt (hC0.lt hk)
  have Hst := Lib.hid hstep
  have HG := Lib.hid hG
  have HnF := Lib.hid hnF
  clear h hlt hstep hG hC0 hnF
  go_enter Tryd.func53, Tryd.ntmps53
  go_wp2
  generalize hw1 : w.alloc (.cells #[int (i : Int)] TInt) = w1 at *
  generalize hqq : w.heap.size = q at *
  have c0 := hC.cell0
  have f0 := hC.frozenB
  have hpb : p ≠ B := hC.pb
  have hpq : p ≠ q := HnF.out p (.inl rfl)
  have hbq : B ≠ q := HnF.out B (.inr (.inl rfl))
  have u17 := hC.cell hi (k := 17) (by omega) rfl
  have HC := Lib.hid hC
  rcases hs with hs1 | hs2
  · have t1 : ((R i).slot != -1) = false := by simpa using hs1
    have hfr : freeR R i = upd R i (.setSlot (-1)) := by unfold freeR; rw [if_pos hs1]
    have Hfr := Lib.hid hfr
    clear hC hs1 hfr hw1 hqq
    go_quiet (fail)
    go_wp2_with fail
    go_region
    go_wp2
    go_end0
    refine ⟨rfl, ?_⟩
    rw [Hfr.out]
    refine Hst.out _ G _ (((hal.drewN _).setCell (p := ⟨B, i * 19 + 17, none⟩) (.inl ((HG.out B).2 (.inr (.inl rfl)))) _)) ⟨cap, av, gv, Fa, Fg, (HC.out.drewN _).set hi (k := 17) (by omega) (int (-1)) (.setSlot (-1)) (fun _ _ _ => rfl) (fun _ => rfl) (fun _ => rfl), HG.out⟩ fun k hk => .inl hk
  · obtain ⟨s, hse, hsn⟩ := icast hs2.1 hs2.2
    rw [hse] at u17
    have t1 : ((s : Int) != -1) = true := by simp
    have hfr : freeR R i = upd (upd R s (fun x => x.setGiven (x.given.erase i))) i (.setSlot (-1)) := by unfold freeR; rw [hse, if_neg (by omega)]
    have Hfr := Lib.hid hfr
    have u18 := hC.cell hsn (k := 18) (by omega) rfl
    have Hgd := Lib.hid (hgd s hsn)
    clear hC hs2 hfr hw1 hqq hse hgd
    go_quiet (fail)
    go_wp2_with fail
    refine (delete_raw (v := gv s) (F := Fg s) ((HC.out.drewN nq).given s hsn) Hgd.out.1 Hgd.out.2 q i hq (fun hk => HnF.out q (.inr (.inr (.inr ⟨s, hsn, hk⟩))) rfl)).mono ?_
    rintro e w3 ⟨v', rfl, hrow, ho⟩
    obtain ⟨a', c', hv', _⟩ := hrow.form
    obtain ⟨m', hm'⟩ : ∃ m', m' = ((R s).given.erase (i : Int)).length := ⟨_, rfl⟩
    rw [← hm'] at hv'
    subst hv'
    have Hm' := Lib.hid hm'
    clear hm'
    have hC3 := (HC.out.drewN nq).setGiven hsn ho hrow (fun k hk => .inl hk)
    have hqF : ¬ Fg s q := fun hk => HnF.out q (.inr (.inr (.inr ⟨s, hsn, hk⟩))) rfl
    have hqs : q < (w1.drewN nq).heap.size := cell_lt' (w := w1.drewN nq) hq
    obtain ⟨_, hb3, _, _⟩ := (HC.out.drewN nq).onlyG hsn ho
    have e18 : w3.cell? ⟨B, s * 19 + 18, none⟩ = some (gv s) := (World.cell?_of_block hb3).trans ((HC.out.drewN nq).cell hsn (k := 18) (by omega) rfl)
    have f3 : ∀ o, w3.frozen? ⟨B, o, none⟩ = false := fun o => by
      have := (HC.out.drewN nq).frozenB o
      unfold World.frozen? at this ⊢
      rw [hb3]; exact this
    have d0 := hC3.cell0
    have df := hC3.frozenB
    have d17 := hC3.cell hi (k := 17) (by omega) rfl
    have dq : (w3.setCell ⟨B, s * 19 + 18, none⟩ (.slice a' m' c')).cell? ⟨q, 0, none⟩ = some (int i) := by
      rw [World.cell?_of_block (Below.heap_setCell _ _ _ _ (show q ≠ B from fun e => hbq e.symm)), World.cell?_of_block (ho.block q hqs hqF)]
      exact hq
    have HC3 := Lib.hid hC3
    have Ho := Lib.hid ho
    clear hC3 hqF hqs hb3 hrow ho c0 f0 u17 u18 hq
    go_wp2_with fail
    go_region
    go_wp2
    go_end0
    refine ⟨rfl, ?_⟩
    rw [Hfr.out]
    have e1 : updF Fg s (Fg s) = Fg := by funext j; unfold updF; split <;> simp_all
    have e2 : upd R s (fun x => x.setGiven (x.given.erase i)) = upd R s (.setGiven ((R s).given.erase i)) := by funext j; unfold upd; split <;> simp_all
    have hC4 := HC3.out.drewN
    rw [e1] at hC4
    rw [e2]
    have hGB : G B := (HG.out B).2 (.inr (.inl rfl))
    refine Hst.out _ G _ ((((((hal.drewN nq).trans (Ho.out.mono fun k _ hk => (HG.out k).2 (.inr (.inr (.inr ⟨s, hsn, hk⟩))))).setCell (p := ⟨B, s * 19 + 18, none⟩) (.inl hGB) _).drewN _).setCell (p := ⟨B, i * 19 + 17, none⟩) (.inl hGB) _)) ⟨cap, av, updV gv s (.slice a' m' c'), Fa, Fg, (hC4 _).set hi (k := 17) (by omega) (int (-1)) (.setSlot (-1)) (fun _ _ _ => rfl) (fun _ => rfl) (fun _ => rfl), HG.out⟩ fun k hk => .inl hk
end
end Go.Proofs.YtehjhigaebpfkaaDoor
