/- More calls on a document, each for every document and any numbers: Remove, Write, Given, Slot, Limit, Make, Give. -/
import Derived.Test.YtgdmaikjaopddaaGreatDoorJ10
import Derived.Test.YtgdmaikjaopddaaGreatDoorJ19
import Derived.Test.YtgdmaikjaopddaaGreatDoorJ21
namespace Go.Proofs.YtgdmaikjaopddaaGreatDoor
open Go.RowKit

noncomputable def Doc.removeE (A : Doc) (i : Int) : Int := if A.In i then (if (A.nd i).up = -1 then 81 else 0) else 80
noncomputable def Doc.removeA (A : Doc) (i : Int) : Doc := if A.removeE i = 0 then A.take i else A
noncomputable def Doc.givenOf (A : Doc) (i : Int) : List Int := if A.In i then (A.nd i).given else []
noncomputable def Doc.slotOf (A : Doc) (i : Int) : Int := if A.In i then (A.nd i).slot else -1
noncomputable def Doc.makeE (A : Doc) (k : Int) (nm da : ByteArray) (l : List Attr) : Int := if mayA k nm da l = true then (if A.makeNo k nm = true then 3 else 0) else 1
noncomputable def Doc.makeI (A : Doc) (k : Int) (nm da : ByteArray) (l : List Attr) : Int := if A.makeE k nm da l = 0 then A.n else 0
noncomputable def Doc.makeD (A : Doc) (k : Int) (nm da : ByteArray) (l : List Attr) : Doc := if A.makeE k nm da l = 0 then A.made k nm da l else A
noncomputable def Doc.giveD (A : Doc) (s : Int) (l : List Int) : Doc := if A.givesE s l = 0 then A.giveA s l else A

section
variable {W w : World} {rs : List Res} {p : Nat} {A : Doc}
theorem make_any (h : Sep W w (docA p A :: rs)) (hT : Laid W) (x : Arg) (A0 : Option Addr) (c : Nat) (l : List Attr) (hat : AttrsAt w A0 l) (hlc : l.length ≤ c) :
    Calls Tryz.prog 24 #[ptr p, .agg (x.cells A0 l.length c)] w fun e w' => e = .returned (.tuple #[int (A.makeI x.kind x.name x.data l), .int .u16 (A.makeE x.kind x.name x.data l)]) ∧ Sep W w' (docA p (A.makeD x.kind x.name x.data l) :: rs) := by
  unfold Doc.makeI Doc.makeD Doc.makeE
  cases hm : mayA x.kind x.name x.data l
  · simpa using make_no_arg_a h hT x A0 c l hat hlc hm
  · cases hf : A.makeNo x.kind x.name
    · simpa using make_yes_a h hT x A0 c l hat hlc hm hf
    · simpa using make_no_room_a h hT x A0 c l hat hlc hm hf

set_option maxRecDepth 100000 in
theorem limit_doc (h : Sep W w (docA p A :: rs)) : Calls Tryz.prog 51 #[ptr p] w fun e w' => e = .returned (int A.lim) ∧ w = w' := by
  obtain ⟨hw, B, R, hl, hS⟩ := docA_open h
  obtain ⟨cap, av, gv, Fa, Fg, hC, _⟩ := docR_step hS
  have c1 := hC.cell1
  clear h hw hl hS hC
  go_enter Tryz.func51, Tryz.ntmps51
  go_wp2
  go_ret
  exact ⟨rfl, rfl⟩

set_option maxRecDepth 100000 in
theorem slot_any (h : Sep W w (docA p A :: rs)) (i : Int) : Calls Tryz.prog 56 #[ptr p, int i] w fun e w' => e = .returned (int (A.slotOf i)) ∧ w = w' := by
  by_cases hi : A.In i
  · have e : A.slotOf i = (A.nd i).slot := if_pos hi
    rw [e]; exact slot_doc h i hi
  · have HE := Lib.hid (show A.slotOf i = -1 from if_neg hi)
    have H := Lib.hid h
    clear h
    go_enter Tryz.func56, Tryz.ntmps56
    go_wp2_with fail
    refine (lacks_doc_yes H.out i hi).mono ?_
    rintro e w' ⟨rfl, rfl⟩
    go_wp2
    go_ret
    exact ⟨by rw [HE.out]; rfl, rfl⟩

set_option maxRecDepth 100000 in
theorem given_any (h : Sep W w (docA p A :: rs)) (i : Int) : Calls Tryz.prog 31 #[ptr p, int i] w fun e w' => ∃ v, e = .returned v ∧ Sep W w' (irow v (A.givenOf i) :: docA p A :: rs) := by
  by_cases hi : A.In i
  · have HE := Lib.hid (show A.givenOf i = (A.nd i).given from if_pos hi)
    obtain ⟨hw, B, R, hl, hS⟩ := docA_open h
    obtain ⟨cap, av, gv, Fa, Fg, hC, _⟩ := docR_step hS
    obtain ⟨j, rfl, hj⟩ := icast hi.1 hi.2
    have hgiv := hC.given j hj
    rw [(hl.same j hi).given] at hgiv
    have hgl := hw.given_len hi
    have hn := hw.n_le
    have c0 := hC.cell0
    have u18 := hC.cell hj (k := 18) (by omega) rfl
    have H := Lib.hid h
    have HGV := Lib.hid hgiv
    have hgl2 : (A.nd j).given.length * 8 ≤ 140737488355328 := by omega
    clear h hw hl hS hC hgiv
    go_enter Tryz.func31, Tryz.ntmps31
    go_wp2_with fail
    refine (lacks_doc_no H.out j hi).mono ?_
    rintro e w' ⟨rfl, rfl⟩
    go_wp2_with fail
    refine (cloneInts (gv j) (A.nd j).given w _ HGV.out hgl2).mono ?_
    rintro e w2 ⟨v, rfl, hf⟩
    have H2 := Lib.hid (H.out.fresh hf)
    clear hf
    go_wp2
    go_ret
    exact ⟨_, rfl, by rw [HE.out]; exact H2.out⟩
  · have HE := Lib.hid (show A.givenOf i = [] from if_neg hi)
    have H := Lib.hid h
    clear h
    go_enter Tryz.func31, Tryz.ntmps31
    go_wp2_with fail
    refine (lacks_doc_yes H.out i hi).mono ?_
    rintro e w' ⟨rfl, rfl⟩
    go_wp2
    go_ret
    exact ⟨_, rfl, by rw [HE.out]; exact H.out.nilRow _ _ _⟩

set_option maxRecDepth 100000 in
theorem remove_doc (h : Sep W w (docA p A :: rs)) (i : Int) : Calls Tryz.prog 15 #[ptr p, int i] w fun e w' => e = .returned (.int .u16 (A.removeE i)) ∧ Sep W w' (docA p (A.removeA i) :: rs) := by
  by_cases hi : A.In i
  · obtain ⟨hw, B, R, hl, hS⟩ := docA_open h
    obtain ⟨cap, av, gv, Fa, Fg, hC, _⟩ := docR_step hS
    obtain ⟨j, rfl, hj⟩ := icast hi.1 hi.2
    have c0 := hC.cell0
    have u9 := hC.cell hj (k := 9) (by omega) rfl
    have hup := (hl.same j hi).up
    rw [hup] at u9
    have H := Lib.hid h
    have HS := Lib.hid hS
    have Hl := Lib.hid hl
    have Hw := Lib.hid hw
    have Hup := Lib.hid hup
    by_cases hu : (A.nd j).up = -1
    · have hE : A.removeE j = 81 := by unfold Doc.removeE; rw [if_pos hi, if_pos hu]
      have HE := Lib.hid hE
      have HA := Lib.hid (show A.removeA j = A by unfold Doc.removeA; rw [if_neg (by rw [hE]; decide)])
      have t1 : ((A.nd j).up == -1) = true := by simpa using hu
      clear h hw hl hS hC hup hu hE
      go_enter Tryz.func15, Tryz.ntmps15
      go_wp2_with fail
      refine (lacks_doc_no H.out j hi).mono ?_
      rintro e w' ⟨rfl, rfl⟩
      go_wp2
      go_ret
      exact ⟨by rw [HE.out]; rfl, by rw [HA.out]; exact H.out⟩
    · have hE : A.removeE j = 0 := by unfold Doc.removeE; rw [if_pos hi, if_neg hu]
      have HE := Lib.hid hE
      have HA := Lib.hid (show A.removeA j = A.take j by unfold Doc.removeA; rw [if_pos hE])
      have t1 : ((A.nd j).up == -1) = false := by simpa using hu
      have hr := (hl.rng hw) j hi.1 hi.2
      have Hr := Lib.hid hr
      clear h hw hl hS hC hup hu hE hr
      go_enter Tryz.func15, Tryz.ntmps15
      go_wp2_with fail
      refine (lacks_doc_no H.out j hi).mono ?_
      rintro e w' ⟨rfl, rfl⟩
      go_wp2_with fail
      refine (take_any HS.out j hi.1 hi.2 Hr.out.up Hr.out.prev Hr.out.next).mono ?_
      rintro e w2 ⟨rfl, h2⟩
      have H2 := Lib.hid h2
      clear h2
      go_wp2
      go_ret
      refine ⟨by rw [HE.out]; rfl, ?_⟩
      rw [HA.out]
      have h3 := H2.out
      rw [← take_n (A := A) (i := (j : Int)), ← take_lim (A := A) (i := (j : Int))] at h3
      exact docA_close (Hw.out.take hi) (Hl.out.take Hw.out.toWFT hi) h3
  · have hE : A.removeE i = 80 := by unfold Doc.removeE; rw [if_neg hi]
    have HE := Lib.hid hE
    have HA := Lib.hid (show A.removeA i = A by unfold Doc.removeA; rw [if_neg (by rw [hE]; decide)])
    have H := Lib.hid h
    clear h hE
    go_enter Tryz.func15, Tryz.ntmps15
    go_wp2_with fail
    refine (lacks_doc_yes H.out i hi).mono ?_
    rintro e w' ⟨rfl, rfl⟩
    go_wp2
    go_ret
    exact ⟨by rw [HE.out]; rfl, by rw [HA.out]; exact H.out⟩

set_option maxRecDepth 100000 in
theorem write_doc (h : Sep W w (docA p A :: rs)) (i : Int) (da : ByteArray) : Calls Tryz.prog 45 #[ptr p, int i, .string da] w fun e w' => e = .returned (.int .u16 (A.writeE i)) ∧ Sep W w' (docA p (A.writeA i da) :: rs) := by
  by_cases hi : A.In i
  · obtain ⟨hw, B, R, hl, hS⟩ := docA_open h
    obtain ⟨G, ⟨cap, av, gv, Fa, Fg, hC, hG⟩, hlt, hst⟩ := hS.step
    obtain ⟨j, rfl, hj⟩ := icast hi.1 hi.2
    have c0 := hC.cell0
    have u0 : w.cell? ⟨B, j * 19, none⟩ = _ := hC.cell hj (k := 0) (by omega) rfl
    have u2 := hC.cell hj (k := 2) (by omega) rfl
    have f0 := hC.frozenB
    rw [(hl.same j hi).kind] at u0
    have H := Lib.hid h
    have HC := Lib.hid hC
    have HG := Lib.hid hG
    have Hst := Lib.hid hst
    have Hl := Lib.hid hl
    have Hw := Lib.hid hw
    by_cases hk : (A.nd j).kind = 2 ∨ (A.nd j).kind = 3
    · have hE : A.writeE j = 0 := by unfold Doc.writeE; rw [if_pos hi, if_pos hk]
      have HE := Lib.hid hE
      have HA := Lib.hid (show A.writeA j da = A.set j (.setData da) by unfold Doc.writeA; rw [if_pos hE])
      have fin : ∀ w', w' = w.setCell ⟨B, j * 19 + 2, none⟩ (.string da) → Sep W w' (docA p (A.set j (.setData da)) :: rs) := fun w' hw' => by
        subst hw'
        refine docA_close (A := A.set j (.setData da)) (Hw.out.setData _ _) (Hl.out.setData _ _) (Hst.out _ G (docR p B A.n A.lim (upd R j (.setData da))) ((Only.refl _ _).setCell (p := ⟨B, j * 19 + 2, none⟩) (.inl ((HG.out B).2 (.inr (.inl rfl)))) _)
          ⟨cap, av, gv, Fa, Fg, HC.out.set hj (k := 2) (by omega) (.string da) (.setData da) (fun _ _ _ => rfl) (fun _ => rfl) (fun _ => rfl), HG.out⟩ fun k hk => .inl hk)
      have FIN := Lib.hid fin
      clear h hw hl hS hC hG hst hlt hE fin
      rcases hk with hk | hk
      · have t1 : ((A.nd j).kind != 2) = false := by simp [hk]
        clear hk
        go_enter Tryz.func45, Tryz.ntmps45
        go_wp2_with fail
        refine (lacks_doc_no H.out j hi).mono ?_
        rintro e w' ⟨rfl, rfl⟩
        go_wp2
        go_ret
        exact ⟨by rw [HE.out]; rfl, by rw [HA.out]; exact FIN.out _ rfl⟩
      · have t1 : ((A.nd j).kind != 2) = true := by simp [hk]
        have t2 : ((A.nd j).kind != 3) = false := by simp [hk]
        clear hk
        go_enter Tryz.func45, Tryz.ntmps45
        go_wp2_with fail
        refine (lacks_doc_no H.out j hi).mono ?_
        rintro e w' ⟨rfl, rfl⟩
        go_wp2
        go_ret
        exact ⟨by rw [HE.out]; rfl, by rw [HA.out]; exact FIN.out _ rfl⟩
    · have hE : A.writeE j = 81 := by unfold Doc.writeE; rw [if_pos hi, if_neg hk]
      have HE := Lib.hid hE
      have HA := Lib.hid (show A.writeA j da = A by unfold Doc.writeA; rw [if_neg (by rw [hE]; decide)])
      have t1 : ((A.nd j).kind != 2) = true := by simp; exact fun e => hk (.inl e)
      have t2 : ((A.nd j).kind != 3) = true := by simp; exact fun e => hk (.inr e)
      clear h hw hl hS hC hG hst hlt hE hk
      go_enter Tryz.func45, Tryz.ntmps45
      go_wp2_with fail
      refine (lacks_doc_no H.out j hi).mono ?_
      rintro e w' ⟨rfl, rfl⟩
      go_wp2
      go_ret
      exact ⟨by rw [HE.out]; rfl, by rw [HA.out]; exact H.out⟩
  · have hE : A.writeE i = 80 := by unfold Doc.writeE; rw [if_neg hi]
    have HE := Lib.hid hE
    have HA := Lib.hid (show A.writeA i da = A by unfold Doc.writeA; rw [if_neg (by rw [hE]; decide)])
    have H := Lib.hid h
    clear h hE
    go_enter Tryz.func45, Tryz.ntmps45
    go_wp2_with fail
    refine (lacks_doc_yes H.out i hi).mono ?_
    rintro e w' ⟨rfl, rfl⟩
    go_wp2
    go_ret
    exact ⟨by rw [HE.out]; rfl, by rw [HA.out]; exact H.out⟩
end
end Go.Proofs.YtgdmaikjaopddaaGreatDoor

/- Give, whatever it is given. -/
namespace Go.Proofs.YtgdmaikjaopddaaGreatDoor
open Go.RowKit

section
variable {W w : World} {rs : List Res} {p : Nat} {A : Doc}
set_option maxRecDepth 100000 in
set_option maxHeartbeats 1000000 in
theorem gives_any (h : Sep W w (docA p A :: rs)) {a : Option Addr} {c : Nat} {l : List Int} (hr : IntsAt w a l) (s : Int) :
    Calls Tryz.prog 65 #[ptr p, int s, .slice a l.length c] w fun e w' => e = .returned (.int .u16 (A.givesE s l)) ∧ Sep W w' (docA p A :: rs) := by
  have hb := h.blk_new #[ptr p] 25
  have hq := hb.blk_cell 0
  have hal : Below w.heap.size w (w.alloc (.cells #[ptr p] 25)) := (Below.refl _ _).alloc (Nat.le_refl _) _
  have hI : IntsAt (w.alloc (.cells #[ptr p] 25)) a l := ⟨hr.1, fun j hj => by
    obtain ⟨b, o, e, hc⟩ := hr.2 j hj
    exact ⟨b, o, e, (hal.cell (p := ⟨b, o + j, none⟩) (World.block_lt_of_cell? w ⟨b, o + j, none⟩ hc)).trans hc⟩⟩
  have hd : Sep W (w.alloc (.cells #[ptr p] 25)) (docA p A :: rs) := hb.tail
  have hq' : (w.alloc (.cells #[ptr p] 25)).cell? ⟨w.heap.size, 0, none⟩ = some (ptr p) := hq
  have hln := hr.1
  obtain ⟨w0, hw0⟩ : ∃ w0, w0 = w.alloc (.cells #[ptr p] 25) := ⟨_, rfl⟩
  rw [← hw0] at hI hd hq'
  have HW0 := Lib.hid hw0
  obtain ⟨q, hqq⟩ : ∃ q, q = w.heap.size := ⟨_, rfl⟩
  rw [← hqq] at hq'
  have HQ := Lib.hid hqq
  have HI := Lib.hid hI
  have HD := Lib.hid hd
  have Hq := Lib.hid hq'
  clear h hr hb hq hal hI hw0 hqq
  by_cases hs : A.In s
  case neg =>
    have HE := Lib.hid (show A.givesE s l = 80 by unfold Doc.givesE; rw [if_neg (fun h => hs h.1)])
    clear hd
    go_enter Tryz.func65, Tryz.ntmps65
    go_wp2_with fail
    rw [← HW0.out, ← HQ.out]
    refine (lacks_doc_yes HD.out s hs).mono ?_
    rintro e w1 ⟨rfl, rfl⟩
    go_wp2
    go_ret
    exact ⟨by rw [HE.out]; rfl, HD.out⟩
  by_cases hin : ∀ x ∈ l, A.In x
  case neg =>
    have HE := Lib.hid (show A.givesE s l = 80 by unfold Doc.givesE; rw [if_neg (fun h => hin h.2)])
    have e1 : l.any (fun x => !decide (A.In x)) = true := by
      rw [List.any_eq_true]
      false_or_by_contra
      rename_i hno
      exact hin fun x hx => by
        by_cases hxi : A.In x
        · exact hxi
        · exact absurd ⟨x, hx, by simp [hxi]⟩ hno
    have E1 := Lib.hid e1
    clear hd e1 hin
    go_enter Tryz.func65, Tryz.ntmps65
    go_wp2_with fail
    rw [← HW0.out, ← HQ.out]
    refine (lacks_doc_no HD.out s hs).mono ?_
    rintro e w1 ⟨rfl, rfl⟩
    go_wp2_with fail
    refine (contains_lacks p (fun x => !decide (A.In x)) a c l w0 HI.out (fun y _ => lacks_doc HD.out y)).mono ?_
    rintro e w2 ⟨rfl, rfl⟩
    rw [E1.out]
    go_wp2
    go_ret
    exact ⟨by rw [HE.out]; rfl, HD.out⟩
  have hE0 : A.givesE s l = if (A.nd s).kind = 1 ∧ ((A.nd s).name.toList == [115, 108, 111, 116]) = true then (if ∀ x ∈ l, A.slottable x = true then (if l.length ≤ 200 then 0 else 1) else 81) else 110 := by
    unfold Doc.givesE; rw [if_pos ⟨hs, hin⟩]
  have HE0 := Lib.hid hE0
  have e1 : l.any (fun x => !decide (A.In x)) = false := by
    rw [List.any_eq_false]; intro x hx; simp [hin x hx]
  have E1 := Lib.hid e1
  have Hin := Lib.hid hin
  obtain ⟨B, cap, R, av, gv, hl, c0, hc⟩ := cell_doc hd
  obtain ⟨j, rfl, hj⟩ := icast hs.1 hs.2
  have u0 : w0.cell? ⟨B, j * 19, none⟩ = _ := hc j 0 hj (by omega) _ rfl
  rw [(hl.same j hs).kind] at u0
  have u1 := hc j 1 hj (by omega) _ rfl
  rw [(hl.same j hs).name] at u1
  clear hd hin hc hl hE0 e1
  by_cases hk : (A.nd j).kind = 1
  case neg =>
    have HE := Lib.hid (show A.givesE j l = 110 by rw [HE0.out, if_neg (fun h => hk h.1)])
    have t1 : ((A.nd j).kind != 1) = true := by simpa using hk
    clear hk
    go_enter Tryz.func65, Tryz.ntmps65
    go_wp2_with fail
    rw [← HW0.out, ← HQ.out]
    refine (lacks_doc_no HD.out j hs).mono ?_
    rintro e w1 ⟨rfl, rfl⟩
    go_wp2_with fail
    refine (contains_lacks p (fun x => !decide (A.In x)) a c l w0 HI.out (fun y _ => lacks_doc HD.out y)).mono ?_
    rintro e w2 ⟨rfl, rfl⟩
    rw [E1.out]
    go_wp2
    go_ret
    exact ⟨by rw [HE.out]; rfl, HD.out⟩
  have t1 : ((A.nd j).kind != 1) = false := by simpa using hk
  cases hnm : ((A.nd j).name.toList == [115, 108, 111, 116])
  case false =>
    have HE := Lib.hid (show A.givesE j l = 110 by rw [HE0.out, if_neg (fun h => by rw [hnm] at h; exact absurd h.2 (by decide))])
    have t2 : ((A.nd j).name.toList != [115, 108, 111, 116]) = true := by simpa [bne] using hnm
    clear hk
    go_enter Tryz.func65, Tryz.ntmps65
    go_wp2_with fail
    rw [← HW0.out, ← HQ.out]
    refine (lacks_doc_no HD.out j hs).mono ?_
    rintro e w1 ⟨rfl, rfl⟩
    go_wp2_with fail
    refine (contains_lacks p (fun x => !decide (A.In x)) a c l w0 HI.out (fun y _ => lacks_doc HD.out y)).mono ?_
    rintro e w2 ⟨rfl, rfl⟩
    rw [E1.out]
    go_wp2
    go_ret
    exact ⟨by rw [HE.out]; rfl, HD.out⟩
  have HE1 := Lib.hid (show A.givesE j l = if ∀ x ∈ l, A.slottable x = true then (if l.length ≤ 200 then 0 else 1) else 81 by rw [HE0.out, if_pos ⟨hk, hnm⟩])
  have t2 : ((A.nd j).name.toList != [115, 108, 111, 116]) = false := by simpa [bne] using hnm
  clear hk
  by_cases hsl : ∀ x ∈ l, A.slottable x = true
  case neg =>
    have HE := Lib.hid (show A.givesE j l = 81 by rw [HE1.out, if_neg hsl])
    have e2 : l.any (fun x => !A.slottable x) = true := by
      rw [List.any_eq_true]
      false_or_by_contra
      rename_i hno
      exact hsl fun x hx => by
        cases hxs : A.slottable x
        · exact absurd ⟨x, hx, by simp [hxs]⟩ hno
        · rfl
    have E2 := Lib.hid e2
    clear hsl e2
    go_enter Tryz.func65, Tryz.ntmps65
    go_wp2_with fail
    rw [← HW0.out, ← HQ.out]
    refine (lacks_doc_no HD.out j hs).mono ?_
    rintro e w1 ⟨rfl, rfl⟩
    go_wp2_with fail
    refine (contains_lacks p (fun x => !decide (A.In x)) a c l w0 HI.out (fun y _ => lacks_doc HD.out y)).mono ?_
    rintro e w2 ⟨rfl, rfl⟩
    rw [E1.out]
    go_wp2_with fail
    refine (contains_gives q (fun x => !A.slottable x) a c l w0 HI.out (fun y hy => gives1_doc HD.out q Hq.out y (Hin.out y hy))).mono ?_
    rintro e w2 ⟨rfl, rfl⟩
    rw [E2.out]
    go_wp2
    go_ret
    exact ⟨by rw [HE.out]; rfl, HD.out⟩
  have e2 : l.any (fun x => !A.slottable x) = false := by
    rw [List.any_eq_false]; intro x hx; simp [hsl x hx]
  have E2 := Lib.hid e2
  have HE2 := Lib.hid (show A.givesE j l = if l.length ≤ 200 then 0 else 1 by rw [HE1.out, if_pos hsl])
  clear hsl e2
  obtain ⟨b, hb⟩ : ∃ b, b = decide ((l.length : Int) > 200) := ⟨_, rfl⟩
  have HE := Lib.hid (show A.givesE j l = if b = true then 1 else 0 by
    rw [HE2.out, hb]
    by_cases h200 : l.length ≤ 200
    · rw [if_pos h200, if_neg (by simp; omega)]
    · rw [if_neg h200, if_pos (by simp; omega)])
  have hb' := hb.symm
  clear hb
  cases b
  all_goals
    go_enter Tryz.func65, Tryz.ntmps65
    go_wp2_with fail
    rw [← HW0.out, ← HQ.out]
    refine (lacks_doc_no HD.out j hs).mono ?_
    rintro e w1 ⟨rfl, rfl⟩
    go_wp2_with fail
    refine (contains_lacks p (fun x => !decide (A.In x)) a c l w0 HI.out (fun y _ => lacks_doc HD.out y)).mono ?_
    rintro e w2 ⟨rfl, rfl⟩
    rw [E1.out]
    go_wp2_with fail
    refine (contains_gives q (fun x => !A.slottable x) a c l w0 HI.out (fun y hy => gives1_doc HD.out q Hq.out y (Hin.out y hy))).mono ?_
    rintro e w2 ⟨rfl, rfl⟩
    rw [E2.out]
    go_wp2
    go_ret
    exact ⟨by rw [HE.out]; rfl, HD.out⟩

set_option maxRecDepth 100000 in
theorem give_any (h : Sep W w (docA p A :: rs)) {a : Option Addr} {c : Nat} {l : List Int} (hr : ∀ {w' : World} {r : Res}, Sep W w' (r :: rs) → IntsAt w' a l) (s : Int) :
    Calls Tryz.prog 29 #[ptr p, int s, .slice a l.length c] w fun e w' => e = .returned (.int .u16 (A.givesE s l)) ∧ Sep W w' (docA p (A.giveD s l) :: rs) := by
  by_cases he : A.givesE s l = 0
  · have e : A.giveD s l = A.giveA s l := if_pos he
    rw [e, he]; exact give_ok h hr s he
  · have HD := Lib.hid (show A.giveD s l = A from if_neg he)
    have H := Lib.hid h
    have HR := Lib.hid (show IntsAt w a l from hr h)
    have t1 : (A.givesE s l != 0) = true := by simpa using he
    clear h hr
    go_enter Tryz.func29, Tryz.ntmps29
    go_wp2_with fail
    refine (gives_any H.out HR.out s).mono ?_
    rintro e w1 ⟨rfl, h1⟩
    have H1 := Lib.hid h1
    clear h1
    go_wp2
    go_ret
    exact ⟨rfl, by rw [HD.out]; exact H1.out⟩
end
end Go.Proofs.YtgdmaikjaopddaaGreatDoor

/- How the document's own answer for layer 8 lies in memory: its nodes, each with its own rows of attributes and kids, and what is given. -/
namespace Go.Proofs.YtgdmaikjaopddaaGreatDoor
open Go.RowKit

abbrev TRDoc : Nat := 85
abbrev TNd : Nat := 35
abbrev TInts : Nat := 31

section base
variable {W w w' : World} {r : Res} {rs ss : List Res}
theorem Sep.openL {P : List Res → Prop} (h : Sep W w (r :: rs)) (hr : ∀ G, r.holds w G → ∃ ys, P ys ∧ SepL w ys G) : ∃ ys, P ys ∧ Sep W w (ys ++ rs) := by
  obtain ⟨hb, F, ⟨G, H, h1, h2, hd, hF⟩, hk⟩ := h
  obtain ⟨ys, hp, hy⟩ := hr G h1
  exact ⟨ys, hp, hb, F, SepL.append.2 ⟨G, H, hy, h2, hd, hF⟩, hk⟩
theorem Sep.closeL {ys : List Res} (h : Sep W w (ys ++ rs)) (hr : ∀ G, SepL w ys G → r.holds w G) : Sep W w (r :: rs) := by
  obtain ⟨hb, F, hF, hk⟩ := h
  obtain ⟨G, H, h1, h2, hd, hF⟩ := SepL.append.1 hF
  exact ⟨hb, F, ⟨G, H, hr G h1, h2, hd, hF⟩, hk⟩
theorem Sep.mem (h : Sep W w rs) {r : Res} (hm : r ∈ rs) : ∃ G : Nat → Prop, r.holds w G := by
  obtain ⟨l1, l2, rfl⟩ := List.append_of_mem hm
  exact (h.perm (List.perm_middle)).head
end base

/-- a row of nodes -/
def nrow (v : Value) (n : Nat) (f : Nat → Array Value) : Res where
  holds := fun w F => ∃ xs, rowHolds TNd 14 v n xs w F ∧ ∀ i, i < n → ∀ k, k < 14 → xs[i * 14 + k]? = (f i)[k]?
  loc := by
    rintro w w' F ⟨xs, h, hx⟩ hk
    exact ⟨xs, (row TNd 14 v n xs).loc h hk, hx⟩
  lt := by
    rintro w F k ⟨xs, h, _⟩ hk
    exact (row TNd 14 v n xs).lt h hk
/-- a row of values -/
def vrow (e : Nat) (v : Value) (n : Nat) (g : Nat → Value) : Res := row e 1 v n ((List.range n).map g)

def rowsOf (A : Doc) (av kv gv : Nat → Value) (i : Nat) : List Res := [arow (av i) (A.nd i).attrs, irow (kv i) (A.nd i).kids, irow (gv i) (A.nd i).given]
def rowsL (n : Nat) (f : Nat → List Res) : List Res := (List.range n).flatMap f
def refL (q : Nat) (A : Doc) (vN vG : Value) (av kv gv : Nat → Value) : List Res :=
  blk q TRDoc #[int A.lim, vN, vG] :: nrow vN A.n (fun i => ndCells (A.nd i) (av i) (kv i)) :: vrow TInts vG A.n gv :: rowsL A.n (rowsOf A av kv gv)
/-- the document's own answer in memory: where, what -/
def refA (q : Nat) (A : Doc) : Res where
  holds := fun w F => ∃ vN vG av kv gv, SepL w (refL q A vN vG av kv gv) F
  loc := by
    rintro w w' F ⟨vN, vG, av, kv, gv, h⟩ hk
    exact ⟨vN, vG, av, kv, gv, SepL.local' h hk⟩
  lt := by
    rintro w F k ⟨vN, vG, av, kv, gv, h⟩ hk
    exact SepL.lt h hk

section
variable {W w w' : World} {rs : List Res} {q : Nat} {A : Doc} {vN vG : Value} {av kv gv : Nat → Value}
theorem ref_open (h : Sep W w (refA q A :: rs)) : ∃ vN vG av kv gv, Sep W w (refL q A vN vG av kv gv ++ rs) := by
  obtain ⟨ys, ⟨vN, vG, av, kv, gv, rfl⟩, hs⟩ := h.openL (P := fun ys => ∃ vN vG av kv gv, ys = refL q A vN vG av kv gv) fun G ⟨vN, vG, av, kv, gv, hg⟩ => ⟨_, ⟨vN, vG, av, kv, gv, rfl⟩, hg⟩
  exact ⟨vN, vG, av, kv, gv, hs⟩
theorem ref_close (h : Sep W w (refL q A vN vG av kv gv ++ rs)) : Sep W w (refA q A :: rs) := h.closeL fun _ hg => ⟨vN, vG, av, kv, gv, hg⟩

theorem mem_rowsL {n i : Nat} {f : Nat → List Res} (hi : i < n) {r : Res} (hr : r ∈ f i) : r ∈ rowsL n f := List.mem_flatMap.2 ⟨i, List.mem_range.2 hi, hr⟩
theorem rowsL_split : ∀ {n i : Nat} {f f' : Nat → List Res}, i < n → (∀ j, j < n → j ≠ i → f' j = f j) → ∃ rest, (rowsL n f).Perm (f i ++ rest) ∧ (rowsL n f').Perm (f' i ++ rest)
  | 0, i, _, _, hi, _ => absurd hi (Nat.not_lt_zero i)
  | n + 1, i, f, f', hi, hf => by
    have e : ∀ g : Nat → List Res, rowsL (n + 1) g = rowsL n g ++ g n := fun g => by simp [rowsL, List.range_succ]
    rw [e, e]
    by_cases h : i = n
    · subst h
      have : rowsL i f' = rowsL i f := by
        unfold rowsL
        rw [List.flatMap_def, List.flatMap_def]
        congr 1
        exact List.map_congr_left fun j hj => hf j (by have := List.mem_range.1 hj; omega) (by have := List.mem_range.1 hj; omega)
      rw [this]
      exact ⟨rowsL i f, List.perm_append_comm, List.perm_append_comm⟩
    · obtain ⟨rest, h1, h2⟩ := rowsL_split (n := n) (i := i) (f := f) (f' := f') (by omega) fun j hj hne => hf j (by omega) hne
      refine ⟨rest ++ f n, ?_, ?_⟩
      · have := h1.append_right (f n)
        rwa [List.append_assoc] at this
      · rw [hf n (by omega) (fun e => h e.symm)]
        have := h2.append_right (f n)
        rwa [List.append_assoc] at this
theorem rowsL_succ (n : Nat) (f : Nat → List Res) : rowsL (n + 1) f = rowsL n f ++ f n := by simp [rowsL, List.range_succ]
theorem rowsL_congr {n : Nat} {f g : Nat → List Res} (h : ∀ j, j < n → f j = g j) : rowsL n f = rowsL n g := by
  unfold rowsL
  rw [List.flatMap_def, List.flatMap_def]
  congr 1
  exact List.map_congr_left fun j hj => h j (List.mem_range.1 hj)

/-- what stands where: what a walk reads -/
structure RefV (w : World) (q : Nat) (A : Doc) (bN cN bG cG : Nat) (av kv gv : Nat → Value) : Prop where
  lim : w.cell? ⟨q, 0, none⟩ = some (int A.lim)
  N : w.cell? ⟨q, 1, none⟩ = some (.slice (some ⟨bN, 0, none⟩) A.n cN)
  G : w.cell? ⟨q, 2, none⟩ = some (.slice (some ⟨bG, 0, none⟩) A.n cG)
  hN : A.n ≤ cN ∧ cN ≤ maxLen
  hG : A.n ≤ cG ∧ cG ≤ maxLen
  nd : ∀ i, i < A.n → ∀ k, k < 14 → ∀ u, (ndCells (A.nd i) (av i) (kv i))[k]? = some u → w.cell? ⟨bN, i * 14 + k, none⟩ = some u
  g : ∀ i, i < A.n → w.cell? ⟨bG, i, none⟩ = some (gv i)
  a : ∀ i : Nat, i < A.n → ∃ a c, av i = .slice a (A.nd i).attrs.length c ∧ (A.nd i).attrs.length ≤ c ∧ c ≤ maxLen ∧ AttrsAt w a (A.nd i).attrs
  k : ∀ i : Nat, i < A.n → ∃ a c, kv i = .slice a (A.nd i).kids.length c ∧ (A.nd i).kids.length ≤ c ∧ c ≤ maxLen ∧ IntsAt w a (A.nd i).kids
  gi : ∀ i : Nat, i < A.n → ∃ a c, gv i = .slice a (A.nd i).given.length c ∧ (A.nd i).given.length ≤ c ∧ c ≤ maxLen ∧ IntsAt w a (A.nd i).given

theorem rowHolds.ints {v : Value} {l : List Int} {w : World} {F : Nat → Prop} (h : (irow v l).holds w F) (hn : l.length ≤ 1000000) : ∃ a c, v = .slice a l.length c ∧ l.length ≤ c ∧ c ≤ maxLen ∧ IntsAt w a l := by
  obtain ⟨a, c, hv, h1, h2⟩ := rowHolds.form h
  exact ⟨a, c, hv, h1, h2, rowHolds.intsAt h hn hv⟩
theorem ref_view' (h : Sep W w (refL q A vN vG av kv gv ++ rs)) (hw : WF A) : ∃ bN cN bG cG, vN = .slice (some ⟨bN, 0, none⟩) A.n cN ∧ vG = .slice (some ⟨bG, 0, none⟩) A.n cG ∧ RefV w q A bN cN bG cG av kv gv := by
  have hn := hw.n_le
  have hin : ∀ j : Nat, j < A.n → A.In j := fun j hj => ⟨by omega, by omega⟩
  obtain ⟨G1, hq, _⟩ := h.mem (r := blk q TRDoc #[int A.lim, vN, vG]) (by simp [refL])
  obtain ⟨G2, xs, hNr, hx⟩ := h.mem (r := nrow vN A.n (fun i => ndCells (A.nd i) (av i) (kv i))) (by simp [refL])
  obtain ⟨G3, hGr⟩ := h.mem (r := vrow TInts vG A.n gv) (by simp [refL])
  obtain ⟨bN, cN, hvN, hN1, _, _, hNc⟩ := rowHolds.cells hNr hw.pos
  obtain ⟨bG, cG, hvG, hG1, _, _, hGc⟩ := rowHolds.cells hGr hw.pos
  obtain ⟨_, cN', hvN', _, hN2⟩ := rowHolds.form hNr
  obtain ⟨_, cG', hvG', _, hG2⟩ := rowHolds.form hGr
  have eN : cN' = cN := by rw [hvN] at hvN'; injection hvN' with _ _ e; exact e.symm
  have eG : cG' = cG := by rw [hvG] at hvG'; injection hvG' with _ _ e; exact e.symm
  have hmem : ∀ i, i < A.n → ∀ r, r ∈ rowsOf A av kv gv i → ∃ G : Nat → Prop, r.holds w G := fun i hi r hr => h.mem (List.mem_append_left _ (by unfold refL; exact List.mem_cons_of_mem _ (List.mem_cons_of_mem _ (List.mem_cons_of_mem _ (mem_rowsL hi hr)))))
  refine ⟨bN, cN, bG, cG, hvN, hvG, ?_⟩
  refine { lim := ?_, N := ?_, G := ?_, hN := ⟨hN1, eN ▸ hN2⟩, hG := ⟨hG1, eG ▸ hG2⟩, nd := fun i hi k hk u hu => hNc _ _ (by rw [hx i hi k hk]; exact hu), g := fun i hi => hGc i _ (by simp [hi]), a := fun i hi => ?_, k := fun i hi => ?_, gi := fun i hi => ?_ }
  · rw [cell_of_row w q 0 _ _ _ hq]; rfl
  · rw [cell_of_row w q 1 _ _ _ hq, ← hvN]; rfl
  · rw [cell_of_row w q 2 _ _ _ hq, ← hvG]; rfl
  · obtain ⟨G, hG⟩ := hmem i hi (arow (av i) (A.nd i).attrs) (by simp [rowsOf])
    obtain ⟨a, c, hv, h1, h2⟩ := rowHolds.form hG
    exact ⟨a, c, hv, h1, h2, rowHolds.attrsAt hG (by have := hw.att i (hin i hi); omega) hv⟩
  · obtain ⟨G, hG⟩ := hmem i hi (irow (kv i) (A.nd i).kids) (by simp [rowsOf])
    exact rowHolds.ints hG (by have := hw.kids_len (hin i hi); omega)
  · obtain ⟨G, hG⟩ := hmem i hi (irow (gv i) (A.nd i).given) (by simp [rowsOf])
    exact rowHolds.ints hG (by have := hw.given_len (hin i hi); omega)
theorem ref_view (h : Sep W w (refA q A :: rs)) (hw : WF A) : ∃ bN cN bG cG av kv gv, RefV w q A bN cN bG cG av kv gv := by
  obtain ⟨vN, vG, av, kv, gv, hs⟩ := ref_open h
  obtain ⟨bN, cN, bG, cG, _, _, hv⟩ := ref_view' hs hw
  exact ⟨bN, cN, bG, cG, av, kv, gv, hv⟩
theorem RefV.c0 {bN cN bG cG : Nat} (h : RefV w q A bN cN bG cG av kv gv) {i : Nat} (hi : i < A.n) : w.cell? ⟨bN, i * 14, none⟩ = some (.int .u8 (A.nd i).kind) := h.nd i hi 0 (by omega) _ rfl
theorem RefV.c1 {bN cN bG cG : Nat} (h : RefV w q A bN cN bG cG av kv gv) {i : Nat} (hi : i < A.n) : w.cell? ⟨bN, i * 14 + 1, none⟩ = some (.string (A.nd i).name) := h.nd i hi 1 (by omega) _ rfl
theorem RefV.c2 {bN cN bG cG : Nat} (h : RefV w q A bN cN bG cG av kv gv) {i : Nat} (hi : i < A.n) : w.cell? ⟨bN, i * 14 + 2, none⟩ = some (.string (A.nd i).data) := h.nd i hi 2 (by omega) _ rfl
theorem RefV.c3 {bN cN bG cG : Nat} (h : RefV w q A bN cN bG cG av kv gv) {i : Nat} (hi : i < A.n) : w.cell? ⟨bN, i * 14 + 3, none⟩ = some (av i) := h.nd i hi 3 (by omega) _ rfl
theorem RefV.c4 {bN cN bG cG : Nat} (h : RefV w q A bN cN bG cG av kv gv) {i : Nat} (hi : i < A.n) : w.cell? ⟨bN, i * 14 + 4, none⟩ = some (int (A.nd i).up) := h.nd i hi 4 (by omega) _ rfl
theorem RefV.c5 {bN cN bG cG : Nat} (h : RefV w q A bN cN bG cG av kv gv) {i : Nat} (hi : i < A.n) : w.cell? ⟨bN, i * 14 + 5, none⟩ = some (kv i) := h.nd i hi 5 (by omega) _ rfl
theorem RefV.c6 {bN cN bG cG : Nat} (h : RefV w q A bN cN bG cG av kv gv) {i : Nat} (hi : i < A.n) : w.cell? ⟨bN, i * 14 + 6, none⟩ = some (int (A.nd i).shadow) := h.nd i hi 6 (by omega) _ rfl
theorem RefV.c7 {bN cN bG cG : Nat} (h : RefV w q A bN cN bG cG av kv gv) {i : Nat} (hi : i < A.n) : w.cell? ⟨bN, i * 14 + 7, none⟩ = some (int (A.nd i).host) := h.nd i hi 7 (by omega) _ rfl
theorem RefV.c8 {bN cN bG cG : Nat} (h : RefV w q A bN cN bG cG av kv gv) {i : Nat} (hi : i < A.n) : w.cell? ⟨bN, i * 14 + 8, none⟩ = some (int (A.nd i).own) := h.nd i hi 8 (by omega) _ rfl
theorem RefV.c9 {bN cN bG cG : Nat} (h : RefV w q A bN cN bG cG av kv gv) {i : Nat} (hi : i < A.n) : w.cell? ⟨bN, i * 14 + 9, none⟩ = some (.bool (A.nd i).fl.closed) := h.nd i hi 9 (by omega) _ rfl
theorem RefV.c10 {bN cN bG cG : Nat} (h : RefV w q A bN cN bG cG av kv gv) {i : Nat} (hi : i < A.n) : w.cell? ⟨bN, i * 14 + 10, none⟩ = some (.bool (A.nd i).fl.manual) := h.nd i hi 10 (by omega) _ rfl
theorem RefV.c11 {bN cN bG cG : Nat} (h : RefV w q A bN cN bG cG av kv gv) {i : Nat} (hi : i < A.n) : w.cell? ⟨bN, i * 14 + 11, none⟩ = some (.bool (A.nd i).fl.delegates) := h.nd i hi 11 (by omega) _ rfl
theorem RefV.c12 {bN cN bG cG : Nat} (h : RefV w q A bN cN bG cG av kv gv) {i : Nat} (hi : i < A.n) : w.cell? ⟨bN, i * 14 + 12, none⟩ = some (.bool (A.nd i).fl.serial) := h.nd i hi 12 (by omega) _ rfl
theorem RefV.c13 {bN cN bG cG : Nat} (h : RefV w q A bN cN bG cG av kv gv) {i : Nat} (hi : i < A.n) : w.cell? ⟨bN, i * 14 + 13, none⟩ = some (.bool (A.nd i).fl.clonable) := h.nd i hi 13 (by omega) _ rfl
theorem IntsAt.keep {w w' : World} {a : Option Addr} {l : List Int} (h : IntsAt w a l) (hb : Below w.heap.size w w') : IntsAt w' a l :=
  ⟨h.1, fun j hj => by
    obtain ⟨b, o, e, hc⟩ := h.2 j hj
    exact ⟨b, o, e, (hb.cell (p := ⟨b, o + j, none⟩) (World.block_lt_of_cell? w ⟨b, o + j, none⟩ hc)).trans hc⟩⟩
theorem RefV.keep {bN cN bG cG : Nat} (h : RefV w q A bN cN bG cG av kv gv) (hb : Below w.heap.size w w') : RefV w' q A bN cN bG cG av kv gv := by
  have k : ∀ {b o : Nat} {u : Value}, w.cell? ⟨b, o, none⟩ = some u → w'.cell? ⟨b, o, none⟩ = some u := fun {b o u} hc => (hb.cell (p := ⟨b, o, none⟩) (World.block_lt_of_cell? w ⟨b, o, none⟩ hc)).trans hc
  exact { lim := k h.lim, N := k h.N, G := k h.G, hN := h.hN, hG := h.hG, nd := fun i hi j hj u hu => k (h.nd i hi j hj u hu), g := fun i hi => k (h.g i hi), a := fun i hi => (let ⟨a, c, e, h1, h2, h3⟩ := h.a i hi; ⟨a, c, e, h1, h2, h3.keep hb⟩), k := fun i hi => (let ⟨a, c, e, h1, h2, h3⟩ := h.k i hi; ⟨a, c, e, h1, h2, h3.keep hb⟩), gi := fun i hi => (let ⟨a, c, e, h1, h2, h3⟩ := h.gi i hi; ⟨a, c, e, h1, h2, h3.keep hb⟩) }
end
end Go.Proofs.YtgdmaikjaopddaaGreatDoor

/- What the document's own answer tells of a document, and what it only looks at. -/
namespace Go.Proofs.YtgdmaikjaopddaaGreatDoor
open Go.RowKit


section
variable {W w : World} {rs : List Res} {q : Nat} {A : Doc}
set_option maxRecDepth 100000 in
theorem rlen (h : Sep W w (refA q A :: rs)) (hw : WF A) : Calls Tryz.prog 23 #[ptr q] w fun e w' => e = .returned (int A.n) ∧ w = w' := by
  obtain ⟨bN, cN, bG, cG, av, kv, gv, V⟩ := ref_view h hw
  have c1 := V.N
  clear h hw V
  go_enter Tryz.func23, Tryz.ntmps23
  go_wp2
  go_ret
  exact ⟨rfl, rfl⟩
set_option maxRecDepth 100000 in
theorem rlimit (h : Sep W w (refA q A :: rs)) (hw : WF A) : Calls Tryz.prog 52 #[ptr q] w fun e w' => e = .returned (int A.lim) ∧ w = w' := by
  obtain ⟨bN, cN, bG, cG, av, kv, gv, V⟩ := ref_view h hw
  have c1 := V.lim
  clear h hw V
  go_enter Tryz.func52, Tryz.ntmps52
  go_wp2
  go_ret
  exact ⟨rfl, rfl⟩
set_option maxRecDepth 100000 in
theorem rthere (h : Sep W w (refA q A :: rs)) (hw : WF A) (i : Int) : Calls Tryz.prog 71 #[ptr q, int i] w fun e w' => e = .returned (.bool (decide (A.In i))) ∧ w = w' := by
  obtain ⟨bN, cN, bG, cG, av, kv, gv, V⟩ := ref_view h hw
  have c1 := V.N
  have hn := hw.n_le
  by_cases h0 : 0 ≤ i
  · have t0 : decide (i ≥ 0) = true := by simpa using h0
    have HR := Lib.hid (show decide (A.In i) = decide (i < (A.n : Int)) from decide_eq_decide.2 ⟨fun h => h.2, fun h => ⟨h0, h⟩⟩)
    clear h hw V h0
    go_enter Tryz.func71, Tryz.ntmps71
    go_wp2
    go_ret
    exact ⟨by rw [HR.out]; rfl, rfl⟩
  · have t0 : decide (i ≥ 0) = false := by simpa using h0
    have HR := Lib.hid (show decide (A.In i) = false from decide_eq_false fun h => h0 h.1)
    clear h hw V h0
    go_enter Tryz.func71, Tryz.ntmps71
    go_wp2
    go_ret
    exact ⟨by rw [HR.out]; rfl, rfl⟩
noncomputable def Doc.elemE (A : Doc) (i : Int) : Int := if A.In i then (if (A.nd i).kind = 1 then 0 else 81) else 80
set_option maxRecDepth 100000 in
theorem relement (h : Sep W w (refA q A :: rs)) (hw : WF A) (i : Int) : Calls Tryz.prog 76 #[ptr q, int i] w fun e w' => e = .returned (int (A.elemE i)) ∧ w = w' := by
  obtain ⟨bN, cN, bG, cG, av, kv, gv, V⟩ := ref_view h hw
  have c1 := V.N
  have hn := hw.n_le
  have HT := Lib.hid (rthere h hw i)
  by_cases hi : A.In i
  · obtain ⟨j, rfl, hj⟩ := icast hi.1 hi.2
    have u0 := V.c0 hj
    have TD := Lib.hid (show decide (A.In j) = true from decide_eq_true hi)
    by_cases hk : (A.nd j).kind = 1
    · have t1 : ((A.nd j).kind != 1) = false := by simpa using hk
      have HE := Lib.hid (show A.elemE j = 0 by unfold Doc.elemE; rw [if_pos hi, if_pos hk])
      clear h hw V hi hk
      go_enter Tryz.func76, Tryz.ntmps76
      go_wp2_with fail
      refine HT.out.mono ?_
      rintro e w' ⟨rfl, rfl⟩
      rw [TD.out]
      go_wp2
      go_ret
      exact ⟨by rw [HE.out]; rfl, rfl⟩
    · have t1 : ((A.nd j).kind != 1) = true := by simpa using hk
      have HE := Lib.hid (show A.elemE j = 81 by unfold Doc.elemE; rw [if_pos hi, if_neg hk])
      clear h hw V hi hk
      go_enter Tryz.func76, Tryz.ntmps76
      go_wp2_with fail
      refine HT.out.mono ?_
      rintro e w' ⟨rfl, rfl⟩
      rw [TD.out]
      go_wp2
      go_ret
      exact ⟨by rw [HE.out]; rfl, rfl⟩
  · have TD := Lib.hid (show decide (A.In i) = false from decide_eq_false hi)
    have HE := Lib.hid (show A.elemE i = 80 by unfold Doc.elemE; rw [if_neg hi])
    clear h hw V hi
    go_enter Tryz.func76, Tryz.ntmps76
    go_wp2_with fail
    refine HT.out.mono ?_
    rintro e w' ⟨rfl, rfl⟩
    rw [TD.out]
    go_wp2
    go_ret
    exact ⟨by rw [HE.out]; rfl, rfl⟩

set_option maxRecDepth 100000 in
theorem rfind (h : Sep W w (refA q A :: rs)) (hw : WF A) (j : Nat) (hj : j < A.n) (nm : ByteArray) : Calls Tryz.prog 77 #[ptr q, int j, .string nm] w fun e w' => (∃ r : Int, e = .returned (int r) ∧ At (A.nd j).attrs nm r) ∧ w = w' := by
  obtain ⟨bN, cN, bG, cG, av, kv, gv, V⟩ := ref_view h hw
  have c1 := V.N
  have hn := hw.n_le
  have u3 := V.c3 hj
  obtain ⟨a, c, hav, hc1, hc2, hat⟩ := V.a j hj
  rw [hav] at u3
  obtain ⟨l, hl⟩ : ∃ l, l = (A.nd j).attrs := ⟨_, rfl⟩
  rw [← hl] at u3 hat ⊢
  have HA := Lib.hid hat
  have hll : l.length ≤ 50 := by rw [hl]; exact hw.att j ⟨by omega, by omega⟩
  clear h hw V hav hat hl hc1 hc2
  go_enter Tryz.func77, Tryz.ntmps77
  go_wp2
  go_loop [8] (fun t => ∃ k : Nat, k ≤ l.length ∧ t = int k ∧ hasB (l.take k) nm = false) (fun t => l.length - (intOf t).toNat)
  case atStart => exact ⟨0, Nat.zero_le _, rfl, rfl⟩
  case round =>
    obtain ⟨k, hk, rfl, hno⟩ := hrel
    have HN := Lib.hid hno
    clear hno
    by_cases hlt : k < l.length
    · obtain ⟨b, o, rfl, _, hc⟩ := HA.out.at (by omega)
      have f0 := (hc k hlt).1
      have HSN := Lib.hid (hasB_succ hlt nm)
      clear hc
      cases he : (l[k].1.toList == nm.toList)
      · go_wp2
        go_round
        case rel => exact ⟨k + 1, by omega, by go_num, by rw [HSN.out, HN.out, he]; rfl⟩
        case measure => simp [intOf]; omega
      · go_wp2
        go_ret
        exact ⟨⟨k, rfl, .inr ⟨k, hlt, rfl, he, HN.out⟩⟩, rfl⟩
    · obtain rfl : k = l.length := by omega
      go_wp2
      go_ret
      refine ⟨⟨-1, rfl, .inl ⟨rfl, ?_⟩⟩, rfl⟩
      have := HN.out
      rwa [List.take_length] at this

set_option maxRecDepth 100000 in
theorem rwithin (h : Sep W w (refA q A :: rs)) (hw : WF A) (i j : Int) (hi : A.In i) (hj : j ≠ -1) :
    Calls Tryz.prog 93 #[ptr q, int i, int j] w fun e w' => e = .returned (.bool (climbB A.par i j)) ∧ w = w' := by
  obtain ⟨bN, cN, bG, cG, av, kv, gv, V⟩ := ref_view h hw
  have c1 := V.N
  have hn := hw.n_le
  obtain ⟨rk, hrk⟩ := hw.rank
  have Hrk := Lib.hid hrk
  have HV := Lib.hid V
  have Hw := Lib.hid hw
  clear h hw V hrk
  go_enter Tryz.func93, Tryz.ntmps93
  go_wp2
  go_loop [1] (fun t => ∃ x : Int, t = int x ∧ Ok A.n x ∧ (Climb A.par i j ↔ x ≠ -1 ∧ Climb A.par x j)) (fun t => ms rk t)
  case atStart => exact ⟨i, rfl, .inr hi, by have := hi.1; constructor <;> simp_all; omega⟩
  case round =>
    obtain ⟨x, rfl, hx, hcl⟩ := hrel
    have HCl := Lib.hid hcl
    clear hcl
    rcases hx with rfl | hxi
    · have HB := Lib.hid (show climbB A.par i j = false by rw [climbB_not, HCl.out]; exact fun h => h.1 rfl)
      go_wp2
      go_ret
      exact ⟨by rw [HB.out]; rfl, rfl⟩
    · obtain ⟨x, rfl, hx'⟩ := icast hxi.1 hxi.2
      have ex : decide ((x : Int) ≥ 0) = true := by simp
      have u4 := HV.out.c4 hx'
      have u7 := HV.out.c7 hx'
      have hxin : A.In x := hxi
      by_cases hxj : (x : Int) = j
      · have HB := Lib.hid (show climbB A.par i j = true by rw [climbB_iff, HCl.out, hxj]; exact ⟨hj, .here _⟩)
        have exj : ((x : Int) == j) = true := by simpa using hxj
        clear hxj
        go_wp2
        go_ret
        exact ⟨by rw [HB.out]; rfl, rfl⟩
      · have exj : ((x : Int) == j) = false := by simpa using hxj
        have HSt := Lib.hid (climb_step (f := A.par) hxj)
        have HU := Lib.hid (Hw.out.up x hxin)
        have HH := Lib.hid (Hw.out.host x hxin)
        by_cases hup : (A.nd x).up = -1
        · have eup : decide ((A.nd x).up ≥ 0) = false := by rw [hup]; rfl
          have HP := Lib.hid (show A.par x = (A.nd x).host by unfold Doc.par; rw [if_neg (by simpa using hup)])
          clear hup hxj
          go_wp2
          go_round
          case rel => exact ⟨_, rfl, HH.out, HCl.out.trans ⟨fun h => HP.out ▸ (HSt.out.1 h.2), fun h => ⟨by omega, HSt.out.2 (HP.out ▸ h)⟩⟩⟩
          case measure => exact ms_lt (by omega) (HP.out ▸ Hrk.out x hxin)
        · have eup : decide ((A.nd x).up ≥ 0) = true := by
            have := (HU.out.resolve_left hup).1
            simpa using this
          have HP := Lib.hid (show A.par x = (A.nd x).up by unfold Doc.par; rw [if_pos hup])
          clear hup hxj
          go_wp2
          go_round
          case rel => exact ⟨_, rfl, HU.out, HCl.out.trans ⟨fun h => HP.out ▸ (HSt.out.1 h.2), fun h => ⟨by omega, HSt.out.2 (HP.out ▸ h)⟩⟩⟩
          case measure => exact ms_lt (by omega) (HP.out ▸ Hrk.out x hxin)

end
end Go.Proofs.YtgdmaikjaopddaaGreatDoor

/- The document's own answer for names: among, Void, Valid; the same as package names'. -/
namespace Go.Proofs.YtgdmaikjaopddaaGreatDoor
open Go.RowKit

/-- is it one of those, with blanks between: as the answer's own loop looks -/
def amongGo (nm : List UInt8) : List UInt8 → List UInt8 → Bool
  | acc, [] => acc == nm
  | acc, c :: t => if c = 32 then (acc == nm || amongGo nm [] t) else amongGo nm (acc ++ [c]) t
def wordsGo : List UInt8 → List UInt8 → List (List UInt8)
  | acc, [] => [acc]
  | acc, c :: t => if c = 32 then acc :: wordsGo [] t else wordsGo (acc ++ [c]) t
theorem amongGo_words (nm : List UInt8) : ∀ (l acc : List UInt8), amongGo nm acc l = (wordsGo acc l).any (· == nm)
  | [], acc => by simp [amongGo, wordsGo]
  | c :: t, acc => by
    unfold amongGo wordsGo
    split
    · rw [amongGo_words nm t []]; simp
    · exact amongGo_words nm t _
def amongR (l nm : ByteArray) : Bool := amongGo nm.data.toList [] l.data.toList && !nm.toList.isEmpty
theorem amongR_B {l : ByteArray} (h : Lib.fields l.data.toList = wordsGo [] l.data.toList) (h0 : [] ∉ wordsGo [] l.data.toList) (nm : ByteArray) : amongR l nm = amongB l nm := by
  rw [Bool.eq_iff_iff]
  unfold amongR amongB
  rw [Lib.containsS_iff, amongGo_words, h, Bool.and_eq_true, List.any_eq_true, List.mem_map]
  constructor
  · rintro ⟨⟨x, hx, hxn⟩, _⟩
    exact ⟨x, hx, by have : x = nm.data.toList := by simpa using hxn
                     subst this; obtain ⟨⟨d⟩⟩ := nm; rfl⟩
  · rintro ⟨x, hx, rfl⟩
    refine ⟨⟨x, hx, by simp⟩, ?_⟩
    rw [Lib.toList_data]
    cases x with
    | nil => exact absurd hx h0
    | cons c t => rfl
theorem voidR_B (nm : ByteArray) : amongR voids nm = voidB nm := amongR_B (by kernel_rfl) (by decide +kernel) nm

theorem amongGo_acc (nm : List UInt8) : ∀ (a l acc : List UInt8), (∀ c ∈ a, c ≠ 32) → amongGo nm acc (a ++ l) = amongGo nm (acc ++ a) l
  | [], l, acc, _ => by simp
  | c :: t, l, acc, h => by
    show (if c = 32 then _ else amongGo nm (acc ++ [c]) (t ++ l)) = _
    rw [if_neg (h c (by simp)), amongGo_acc nm t l _ fun x hx => h x (by simp [hx])]
    simp
theorem drop_cons {s : ByteArray} {i : Nat} (h : i < s.size) : s.data.toList.drop i = s[i] :: s.data.toList.drop (i + 1) := by
  rw [List.drop_eq_getElem_cons (by simpa using h)]; rfl
theorem ext_snoc {s : ByteArray} {f i : Nat} (hf : f ≤ i) (h : i < s.size) : (s.extract f (i + 1)).data.toList = (s.extract f i).data.toList ++ [s[i]] := by
  rw [Lib.extract_data, Lib.extract_data, show i + 1 - f = (i - f) + 1 by omega, List.take_add_one]
  congr 1
  rw [List.getElem?_drop, show f + (i - f) = i by omega, List.getElem?_eq_getElem (by simpa using h)]
  rfl

set_option maxRecDepth 100000 in
set_option maxHeartbeats 1000000 in
theorem ramong (l nm : ByteArray) (hl : l.size ≤ 1000000) (w : World) : Calls Tryz.prog 102 #[.string l, .string nm] w fun e w' => e = .returned (.bool (amongR l nm)) ∧ w = w' := by
  go_enter Tryz.func102, Tryz.ntmps102
  go_wp2
  go_loop [5, 6] (fun fv iv => ∃ f i : Nat, fv = int f ∧ iv = int i ∧ ((i ≤ l.size ∧ f ≤ i ∧ amongR l nm = (amongGo nm.data.toList (l.extract f i).data.toList (l.data.toList.drop i) && !nm.toList.isEmpty)) ∨ (i = l.size + 1 ∧ amongR l nm = false))) (fun _ iv => l.size + 1 - (intOf iv).toNat)
  case atStart => exact ⟨0, 0, rfl, rfl, .inl ⟨Nat.zero_le _, Nat.le_refl _, by unfold amongR; rw [Lib.extract_data]; simp⟩⟩
  case round =>
    obtain ⟨f, i, rfl, rfl, hc⟩ := hrel
    rcases hc with ⟨hi, hf, ha⟩ | ⟨hi, ha⟩
    · have HA := Lib.hid ha
      obtain ⟨x, hx⟩ : ∃ x, x = l.extract f i := ⟨_, rfl⟩
      have HX := Lib.hid hx
      have hxs := hx.symm
      have hxt : x.toList = x.data.toList := Lib.toList_data x
      have hnt : nm.toList = nm.data.toList := Lib.toList_data nm
      clear ha hx
      have t0 : decide ((i : Int) ≤ l.size) = true := by simp; omega
      by_cases hil : i = l.size
      · -- at the end
        have hd : l.data.toList.drop i = [] := List.drop_of_length_le (by rw [hil]; simp)
        have HV := Lib.hid (show amongR l nm = ((x.toList == nm.toList) && !nm.toList.isEmpty) by rw [HA.out, hd, ← HX.out, Lib.toList_data x]; show ((x.data.toList == nm.data.toList) && _) = _; rw [Lib.toList_data nm])
        have t1 : ((i : Int) == l.size) = true := by rw [hil]; simp
        have HIL := Lib.hid hil
        clear hd hil
        cases e1 : (x.toList == nm.toList)
        · have HV2 := Lib.hid (show amongR l nm = false by rw [HV.out, e1]; rfl)
          clear hxt hnt
          go_wp2
          go_round
          case rel => exact ⟨i + 1, i + 1, by go_num, by go_num, .inr ⟨by have := HIL.out; omega, HV2.out⟩⟩
          case measure => simp [intOf]; omega
        · cases e2 : nm.toList.isEmpty
          · have HV2 := Lib.hid (show amongR l nm = true by rw [HV.out, e1, e2]; rfl)
            clear hxt hnt
            go_wp2
            go_ret
            exact ⟨by rw [HV2.out]; rfl, rfl⟩
          · have HV2 := Lib.hid (show amongR l nm = false by rw [HV.out, e1, e2]; rfl)
            clear hxt hnt
            go_wp2
            go_round
            case rel => exact ⟨i + 1, i + 1, by go_num, by go_num, .inr ⟨by have := HIL.out; omega, HV2.out⟩⟩
            case measure => simp [intOf]; omega
      · have hlt : i < l.size := by omega
        have t1 : ((i : Int) == l.size) = false := by simp; omega
        have i0 : (0 : Int) ≤ i := by omega
        have i1 : (i : Int) < l.size := by omega
        have hd := drop_cons hlt
        obtain ⟨c, hcc⟩ : ∃ c, c = l[i] := ⟨_, rfl⟩
        rw [← hcc] at hd
        have HSN := Lib.hid (ext_snoc hf hlt)
        have HC := Lib.hid hcc
        have hcc' := hcc.symm
        by_cases h32 : c = 32
        · subst h32
          have HV := Lib.hid (show amongR l nm = (((x.toList == nm.toList) || amongGo nm.data.toList [] (l.data.toList.drop (i + 1))) && !nm.toList.isEmpty) by
            rw [HA.out, hd, ← HX.out, Lib.toList_data x, Lib.toList_data nm]; rfl)
          have hz : (((32 : UInt8).toNat : Int) == 32) = true := by decide
          clear hd hcc
          cases e1 : (x.toList == nm.toList)
          · have HV2 := Lib.hid (show amongR l nm = (amongGo nm.data.toList (l.extract (i + 1) (i + 1)).data.toList (l.data.toList.drop (i + 1)) && !nm.toList.isEmpty) by
              rw [HV.out, e1, Lib.extract_data, Nat.sub_self, List.take_zero]; rfl)
            clear hxt hnt
            go_wp2
            go_round
            case rel => exact ⟨i + 1, i + 1, by go_num, by go_num, .inl ⟨by omega, Nat.le_refl _, HV2.out⟩⟩
            case measure => simp [intOf]; omega
          · cases e2 : nm.toList.isEmpty
            · have HV2 := Lib.hid (show amongR l nm = true by rw [HV.out, e1, e2]; rfl)
              clear hxt hnt
              go_wp2
              go_ret
              exact ⟨by rw [HV2.out]; rfl, rfl⟩
            · have HV2 := Lib.hid (show amongR l nm = (amongGo nm.data.toList (l.extract (i + 1) (i + 1)).data.toList (l.data.toList.drop (i + 1)) && !nm.toList.isEmpty) by
                rw [HV.out, e2]; simp)
              clear hxt hnt
              go_wp2
              go_round
              case rel => exact ⟨i + 1, i + 1, by go_num, by go_num, .inl ⟨by omega, Nat.le_refl _, by rw [HV2.out, e2]⟩⟩
              case measure => simp [intOf]; omega
        · have HV := Lib.hid (show amongR l nm = (amongGo nm.data.toList (l.extract f (i + 1)).data.toList (l.data.toList.drop (i + 1)) && !nm.toList.isEmpty) by
            rw [HA.out, hd, HSN.out, ← hcc]; show ((if c = 32 then _ else _) && _) = _; rw [if_neg h32])
          have hz : ((c.toNat : Int) == 32) = false := by
            simp only [beq_eq_false_iff_ne]
            intro e
            exact h32 (UInt8.toNat_inj.1 (by show c.toNat = 32; omega))
          clear hd hcc h32 hxt hnt
          go_wp2
          go_round
          case rel => exact ⟨f, i + 1, rfl, by go_num, .inl ⟨by omega, by omega, HV.out⟩⟩
          case measure => simp [intOf]; omega
    · have t0 : ¬ (i : Int) ≤ l.size := by omega
      have t1 : l.size < i := by omega
      have HA := Lib.hid ha
      clear ha hi
      go_wp2
      go_ret
      exact ⟨by rw [HA.out]; rfl, rfl⟩

theorem rvoid (nm : ByteArray) (w : World) : Calls Tryz.prog 92 #[.string nm] w fun e w' => e = .returned (.bool (voidB nm)) ∧ w = w' := by
  have C := Lib.hid (ramong voids nm (by decide) w)
  have E := Lib.hid (voidR_B nm)
  go_enter Tryz.func92, Tryz.ntmps92
  go_wp2_with fail
  refine C.out.mono ?_
  rintro e w' ⟨rfl, rfl⟩
  rw [E.out]
  go_wp2
  go_ret
  exact ⟨rfl, rfl⟩
end Go.Proofs.YtgdmaikjaopddaaGreatDoor

/- The document's own answer for names: Valid; for attributes: Writable. The same as the program's. -/
namespace Go.Proofs.YtgdmaikjaopddaaGreatDoor
open Go.RowKit

theorem bytesOf_len (s : ByteArray) : (bytesOf s).length = s.size := by simp [bytesOf]
theorem bytesOf_at {s : ByteArray} {i : Nat} (h : i < s.size) : (bytesOf s)[i]? = some (s[i].toNat : Int) := by
  unfold bytesOf
  rw [List.getElem?_map, List.getElem?_eq_getElem (by simpa using h)]
  rfl
theorem take_at {s : ByteArray} {i : Nat} (h : i < s.size) : (bytesOf s).take (i + 1) = (bytesOf s).take i ++ [(s[i].toNat : Int)] := by
  rw [List.take_add_one, bytesOf_at h]; rfl
def firstB (s : ByteArray) : Bool := match bytesOf s with | [] => false | c :: _ => letterB c
theorem validB_eq (s : ByteArray) : validB s = (!s.toList.isEmpty && !decide ((60 : Int) < (s.size : Int)) && firstB s && !(bytesOf s).any oddB) := rfl
theorem firstB_at {s : ByteArray} (h : 0 < s.size) : firstB s = letterB (s[0].toNat : Int) := by
  have := bytesOf_at h
  unfold firstB
  cases hb : bytesOf s with
  | nil => rw [hb] at this; cases this
  | cons x t => rw [hb] at this; simp at this; rw [this]
theorem empty_size {s : ByteArray} : s.toList.isEmpty = decide (s.size = 0) := by
  rw [Lib.toList_data, Bool.eq_iff_iff]
  simp only [List.isEmpty_iff, decide_eq_true_eq]
  constructor
  · intro h; have : s.data.toList.length = 0 := by rw [h]; rfl
    simpa using this
  · intro h; exact List.eq_nil_of_length_eq_zero (by simpa using h)

set_option maxRecDepth 100000 in
set_option maxHeartbeats 2000000 in
theorem rvalid (s : ByteArray) (hs : s.size ≤ 9223372036854775807) (w : World) : Calls Tryz.prog 120 #[.string s] w fun e w' => e = .returned (.bool (validB s)) ∧ w = w' := by
  go_enter Tryz.func120, Tryz.ntmps120
  go_wp2
  go_loop [3] (fun iv => ∃ i : Nat, iv = int i ∧ i ≤ s.size ∧ (i = 0 ∨ firstB s = true) ∧ ((bytesOf s).take i).any oddB = false) (fun iv => s.size - (intOf iv).toNat)
  case atStart => exact ⟨0, rfl, Nat.zero_le _, .inl rfl, rfl⟩
  case round =>
    obtain ⟨i, rfl, hi, hf, ho⟩ := hrel
    have HF := Lib.hid hf
    have HO := Lib.hid ho
    clear hf ho
    by_cases hlt : i < s.size
    · have i0 : (0 : Int) ≤ i := by omega
      have i1 : (i : Int) < s.size := by omega
      have HT := Lib.hid (take_at hlt)
      have H0 := Lib.hid (fun h : i = 0 => (by subst h; exact firstB_at hlt : firstB s = letterB (s[i].toNat : Int)))
      obtain ⟨c, hcc⟩ : ∃ c, c = s[i] := ⟨_, rfl⟩
      have hcc' := hcc.symm
      rw [← hcc] at HT H0
      have hc1 : c.toNat ≤ 255 := by have := c.toNat_lt; omega
      obtain ⟨x, hx⟩ : ∃ x, x = (c.toNat : Int) := ⟨_, rfl⟩
      have hx' := hx.symm
      rw [← hx] at HT H0
      have hx0 : 0 ≤ x := by omega
      have hx1 : x ≤ 255 := by omega
      have bad : oddB x = true → validB s = false := fun h => by
        rw [validB_eq]
        have : (bytesOf s).any oddB = true := by
          rw [List.any_eq_true]
          refine ⟨x, ?_, h⟩
          have := HT.out
          exact List.mem_of_mem_take (i := i + 1) (by rw [this]; simp)
        rw [this]; simp
      have BAD := Lib.hid bad
      clear hcc hx bad hc1
      have rnd : letterB x = true ∨ (i ≠ 0 ∧ oddB x = false) → (i + 1 = 0 ∨ firstB s = true) ∧ ((bytesOf s).take (i + 1)).any oddB = false := fun h => by
        refine ⟨.inr ?_, ?_⟩
        · rcases h with h | ⟨h, _⟩
          · rcases HF.out with h0 | h0
            · rw [H0.out h0]; exact h
            · exact h0
          · exact HF.out.resolve_left h
        · rw [HT.out, List.any_append, HO.out]
          rcases h with h | ⟨_, h⟩
          · simp [oddB, h]
          · simp [h]
      have RND := Lib.hid rnd
      clear rnd
      by_cases ha : 97 ≤ x ∧ x ≤ 122
      · obtain ⟨a1, a2⟩ := ha
        have R := Lib.hid (RND.out (.inl (by unfold letterB; exact decide_eq_true ⟨a1, a2⟩)))
        go_wp2
        go_round
        case rel => exact ⟨i + 1, by go_num, by omega, R.out.1, R.out.2⟩
        case measure => simp [intOf]; omega
      · have hl : letterB x = false := by unfold letterB; exact decide_eq_false ha
        by_cases hz : i = 0
        · have V := Lib.hid (show validB s = false by rw [validB_eq, H0.out hz, hl]; simp)
          subst hz
          clear hl
          rcases (show x < 97 ∨ 97 ≤ x ∧ 122 < x by omega) with a1 | ⟨a1, a2⟩
          · have d1 : decide (x ≥ 97) = false := decide_eq_false (by omega)
            clear ha
            go_wp2
            go_ret
            exact ⟨by rw [V.out]; rfl, rfl⟩
          · have d2 : decide (x ≤ 122) = false := decide_eq_false (by omega)
            clear ha
            go_wp2
            go_ret
            exact ⟨by rw [V.out]; rfl, rfl⟩
        · have hz0 : ((i : Int) == 0) = false := by simp; omega
          have R := Lib.hid (fun h : oddB x = false => RND.out (.inr ⟨hz, h⟩))
          have OD := Lib.hid (show oddB x = ((decide (x < 48) || decide (57 < x)) && x != 45 && x != 46 && x != 95) by unfold oddB; rw [hl]; rfl)
          clear hl hz
          by_cases b1 : 48 ≤ x ∧ x ≤ 57
          · obtain ⟨b1, b2⟩ := b1
            have Rn := Lib.hid (R.out (by rw [OD.out]; simp; omega))
            have d1 : decide (x ≥ 97) = false := decide_eq_false (by omega)
            clear ha
            go_wp2
            go_round
            case rel => exact ⟨i + 1, by go_num, by omega, Rn.out.1, Rn.out.2⟩
            case measure => simp [intOf]; omega
          by_cases b2 : x = 45 ∨ x = 46 ∨ x = 95
          · have Rn := Lib.hid (R.out (by rw [OD.out]; rcases b2 with rfl | rfl | rfl <;> rfl))
            clear ha b1
            rcases b2 with rfl | rfl | rfl
            all_goals
              go_wp2
              go_round
              case rel => exact ⟨i + 1, by go_num, by omega, Rn.out.1, Rn.out.2⟩
              case measure => simp [intOf]; omega
          · have V := Lib.hid (BAD.out (by rw [OD.out]; simp; omega))
            have n1 : (x != 45) = true := by simp; omega
            have n2 : (x != 46) = true := by simp; omega
            have n3 : (x != 95) = true := by simp; omega
            rcases (show (x < 48) ∨ (48 ≤ x ∧ 57 < x ∧ x < 97) ∨ (48 ≤ x ∧ 57 < x ∧ 97 ≤ x ∧ 122 < x) by omega) with c1 | ⟨c1, c2, c3⟩ | ⟨c1, c2, c3, c4⟩
            · have d1 : decide (x ≥ 97) = false := decide_eq_false (by omega)
              have d3 : decide (x ≥ 48) = false := decide_eq_false (by omega)
              clear ha b1 b2
              go_wp2
              go_ret
              exact ⟨by rw [V.out]; rfl, rfl⟩
            · have d1 : decide (x ≥ 97) = false := decide_eq_false (by omega)
              have d3 : decide (x ≤ 57) = false := decide_eq_false (by omega)
              clear ha b1 b2
              go_wp2
              go_ret
              exact ⟨by rw [V.out]; rfl, rfl⟩
            · have d1 : decide (x ≤ 122) = false := decide_eq_false (by omega)
              have d3 : decide (x ≤ 57) = false := decide_eq_false (by omega)
              clear ha b1 b2
              go_wp2
              go_ret
              exact ⟨by rw [V.out]; rfl, rfl⟩
    · obtain rfl : i = s.size := by omega
      have t0 : ¬ (s.size : Int) < s.size := by omega
      have HB := Lib.hid (show validB s = (decide (1 ≤ (s.size : Int)) && decide ((s.size : Int) ≤ 60)) by
        rw [validB_eq, empty_size]
        have h2 := HO.out
        rw [List.take_of_length_le (by rw [bytesOf_len]; exact Nat.le_refl _)] at h2
        rw [h2]
        by_cases h0 : s.size = 0
        · rw [h0]; rfl
        · rw [HF.out.resolve_left h0]
          have e1 : decide (s.size = 0) = false := decide_eq_false h0
          have e2 : decide (1 ≤ (s.size : Int)) = true := decide_eq_true (by omega)
          have e3 : (!decide ((60 : Int) < s.size)) = decide ((s.size : Int) ≤ 60) := by rw [Bool.eq_iff_iff]; simp
          rw [e1, e2, e3]; simp)
      by_cases h1 : (1 : Int) ≤ s.size
      · have t1 : decide ((s.size : Int) ≥ 1) = true := decide_eq_true h1
        have HB2 := Lib.hid (show validB s = decide ((s.size : Int) ≤ 60) by rw [HB.out, decide_eq_true h1]; rfl)
        clear h1
        go_wp2
        go_ret
        exact ⟨by rw [HB2.out]; rfl, rfl⟩
      · have t1 : decide ((s.size : Int) ≥ 1) = false := decide_eq_false h1
        have HB2 := Lib.hid (show validB s = false by rw [HB.out, decide_eq_false h1]; rfl)
        clear h1
        go_wp2
        go_ret
        exact ⟨by rw [HB2.out]; rfl, rfl⟩
end Go.Proofs.YtgdmaikjaopddaaGreatDoor

/- The document's own answer for an attribute: Writable; has, may, Sound; what may be made. The same as the program's. -/
namespace Go.Proofs.YtgdmaikjaopddaaGreatDoor
open Go.RowKit

def badB (x : Int) : Bool := decide (65 ≤ x ∧ x ≤ 90) || x == 0 || x == 32 || x == 9 || x == 10 || x == 12 || x == 47 || x == 62 || x == 61
theorem containsAny_any' (ch : List UInt8) : ∀ l : List UInt8, Lib.containsAny l ch = l.any ch.contains
  | [] => rfl
  | b :: t => by
    have ih := containsAny_any' ch t
    unfold Lib.containsAny at ih ⊢
    have hge := Lib.indexAny_ge ch t
    unfold Lib.indexAny
    rw [List.any_cons]
    cases hb : ch.contains b
    · rw [Bool.false_or, ← ih]
      by_cases h1 : Lib.indexAny t ch = -1
      · simp [h1]
      · have e : (Lib.indexAny t ch == -1) = false := by simpa using h1
        simp only [e]
        rw [decide_eq_decide]
        simp; omega
    · simp
theorem odd_bad (c : UInt8) : oddS.data.toList.contains c = ((c.toNat : Int) == 0 || (c.toNat : Int) == 32 || (c.toNat : Int) == 9 || (c.toNat : Int) == 10 || (c.toNat : Int) == 12 || (c.toNat : Int) == 47 || (c.toNat : Int) == 62 || (c.toNat : Int) == 61) := by
  have h : ∀ c : UInt8, oddS.data.toList.contains c = ((c.toNat : Int) == 0 || (c.toNat : Int) == 32 || (c.toNat : Int) == 9 || (c.toNat : Int) == 10 || (c.toNat : Int) == 12 || (c.toNat : Int) == 47 || (c.toNat : Int) == 62 || (c.toNat : Int) == 61) := by
    intro c
    have e : ∀ k : UInt8, (c == k) = ((c.toNat : Int) == (k.toNat : Int)) := fun k => by
      rw [Bool.eq_iff_iff, beq_iff_eq, beq_iff_eq]
      constructor
      · rintro rfl; rfl
      · intro h; exact UInt8.toNat_inj.1 (by omega)
    simp only [oddS, List.contains_cons, List.contains_nil, Bool.or_false, e, Bool.or_assoc]
    rfl
  exact h c
theorem low_id : ∀ l : List Int, decide (l.map lowB = l) = !l.any fun x => decide (65 ≤ x ∧ x ≤ 90)
  | [] => rfl
  | x :: t => by
    have ih := low_id t
    rw [List.any_cons, Bool.not_or, ← ih, Bool.eq_iff_iff, decide_eq_true_eq, Bool.and_eq_true, decide_eq_true_eq, List.map_cons, List.cons.injEq]
    have : lowB x = x ↔ (!decide (65 ≤ x ∧ x ≤ 90)) = true := by
      unfold lowB
      by_cases h : 65 ≤ x ∧ x ≤ 90
      · rw [if_pos h, decide_eq_true h]; simp; omega
      · rw [if_neg h, decide_eq_false h]; simp
    rw [this]
theorem writB_eq (n v : ByteArray) : writB n v = (!n.toList.isEmpty && decide ((n.size : Int) ≤ 60) && decide ((v.size : Int) ≤ 2000) && !(bytesOf n).any badB) := by
  unfold writB
  rw [low_id, Bool.and_assoc (_ && _) _ (!_), containsAny_any']
  congr 1
  rw [← Bool.not_or]
  congr 1
  unfold bytesOf
  rw [List.any_map, List.any_map, Bool.eq_iff_iff, Bool.or_eq_true, List.any_eq_true, List.any_eq_true, List.any_eq_true]
  constructor
  · rintro (⟨c, hc, h⟩ | ⟨c, hc, h⟩)
    · rw [odd_bad] at h
      exact ⟨c, hc, by show badB _ = true; unfold badB; simp only [Bool.or_assoc] at h ⊢; rw [h]; simp⟩
    · exact ⟨c, hc, by show badB _ = true; unfold badB; have h' : decide (65 ≤ (c.toNat : Int) ∧ (c.toNat : Int) ≤ 90) = true := h; rw [h']; rfl⟩
  · rintro ⟨c, hc, h⟩
    have h' : badB (c.toNat : Int) = true := h
    unfold badB at h'
    simp only [Bool.or_assoc] at h'
    rcases Bool.or_eq_true _ _ ▸ h' with h1 | h1
    · exact .inr ⟨c, hc, h1⟩
    · exact .inl ⟨c, hc, by rw [odd_bad]; simp only [Bool.or_assoc]; exact h1⟩

set_option maxRecDepth 100000 in
set_option maxHeartbeats 2000000 in
theorem rwritable (n v : ByteArray) (hs : n.size ≤ 9223372036854775807) (w : World) : Calls Tryz.prog 78 #[.agg #[.string n, .string v]] w fun e w' => e = .returned (.bool (writB n v)) ∧ Below w.heap.size w w' := by
  obtain ⟨w0, hw0⟩ : ∃ w0, w0 = w.alloc (.cells #[.string n, .string v] 67) := ⟨_, rfl⟩
  have g0 : w0.cell? ⟨w.heap.size, 0, none⟩ = some (.string n) := hw0 ▸ World.cell?_alloc_at _ _ _ _ (by simp)
  have g1 : w0.cell? ⟨w.heap.size, 1, none⟩ = some (.string v) := hw0 ▸ World.cell?_alloc_at _ _ _ _ (by simp)
  have HB := Lib.hid (show Below w.heap.size w w0 from hw0 ▸ alloc_drewN w _ 0)
  have HW0 := Lib.hid hw0
  clear hw0
  go_enter Tryz.func78, Tryz.ntmps78
  go_wp2
  rw [← HW0.out]
  go_loop [3] (fun iv => ∃ i : Nat, iv = int i ∧ i ≤ n.size ∧ ((bytesOf n).take i).any badB = false) (fun iv => n.size - (intOf iv).toNat)
  case atStart => exact ⟨0, rfl, Nat.zero_le _, rfl⟩
  case round =>
    obtain ⟨i, rfl, hi, ho⟩ := hrel
    have HO := Lib.hid ho
    clear ho
    by_cases hlt : i < n.size
    · have i0 : (0 : Int) ≤ i := by omega
      have i1 : (i : Int) < n.size := by omega
      have HT := Lib.hid (take_at hlt)
      obtain ⟨c, hcc⟩ : ∃ c, c = n[i] := ⟨_, rfl⟩
      have hcc' := hcc.symm
      rw [← hcc] at HT
      have hc1 : c.toNat ≤ 255 := by have := c.toNat_lt; omega
      obtain ⟨x, hx⟩ : ∃ x, x = (c.toNat : Int) := ⟨_, rfl⟩
      have hx' := hx.symm
      rw [← hx] at HT
      have hx0 : 0 ≤ x := by omega
      have hx1 : x ≤ 255 := by omega
      have BAD := Lib.hid (fun h : badB x = true => (show writB n v = false by
        rw [writB_eq]
        have : (bytesOf n).any badB = true := by
          rw [List.any_eq_true]
          exact ⟨x, List.mem_of_mem_take (i := i + 1) (by rw [HT.out]; simp), h⟩
        rw [this]; simp))
      have RND := Lib.hid (fun h : badB x = false => (show ((bytesOf n).take (i + 1)).any badB = false by rw [HT.out, List.any_append, HO.out]; simp [h]))
      clear hcc hx hc1
      by_cases ha : 65 ≤ x ∧ x ≤ 90
      · obtain ⟨a1, a2⟩ := ha
        have V := Lib.hid (BAD.out (by unfold badB; rw [decide_eq_true ⟨a1, a2⟩]; rfl))
        go_wp2
        go_ret
        exact ⟨by rw [V.out]; rfl, HB.out⟩
      · by_cases hb : x = 0 ∨ x = 32 ∨ x = 9 ∨ x = 10 ∨ x = 12 ∨ x = 47 ∨ x = 62 ∨ x = 61
        · have V := Lib.hid (BAD.out (by rcases hb with rfl | rfl | rfl | rfl | rfl | rfl | rfl | rfl <;> rfl))
          clear ha
          rcases hb with rfl | rfl | rfl | rfl | rfl | rfl | rfl | rfl
          all_goals
            go_wp2
            go_ret
            exact ⟨by rw [V.out]; rfl, HB.out⟩
        · have e0 : (x == 0) = false := by simp; omega
          have e1 : (x == 32) = false := by simp; omega
          have e2 : (x == 9) = false := by simp; omega
          have e3 : (x == 10) = false := by simp; omega
          have e4 : (x == 12) = false := by simp; omega
          have e5 : (x == 47) = false := by simp; omega
          have e6 : (x == 62) = false := by simp; omega
          have e7 : (x == 61) = false := by simp; omega
          have R := Lib.hid (RND.out (by unfold badB; rw [decide_eq_false ha, e0, e1, e2, e3, e4, e5, e6, e7]; rfl))
          rcases (show x < 65 ∨ 65 ≤ x ∧ 90 < x by omega) with a1 | ⟨a1, a2⟩
          · have d1 : decide (x ≥ 65) = false := decide_eq_false (by omega)
            clear ha hb
            go_wp2
            go_round
            case rel => exact ⟨i + 1, by go_num, by omega, R.out⟩
            case measure => simp [intOf]; omega
          · have d1 : decide (x ≤ 90) = false := decide_eq_false (by omega)
            clear ha hb
            go_wp2
            go_round
            case rel => exact ⟨i + 1, by go_num, by omega, R.out⟩
            case measure => simp [intOf]; omega
    · obtain rfl : i = n.size := by omega
      have t0 : ¬ (n.size : Int) < n.size := by omega
      have HV := Lib.hid (show writB n v = (decide ((n.size : Int) ≥ 1) && decide ((n.size : Int) ≤ 60) && decide ((v.size : Int) ≤ 2000)) by
        rw [writB_eq, empty_size]
        have h2 := HO.out
        rw [List.take_of_length_le (by rw [bytesOf_len]; exact Nat.le_refl _)] at h2
        rw [h2]
        have : (!decide (n.size = 0)) = decide ((n.size : Int) ≥ 1) := by
          by_cases h0 : n.size = 0
          · rw [decide_eq_true h0, decide_eq_false (by omega)]; rfl
          · rw [decide_eq_false h0, decide_eq_true (by omega)]; rfl
        rw [this]; simp)
      by_cases h1 : (1 : Int) ≤ n.size
      · have t1 : decide ((n.size : Int) ≥ 1) = true := decide_eq_true h1
        by_cases h2 : (n.size : Int) ≤ 60
        · have t2 : decide ((n.size : Int) ≤ 60) = true := decide_eq_true h2
          have HV2 := Lib.hid (show writB n v = decide ((v.size : Int) ≤ 2000) by rw [HV.out, t1, t2]; rfl)
          go_wp2
          go_ret
          exact ⟨by rw [HV2.out]; rfl, HB.out⟩
        · have t2 : decide ((n.size : Int) ≤ 60) = false := decide_eq_false h2
          have HV2 := Lib.hid (show writB n v = false by rw [HV.out, t1, t2]; rfl)
          clear h2
          go_wp2
          go_ret
          exact ⟨by rw [HV2.out]; rfl, HB.out⟩
      · have t1 : decide ((n.size : Int) ≥ 1) = false := decide_eq_false h1
        have HV2 := Lib.hid (show writB n v = false by rw [HV.out, t1]; rfl)
        clear h1
        go_wp2
        go_ret
        exact ⟨by rw [HV2.out]; rfl, HB.out⟩

set_option maxRecDepth 100000 in
theorem rhas (A : Option Addr) (c : Nat) (nm : ByteArray) (l : List Attr) (w : World) (hl : AttrsAt w A l) :
    Calls Tryz.prog 119 #[.slice A l.length c, .string nm] w fun e w' => e = .returned (.bool (hasB l nm)) ∧ w = w' := by
  have HA := Lib.hid hl
  have hll := hl.1
  clear hl
  go_enter Tryz.func119, Tryz.ntmps119
  go_wp2
  go_loop [5] (fun t => ∃ k : Nat, k ≤ l.length ∧ t = int k ∧ hasB (l.take k) nm = false) (fun t => l.length - (intOf t).toNat)
  case atStart => exact ⟨0, Nat.zero_le _, rfl, rfl⟩
  case round =>
    obtain ⟨k, hk, rfl, hno⟩ := hrel
    have HN := Lib.hid hno
    clear hno
    by_cases hlt : k < l.length
    · obtain ⟨b, o, rfl, _, hc⟩ := HA.out.at (by omega)
      have f0 := (hc k hlt).1
      have HSN := Lib.hid (hasB_succ hlt nm)
      have HY := Lib.hid (fun h : (l[k].1.toList == nm.toList) = true => (show hasB l nm = true by unfold hasB; rw [List.any_eq_true]; exact ⟨l[k], by simp, h⟩))
      clear hc
      cases he : (l[k].1.toList == nm.toList)
      · go_wp2
        go_round
        case rel => exact ⟨k + 1, by omega, by go_num, by rw [HSN.out, HN.out, he]; rfl⟩
        case measure => simp [intOf]; omega
      · have HY2 := Lib.hid (HY.out he)
        go_wp2
        go_ret
        exact ⟨by rw [HY2.out]; rfl, rfl⟩
    · obtain rfl : k = l.length := by omega
      go_wp2
      go_ret
      have := HN.out
      rw [List.take_length] at this
      exact ⟨by rw [this]; rfl, rfl⟩
end Go.Proofs.YtgdmaikjaopddaaGreatDoor

/- The document's own answer: may an item be, may a node be made. The same as the program's. -/
namespace Go.Proofs.YtgdmaikjaopddaaGreatDoor
open Go.RowKit

def Sized (l : List Attr) : Prop := ∀ x ∈ l, x.1.size ≤ 9223372036854775807

set_option maxRecDepth 100000 in
set_option maxHeartbeats 2000000 in
theorem relem (A : Option Addr) (c : Nat) (nm da : ByteArray) (l : List Attr) (w : World) (hl : AttrsAt w A l) (hlc : l.length ≤ c) (hz : Sized l) (hnm : nm.size ≤ 9223372036854775807) :
    Calls Tryz.prog 114 #[itemVal 1 nm da A l.length c] w fun e w' => e = .returned (.bool (elemB nm da l)) ∧ Below w.heap.size w w' := by
  have hn := hl.1
  have HL := Lib.hid hl
  have HZ := Lib.hid hz
  have HNM := Lib.hid hnm
  have HI := Lib.hid (show ItemAt (w.alloc (.cells #[int 0, .int .u8 1, .string nm, .string da, .slice A l.length c] 107)) w.heap.size 1 nm da A l.length c from fun j _ => cell_alloc_new _ _ _ _)
  have HB0 := Lib.hid (alloc_drewN w (.cells #[int 0, .int .u8 1, .string nm, .string da, .slice A l.length c] 107) 0)
  clear hl hz hnm
  unfold itemVal
  go_enter Tryz.func114, Tryz.ntmps114
  go_wp2
  go_loopw [3] (fun v wr => ∃ k : Nat, v = int k ∧ k ≤ l.length ∧ attrsB l k = true ∧ Below w.heap.size w wr ∧ ItemAt wr w.heap.size 1 nm da A l.length c) (fun v _ => l.length - (intOf v).toNat)
  case atStart => exact ⟨0, rfl, Nat.zero_le _, rfl, HB0.out, HI.out⟩
  case round =>
    obtain ⟨k, rfl, hk, hA, hB, hI⟩ := hrel
    have HA := Lib.hid hA
    have HB := Lib.hid hB
    have HJ := Lib.hid hI
    obtain ⟨c0, c1, c2, c3, c4⟩ := hI.parts
    clear hA hB HI HB0 hI
    by_cases hlt : k < l.length
    · obtain ⟨b, o, rfl, hbw, hc⟩ := (HL.out.keep HB.out).at (by omega)
      have s4 : ∀ p : Later wr, p.w.cell? ⟨w.heap.size, 4, none⟩ = some (.slice (some ⟨b, o, none⟩) l.length c) := fun p => p.cell c4
      have f0 : ∀ p : Later wr, p.w.cell? ⟨b, o + k * 2, none⟩ = some (.string l[k].1) := fun p => p.cell (hc k hlt).1
      have f1 : ∀ p : Later wr, p.w.cell? ⟨b, o + k * 2 + 1, none⟩ = some (.string l[k].2) := fun p => p.cell (hc k hlt).2
      have HK2 := Lib.hid (show (l.take k).length = k by rw [List.length_take]; omega)
      have HT := Lib.hid (show ∀ w', Below wr.heap.size wr w' → Calls Tryz.prog 119 #[.slice (some ⟨b, o, none⟩) k c, .string l[k].1] w' fun e w'' => e = .returned (.bool (hasB (l.take k) l[k].1)) ∧ w' = w'' from fun w' hb' => by
        have C := rhas (some ⟨b, o, none⟩) c l[k].1 (l.take k) w' ((HL.out.keep (HB.out.trans (hb'.mono HB.out.size))).take k)
        rwa [HK2.out] at C)
      have HS := Lib.hid (HZ.out l[k] (List.getElem_mem hlt))
      have i0 : (0 : Int) ≤ k := by omega
      have i1 : (k : Int) < l.length := by omega
      have hkc : k ≤ c := by omega
      have hkc2 : (k : Int) ≤ c := by omega
      clear hc hbw c0 c1 c2 c3
      cases hw : writB l[k].1 l[k].2
      · have HF := Lib.hid (show elemB nm da l = false by
          unfold elemB
          rw [attrsB_le (show k + 1 ≤ l.length from hlt) (by rw [attrsB_succ hlt, hw]; simp)]; rfl)
        have HW := Lib.hid hw
        clear hw
        go_wp2_with fail
        refine wp_region_later (by kernel_rfl) (by kernel_rfl) ?_
        repeat (go_big_quiet_step ((go_at_call 78; exact Calls.later fun w hb => HW.out ▸ rwritable l[k].1 l[k].2 HS.out w)))
        refine wpQuiet_nil ?_
        rintro w1 ⟨⟨_, hb1⟩, rfl⟩
        clear s4 f0 f1
        go_wp2
        go_ret
        exact ⟨by rw [HF.out]; rfl, HB.out.trans (hb1.mono HB.out.size)⟩
      · have HW := Lib.hid hw
        cases ht : hasB (l.take k) l[k].1
        · have HSt := Lib.hid (show attrsB l (k + 1) = true by rw [attrsB_succ hlt, HA.out, hw, ht]; rfl)
          rw [ht] at HT
          clear hw ht
          go_wp2_with fail
          refine wp_region_later (by kernel_rfl) (by kernel_rfl) ?_
          repeat (go_big_quiet_step ((first
            | (go_at_call 78; exact Calls.later fun w hb => HW.out ▸ rwritable l[k].1 l[k].2 HS.out w)
            | (go_at_call 119; exact Calls.later_same HT.out))))
          refine wpQuiet_nil ?_
          rintro w1 ⟨⟨_, hb1⟩, rfl⟩
          clear s4 f0 f1
          have HB2 := Lib.hid (HB.out.trans (hb1.mono HB.out.size))
          have HJ2 := Lib.hid (HJ.out.keep hb1)
          clear hb1
          go_wp2
          go_roundw
          case rel => exact ⟨k + 1, by go_num, hlt, HSt.out, HB2.out, HJ2.out⟩
          case measure => simp [intOf]; omega
        · have HF := Lib.hid (show elemB nm da l = false by
            unfold elemB
            rw [attrsB_le (show k + 1 ≤ l.length from hlt) (by rw [attrsB_succ hlt, ht]; simp)]; rfl)
          rw [ht] at HT
          clear hw ht
          go_wp2_with fail
          refine wp_region_later (by kernel_rfl) (by kernel_rfl) ?_
          repeat (go_big_quiet_step ((first
            | (go_at_call 78; exact Calls.later fun w hb => HW.out ▸ rwritable l[k].1 l[k].2 HS.out w)
            | (go_at_call 119; exact Calls.later_same HT.out))))
          refine wpQuiet_nil ?_
          rintro w1 ⟨⟨_, hb1⟩, rfl⟩
          clear s4 f0 f1
          go_wp2
          go_ret
          exact ⟨by rw [HF.out]; rfl, HB.out.trans (hb1.mono HB.out.size)⟩
    · obtain rfl : k = l.length := by omega
      have HE := Lib.hid (show elemB nm da l = (validB nm && (da.toList.isEmpty && decide (l.length ≤ 50))) by unfold elemB; rw [HA.out]; rfl)
      have HN := Lib.hid (show decide (l.length ≤ 50) = decide ((l.length : Int) ≤ 50) from decide_eq_decide.2 (by omega))
      cases hv : validB nm
      · have HV := Lib.hid hv
        clear hv
        go_wp2_with fail
        refine (rvalid nm HNM.out _).mono ?_
        rintro e w1 ⟨rfl, rfl⟩
        rw [HV.out]
        go_wp2
        go_ret
        exact ⟨by rw [HE.out, HV.out]; rfl, HB.out⟩
      · cases hd : da.toList.isEmpty
        all_goals
          have HV := Lib.hid hv
          clear hv
          go_wp2_with fail
          refine (rvalid nm HNM.out _).mono ?_
          rintro e w1 ⟨rfl, rfl⟩
          rw [HV.out]
          go_wp2
          go_ret
          exact ⟨by rw [HE.out, HV.out, hd, HN.out]; rfl, HB.out⟩

set_option maxRecDepth 100000 in
set_option maxHeartbeats 1000000 in
theorem rmay (k : Int) (A : Option Addr) (c : Nat) (nm da : ByteArray) (l : List Attr) (w : World) (hl : AttrsAt w A l) (hlc : l.length ≤ c) (hz : Sized l) (hnm : nm.size ≤ 9223372036854775807) :
    Calls Tryz.prog 103 #[itemVal k nm da A l.length c, int 0] w fun e w' => e = .returned (.bool (rightA k nm da l)) ∧ Below w.heap.size w w' := by
  have hn := hl.1
  have HB0 := Lib.hid (alloc_drewN w (.cells #[int 0, .int .u8 k, .string nm, .string da, .slice A l.length c] 107) 0)
  by_cases h1 : k = 1
  · subst h1
    have HC := Lib.hid (relem A c nm da l _ (hl.keep HB0.out) hlc hz hnm)
    have HR := Lib.hid (show rightA 1 nm da l = elemB nm da l from rfl)
    clear hl hz hnm
    unfold itemVal at *
    go_enter Tryz.func103, Tryz.ntmps103
    go_wp2_with fail
    refine HC.out.mono ?_
    rintro e w1 ⟨rfl, hb1⟩
    have HB := Lib.hid (HB0.out.trans (hb1.mono HB0.out.size))
    clear hb1
    go_wp2
    go_ret
    exact ⟨by rw [HR.out]; rfl, HB.out⟩
  · have HR := Lib.hid (show rightA k nm da l = otherB k nm da ((l.length : Int) == 0) by unfold rightA; rw [if_neg h1])
    have e1 : (k == 1) = false := by simpa using h1
    obtain ⟨b, hb⟩ : ∃ b, b = ((l.length : Int) == 0) := ⟨_, rfl⟩
    have hb' := hb.symm
    rw [hb'] at HR
    clear hl hz hnm hb h1
    unfold itemVal
    by_cases h2 : k = 2
    · subst h2
      have R := Lib.hid (show otherB 2 nm da b = (b && (nm.toList.isEmpty && !da.toList.isEmpty)) from rfl)
      cases hn : nm.toList.isEmpty <;> cases hd : da.toList.isEmpty
      all_goals
        have hd2 := congrArg (!·) hd
        simp only [Bool.not_true, Bool.not_false] at hd2
        go_enter Tryz.func103, Tryz.ntmps103
        go_wp2
        go_ret
        exact ⟨by rw [HR.out, R.out, hn, hd]; cases b <;> rfl, HB0.out⟩
    · have f2 : (k == 2) = false := by simpa using h2
      by_cases h3 : k = 3
      · subst h3
        have R := Lib.hid (show otherB 3 nm da b = (b && nm.toList.isEmpty) from rfl)
        cases hn : nm.toList.isEmpty
        all_goals
          go_enter Tryz.func103, Tryz.ntmps103
          go_wp2
          go_ret
          exact ⟨by rw [HR.out, R.out, hn]; cases b <;> rfl, HB0.out⟩
      · have f3 : (k == 3) = false := by simpa using h3
        by_cases h6 : k = 6
        · subst h6
          have R := Lib.hid (show otherB 6 nm da b = (b && da.toList.isEmpty) from rfl)
          cases hd : da.toList.isEmpty
          all_goals
            go_enter Tryz.func103, Tryz.ntmps103
            go_wp2
            go_ret
            exact ⟨by rw [HR.out, R.out, hd]; cases b <;> rfl, HB0.out⟩
        · have f6 : (k == 6) = false := by simpa using h6
          have R := Lib.hid (show otherB k nm da b = false by unfold otherB; rw [if_neg h2, if_neg h3, if_neg h6])
          clear h2 h3 h6
          go_enter Tryz.func103, Tryz.ntmps103
          go_wp2
          go_ret
          exact ⟨by rw [HR.out, R.out]; rfl, HB0.out⟩
end Go.Proofs.YtgdmaikjaopddaaGreatDoor
