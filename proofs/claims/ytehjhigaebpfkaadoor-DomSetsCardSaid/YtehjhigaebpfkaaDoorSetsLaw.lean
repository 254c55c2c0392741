/- DomSets answers true, whatever the attributes. -/
import Derived.Test.YtehjhigaebpfkaaDoorSetsPure
import Derived.Test.YtehjhigaebpfkaaDoorDrop
import Derived.Test.YtehjhigaebpfkaaDoorPlain
namespace Go.Proofs.YtehjhigaebpfkaaDoor
open Go.RowKit

/-- a slice of attributes that lay in W -/
def ArgAttrs (W : World) (v : Value) (l : List Attr) : Prop := ∃ a c, v = .slice a l.length c ∧ AttrsAt W a l
theorem Flat.worn {A : Doc} (h : Flat A 1) : Worn A [] := by
  have e := h.nd 1 (by decide) (by decide)
  exact ⟨h.n, by rw [e]; rfl, by rw [e]; exact List.nodup_nil, fun _ hx => absurd hx (by simp), fun _ => by rw [e]; rfl⟩
def TStr : Nat := 9
theorem infoStr : (Tryd.prog.info? 9).map (fun i => (i.zero, i.size, i.bytes)) = some (some (.string .empty), 1, 16) := by kernel_rfl
def srow (v : Value) (l : List ByteArray) : Res := row 9 1 v l.length (l.map Value.string)

section
variable {W w : World} {rs : List Res} {p : Nat}
theorem Sep.arow_at {a : Option Addr} {c : Nat} {l : List Attr} (h : Sep W w (arow (.slice a l.length c) l :: rs)) (hl : l.length ≤ 9223372036854775807) : AttrsAt w a l := by
  obtain ⟨G, hG⟩ := h.head
  exact rowHolds.attrsAt hG hl rfl
theorem Sep.box_attrs {g e : Nat} {x : Nd} {a k : Value} (h : Sep W w (blk g e (ndCells x a k) :: rs)) : w.cell? ⟨g, 3, none⟩ = some a := h.blk_cell 3

set_option maxRecDepth 100000 in
set_option maxHeartbeats 4000000 in
theorem sets_walk (h : Sep W w rs) (hT : Laid W) (v : Value) (l : List Attr) (hl : ArgAttrs W v l) (k : Int) (hk0 : 0 ≤ k) (hk1 : k ≤ 255) (val : ByteArray) :
    Calls Tryd.prog 6 #[v, .int .u8 k, .string val] w fun e w' => e = .returned (.bool true) ∧ Sep W w' rs := by
  obtain ⟨a0, c0, rfl, hat⟩ := hl
  have H := Lib.hid h
  have HT := Lib.hid hT
  have HL := Lib.hid hat
  have hll := hat.1
  clear h hT hat
  go_enter Tryd.func6, Tryd.ntmps6
  go_wp2_with fail
  go_loopw [7, 8] (fun nv iv wr => ∃ (i : Nat) (z : Int), iv = int i ∧ i ≤ l.length ∧ nv = int z ∧ Sep W wr rs) (fun _ iv _ => l.length - (intOf iv).toNat)
  case atStart => exact ⟨0, 0, rfl, Nat.zero_le _, rfl, H.out⟩
  case round =>
    obtain ⟨i, z, rfl, hi, rfl, hS⟩ := hrel
    have HS := Lib.hid hS
    clear H
    by_cases hil : i < l.length
    · have t1 : decide ((i : Int) < l.length) = true := by simp; omega
      obtain ⟨b0, o0, rfl, _, hcell⟩ := (HL.out.keep hS.below).at (by omega)
      have f0 := (hcell i hil).1
      have f1 := (hcell i hil).2
      have hwr : IntKind.i64.wrap ((i : Int) + 1) = ((i + 1 : Nat) : Int) := by rw [IntKind.wrap_i64]; omega
      have i0 : (0 : Int) ≤ i := by omega
      have i1 : (i : Int) < l.length := by omega
      clear hS hcell
      go_wp2_with fail
      go_quiet (fail)
      go_wp2_with fail
      go_roundw
      case rel => exact ⟨i + 1, _, rfl, hil, rfl, HS.out.drewN _⟩
      case measure => simp [intOf]; omega
    · obtain rfl : i = l.length := by omega
      have t1 : decide ((l.length : Int) < l.length) = false := by simp
      clear hS
      by_cases hz : 5000 < z
      · have t2 : decide (z > 5000) = true := by simpa using hz
        go_wp2_with fail
        refine (known_any HS.out HT.out).mono ?_
        rintro e w2 ⟨rfl, h2⟩
        have H2 := Lib.hid h2
        clear h2
        go_wp2
        go_ret
        exact ⟨rfl, H2.out⟩
      have t2 : decide (z > 5000) = false := by simpa using hz
      by_cases h40 : 40 < l.length
      · have t3 : decide ((l.length : Int) > 40) = true := by simp; omega
        go_wp2_with fail
        refine (known_any HS.out HT.out).mono ?_
        rintro e w2 ⟨rfl, h2⟩
        have H2 := Lib.hid h2
        clear h2
        go_wp2
        go_ret
        exact ⟨rfl, H2.out⟩
      have t3 : decide ((l.length : Int) > 40) = false := by simp; omega
      by_cases h500 : 500 < val.size
      · have t4 : decide ((val.size : Int) > 500) = true := by simp; omega
        go_wp2_with fail
        refine (known_any HS.out HT.out).mono ?_
        rintro e w2 ⟨rfl, h2⟩
        have H2 := Lib.hid h2
        clear h2
        go_wp2
        go_ret
        exact ⟨rfl, H2.out⟩
      have t4 : decide ((val.size : Int) > 500) = false := by simp; omega
      have hv500 : val.size ≤ 500 := by omega
      have hl40 : l.length ≤ 40 := by omega
      clear hz h40 h500
      go_wp2_with fail
      refine (known_any HS.out HT.out).mono ?_
      rintro e w2 ⟨rfl, h2⟩
      have H2 := Lib.hid h2
      clear h2 HS
      go_wp2_with fail
      refine (plain_any H2.out HT.out 1 (by omega)).mono ?_
      rintro e w3 ⟨p, A0, rfl, hF, h3⟩
      have H3 := Lib.hid (h3.nilRow 9 1 none)
      have HF := Lib.hid hF.worn
      clear h3 hF H2
      go_wp2_with fail
      go_loopw [10, 11] (fun nv iv wr => ∃ (i : Nat) (D : Doc) (ns : List ByteArray), iv = int i ∧ i ≤ l.length ∧ ns.length ≤ i ∧ Worn D ns ∧ Sep W wr (srow nv ns :: docA p D :: rs)) (fun _ iv _ => l.length - (intOf iv).toNat)
      case atStart => exact ⟨0, A0, [], rfl, Nat.zero_le _, Nat.le_refl _, HF.out, H3.out⟩
      case round =>
        obtain ⟨i, D, ns, rfl, hi, hns, hW, hS⟩ := hrel
        have HS := Lib.hid hS
        have HW := Lib.hid hW
        obtain ⟨an, cn, rfl⟩ : ∃ a c, u10 = .slice a ns.length c := row_form hS
        clear H3 HF
        by_cases hil : i < l.length
        · have t5 : decide ((i : Int) < l.length) = true := by simp; omega
          obtain ⟨b0, o0, rfl, _, _⟩ := HL.out.at (by omega)
          obtain ⟨n1, v1, hlv⟩ : ∃ n1 v1, l[i] = (n1, v1) := ⟨_, _, rfl⟩
          have KEEP := Lib.hid (show ∀ (w' : World) (rs' : List Res), Sep W w' rs' → w'.cell? ⟨b0, o0 + i * 2, none⟩ = some (.string n1) ∧ w'.cell? ⟨b0, o0 + i * 2 + 1, none⟩ = some (.string v1) from fun w' rs' hS' => by
            obtain ⟨b1, o1, e1, _, hc⟩ := (HL.out.keep hS'.below).at (by omega)
            injection e1 with e1
            injection e1 with e2 e3
            subst e2; subst e3
            have := hc i hil
            rw [hlv] at this
            exact this)
          have hwr : IntKind.i64.wrap ((i : Int) + 1) = ((i + 1 : Nat) : Int) := by rw [IntKind.wrap_i64]; omega
          have i0 : (0 : Int) ≤ i := by omega
          have i1 : (i : Int) < l.length := by omega
          obtain ⟨hW1, hmem⟩ := HW.out.step n1 v1
          clear hS hW
          go_wp2_with fail
          go_region_held3 (fun w' => w'.cell? ⟨b0, o0 + i * 2, none⟩ = some (.string n1) ∧ w'.cell? ⟨b0, o0 + i * 2 + 1, none⟩ = some (.string v1))
            (first
              | with_reducible exact KEEP.out _ _ HS.out.drew
              | with_reducible exact KEEP.out _ _ h4)
            ((go_at_call 21; refine (set_doc HS.out.drew.swap HT.out 1 n1 v1).mono ?_; rintro e w4 ⟨rfl, h4⟩))
          obtain ⟨E, hE⟩ : ∃ E, E = D.setE 1 n1 v1 := ⟨_, rfl⟩
          obtain ⟨D1, hD1⟩ : ∃ D1, D1 = D.setA 1 n1 v1 := ⟨_, rfl⟩
          rw [← hE] at hW1 hmem ⊢
          rw [← hD1] at hW1 hmem h4
          have H4 := Lib.hid h4
          have HW1 := Lib.hid hW1
          have HM := Lib.hid hmem
          have hin1 := hW1.in1
          clear h4 hW1 hmem hE hD1 HW
          go_wp2_with fail
          refine (node_doc H4.out 1 hin1).mono ?_
          rintro e w5 ⟨va, vk, rfl, h5⟩
          obtain ⟨k5, kc5, rfl⟩ := h5.irow_form
          obtain ⟨a5, ac5, rfl⟩ := h5.tail.arow_form
          obtain ⟨L, hL⟩ : ∃ L, L = (D1.nd 1).attrs := ⟨_, rfl⟩
          have hLL := (docA_open H4.out).1.att 1 hin1
          have hy := h5.tail.blk_new (ndCells (D1.nd 1) (.slice a5 (D1.nd 1).attrs.length ac5) (.slice k5 (D1.nd 1).kids.length kc5)) 33
          obtain ⟨w6, hw6⟩ : ∃ w6, w6 = w5.alloc (.cells (ndCells (D1.nd 1) (.slice a5 (D1.nd 1).attrs.length ac5) (.slice k5 (D1.nd 1).kids.length kc5)) 33) := ⟨_, rfl⟩
          rw [← hw6] at hy
          have Hw6 := Lib.hid hw6
          have cx := hy.box_attrs
          have hAt6 := hy.tail.arow_at (by omega)
          rw [← hL] at cx hAt6 hLL
          have HA6 := Lib.hid hAt6
          have H6 := Lib.hid hy.tail.tail
          have HLe := Lib.hid hL
          obtain ⟨q, hq⟩ : ∃ q, q = w5.heap.size := ⟨_, rfl⟩
          rw [← hq] at cx
          have Hq := Lib.hid hq
          clear h5 hy hw6 hAt6 hL hq H4
          go_wp2_with (refine wpList_store_node rfl _ _ rfl rfl rfl rfl ?_; rw [← Hw6.out]; refine halt ?_)
          refine Halt.go ?_
          go_wp2_with fail
          rw [← Hq.out]
          go_loopw [15, 16] (fun tv jv wr => ∃ (j : Nat) (m : Nat), jv = int j ∧ j ≤ L.length ∧ tv = .bool ((L.take j).any fun y => y.1.toList == n1.toList && y.2.toList == v1.toList) ∧ wr = w6.drewN m) (fun _ jv _ => L.length - (intOf jv).toNat)
          case atStart => exact ⟨0, 0, rfl, Nat.zero_le _, rfl, rfl⟩
          case round =>
            obtain ⟨j, m, rfl, hj, rfl, rfl⟩ := hrel
            by_cases hjl : j < L.length
            · have t6 : decide ((j : Int) < L.length) = true := by simp; omega
              obtain ⟨b6, o6, rfl, _, hc6⟩ := HA6.out.at (by omega)
              have g0 := (hc6 j hjl).1
              have g1 := (hc6 j hjl).2
              have j0 : (0 : Int) ≤ j := by omega
              have j1 : (j : Int) < L.length := by omega
              have ff := KEEP.out _ _ H6.out
              have ff0 := ff.1
              have ff1 := ff.2
              have hwr2 : IntKind.i64.wrap ((j : Int) + 1) = ((j + 1 : Nat) : Int) := by rw [IntKind.wrap_i64]; omega
              have hst : (L.take (j + 1)).any (fun y => y.1.toList == n1.toList && y.2.toList == v1.toList) = ((L.take j).any (fun y => y.1.toList == n1.toList && y.2.toList == v1.toList) || (L[j].1.toList == n1.toList && L[j].2.toList == v1.toList)) := by
                rw [List.take_succ_eq_append_getElem hjl, List.any_append]
                simp only [List.any_cons, List.any_nil, Bool.or_false]
              have HST := Lib.hid hst
              obtain ⟨T, hT⟩ : ∃ T, T = (L.take j).any (fun y => y.1.toList == n1.toList && y.2.toList == v1.toList) := ⟨_, rfl⟩
              rw [← hT] at HST ⊢
              clear hc6 ff hst hT
              obtain ⟨X, hX⟩ : ∃ X, X = L[j] := ⟨_, rfl⟩
              rw [← hX] at g0 g1 HST
              clear hX
              cases T
              · by_cases e1 : X.1.toList = n1.toList
                · by_cases e2 : X.2.toList = v1.toList
                  all_goals
                    have HST2 := Lib.hid (HST.out.trans (show _ = _ by rw [beq_iff_eq.2 e1]))
                    clear HST
                    go_wp2_with fail
                    go_quiet (fail)
                    go_wp2_with fail
                    go_roundw
                    case rel => exact ⟨j + 1, _, rfl, hjl, by rw [HST2.out]; simp [e2], rfl⟩
                    case measure => simp [intOf]; omega
                · go_wp2_with fail
                  go_quiet (fail)
                  go_wp2_with fail
                  go_roundw
                  case rel => exact ⟨j + 1, _, rfl, hjl, by rw [HST.out]; simp [e1], rfl⟩
                  case measure => simp [intOf]; omega
              · go_wp2_with fail
                go_quiet (fail)
                go_wp2_with fail
                go_roundw
                case rel => exact ⟨j + 1, _, rfl, hjl, by rw [HST.out]; rfl, rfl⟩
                case measure => simp [intOf]; omega
            · obtain rfl : j = L.length := by omega
              rw [List.take_length]
              have t6 : decide ((L.length : Int) < L.length) = false := by simp
              obtain ⟨T, hT⟩ : ∃ T, T = L.any (fun y => y.1.toList == n1.toList && y.2.toList == v1.toList) := ⟨_, rfl⟩
              have HT' := Lib.hid hT
              rw [← hT]
              have HS6 := Lib.hid (H6.out.drewN m)
              clear hT
              by_cases hE0 : E = 0
              · subst hE0
                have hTt : T = true := by
                  rw [HT'.out, List.any_eq_true]
                  exact ⟨_, HLe.out ▸ HM.out rfl, by simp⟩
                subst hTt
                have HW2 := Lib.hid (show Worn D1 (ns ++ [n1]) by have := HW1.out; rwa [if_pos rfl] at this)
                obtain ⟨i0', hi0', hz0', hz1', hz2'⟩ := info_parts infoStr
                have hn1 : ns.length + 1 ≤ maxLen := by unfold maxLen; omega
                have hb1 : (ns.length + 1) * 16 ≤ 140737488355328 := by omega
                have ff := KEEP.out _ _ HS6.out
                have ff0 := ff.1
                have HSX := Lib.hid (show Sep W (w6.drewN m) (row 9 1 (.slice an ns.length cn) ns.length (ns.map Value.string) :: docA p D1 :: rs) from HS6.out.swap)
                clear ff HT' HS6
                go_wp2_with (at_builtin; refine wpList_app rfl _ _ 46 rfl Tryd.underlying46 hi0' hz0' hz1' hz2' rfl (by decide) rfl (HSX.out.alloc _) _ _ _ [.string n1] rfl (src_new _ _ _) (by intro u hu; rw [List.mem_singleton.1 hu]; rfl) hn1 hb1 ?_; intro v' w7 h7; have H7 := Lib.hid h7; clear h7)
                go_roundw
                case rel => exact ⟨i + 1, D1, ns ++ [n1], rfl, hil, by simp; omega, HW2.out, by have := H7.out; unfold srow; rw [List.length_append, List.map_append]; exact this⟩
                case measure => simp [intOf]; omega
              · have hE1 : (E == 0) = false := by simpa using hE0
                have HW2 := Lib.hid (show Worn D1 ns by have := HW1.out; rwa [if_neg hE0] at this)
                clear hE0
                cases T
                all_goals
                  go_wp2_with fail
                  go_roundw
                  case rel => exact ⟨i + 1, D1, ns, rfl, hil, by omega, HW2.out, HS6.out.swap⟩
                  case measure => simp [intOf]; omega
        · obtain rfl : i = l.length := by omega
          have t5 : decide ((l.length : Int) < l.length) = false := by simp
          by_cases hne : ns = []
          · subst hne
            have HE := Lib.hid (HW.out.empty (⟨#[120]⟩ : ByteArray))
            clear hS hW
            go_wp2_with fail
            refine (drop_doc HS.out.swap 1 ⟨#[120]⟩).mono ?_
            rintro e w4 ⟨rfl, h4⟩
            rw [HE.out]
            have H4 := Lib.hid h4.tail.tail
            clear h4
            go_wp2
            go_ret
            exact ⟨rfl, H4.out⟩
          have hpos : 0 < ns.length := List.length_pos_iff.2 hne
          obtain ⟨r, hr⟩ : ∃ r : Nat, k.tmod ns.length = (r : Int) ∧ k % ns.length = (r : Int) ∧ r < ns.length := by
            have h1 : k.tmod ns.length = k % ns.length := Int.tmod_eq_emod_of_nonneg hk0
            have h2 := Int.emod_nonneg k (show (ns.length : Int) ≠ 0 by omega)
            have h3 := Int.emod_lt_of_pos k (show (0 : Int) < ns.length by omega)
            obtain ⟨r, hr⟩ := Int.eq_ofNat_of_zero_le h2
            exact ⟨r, h1.trans hr, hr, by omega⟩
          obtain ⟨hr1, hr2, hr3⟩ := hr
          have hn0 : ((ns.length : Int) == 0) = false := by simp; omega
          obtain ⟨gn, hgn, cn0⟩ : ∃ gn, an = some ⟨gn, 0, none⟩ ∧ wr.cell? ⟨gn, r, none⟩ = some (.string ns[r]) := by
            obtain ⟨G, hG⟩ := hS.head
            obtain ⟨g, cap, hv, _, _, _, hc⟩ := rowHolds.cells hG hpos
            injection hv with hv
            exact ⟨g, hv, hc r _ (by simp [hr3])⟩
          subst hgn
          obtain ⟨nm, hnm⟩ : ∃ nm, nm = ns[r] := ⟨_, rfl⟩
          rw [← hnm] at cn0
          obtain ⟨hE1, hL1, hE2, hL2, hE3⟩ := HW.out.again (v := val) (nm := nm) (by rw [hnm]; exact List.getElem_mem hr3) hv500
          have HE1 := Lib.hid hE1
          have HE2 := Lib.hid hE2
          have HE3 := Lib.hid hE3
          have hin := HW.out.in1
          obtain ⟨D1, hD1⟩ : ∃ D1, D1 = D.setA 1 nm val := ⟨_, rfl⟩
          obtain ⟨D2, hD2⟩ : ∃ D2, D2 = D1.dropA 1 nm := ⟨_, rfl⟩
          have hin1 : D1.In 1 := ⟨by decide, by rw [hD1, setA_n]; exact hin.2⟩
          have hin2 : D2.In 1 := ⟨by decide, by rw [hD2, dropA_n]; exact hin1.2⟩
          rw [← hD1] at hL1 hL2 HE2 HE3
          rw [← hD2] at hL2 HE3
          have HD1 := Lib.hid hD1
          have HD2 := Lib.hid hD2
          have hLb := (docA_open HS.out.tail).1.att 1 hin
          have HL1 := Lib.hid hL1
          have HL2 := Lib.hid hL2
          have HSw := Lib.hid HS.out.swap
          clear hS hW hE1 hE2 hE3 hD1 hD2 hnm hne hL1 hL2
          go_wp2_with fail
          refine (node_doc HSw.out 1 hin).mono ?_
          rintro e w5a ⟨va1, vk1, rfl, h1⟩
          obtain ⟨k1, kc1, rfl⟩ := h1.irow_form
          obtain ⟨a1, ac1, rfl⟩ := h1.tail.arow_form
          have hy1 := h1.tail.tail.blk_new (ndCells (D.nd 1) (.slice a1 (D.nd 1).attrs.length ac1) (.slice k1 (D.nd 1).kids.length kc1)) 33
          obtain ⟨w5, hw5⟩ : ∃ w5, w5 = w5a.alloc (.cells (ndCells (D.nd 1) (.slice a1 (D.nd 1).attrs.length ac1) (.slice k1 (D.nd 1).kids.length kc1)) 33) := ⟨_, rfl⟩
          rw [← hw5] at hy1
          have Hw5 := Lib.hid hw5
          have HY1 := Lib.hid hy1
          obtain ⟨q1, hq1⟩ : ∃ q1, q1 = w5a.heap.size := ⟨_, rfl⟩
          have Hq1 := Lib.hid hq1
          clear h1 hy1 hw5 hq1
          go_wp2_with (refine wpList_store_node rfl _ _ rfl rfl rfl rfl ?_; rw [← Hw5.out]; refine halt ?_)
          refine Halt.go ?_
          go_wp2_with fail
          refine (set_doc HY1.out.swap HT.out 1 nm val).mono ?_
          rintro e w6 ⟨rfl, h6⟩
          rw [HE1.out]
          have H6 := Lib.hid (show Sep W w6 (docA p D1 :: _) from HD1.out ▸ h6)
          clear h6
          go_wp2_with fail
          refine (node_doc H6.out 1 hin1).mono ?_
          rintro e w7a ⟨va2, vk2, rfl, h2⟩
          obtain ⟨k2, kc2, rfl⟩ := h2.irow_form
          obtain ⟨a2, ac2, rfl⟩ := h2.tail.arow_form
          have hy2 := h2.tail.tail.blk_new (ndCells (D1.nd 1) (.slice a2 (D1.nd 1).attrs.length ac2) (.slice k2 (D1.nd 1).kids.length kc2)) 33
          obtain ⟨w7, hw7⟩ : ∃ w7, w7 = w7a.alloc (.cells (ndCells (D1.nd 1) (.slice a2 (D1.nd 1).attrs.length ac2) (.slice k2 (D1.nd 1).kids.length kc2)) 33) := ⟨_, rfl⟩
          rw [← hw7] at hy2
          have Hw7 := Lib.hid hw7
          have HY2 := Lib.hid hy2
          obtain ⟨q2, hq2⟩ : ∃ q2, q2 = w7a.heap.size := ⟨_, rfl⟩
          have Hq2 := Lib.hid hq2
          clear h2 hy2 hw7 hq2
          go_wp2_with (refine wpList_store_node rfl _ _ rfl rfl rfl rfl ?_; rw [← Hw7.out]; refine halt ?_)
          refine Halt.go ?_
          go_wp2_with fail
          refine (drop_doc HY2.out.swap 1 nm).mono ?_
          rintro e w8 ⟨rfl, h8⟩
          rw [HE2.out]
          have H8 := Lib.hid (show Sep W w8 (docA p D2 :: _) from HD2.out ▸ h8)
          clear h8
          go_wp2_with fail
          refine (node_doc H8.out 1 hin2).mono ?_
          rintro e w9a ⟨va3, vk3, rfl, h3⟩
          obtain ⟨k3, kc3, rfl⟩ := h3.irow_form
          obtain ⟨a3, ac3, rfl⟩ := h3.tail.arow_form
          have hy3 := h3.tail.tail.blk_new (ndCells (D2.nd 1) (.slice a3 (D2.nd 1).attrs.length ac3) (.slice k3 (D2.nd 1).kids.length kc3)) 33
          obtain ⟨w9, hw9⟩ : ∃ w9, w9 = w9a.alloc (.cells (ndCells (D2.nd 1) (.slice a3 (D2.nd 1).attrs.length ac3) (.slice k3 (D2.nd 1).kids.length kc3)) 33) := ⟨_, rfl⟩
          rw [← hw9] at hy3
          have Hw9 := Lib.hid hw9
          have HY3 := Lib.hid hy3
          obtain ⟨q3, hq3⟩ : ∃ q3, q3 = w9a.heap.size := ⟨_, rfl⟩
          have Hq3 := Lib.hid hq3
          clear h3 hy3 hw9 hq3
          go_wp2_with (refine wpList_store_node rfl _ _ rfl rfl rfl rfl ?_; rw [← Hw9.out]; refine halt ?_)
          refine Halt.go ?_
          go_wp2_with fail
          refine (drop_doc HY3.out.swap 1 nm).mono ?_
          rintro e w10 ⟨rfl, h10⟩
          rw [HE3.out]
          have b3 := h10.tail.box_attrs
          have b2 := h10.tail.tail.box_attrs
          have b1 := h10.tail.tail.tail.box_attrs
          have H10 := Lib.hid h10.tail.tail.tail.tail.tail
          rw [HL1.out] at b2
          obtain ⟨L0, hL0⟩ : ∃ L0, L0 = (D.nd 1).attrs.length := ⟨_, rfl⟩
          obtain ⟨L3, hL3⟩ : ∃ L3, L3 = (D2.nd 1).attrs.length := ⟨_, rfl⟩
          have hq := HL2.out
          rw [← hL0, ← hL3] at hq
          rw [← hL0] at b1 b2 hLb
          rw [← hL3] at b3
          have hw0 : IntKind.i64.wrap ((L0 : Int) - 1) = (L3 : Int) := by rw [IntKind.wrap_i64]; omega
          have hq1 : (L0 : Int) - 1 = (L3 : Int) := hq.symm
          have hq2 : ((L0 : Int) == L0) = true := by simp
          have hq3 : ((L3 : Int) == L3) = true := by simp
          clear h10 hq hL0 hL3
          go_wp2
          go_ret
          exact ⟨rfl, H10.out⟩
end
end Go.Proofs.YtehjhigaebpfkaaDoor
