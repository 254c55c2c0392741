/- The card of DomSets: the row by the walk, tied by the given tie. -/
import Derived.Test.YtehjhigaebpfkaaDoorArgAttrs
import Derived.ChangeMaps5
namespace Go.Proofs.YtehjhigaebpfkaaDoor
open Go.RowKit Go.ChangeShapes Go.WideShapes Go.ChangeAt
namespace domSets
abbrev wit : Array Value := #[.slice none 0 0, .int .u8 0, .string .empty]
theorem row (os : Os) {H : Type} (enc : TypeId × Value → H) :
    (OpenSpec.ofChange Rows.domSetsSpec).preRow enc Tryd.prog Tryd.f6 Rows.domSetsRow.domain false Rows.domSetsRow.laid ((laidWorld os).forCall (fun _ _ => 0) ⟨#[], wit, []⟩).memory wit := by
  obtain ⟨places, hx⟩ : ∃ places, DataW.whole enc Tryd.prog ((laidWorld os).forCall (fun _ _ => 0) ⟨#[], wit, []⟩).memory Tryd.f6.params.toList Rows.domSetsSpec.vars false wit.toList 8 = some ([.nil, .lit (.int .u8 0), .lit (.string [])], [], places) := ⟨[], by kernel_rfl⟩
  exact OpenSpec.preRow_of_cond 8 hx (by kernel_rfl) (fun k hk => by cases hk) (by kernel_rfl) (laid_met os _)
set_option maxRecDepth 100000 in
theorem lifted (os : Os) (started : os.Started) (H : Type) (enc : TypeId × Value → H) (G : Stop.Interp) :
    ReturnsInHanded {} Tryd.checked os 6 .any ((OpenSpec.ofChange Rows.domSetsSpec).preRow enc Tryd.prog Tryd.f6 Rows.domSetsRow.domain false Rows.domSetsRow.laid) (((OpenSpec.ofChange Rows.domSetsSpec).at G).post enc Tryd.prog Tryd.f6 false true false false) := by
  refine returnsInHanded_of_row (C := Tryd.checked) (s := OpenSpec.ofChange Rows.domSetsSpec) rowOwn started (by kernel_rfl) Tryd.func6
    (witness_row_atRef (enc := enc) (C := Tryd.checked) false (laidWorld os) wit rfl (by kernel_rfl) (by kernel_rfl) (by kernel_rfl) (row os enc)) ?_
  intro W base args ds gs before hval0 hW _ hcond _ hL hsh _
  have hval : ∀ (j : Nat) t v, Tryd.f6.params[j]? = some t → args[j]? = some v → Value.okWide Tryd.prog W .any base t v := hval0
  have hW' : DataW.Whole enc Tryd.prog Tryd.f6.params.toList Rows.domSetsSpec.vars false W args.toList ds gs before := hW
  obtain ⟨p, q, hA0, hV, rfl, _, _⟩ := hW
  have hA : DataW.TrodAll enc Tryd.prog W 0 (fun _ => true) true Tryd.f6.params.toList args.toList ds p := hA0
  rw [Tryd.params6] at hA hval
  obtain ⟨v0, v1, v2, d0, d1, d2, p0, p1, p2, rfl, rfl, rfl, h0, h1, h2⟩ := trodAll_three hA
  obtain ⟨rfl, rfl⟩ := trodVars_none hV
  obtain ⟨l0, hl0⟩ := argAttrs_of (okWide_slice Tryd.underlying28 (hval 0 28 v0 rfl rfl)) h0
  obtain ⟨x1, rfl, rfl, rfl, hx1⟩ := open_int Tryd.underlying5 (hval 1 5 v1 rfl rfl) h1
  have hb1 := bounds_u8 hx1
  obtain ⟨x2, rfl, rfl, rfl, hx2⟩ := Go.ChangeMaps.open_string Tryd.underlying9 (hval 2 9 v2 rfl rfl) h2
  refine (sets_walk (Sep.start W) (theLaid_tail hL) v0 l0 hl0 x1 hb1.1 hb1.2 x2).mono ?_
  rintro e W' ⟨rfl, hS⟩
  exact ⟨_, rfl, law_post hW' rfl hS.below (by kernel_rfl) (by kernel_rfl) rfl⟩
theorem said : Rows.DomSetsSaid :=
  OpenClaim.holds_of_cond 6 Tryd.f6 rfl rfl rfl rfl rfl rfl rfl ⟨rfl, rfl, rfl, rfl, rfl⟩ rfl rfl rfl rfl rfl (by kernel_rfl) Tryd.func6 (by kernel_rfl)
    (of_decide_eq_true (by kernel_rfl)) (by unfold Func.isWrapper; first | (rw [if_pos (by decide +kernel)]; kernel_rfl) | (rw [if_neg (by decide +kernel)]; exact ⟨rfl, rfl⟩))
    (fun os started H enc _ G => by rw [OpenClaim.pre_eq_preRow]; exact lifted os started H enc G)
theorem plain (f : FuncId) (fn : Func) (hf : Tryd.pinned.checked.prog.funcNamed "portiere/portierelaw08.DomSets" = some f) (hfn : Tryd.pinned.checked.prog.funcs[f]? = some fn) :
    false = Tryd.pinned.checked.prog.looks [] ∧ ∀ (j : Nat) t, fn.params[j]? = some t → Tryd.pinned.checked.prog.wantsStandIn t = false := by
  obtain rfl : f = 6 := Option.some.inj ((show Tryd.prog.funcNamed "portiere/portierelaw08.DomSets" = some 6 by kernel_rfl).symm.trans hf) |>.symm
  obtain rfl : fn = Tryd.f6 := (Option.some.inj (Tryd.func6.symm.trans hfn)).symm
  refine ⟨by kernel_rfl, fun j t ht => ?_⟩
  have hall : (Tryd.f6.params.toList.all fun t => !Tryd.prog.wantsStandIn t) = true := by kernel_rfl
  have := List.all_eq_true.1 hall t (Array.mem_toList_iff.2 (Array.mem_of_getElem? ht))
  exact (show Tryd.prog.wantsStandIn t = false by simpa using this)
/-- the card -/
theorem card : Rows.DomSetsCardSaid :=
  Claim7.holds_tied_plain_at .later [] _ _ _ _ said (fun _ h => by cases h) (by kernel_rfl) (fun _ h => by cases h) domSets_row_tie rfl ⟨rfl, rfl⟩ (by kernel_rfl) rfl plain (by kernel_rfl)
end domSets
end Go.Proofs.YtehjhigaebpfkaaDoor
