/- The card of ShadowHosts: the row by the walk, tied by the given tie. -/
import Derived.Test.YtehjhigaebpfkaaDoorArgFlags
namespace Go.Proofs.YtehjhigaebpfkaaDoor
open Go.RowKit Go.ChangeShapes Go.WideShapes Go.ChangeAt
namespace shadowHosts
abbrev wit : Array Value := #[.slice none 0 0, .agg #[.bool false, .bool false, .bool false, .bool false, .bool false]]
theorem row (os : Os) {H : Type} (enc : TypeId × Value → H) :
    (OpenSpec.ofChange Rows.shadowHostsSpec).preRow enc Tryd.prog Tryd.f9 Rows.shadowHostsRow.domain false Rows.shadowHostsRow.laid ((laidWorld os).forCall (fun _ _ => 0) ⟨#[], wit, []⟩).memory wit := by
  obtain ⟨places, hx⟩ : ∃ places, DataW.whole enc Tryd.prog ((laidWorld os).forCall (fun _ _ => 0) ⟨#[], wit, []⟩).memory Tryd.f9.params.toList Rows.shadowHostsSpec.vars false wit.toList 8 = some ([.nil, .agg [.lit (.bool false), .lit (.bool false), .lit (.bool false), .lit (.bool false), .lit (.bool false)]], [], places) := ⟨[], by kernel_rfl⟩
  exact OpenSpec.preRow_of_cond 8 hx (by kernel_rfl) (fun k hk => by cases hk) (by kernel_rfl) (laid_met os _)
set_option maxRecDepth 100000 in
theorem lifted (os : Os) (started : os.Started) (H : Type) (enc : TypeId × Value → H) (G : Stop.Interp) :
    ReturnsInHanded {} Tryd.checked os 9 .any ((OpenSpec.ofChange Rows.shadowHostsSpec).preRow enc Tryd.prog Tryd.f9 Rows.shadowHostsRow.domain false Rows.shadowHostsRow.laid) (((OpenSpec.ofChange Rows.shadowHostsSpec).at G).post enc Tryd.prog Tryd.f9 false true false false) := by
  refine returnsInHanded_of_row (C := Tryd.checked) (s := OpenSpec.ofChange Rows.shadowHostsSpec) rowOwn started (by kernel_rfl) Tryd.func9
    (witness_row_atRef (enc := enc) (C := Tryd.checked) false (laidWorld os) wit rfl (by kernel_rfl) (by kernel_rfl) (by kernel_rfl) (row os enc)) ?_
  intro W base args ds gs before hval0 hW _ _ _ hL hsh _
  have hval : ∀ (j : Nat) t v, Tryd.f9.params[j]? = some t → args[j]? = some v → Value.okWide Tryd.prog W .any base t v := hval0
  have hW' : DataW.Whole enc Tryd.prog Tryd.f9.params.toList Rows.shadowHostsSpec.vars false W args.toList ds gs before := hW
  obtain ⟨p, q, hA0, hV, rfl, _, _⟩ := hW
  have hA : DataW.TrodAll enc Tryd.prog W 0 (fun _ => true) true Tryd.f9.params.toList args.toList ds p := hA0
  rw [Tryd.params9] at hA hval
  obtain ⟨v0, v1, d0, d1, p0, p1, rfl, rfl, rfl, h0, h1⟩ := trodAll_two hA
  obtain ⟨rfl, rfl⟩ := trodVars_none hV
  obtain ⟨l0, hl0⟩ := argInts_of Tryd.underlying50 Tryd.underlying5 (by kernel_rfl) (okWide_slice Tryd.underlying50 (hval 0 50 v0 rfl rfl)) h0
  obtain ⟨x1, rfl⟩ := argFlags_of (hval 1 31 v1 rfl rfl) h1
  refine (hosts_walk (Sep.start W) (theLaid_tail hL) (maxOf hsh) v0 l0 hl0 x1).mono ?_
  rintro e W' ⟨rfl, hS⟩
  exact ⟨_, rfl, law_post hW' rfl hS.below (by kernel_rfl) (by kernel_rfl) rfl⟩
theorem said : Rows.ShadowHostsSaid :=
  OpenClaim.holds_of_cond 9 Tryd.f9 rfl rfl rfl rfl rfl rfl rfl ⟨rfl, rfl, rfl, rfl, rfl⟩ rfl rfl rfl rfl rfl (by kernel_rfl) Tryd.func9 (by kernel_rfl)
    (of_decide_eq_true (by kernel_rfl)) (by unfold Func.isWrapper; first | (rw [if_pos (by decide +kernel)]; kernel_rfl) | (rw [if_neg (by decide +kernel)]; exact ⟨rfl, rfl⟩))
    (fun os started H enc _ G => by rw [OpenClaim.pre_eq_preRow]; exact lifted os started H enc G)
theorem plain (f : FuncId) (fn : Func) (hf : Tryd.pinned.checked.prog.funcNamed "portiere/portierelaw10.ShadowHosts" = some f) (hfn : Tryd.pinned.checked.prog.funcs[f]? = some fn) :
    false = Tryd.pinned.checked.prog.looks [] ∧ ∀ (j : Nat) t, fn.params[j]? = some t → Tryd.pinned.checked.prog.wantsStandIn t = false := by
  obtain rfl : f = 9 := Option.some.inj ((show Tryd.prog.funcNamed "portiere/portierelaw10.ShadowHosts" = some 9 by kernel_rfl).symm.trans hf) |>.symm
  obtain rfl : fn = Tryd.f9 := (Option.some.inj (Tryd.func9.symm.trans hfn)).symm
  refine ⟨by kernel_rfl, fun j t ht => ?_⟩
  have hall : (Tryd.f9.params.toList.all fun t => !Tryd.prog.wantsStandIn t) = true := by kernel_rfl
  have := List.all_eq_true.1 hall t (Array.mem_toList_iff.2 (Array.mem_of_getElem? ht))
  exact (show Tryd.prog.wantsStandIn t = false by simpa using this)
/-- the card -/
theorem card : Rows.ShadowHostsCardSaid :=
  Claim7.holds_tied_plain_at .later [] _ _ _ _ said (fun _ h => by cases h) (by kernel_rfl) (fun _ h => by cases h) shadowHosts_row_tie rfl ⟨rfl, rfl⟩ (by kernel_rfl) rfl plain (by kernel_rfl)
end shadowHosts
end Go.Proofs.YtehjhigaebpfkaaDoor
