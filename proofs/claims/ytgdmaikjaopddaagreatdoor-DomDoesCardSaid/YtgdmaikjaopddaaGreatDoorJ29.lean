/- What every row of the seat needs: the world of a witness, what the listed variables hold, and the last step from a law's walk to the row. -/
import Derived.Test.YtgdmaikjaopddaaGreatDoorCards
import Derived.Test.YtgdmaikjaopddaaGreatDoorTie
import Derived.Test.YtgdmaikjaopddaaGreatDoorJ04
import Derived.ProofKit
import Derived.OpenShut
import Derived.Carry
import Derived.Deep.DeepHandedRow
import Derived.Deep.DeepWitnessRowRef
import Derived.Lib.LaidTab
import Derived.Lib.LaidU8
namespace Go.Proofs.YtgdmaikjaopddaaGreatDoor
open Go.ChangeShapes Go.WideShapes Go.ChangeAt Go.RowKit

theorem rowOwn : ownKnob Tryz.prog.godebug = none := by kernel_rfl
theorem rowOut : laidOutB Tryz.prog = true := by kernel_rfl
theorem gSpace : Tryz.prog.globalNamed "strings.asciiSpace" = some 0 := by kernel_rfl
abbrev TSpace : Nat := 131

/-- the settled world, two blocks more (what unicode.White_Space leads to), and the listed variables as their initialisers lay them -/
noncomputable def laidWorld (os : Os) : World :=
  let N := (World.settled Tryz.prog os).heap.size
  let w0 := World.holding Tryz.prog os ⟨#[.cells (Lib.whiteT.map fun (z : Nat) => Value.int .u16 (z : Int)).toArray 153, .cells #[.slice (some ⟨N, 0, none⟩) 7 7, .slice none 0 0, .int .i64 2] 151], #[], []⟩
  let put (h : Array Obj) (g : Nat) (cs : Array Value) : Array Obj := h.modify g fun
    | .cells _ t frozen => .cells cs t frozen
    | o => o
  let h1 := put w0.heap 0 (Lib.asciiSpaceTab.map fun z => Value.int .u8 z).toArray
  let h2 := put h1 1 #[.pointer (some ⟨N + 1, 0, none⟩)]
  { w0 with heap := h2 }

def theLaid : List (String × DataW Unit) := [("unicode.White_Space", Rows.laid_unicode_White_Space), ("strings.asciiSpace", Rows.laid_strings_asciiSpace)]
theorem laid_met (os : Os) (args : Array Value) : laidMet Tryz.prog theLaid ((laidWorld os).forCall (fun _ _ => 0) ⟨#[], args, []⟩).memory :=
  laidMet_of_run' 10 (by kernel_rfl) (by kernel_rfl)

theorem spaceType : (Tryz.prog.globals[0]?).map (·.type) = some TSpace := by kernel_rfl
theorem spaceUnder : Tryz.prog.underlying TSpace = some (.array 256 5) := by kernel_rfl
theorem spaceCells : Tryz.prog.cellsOf TSpace = 256 := by kernel_rfl
theorem u8Under : Tryz.prog.underlying 5 = some (.int .u8) := by kernel_rfl
theorem u8Cells : Tryz.prog.cellsOf 5 = 1 := by kernel_rfl
theorem spaceData : (Rows.laid_strings_asciiSpace : DataW Unit) = Lib.tabData .u8 Lib.asciiSpaceTab := by kernel_rfl
theorem theLaid_tail {W : World} (h : laidMet Tryz.prog theLaid W) : Laid W := by
  obtain ⟨g', t', cs, fuel, p, hg', ht', hvar, hd⟩ := Lib.laidMet.reads h (n := "strings.asciiSpace") (d := Rows.laid_strings_asciiSpace) (.tail _ (.head _))
  obtain rfl := Option.some.inj (gSpace.symm.trans hg')
  obtain rfl := Option.some.inj (spaceType.symm.trans ht')
  rw [spaceData] at hd
  unfold Laid Lib.TabIs
  rw [hvar, ← Lib.cells_of_tab spaceUnder u8Under u8Cells spaceCells hd]

theorem Below.trodAll {H : Type} {enc : TypeId × Value → H} {P : Program} (hl : laidOutB P = true) {W W' : World} (hb : Below W.heap.size W W') :
    ∀ {ts : List TypeId} {vs : List Value} {ds : List (DataW H)} {ps : List MemPlace}, (ts.all fun t => P.readableRec t && decide (t < P.types.size)) = true → DataW.TrodAll enc P W 0 (fun _ => true) true ts vs ds ps →
      (∀ x ∈ ps, x.block < W.heap.size) → DataW.TrodAll enc P W' 0 (fun b => decide (b < W.heap.size)) true ts vs ds ps
  | [], _, _, _, _, h, _ => by
    obtain ⟨rfl, rfl, rfl⟩ := trodAll_nil h
    exact trodAll_mk0
  | t :: ts, vs, ds, ps, hts, h, hlt => by
    obtain ⟨v, vs', d, ds', p, q, rfl, rfl, rfl, hd, hrest⟩ := trodAll_cons h
    simp only [List.all_cons, Bool.and_eq_true, decide_eq_true_eq] at hts
    exact trodAll_cons_mk (Below.trod hl hts.1.1 hts.1.2 hd hb fun x hx => hlt x (by simp [hx])) (Below.trodAll hl hb hts.2 hrest fun x hx => hlt x (by simp [hx]))

/-- the last step: a law answered true, and nothing that was there has turned -/
theorem law_post {H : Type} {enc : TypeId × Value → H} {f : Func} {s : ChangeSpec} {args : Array Value} {W W' : World} {ds gs : List (DataW H)} {before : List MemPlace}
    (hW : DataW.Whole enc Tryz.prog f.params.toList s.vars false W args.toList ds gs before) (hv : s.vars = []) (hb : Below W.heap.size W W')
    (hts : (f.params.toList.all fun t => Tryz.prog.readableRec t && decide (t < Tryz.prog.types.size)) = true) (hr : f.resultTypes = #[4])
    (hfn : s.fn H (ds ++ gs) = { results := [.lit (.bool true)], args := ds }) : s.post enc Tryz.prog f false true false false W args (.bool true) W' := by
  have hW' := hW
  have hlt : ∀ p ∈ before, p.block < W.heap.size := fun p hp => hW.lt p hp
  obtain ⟨p, q, hA, hV, rfl, _, _⟩ := hW
  rw [hv] at hV
  obtain ⟨rfl, rfl⟩ := trodVars_none hV
  refine ⟨ds, [], _, [], p, [], hW', ?_, ?_, ?_, World.keptBut_mono (fun x hx => ⟨hx, by simpa using hx⟩) (hb.frame (· ∈ p ++ [])), fun h => by cases h⟩
  · rw [hfn, hr]
    exact trodAll_mk1 (shut_bool (by kernel_rfl) true)
  · rw [hfn]
    exact Below.trodAll rowOut hb hts hA fun x hx => hlt x (by simp [hx])
  · rw [hv, hfn]; rfl
end Go.Proofs.YtgdmaikjaopddaaGreatDoor
