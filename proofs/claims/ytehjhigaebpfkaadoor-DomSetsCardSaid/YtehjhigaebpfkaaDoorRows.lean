/-
  NARROWER THAN 'FOR EVERY INPUT', by the rows' own cells (each row's printed sentence says how): DomFragments: laid · DomLimit: laid · DomOnce: laid · DomSets: laid · QueryClosest: laid · DomGiven: laid · ShadowHosts: laid · CloneRoots: laid · QueryFirst: laid · ShadowNested: laid.
  DERIVED. THE GIVEN ROWS OF THIS SEAT. 10 by the template 'for every input the law returns true; each argument reads behind the call as it read before'; 0 by the template 'total and deterministic' (their statements: YtehjhigaebpfkaaDoorTotals.lean).
  GIVEN WITH THE SEED: the statements are not yours to turn. If you find one false, say at which input.
  Laid BY PROGRAM, IN A SANDBOX (cutbox-rows.mjs): the forced cells as the released guide's own fill.sh prints them over the translation ffefa7a747422bcc… (all of the seat's roots in one cut). By AI agents, Wed Nov 11 2026. No macro, syntax, notation, axiom, sorry.
-/
import Derived.Test.YtehjhigaebpfkaaDoorChecked
import GoSem.Claim
import GoSem.ClaimJoined
import GoSem.ClaimMapViews
import Derived.JoinedTies
import Derived.KernelRfl
namespace Go.Proofs.YtehjhigaebpfkaaDoor
/- THE CELL 'sum', in the pinned program and in every row, IS THE sha256 OF THE DUMP (.gsa) THAT YtehjhigaebpfkaaDoorProg.lean LOADS. Nothing in Lean hashes anything: it is a label: what it is worth is what the hold of that sum in a sandbox is worth. -/
noncomputable def Tryd.pinned : Pinned := { name := "ytehjhigaebpfkaadoor", sum := "ffefa7a747422bcc67f2a44dfb4c1769c008a6debfa7239a171b018e5476cea0", checked := Tryd.checked }
namespace Rows
def none {H : Type} : Left H := { results := [], args := [] }

/- WHAT THE LISTED PACKAGE-LEVEL VARIABLES READ AS WHEN THE CALL BEGINS. Each datum BY PROGRAM (the guide's laid-datum.mjs) off the statement by which the dump's own 'gosem.cut.vars' lays the variable. In a bare row this is a premise. The card (YtehjhigaebpfkaaDoorCards.lean) ties it to the program's text. -/
def laid_unicode_White_Space {H : Type} : DataW H := .ptr (.agg [.slice [.agg [.lit (.int .u16 9), .lit (.int .u16 13), .lit (.int .u16 1)], .agg [.lit (.int .u16 32), .lit (.int .u16 133), .lit (.int .u16 101)], .agg [.lit (.int .u16 160), .lit (.int .u16 5760), .lit (.int .u16 5600)], .agg [.lit (.int .u16 8192), .lit (.int .u16 8202), .lit (.int .u16 1)], .agg [.lit (.int .u16 8232), .lit (.int .u16 8233), .lit (.int .u16 1)], .agg [.lit (.int .u16 8239), .lit (.int .u16 8287), .lit (.int .u16 48)], .agg [.lit (.int .u16 12288), .lit (.int .u16 12288), .lit (.int .u16 1)]] [], .nil, .lit (.int .i64 2)])
def laid_strings_asciiSpace {H : Type} : DataW H := .agg [.lit (.int .u8 0), .lit (.int .u8 0), .lit (.int .u8 0), .lit (.int .u8 0), .lit (.int .u8 0), .lit (.int .u8 0), .lit (.int .u8 0), .lit (.int .u8 0), .lit (.int .u8 0), .lit (.int .u8 1), .lit (.int .u8 1), .lit (.int .u8 1), .lit (.int .u8 1), .lit (.int .u8 1), .lit (.int .u8 0), .lit (.int .u8 0), .lit (.int .u8 0), .lit (.int .u8 0), .lit (.int .u8 0), .lit (.int .u8 0), .lit (.int .u8 0), .lit (.int .u8 0), .lit (.int .u8 0), .lit (.int .u8 0), .lit (.int .u8 0), .lit (.int .u8 0), .lit (.int .u8 0), .lit (.int .u8 0), .lit (.int .u8 0), .lit (.int .u8 0), .lit (.int .u8 0), .lit (.int .u8 0), .lit (.int .u8 1), .lit (.int .u8 0), .lit (.int .u8 0), .lit (.int .u8 0), .lit (.int .u8 0), .lit (.int .u8 0), .lit (.int .u8 0), .lit (.int .u8 0), .lit (.int .u8 0), .lit (.int .u8 0), .lit (.int .u8 0), .lit (.int .u8 0), .lit (.int .u8 0), .lit (.int .u8 0), .lit (.int .u8 0), .lit (.int .u8 0), .lit (.int .u8 0), .lit (.int .u8 0), .lit (.int .u8 0), .lit (.int .u8 0), .lit (.int .u8 0), .lit (.int .u8 0), .lit (.int .u8 0), .lit (.int .u8 0), .lit (.int .u8 0), .lit (.int .u8 0), .lit (.int .u8 0), .lit (.int .u8 0), .lit (.int .u8 0), .lit (.int .u8 0), .lit (.int .u8 0), .lit (.int .u8 0), .lit (.int .u8 0), .lit (.int .u8 0), .lit (.int .u8 0), .lit (.int .u8 0), .lit (.int .u8 0), .lit (.int .u8 0), .lit (.int .u8 0), .lit (.int .u8 0), .lit (.int .u8 0), .lit (.int .u8 0), .lit (.int .u8 0), .lit (.int .u8 0), .lit (.int .u8 0), .lit (.int .u8 0), .lit (.int .u8 0), .lit (.int .u8 0), .lit (.int .u8 0), .lit (.int .u8 0), .lit (.int .u8 0), .lit (.int .u8 0), .lit (.int .u8 0), .lit (.int .u8 0), .lit (.int .u8 0), .lit (.int .u8 0), .lit (.int .u8 0), .lit (.int .u8 0), .lit (.int .u8 0), .lit (.int .u8 0), .lit (.int .u8 0), .lit (.int .u8 0), .lit (.int .u8 0), .lit (.int .u8 0), .lit (.int .u8 0), .lit (.int .u8 0), .lit (.int .u8 0), .lit (.int .u8 0), .lit (.int .u8 0), .lit (.int .u8 0), .lit (.int .u8 0), .lit (.int .u8 0), .lit (.int .u8 0), .lit (.int .u8 0), .lit (.int .u8 0), .lit (.int .u8 0), .lit (.int .u8 0), .lit (.int .u8 0), .lit (.int .u8 0), .lit (.int .u8 0), .lit (.int .u8 0), .lit (.int .u8 0), .lit (.int .u8 0), .lit (.int .u8 0), .lit (.int .u8 0), .lit (.int .u8 0), .lit (.int .u8 0), .lit (.int .u8 0), .lit (.int .u8 0), .lit (.int .u8 0), .lit (.int .u8 0), .lit (.int .u8 0), .lit (.int .u8 0), .lit (.int .u8 0), .lit (.int .u8 0), .lit (.int .u8 0), .lit (.int .u8 0), .lit (.int .u8 0), .lit (.int .u8 0), .lit (.int .u8 0), .lit (.int .u8 0), .lit (.int .u8 0), .lit (.int .u8 0), .lit (.int .u8 0), .lit (.int .u8 0), .lit (.int .u8 0), .lit (.int .u8 0), .lit (.int .u8 0), .lit (.int .u8 0), .lit (.int .u8 0), .lit (.int .u8 0), .lit (.int .u8 0), .lit (.int .u8 0), .lit (.int .u8 0), .lit (.int .u8 0), .lit (.int .u8 0), .lit (.int .u8 0), .lit (.int .u8 0), .lit (.int .u8 0), .lit (.int .u8 0), .lit (.int .u8 0), .lit (.int .u8 0), .lit (.int .u8 0), .lit (.int .u8 0), .lit (.int .u8 0), .lit (.int .u8 0), .lit (.int .u8 0), .lit (.int .u8 0), .lit (.int .u8 0), .lit (.int .u8 0), .lit (.int .u8 0), .lit (.int .u8 0), .lit (.int .u8 0), .lit (.int .u8 0), .lit (.int .u8 0), .lit (.int .u8 0), .lit (.int .u8 0), .lit (.int .u8 0), .lit (.int .u8 0), .lit (.int .u8 0), .lit (.int .u8 0), .lit (.int .u8 0), .lit (.int .u8 0), .lit (.int .u8 0), .lit (.int .u8 0), .lit (.int .u8 0), .lit (.int .u8 0), .lit (.int .u8 0), .lit (.int .u8 0), .lit (.int .u8 0), .lit (.int .u8 0), .lit (.int .u8 0), .lit (.int .u8 0), .lit (.int .u8 0), .lit (.int .u8 0), .lit (.int .u8 0), .lit (.int .u8 0), .lit (.int .u8 0), .lit (.int .u8 0), .lit (.int .u8 0), .lit (.int .u8 0), .lit (.int .u8 0), .lit (.int .u8 0), .lit (.int .u8 0), .lit (.int .u8 0), .lit (.int .u8 0), .lit (.int .u8 0), .lit (.int .u8 0), .lit (.int .u8 0), .lit (.int .u8 0), .lit (.int .u8 0), .lit (.int .u8 0), .lit (.int .u8 0), .lit (.int .u8 0), .lit (.int .u8 0), .lit (.int .u8 0), .lit (.int .u8 0), .lit (.int .u8 0), .lit (.int .u8 0), .lit (.int .u8 0), .lit (.int .u8 0), .lit (.int .u8 0), .lit (.int .u8 0), .lit (.int .u8 0), .lit (.int .u8 0), .lit (.int .u8 0), .lit (.int .u8 0), .lit (.int .u8 0), .lit (.int .u8 0), .lit (.int .u8 0), .lit (.int .u8 0), .lit (.int .u8 0), .lit (.int .u8 0), .lit (.int .u8 0), .lit (.int .u8 0), .lit (.int .u8 0), .lit (.int .u8 0), .lit (.int .u8 0), .lit (.int .u8 0), .lit (.int .u8 0), .lit (.int .u8 0), .lit (.int .u8 0), .lit (.int .u8 0), .lit (.int .u8 0), .lit (.int .u8 0), .lit (.int .u8 0), .lit (.int .u8 0), .lit (.int .u8 0), .lit (.int .u8 0), .lit (.int .u8 0), .lit (.int .u8 0), .lit (.int .u8 0), .lit (.int .u8 0), .lit (.int .u8 0), .lit (.int .u8 0), .lit (.int .u8 0), .lit (.int .u8 0), .lit (.int .u8 0), .lit (.int .u8 0), .lit (.int .u8 0), .lit (.int .u8 0), .lit (.int .u8 0), .lit (.int .u8 0), .lit (.int .u8 0)]

/-- 'portierelaw08.DomFragments': WHATEVER THE INPUT: true; the input reads as it did. -/
def domFragmentsSpec : ChangeSpec := { name := "domFragments", fn := fun _ => fun
  | [d1, d2, d3] => { results := [.lit (.bool true)], args := [d1, d2, d3] }
  | _ => none }
def domFragmentsRow : OpenClaim := { program := "ytehjhigaebpfkaadoor", sum := "ffefa7a747422bcc67f2a44dfb4c1769c008a6debfa7239a171b018e5476cea0", func := "portiere/portierelaw08.DomFragments", spec := "domFragments", inPlace := ["internal/bytealg.IndexByteString", "internal/bytealg.IndexString"], unfollowed := true, recurses := true, named := ["strings.asciiSpace", "unicode.White_Space", "internal/bytealg.MaxLen"], apart := false, laid := [("unicode.White_Space", laid_unicode_White_Space), ("strings.asciiSpace", laid_strings_asciiSpace)] }
def DomFragmentsSaid : Prop := domFragmentsRow.holds Tryd.pinned (OpenSpec.ofChange domFragmentsSpec)

/-- ITS FALSE NEIGHBOUR: 'it returns false'. Refute it at one input. -/
def domFragmentsWrong : ChangeSpec := { name := "domFragments", fn := fun _ => fun
  | [d1, d2, d3] => { results := [.lit (.bool false)], args := [d1, d2, d3] }
  | _ => none }
def DomFragmentsWrongFalsely : Prop := domFragmentsRow.holds Tryd.pinned (OpenSpec.ofChange domFragmentsWrong)

/-- 'portierelaw08.DomLimit': WHATEVER THE INPUT: true; the input reads as it did. -/
def domLimitSpec : ChangeSpec := { name := "domLimit", fn := fun _ => fun
  | [d1, d2] => { results := [.lit (.bool true)], args := [d1, d2] }
  | _ => none }
def domLimitRow : OpenClaim := { program := "ytehjhigaebpfkaadoor", sum := "ffefa7a747422bcc67f2a44dfb4c1769c008a6debfa7239a171b018e5476cea0", func := "portiere/portierelaw08.DomLimit", spec := "domLimit", inPlace := ["internal/bytealg.IndexByteString", "internal/bytealg.IndexString"], unfollowed := true, recurses := true, named := ["strings.asciiSpace", "unicode.White_Space", "internal/bytealg.MaxLen"], apart := false, laid := [("unicode.White_Space", laid_unicode_White_Space), ("strings.asciiSpace", laid_strings_asciiSpace)] }
def DomLimitSaid : Prop := domLimitRow.holds Tryd.pinned (OpenSpec.ofChange domLimitSpec)

/-- ITS FALSE NEIGHBOUR: 'it returns false'. Refute it at one input. -/
def domLimitWrong : ChangeSpec := { name := "domLimit", fn := fun _ => fun
  | [d1, d2] => { results := [.lit (.bool false)], args := [d1, d2] }
  | _ => none }
def DomLimitWrongFalsely : Prop := domLimitRow.holds Tryd.pinned (OpenSpec.ofChange domLimitWrong)

/-- 'portierelaw08.DomOnce': WHATEVER THE INPUT: true; the input reads as it did. -/
def domOnceSpec : ChangeSpec := { name := "domOnce", fn := fun _ => fun
  | [d1, d2] => { results := [.lit (.bool true)], args := [d1, d2] }
  | _ => none }
def domOnceRow : OpenClaim := { program := "ytehjhigaebpfkaadoor", sum := "ffefa7a747422bcc67f2a44dfb4c1769c008a6debfa7239a171b018e5476cea0", func := "portiere/portierelaw08.DomOnce", spec := "domOnce", inPlace := ["internal/bytealg.IndexByteString", "internal/bytealg.IndexString"], unfollowed := true, recurses := true, named := ["strings.asciiSpace", "unicode.White_Space", "internal/bytealg.MaxLen"], apart := false, laid := [("unicode.White_Space", laid_unicode_White_Space), ("strings.asciiSpace", laid_strings_asciiSpace)] }
def DomOnceSaid : Prop := domOnceRow.holds Tryd.pinned (OpenSpec.ofChange domOnceSpec)

/-- ITS FALSE NEIGHBOUR: 'it returns false'. Refute it at one input. -/
def domOnceWrong : ChangeSpec := { name := "domOnce", fn := fun _ => fun
  | [d1, d2] => { results := [.lit (.bool false)], args := [d1, d2] }
  | _ => none }
def DomOnceWrongFalsely : Prop := domOnceRow.holds Tryd.pinned (OpenSpec.ofChange domOnceWrong)

/-- 'portierelaw08.DomSets': WHATEVER THE INPUT: true; the input reads as it did. -/
def domSetsSpec : ChangeSpec := { name := "domSets", fn := fun _ => fun
  | [d1, d2, d3] => { results := [.lit (.bool true)], args := [d1, d2, d3] }
  | _ => none }
def domSetsRow : OpenClaim := { program := "ytehjhigaebpfkaadoor", sum := "ffefa7a747422bcc67f2a44dfb4c1769c008a6debfa7239a171b018e5476cea0", func := "portiere/portierelaw08.DomSets", spec := "domSets", inPlace := ["internal/bytealg.IndexByteString", "internal/bytealg.IndexString"], unfollowed := true, recurses := true, named := ["strings.asciiSpace", "unicode.White_Space", "internal/bytealg.MaxLen"], apart := false, laid := [("unicode.White_Space", laid_unicode_White_Space), ("strings.asciiSpace", laid_strings_asciiSpace)] }
def DomSetsSaid : Prop := domSetsRow.holds Tryd.pinned (OpenSpec.ofChange domSetsSpec)

/-- ITS FALSE NEIGHBOUR: 'it returns false'. Refute it at one input. -/
def domSetsWrong : ChangeSpec := { name := "domSets", fn := fun _ => fun
  | [d1, d2, d3] => { results := [.lit (.bool false)], args := [d1, d2, d3] }
  | _ => none }
def DomSetsWrongFalsely : Prop := domSetsRow.holds Tryd.pinned (OpenSpec.ofChange domSetsWrong)

/-- 'portierelaw18.QueryClosest': WHATEVER THE INPUT: true; the input reads as it did. -/
def queryClosestSpec : ChangeSpec := { name := "queryClosest", fn := fun _ => fun
  | [d1, d2] => { results := [.lit (.bool true)], args := [d1, d2] }
  | _ => none }
def queryClosestRow : OpenClaim := { program := "ytehjhigaebpfkaadoor", sum := "ffefa7a747422bcc67f2a44dfb4c1769c008a6debfa7239a171b018e5476cea0", func := "portiere/portierelaw18.QueryClosest", spec := "queryClosest", inPlace := ["internal/bytealg.IndexByteString", "internal/bytealg.IndexString"], unfollowed := true, recurses := true, named := ["strings.asciiSpace", "unicode.White_Space", "internal/bytealg.MaxLen"], apart := false, laid := [("unicode.White_Space", laid_unicode_White_Space), ("strings.asciiSpace", laid_strings_asciiSpace)] }
def QueryClosestSaid : Prop := queryClosestRow.holds Tryd.pinned (OpenSpec.ofChange queryClosestSpec)

/-- ITS FALSE NEIGHBOUR: 'it returns false'. Refute it at one input. -/
def queryClosestWrong : ChangeSpec := { name := "queryClosest", fn := fun _ => fun
  | [d1, d2] => { results := [.lit (.bool false)], args := [d1, d2] }
  | _ => none }
def QueryClosestWrongFalsely : Prop := queryClosestRow.holds Tryd.pinned (OpenSpec.ofChange queryClosestWrong)

/-- 'portierelaw08.DomGiven': WHATEVER THE INPUT: true; the input reads as it did. -/
def domGivenSpec : ChangeSpec := { name := "domGiven", fn := fun _ => fun
  | [d] => { results := [.lit (.bool true)], args := [d] }
  | _ => none }
def domGivenRow : OpenClaim := { program := "ytehjhigaebpfkaadoor", sum := "ffefa7a747422bcc67f2a44dfb4c1769c008a6debfa7239a171b018e5476cea0", func := "portiere/portierelaw08.DomGiven", spec := "domGiven", inPlace := ["internal/bytealg.IndexByteString", "internal/bytealg.IndexString"], unfollowed := true, recurses := true, named := ["strings.asciiSpace", "unicode.White_Space", "internal/bytealg.MaxLen"], apart := false, laid := [("unicode.White_Space", laid_unicode_White_Space), ("strings.asciiSpace", laid_strings_asciiSpace)] }
def DomGivenSaid : Prop := domGivenRow.holds Tryd.pinned (OpenSpec.ofChange domGivenSpec)

/-- ITS FALSE NEIGHBOUR: 'it returns false'. Refute it at one input. -/
def domGivenWrong : ChangeSpec := { name := "domGiven", fn := fun _ => fun
  | [d] => { results := [.lit (.bool false)], args := [d] }
  | _ => none }
def DomGivenWrongFalsely : Prop := domGivenRow.holds Tryd.pinned (OpenSpec.ofChange domGivenWrong)

/-- 'portierelaw10.ShadowHosts': WHATEVER THE INPUT: true; the input reads as it did. -/
def shadowHostsSpec : ChangeSpec := { name := "shadowHosts", fn := fun _ => fun
  | [d1, d2] => { results := [.lit (.bool true)], args := [d1, d2] }
  | _ => none }
def shadowHostsRow : OpenClaim := { program := "ytehjhigaebpfkaadoor", sum := "ffefa7a747422bcc67f2a44dfb4c1769c008a6debfa7239a171b018e5476cea0", func := "portiere/portierelaw10.ShadowHosts", spec := "shadowHosts", inPlace := ["internal/bytealg.IndexByteString", "internal/bytealg.IndexString"], unfollowed := true, recurses := true, named := ["strings.asciiSpace", "unicode.White_Space", "internal/bytealg.MaxLen"], apart := false, laid := [("unicode.White_Space", laid_unicode_White_Space), ("strings.asciiSpace", laid_strings_asciiSpace)] }
def ShadowHostsSaid : Prop := shadowHostsRow.holds Tryd.pinned (OpenSpec.ofChange shadowHostsSpec)

/-- ITS FALSE NEIGHBOUR: 'it returns false'. Refute it at one input. -/
def shadowHostsWrong : ChangeSpec := { name := "shadowHosts", fn := fun _ => fun
  | [d1, d2] => { results := [.lit (.bool false)], args := [d1, d2] }
  | _ => none }
def ShadowHostsWrongFalsely : Prop := shadowHostsRow.holds Tryd.pinned (OpenSpec.ofChange shadowHostsWrong)

/-- 'portierelaw15.CloneRoots': WHATEVER THE INPUT: true; the input reads as it did. -/
def cloneRootsSpec : ChangeSpec := { name := "cloneRoots", fn := fun _ => fun
  | [d1, d2, d3] => { results := [.lit (.bool true)], args := [d1, d2, d3] }
  | _ => none }
def cloneRootsRow : OpenClaim := { program := "ytehjhigaebpfkaadoor", sum := "ffefa7a747422bcc67f2a44dfb4c1769c008a6debfa7239a171b018e5476cea0", func := "portiere/portierelaw15.CloneRoots", spec := "cloneRoots", inPlace := ["internal/bytealg.IndexByteString", "internal/bytealg.IndexString"], unfollowed := true, recurses := true, named := ["strings.asciiSpace", "unicode.White_Space", "internal/bytealg.MaxLen"], apart := false, laid := [("unicode.White_Space", laid_unicode_White_Space), ("strings.asciiSpace", laid_strings_asciiSpace)] }
def CloneRootsSaid : Prop := cloneRootsRow.holds Tryd.pinned (OpenSpec.ofChange cloneRootsSpec)

/-- ITS FALSE NEIGHBOUR: 'it returns false'. Refute it at one input. -/
def cloneRootsWrong : ChangeSpec := { name := "cloneRoots", fn := fun _ => fun
  | [d1, d2, d3] => { results := [.lit (.bool false)], args := [d1, d2, d3] }
  | _ => none }
def CloneRootsWrongFalsely : Prop := cloneRootsRow.holds Tryd.pinned (OpenSpec.ofChange cloneRootsWrong)

/-- 'portierelaw18.QueryFirst': WHATEVER THE INPUT: true; the input reads as it did. -/
def queryFirstSpec : ChangeSpec := { name := "queryFirst", fn := fun _ => fun
  | [d1, d2, d3] => { results := [.lit (.bool true)], args := [d1, d2, d3] }
  | _ => none }
def queryFirstRow : OpenClaim := { program := "ytehjhigaebpfkaadoor", sum := "ffefa7a747422bcc67f2a44dfb4c1769c008a6debfa7239a171b018e5476cea0", func := "portiere/portierelaw18.QueryFirst", spec := "queryFirst", inPlace := ["internal/bytealg.IndexByteString", "internal/bytealg.IndexString"], unfollowed := true, recurses := true, named := ["strings.asciiSpace", "unicode.White_Space", "internal/bytealg.MaxLen"], apart := false, laid := [("unicode.White_Space", laid_unicode_White_Space), ("strings.asciiSpace", laid_strings_asciiSpace)] }
def QueryFirstSaid : Prop := queryFirstRow.holds Tryd.pinned (OpenSpec.ofChange queryFirstSpec)

/-- ITS FALSE NEIGHBOUR: 'it returns false'. Refute it at one input. -/
def queryFirstWrong : ChangeSpec := { name := "queryFirst", fn := fun _ => fun
  | [d1, d2, d3] => { results := [.lit (.bool false)], args := [d1, d2, d3] }
  | _ => none }
def QueryFirstWrongFalsely : Prop := queryFirstRow.holds Tryd.pinned (OpenSpec.ofChange queryFirstWrong)

/-- 'portierelaw10.ShadowNested': WHATEVER THE INPUT: true; the input reads as it did. -/
def shadowNestedSpec : ChangeSpec := { name := "shadowNested", fn := fun _ => fun
  | [d1, d2] => { results := [.lit (.bool true)], args := [d1, d2] }
  | _ => none }
def shadowNestedRow : OpenClaim := { program := "ytehjhigaebpfkaadoor", sum := "ffefa7a747422bcc67f2a44dfb4c1769c008a6debfa7239a171b018e5476cea0", func := "portiere/portierelaw10.ShadowNested", spec := "shadowNested", inPlace := ["internal/bytealg.IndexByteString", "internal/bytealg.IndexString"], unfollowed := true, recurses := true, named := ["strings.asciiSpace", "unicode.White_Space", "internal/bytealg.MaxLen"], apart := false, laid := [("unicode.White_Space", laid_unicode_White_Space), ("strings.asciiSpace", laid_strings_asciiSpace)] }
def ShadowNestedSaid : Prop := shadowNestedRow.holds Tryd.pinned (OpenSpec.ofChange shadowNestedSpec)

/-- ITS FALSE NEIGHBOUR: 'it returns false'. Refute it at one input. -/
def shadowNestedWrong : ChangeSpec := { name := "shadowNested", fn := fun _ => fun
  | [d1, d2] => { results := [.lit (.bool false)], args := [d1, d2] }
  | _ => none }
def ShadowNestedWrongFalsely : Prop := shadowNestedRow.holds Tryd.pinned (OpenSpec.ofChange shadowNestedWrong)

/- THE SECOND FORM. 'bulk': how many values and letters a reading holds, each counted each time it is reached (what is shared counts as often as it is met; a slice's spare places count too). A statement '..UptoSaid' is the law's where the arguments, and the package variables that the reading takes, are together of bulk at most 1048576: NARROWER than '..Said'. Prove '..Said' where nothing that the law and all that it calls make is longer than what came in: it says more and counts as full. Else prove '..UptoSaid'. A law counts once. -/
mutual
def uptoBulk {H : Type} : DataW H → Nat
  | .lit (.string bytes) => bytes.length + 1
  | .lit _ => 1
  | .nil => 1
  | .ptr d => uptoBulk d + 1
  | .slice elems spare => uptoBulkAll elems + uptoBulkAll spare + 1
  | .agg parts => uptoBulkAll parts + 1
  | .iface _ d => uptoBulk d + 1
  | .map entries => uptoBulkEntries entries + 1
  | .held _ => 1
def uptoBulkAll {H : Type} : List (DataW H) → Nat
  | [] => 0
  | d :: r => uptoBulk d + uptoBulkAll r
def uptoBulkEntries {H : Type} : List (Lit × DataW H) → Nat
  | [] => 0
  | x :: r => uptoBulkEntry x + uptoBulkEntries r
def uptoBulkEntry {H : Type} : Lit × DataW H → Nat
  | (.string bytes, d) => bytes.length + uptoBulk d + 1
  | (_, d) => uptoBulk d + 1
 end
def uptoSmall : (H : Type) → List (DataW H) → Bool := fun _ ds => decide (uptoBulkAll ds ≤ 1048576)
def OpenSpec.upto (s : _root_.Go.ChangeSpec) : _root_.Go.OpenSpec := { _root_.Go.OpenSpec.ofChange s with cond := some uptoSmall }

/-- 'portierelaw08.DomFragments', WHERE WHAT IT READS IS OF BULK AT MOST 1048576: true; the input reads as it did. -/
def domFragmentsUptoRow : OpenClaim := { program := "ytehjhigaebpfkaadoor", sum := "ffefa7a747422bcc67f2a44dfb4c1769c008a6debfa7239a171b018e5476cea0", func := "portiere/portierelaw08.DomFragments", spec := "domFragments", inPlace := ["internal/bytealg.IndexByteString", "internal/bytealg.IndexString"], unfollowed := true, recurses := true, named := ["strings.asciiSpace", "unicode.White_Space", "internal/bytealg.MaxLen"], apart := false, laid := [("unicode.White_Space", laid_unicode_White_Space), ("strings.asciiSpace", laid_strings_asciiSpace)], narrowed := true }
def DomFragmentsUptoSaid : Prop := domFragmentsUptoRow.holds Tryd.pinned (OpenSpec.upto domFragmentsSpec)

/-- 'portierelaw08.DomLimit', WHERE WHAT IT READS IS OF BULK AT MOST 1048576: true; the input reads as it did. -/
def domLimitUptoRow : OpenClaim := { program := "ytehjhigaebpfkaadoor", sum := "ffefa7a747422bcc67f2a44dfb4c1769c008a6debfa7239a171b018e5476cea0", func := "portiere/portierelaw08.DomLimit", spec := "domLimit", inPlace := ["internal/bytealg.IndexByteString", "internal/bytealg.IndexString"], unfollowed := true, recurses := true, named := ["strings.asciiSpace", "unicode.White_Space", "internal/bytealg.MaxLen"], apart := false, laid := [("unicode.White_Space", laid_unicode_White_Space), ("strings.asciiSpace", laid_strings_asciiSpace)], narrowed := true }
def DomLimitUptoSaid : Prop := domLimitUptoRow.holds Tryd.pinned (OpenSpec.upto domLimitSpec)

/-- 'portierelaw08.DomOnce', WHERE WHAT IT READS IS OF BULK AT MOST 1048576: true; the input reads as it did. -/
def domOnceUptoRow : OpenClaim := { program := "ytehjhigaebpfkaadoor", sum := "ffefa7a747422bcc67f2a44dfb4c1769c008a6debfa7239a171b018e5476cea0", func := "portiere/portierelaw08.DomOnce", spec := "domOnce", inPlace := ["internal/bytealg.IndexByteString", "internal/bytealg.IndexString"], unfollowed := true, recurses := true, named := ["strings.asciiSpace", "unicode.White_Space", "internal/bytealg.MaxLen"], apart := false, laid := [("unicode.White_Space", laid_unicode_White_Space), ("strings.asciiSpace", laid_strings_asciiSpace)], narrowed := true }
def DomOnceUptoSaid : Prop := domOnceUptoRow.holds Tryd.pinned (OpenSpec.upto domOnceSpec)

/-- 'portierelaw08.DomSets', WHERE WHAT IT READS IS OF BULK AT MOST 1048576: true; the input reads as it did. -/
def domSetsUptoRow : OpenClaim := { program := "ytehjhigaebpfkaadoor", sum := "ffefa7a747422bcc67f2a44dfb4c1769c008a6debfa7239a171b018e5476cea0", func := "portiere/portierelaw08.DomSets", spec := "domSets", inPlace := ["internal/bytealg.IndexByteString", "internal/bytealg.IndexString"], unfollowed := true, recurses := true, named := ["strings.asciiSpace", "unicode.White_Space", "internal/bytealg.MaxLen"], apart := false, laid := [("unicode.White_Space", laid_unicode_White_Space), ("strings.asciiSpace", laid_strings_asciiSpace)], narrowed := true }
def DomSetsUptoSaid : Prop := domSetsUptoRow.holds Tryd.pinned (OpenSpec.upto domSetsSpec)

/-- 'portierelaw18.QueryClosest', WHERE WHAT IT READS IS OF BULK AT MOST 1048576: true; the input reads as it did. -/
def queryClosestUptoRow : OpenClaim := { program := "ytehjhigaebpfkaadoor", sum := "ffefa7a747422bcc67f2a44dfb4c1769c008a6debfa7239a171b018e5476cea0", func := "portiere/portierelaw18.QueryClosest", spec := "queryClosest", inPlace := ["internal/bytealg.IndexByteString", "internal/bytealg.IndexString"], unfollowed := true, recurses := true, named := ["strings.asciiSpace", "unicode.White_Space", "internal/bytealg.MaxLen"], apart := false, laid := [("unicode.White_Space", laid_unicode_White_Space), ("strings.asciiSpace", laid_strings_asciiSpace)], narrowed := true }
def QueryClosestUptoSaid : Prop := queryClosestUptoRow.holds Tryd.pinned (OpenSpec.upto queryClosestSpec)

/-- 'portierelaw08.DomGiven', WHERE WHAT IT READS IS OF BULK AT MOST 1048576: true; the input reads as it did. -/
def domGivenUptoRow : OpenClaim := { program := "ytehjhigaebpfkaadoor", sum := "ffefa7a747422bcc67f2a44dfb4c1769c008a6debfa7239a171b018e5476cea0", func := "portiere/portierelaw08.DomGiven", spec := "domGiven", inPlace := ["internal/bytealg.IndexByteString", "internal/bytealg.IndexString"], unfollowed := true, recurses := true, named := ["strings.asciiSpace", "unicode.White_Space", "internal/bytealg.MaxLen"], apart := false, laid := [("unicode.White_Space", laid_unicode_White_Space), ("strings.asciiSpace", laid_strings_asciiSpace)], narrowed := true }
def DomGivenUptoSaid : Prop := domGivenUptoRow.holds Tryd.pinned (OpenSpec.upto domGivenSpec)

/-- 'portierelaw10.ShadowHosts', WHERE WHAT IT READS IS OF BULK AT MOST 1048576: true; the input reads as it did. -/
def shadowHostsUptoRow : OpenClaim := { program := "ytehjhigaebpfkaadoor", sum := "ffefa7a747422bcc67f2a44dfb4c1769c008a6debfa7239a171b018e5476cea0", func := "portiere/portierelaw10.ShadowHosts", spec := "shadowHosts", inPlace := ["internal/bytealg.IndexByteString", "internal/bytealg.IndexString"], unfollowed := true, recurses := true, named := ["strings.asciiSpace", "unicode.White_Space", "internal/bytealg.MaxLen"], apart := false, laid := [("unicode.White_Space", laid_unicode_White_Space), ("strings.asciiSpace", laid_strings_asciiSpace)], narrowed := true }
def ShadowHostsUptoSaid : Prop := shadowHostsUptoRow.holds Tryd.pinned (OpenSpec.upto shadowHostsSpec)

/-- 'portierelaw15.CloneRoots', WHERE WHAT IT READS IS OF BULK AT MOST 1048576: true; the input reads as it did. -/
def cloneRootsUptoRow : OpenClaim := { program := "ytehjhigaebpfkaadoor", sum := "ffefa7a747422bcc67f2a44dfb4c1769c008a6debfa7239a171b018e5476cea0", func := "portiere/portierelaw15.CloneRoots", spec := "cloneRoots", inPlace := ["internal/bytealg.IndexByteString", "internal/bytealg.IndexString"], unfollowed := true, recurses := true, named := ["strings.asciiSpace", "unicode.White_Space", "internal/bytealg.MaxLen"], apart := false, laid := [("unicode.White_Space", laid_unicode_White_Space), ("strings.asciiSpace", laid_strings_asciiSpace)], narrowed := true }
def CloneRootsUptoSaid : Prop := cloneRootsUptoRow.holds Tryd.pinned (OpenSpec.upto cloneRootsSpec)

/-- 'portierelaw18.QueryFirst', WHERE WHAT IT READS IS OF BULK AT MOST 1048576: true; the input reads as it did. -/
def queryFirstUptoRow : OpenClaim := { program := "ytehjhigaebpfkaadoor", sum := "ffefa7a747422bcc67f2a44dfb4c1769c008a6debfa7239a171b018e5476cea0", func := "portiere/portierelaw18.QueryFirst", spec := "queryFirst", inPlace := ["internal/bytealg.IndexByteString", "internal/bytealg.IndexString"], unfollowed := true, recurses := true, named := ["strings.asciiSpace", "unicode.White_Space", "internal/bytealg.MaxLen"], apart := false, laid := [("unicode.White_Space", laid_unicode_White_Space), ("strings.asciiSpace", laid_strings_asciiSpace)], narrowed := true }
def QueryFirstUptoSaid : Prop := queryFirstUptoRow.holds Tryd.pinned (OpenSpec.upto queryFirstSpec)

/-- 'portierelaw10.ShadowNested', WHERE WHAT IT READS IS OF BULK AT MOST 1048576: true; the input reads as it did. -/
def shadowNestedUptoRow : OpenClaim := { program := "ytehjhigaebpfkaadoor", sum := "ffefa7a747422bcc67f2a44dfb4c1769c008a6debfa7239a171b018e5476cea0", func := "portiere/portierelaw10.ShadowNested", spec := "shadowNested", inPlace := ["internal/bytealg.IndexByteString", "internal/bytealg.IndexString"], unfollowed := true, recurses := true, named := ["strings.asciiSpace", "unicode.White_Space", "internal/bytealg.MaxLen"], apart := false, laid := [("unicode.White_Space", laid_unicode_White_Space), ("strings.asciiSpace", laid_strings_asciiSpace)], narrowed := true }
def ShadowNestedUptoSaid : Prop := shadowNestedUptoRow.holds Tryd.pinned (OpenSpec.upto shadowNestedSpec)

end Rows
end Go.Proofs.YtehjhigaebpfkaaDoor
