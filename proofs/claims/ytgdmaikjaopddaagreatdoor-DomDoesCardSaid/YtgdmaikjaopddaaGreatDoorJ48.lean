/- The law's own function Does: any call, on both. -/
import Derived.Test.YtgdmaikjaopddaaGreatDoorJ36
import Derived.Test.YtgdmaikjaopddaaGreatDoorJ37
import Derived.Test.YtgdmaikjaopddaaGreatDoorJ38
import Derived.Test.YtgdmaikjaopddaaGreatDoorJ39
import Derived.Test.YtgdmaikjaopddaaGreatDoorJ40
import Derived.Test.YtgdmaikjaopddaaGreatDoorJ41
import Derived.Test.YtgdmaikjaopddaaGreatDoorJ42
import Derived.Test.YtgdmaikjaopddaaGreatDoorJ43
import Derived.Test.YtgdmaikjaopddaaGreatDoorJ44
import Derived.Test.YtgdmaikjaopddaaGreatDoorJ45
import Derived.Test.YtgdmaikjaopddaaGreatDoorJ47
namespace Go.Proofs.YtgdmaikjaopddaaGreatDoor
open Go.RowKit

/-- a document behind a call -/
noncomputable def Doc.doesD (A : Doc) (o : OpV) : Doc :=
  if o.kind % 16 < 5 then A.makeD (nodeK o.nk o.inn) (nodeN o.nk o.nm o.inn) (nodeD o.nk o.da o.inn) (nodeA o.na o.inn)
  else if o.kind % 16 = 5 ∨ o.kind % 16 = 6 ∨ o.kind % 16 = 7 then A.insertA (o.within A.n).a (o.within A.n).b (o.within A.n).c
  else if o.kind % 16 = 8 then A.removeA (o.within A.n).a
  else if o.kind % 16 = 9 then (if A.rootE (o.within A.n).a = 0 then A.rooted (o.within A.n).a (o.within A.n).f else A)
  else if o.kind % 16 = 10 then A.setA (o.within A.n).a (o.within A.n).s (o.within A.n).t
  else if o.kind % 16 = 11 then A.dropA (o.within A.n).a (o.within A.n).s
  else if o.kind % 16 = 12 then A.writeA (o.within A.n).a (o.within A.n).s
  else if o.kind % 16 = 15 then A
  else A.giveD (o.within A.n).a (o.within A.n).l
section
variable {W w : World} {rs : List Res} {p q : Nat} {A : Doc}
theorem docA_wf (h : Sep W w (docA p A :: rs)) : WF A := (docA_open h).1
theorem does_any (h : Sep W w (docA p A :: refA q A :: rs)) (hT : Laid W) (o : OpV) (A1 : Option Addr) (c1 : Nat) (A2 : Option Addr) (c2 : Nat) (hok : OpOk W o A1 c1 A2 c2) :
    Calls Tryz.prog 19 #[ptr p, ptr q, .agg (o.cells A1 c1 A2 c2)] w fun e w' => e = .returned (int 1) ∧ Sep W w' (docA p (A.doesD o) :: refA q (A.doesD o) :: rs) := by
  have hw := docA_wf h
  have h0 := hok.kind0
  have h1 := hok.kind1
  unfold Doc.doesD
  by_cases h5 : o.kind % 16 < 5
  · rw [if_pos h5]; exact does_make h hw hT o A1 c1 A2 c2 hok h5
  rw [if_neg h5]
  by_cases h7 : o.kind % 16 = 5 ∨ o.kind % 16 = 6 ∨ o.kind % 16 = 7
  · rw [if_pos h7]
    rcases h7 with h7 | h7 | h7
    · exact does_ins5 h hw hT o A1 c1 A2 c2 hok h7
    · exact does_ins6 h hw hT o A1 c1 A2 c2 hok h7
    · exact does_ins7 h hw hT o A1 c1 A2 c2 hok h7
  rw [if_neg h7]
  by_cases h8 : o.kind % 16 = 8
  · rw [if_pos h8]; exact does_remove h hw hT o A1 c1 A2 c2 hok h8
  rw [if_neg h8]
  by_cases h9 : o.kind % 16 = 9
  · rw [if_pos h9]
    by_cases hE : A.rootE (o.within A.n).a = 0
    · rw [if_pos hE]; exact does_root_yes h hw hT o A1 c1 A2 c2 hok h9 hE
    · rw [if_neg hE]; exact does_root_no h hw hT o A1 c1 A2 c2 hok h9 hE
  rw [if_neg h9]
  by_cases h10 : o.kind % 16 = 10
  · rw [if_pos h10]; exact does_set h hw hT o A1 c1 A2 c2 hok h10
  rw [if_neg h10]
  by_cases h11 : o.kind % 16 = 11
  · rw [if_pos h11]; exact does_drop h hw hT o A1 c1 A2 c2 hok h11
  rw [if_neg h11]
  by_cases h12 : o.kind % 16 = 12
  · rw [if_pos h12]; exact does_write h hw hT o A1 c1 A2 c2 hok h12
  rw [if_neg h12]
  by_cases h15 : o.kind % 16 = 15
  · rw [if_pos h15]; exact does_copy h hw hT o A1 c1 A2 c2 hok h15
  rw [if_neg h15]
  by_cases h13 : o.kind % 16 = 13
  · exact does_give13 h hw hT o A1 c1 A2 c2 hok h13
  · exact does_give14 h hw hT o A1 c1 A2 c2 hok (by omega)
end
end Go.Proofs.YtgdmaikjaopddaaGreatDoor
