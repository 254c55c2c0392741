/- Attributes of one element, set and taken away: what stands there. No program is in sight. -/
import Derived.Test.YtehjhigaebpfkaaDoorSetAttrs
namespace Go.Proofs.YtehjhigaebpfkaaDoor

def namesOf (l : List Attr) : List (List UInt8) := l.map fun x => x.1.toList
theorem hasB_iff {l : List Attr} {nm : ByteArray} : hasB l nm = true ↔ nm.toList ∈ namesOf l := by
  unfold hasB namesOf
  rw [List.any_eq_true, List.mem_map]
  constructor
  · rintro ⟨x, hx, h⟩; exact ⟨x, hx, by simpa using h⟩
  · rintro ⟨x, hx, h⟩; exact ⟨x, hx, by simpa using h⟩
theorem idxOf_name {l : List Attr} {nm : ByteArray} (h : hasB l nm = true) : (namesOf l)[idxOf l nm]? = some nm.toList := by
  have hlt := idxOf_lt h
  have : (l[idxOf l nm].1.toList == nm.toList) = true := List.findIdx_getElem (w := hlt) (p := fun x : Attr => x.1.toList == nm.toList)
  unfold namesOf
  rw [List.getElem?_map, List.getElem?_eq_getElem hlt]
  simpa using this
theorem namesOf_put (l : List Attr) (nm v : ByteArray) : namesOf (putAttr l nm v) = if hasB l nm = true then namesOf l else namesOf l ++ [nm.toList] := by
  unfold putAttr
  split
  · rename_i h
    have h2 := idxOf_name h
    unfold namesOf at h2 ⊢
    rw [List.map_set]
    obtain ⟨h3, h4⟩ := List.getElem?_eq_some_iff.1 h2
    apply List.ext_getElem
    · simp
    · intro j h5 h6
      rw [List.getElem_set]
      split
      · rename_i e; subst e; exact h4.symm
      · rfl
  · simp [namesOf]
theorem put_nodup {l : List Attr} (h : (namesOf l).Nodup) (nm v : ByteArray) : (namesOf (putAttr l nm v)).Nodup := by
  rw [namesOf_put]
  split
  · exact h
  · rename_i hn
    rw [hasB_iff] at hn
    exact List.nodup_append.2 ⟨h, by simp, fun x hx y hy => by rintro rfl; simp at hy; subst hy; exact hn hx⟩
theorem put_has {l : List Attr} {nm v nm' : ByteArray} : hasB (putAttr l nm v) nm' = (hasB l nm' || (nm.toList == nm'.toList)) := by
  rw [Bool.eq_iff_iff, hasB_iff, namesOf_put]
  split
  · rename_i h
    rw [hasB_iff] at h
    rw [← hasB_iff]
    constructor
    · intro h2; rw [h2]; rfl
    · intro h2
      rcases Bool.or_eq_true _ _ ▸ h2 with h2 | h2
      · exact h2
      · rw [hasB_iff, ← (by simpa using h2 : nm.toList = nm'.toList)]; exact h
  · rw [List.mem_append, ← hasB_iff, Bool.or_eq_true, List.mem_singleton, beq_iff_eq]
    exact ⟨fun h => h.imp id Eq.symm, fun h => h.imp id Eq.symm⟩
theorem put_mem (l : List Attr) (nm v : ByteArray) : (nm, v) ∈ putAttr l nm v := by
  unfold putAttr
  split
  · rename_i h
    exact List.mem_iff_getElem.2 ⟨idxOf l nm, by simpa using idxOf_lt h, by simp⟩
  · simp
theorem drop_has {l : List Attr} (h : (namesOf l).Nodup) (nm : ByteArray) : hasB (dropAttr l nm) nm = false := by
  cases hb : hasB l nm
  · unfold dropAttr idxOf
    cases hd : hasB (l.eraseIdx (l.findIdx fun x => x.1.toList == nm.toList)) nm
    · rfl
    · unfold hasB at hd hb
      rw [List.any_eq_true] at hd
      obtain ⟨x, hx, h2⟩ := hd
      rw [List.any_eq_false] at hb
      exact absurd h2 (hb x (List.mem_of_mem_eraseIdx hx))
  · have h2 := idxOf_name hb
    cases hd : hasB (dropAttr l nm) nm
    · rfl
    · exfalso
      rw [hasB_iff] at hd
      unfold dropAttr namesOf at hd
      obtain ⟨x, hx, hxn⟩ := List.mem_map.1 hd
      obtain ⟨j, hj, h3⟩ := List.mem_eraseIdx_iff_getElem?.1 hx
      unfold namesOf at h2 h
      have h4 : (l.map fun x => x.1.toList)[j]? = some nm.toList := by rw [List.getElem?_map, h3]; exact congrArg some hxn
      exact hj ((List.getElem?_inj (List.getElem?_eq_some_iff.1 h4).1 h).1 (h4.trans h2.symm))

theorem setA_n (A : Doc) (i : Int) (nm v : ByteArray) : (A.setA i nm v).n = A.n := by unfold Doc.setA; split <;> rfl
theorem dropA_n (A : Doc) (i : Int) (nm : ByteArray) : (A.dropA i nm).n = A.n := by unfold Doc.dropA; split <;> rfl
theorem setA_kind (A : Doc) (i j : Int) (nm v : ByteArray) : ((A.setA i nm v).nd j).kind = (A.nd j).kind := by
  unfold Doc.setA; split
  · rw [Doc.set_nd]; split <;> rfl
  · rfl
theorem setA_attrs (A : Doc) (i : Int) (nm v : ByteArray) : ((A.setA i nm v).nd i).attrs = if A.setE i nm v = 0 then putAttr (A.nd i).attrs nm v else (A.nd i).attrs := by
  unfold Doc.setA; split
  · rw [Doc.set_nd, if_pos rfl]; rfl
  · rfl
theorem dropA_attrs (A : Doc) (i : Int) (nm : ByteArray) : ((A.dropA i nm).nd i).attrs = if A.dropE i nm = 0 then dropAttr (A.nd i).attrs nm else (A.nd i).attrs := by
  unfold Doc.dropA; split
  · rw [Doc.set_nd, if_pos rfl]; rfl
  · rfl
theorem dropA_kind (A : Doc) (i j : Int) (nm : ByteArray) : ((A.dropA i nm).nd j).kind = (A.nd j).kind := by
  unfold Doc.dropA; split
  · rw [Doc.set_nd]; split <;> rfl
  · rfl
theorem writB_name {n v : ByteArray} (h : writB n v = true) (u : ByteArray) (hu : u.size ≤ 2000) : writB n u = true := by
  unfold writB at h ⊢
  simp only [Bool.and_eq_true, decide_eq_true_eq] at h ⊢
  exact ⟨⟨⟨⟨h.1.1.1.1, h.1.1.1.2⟩, by omega⟩, h.1.2⟩, h.2⟩

/-- an element's attributes behind some settings that were let in, under these names -/
structure Worn (D : Doc) (ns : List ByteArray) : Prop where
  n : D.n = 2
  kind : (D.nd 1).kind = 1
  nod : (namesOf (D.nd 1).attrs).Nodup
  has : ∀ nm ∈ ns, hasB (D.nd 1).attrs nm = true ∧ writB nm .empty = true
  none : ns = [] → (D.nd 1).attrs = []
theorem Worn.in1 {D : Doc} {ns : List ByteArray} (h : Worn D ns) : D.In 1 := ⟨by decide, by rw [h.n]; decide⟩
theorem Worn.step {D : Doc} {ns : List ByteArray} (h : Worn D ns) (nm v : ByteArray) : Worn (D.setA 1 nm v) (if D.setE 1 nm v = 0 then ns ++ [nm] else ns) ∧ (D.setE 1 nm v = 0 → (nm, v) ∈ ((D.setA 1 nm v).nd 1).attrs) := by
  have ha := setA_attrs D 1 nm v
  by_cases he : D.setE 1 nm v = 0
  · rw [if_pos he] at ha ⊢
    have hw : writB nm v = true := by
      unfold Doc.setE at he
      rw [if_pos h.in1, if_pos h.kind] at he
      split at he
      · rename_i h2; exact h2.1
      · exact absurd he (by decide)
    refine ⟨⟨by rw [setA_n, h.n], by rw [setA_kind, h.kind], by rw [ha]; exact put_nodup h.nod nm v, fun x hx => ?_, fun h2 => by simp at h2⟩, fun _ => by rw [ha]; exact put_mem _ _ _⟩
    rw [ha, put_has]
    rcases List.mem_append.1 hx with hx | hx
    · obtain ⟨h1, h2⟩ := h.has x hx
      exact ⟨by rw [h1]; rfl, h2⟩
    · rw [List.mem_singleton.1 hx]
      exact ⟨by simp, writB_name hw _ (by decide)⟩
  · rw [if_neg he] at ha ⊢
    have e : D.setA 1 nm v = D := by unfold Doc.setA; rw [if_neg he]
    rw [e]
    exact ⟨h, fun h2 => absurd h2 he⟩
theorem Worn.empty {D : Doc} (h : Worn D []) (nm : ByteArray) : D.dropE 1 nm = 82 := by
  unfold Doc.dropE
  rw [if_pos h.in1, if_pos h.kind, h.none rfl]; rfl
theorem Worn.again {D : Doc} {ns : List ByteArray} (h : Worn D ns) {nm v : ByteArray} (hm : nm ∈ ns) (hv : v.size ≤ 500) : D.setE 1 nm v = 0 ∧ ((D.setA 1 nm v).nd 1).attrs.length = (D.nd 1).attrs.length ∧ (D.setA 1 nm v).dropE 1 nm = 0 ∧
    ((((D.setA 1 nm v).dropA 1 nm).nd 1).attrs.length : Int) = (D.nd 1).attrs.length - 1 ∧ ((D.setA 1 nm v).dropA 1 nm).dropE 1 nm = 82 := by
  obtain ⟨h1, h2⟩ := h.has nm hm
  have hE : D.setE 1 nm v = 0 := by
    unfold Doc.setE
    rw [if_pos h.in1, if_pos h.kind, if_pos ⟨writB_name h2 v (by omega), .inl h1⟩]
  have ha := setA_attrs D 1 nm v
  rw [if_pos hE] at ha
  have hin : (D.setA 1 nm v).In 1 := ⟨by decide, by rw [setA_n, h.n]; decide⟩
  have hk : ((D.setA 1 nm v).nd 1).kind = 1 := by rw [setA_kind, h.kind]
  have hh : hasB ((D.setA 1 nm v).nd 1).attrs nm = true := by rw [ha, put_has, h1]; rfl
  have hD : (D.setA 1 nm v).dropE 1 nm = 0 := by unfold Doc.dropE; rw [if_pos hin, if_pos hk, if_pos hh]
  have hb := dropA_attrs (D.setA 1 nm v) 1 nm
  rw [if_pos hD] at hb
  have hpos : 0 < (D.nd 1).attrs.length := Nat.lt_of_le_of_lt (Nat.zero_le _) (idxOf_lt h1)
  refine ⟨hE, by rw [ha, putAttr_len, if_pos h1], hD, ?_, ?_⟩
  · rw [hb, dropAttr_len hh, ha, putAttr_len, if_pos h1]; omega
  · unfold Doc.dropE
    rw [if_pos ⟨by decide, by rw [dropA_n, setA_n, h.n]; decide⟩, if_pos (by rw [dropA_kind]; exact hk), hb, ha, drop_has (put_nodup h.nod nm v)]
    rfl
end Go.Proofs.YtehjhigaebpfkaaDoor
