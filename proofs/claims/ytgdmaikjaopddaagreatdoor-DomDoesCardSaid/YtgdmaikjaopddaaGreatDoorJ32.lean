/- A slice of calls that comes in, as a walk reads it. -/
import Derived.Test.YtgdmaikjaopddaaGreatDoorJ28
import Derived.Test.YtgdmaikjaopddaaGreatDoorJ31
import Derived.Deep.Slices
import Derived.SizedLaws
namespace Go.Proofs.YtgdmaikjaopddaaGreatDoor
open Go.ChangeShapes Go.WideShapes Go.ChangeAt Go.RowKit

/-- a call -/
structure OpV where
  kind : Int
  a : Int
  b : Int
  c : Int
  inn : Bool
  nk : Int
  nm : ByteArray
  da : ByteArray
  na : List Attr
  s : ByteArray
  t : ByteArray
  l : List Int
  f : Fl
abbrev OpV.cells (o : OpV) (A1 : Option Addr) (c1 : Nat) (A2 : Option Addr) (c2 : Nat) : Array Value :=
  #[.int .u8 o.kind, int o.a, int o.b, int o.c, .bool o.inn, .int .u8 o.nk, .string o.nm, .string o.da, .slice A1 o.na.length c1, .string o.s, .string o.t, .slice A2 o.l.length c2, .bool o.f.closed, .bool o.f.manual, .bool o.f.delegates, .bool o.f.serial, .bool o.f.clonable]
structure OpOk (W : World) (o : OpV) (A1 : Option Addr) (c1 : Nat) (A2 : Option Addr) (c2 : Nat) : Prop where
  kind0 : 0 ≤ o.kind
  kind1 : o.kind < 256
  nk0 : 0 ≤ o.nk
  nk1 : o.nk < 256
  nm : o.nm.size ≤ 9223372036854775807
  da : o.da.size ≤ 9223372036854775807
  s : o.s.size ≤ 9223372036854775807
  t : o.t.size ≤ 9223372036854775807
  sized : Sized o.na
  na : AttrsAt W A1 o.na
  nac : o.na.length ≤ c1
  l : IntsAt W A2 o.l
  lc : o.l.length ≤ c2
  lb : o.l.length ≤ 17592186043904

section
variable {H : Type}
/-- what comes in fits the platform's reach, each piece by itself -/
def Fits (t : TypeId) (d : DataW H) : Prop := ∀ n ∈ d.weights Tryz.prog t, n ≤ reachBytes
theorem weights_all {P : Program} {e : TypeId} : ∀ {L : List (DataW H)} {d : DataW H}, d ∈ L → ∀ n ∈ d.weights P e, n ∈ DataW.weightsAll P e L
  | _ :: _, _, .head _, n, hn => by simp only [DataW.weightsAll, List.mem_append]; exact Or.inl hn
  | _ :: _, _, .tail _ h, n, hn => by simp only [DataW.weightsAll, List.mem_append]; exact Or.inr (weights_all h n hn)
theorem Fits.len {t e : TypeId} {elems spare : List (DataW H)} (h : Fits t (.slice elems spare)) (hu : Tryz.prog.underlying t = some (.slice e)) : (elems.length + spare.length) * Tryz.prog.bytesOf e ≤ reachBytes :=
  h _ (by simp [DataW.weights, hu])
theorem Fits.elem {t e : TypeId} {elems spare : List (DataW H)} (h : Fits t (.slice elems spare)) (hu : Tryz.prog.underlying t = some (.slice e)) {d : DataW H} (hd : d ∈ elems) : Fits e d := fun n hn =>
  h n (by simp only [DataW.weights, hu, List.mem_cons, List.mem_append]; exact .inr (.inl (weights_all hd n hn)))
theorem Fits.part {t t' : TypeId} {fs : Array Field} {parts : List (DataW H)} (h : Fits t (.agg parts)) (hu : Tryz.prog.underlying t = some (.struct fs)) {j : Nat} {d : DataW H} (ht : (fs.toList.map (·.type))[j]? = some t') (hd : parts[j]? = some d) : Fits t' d := fun n hn =>
  h n (by simp only [DataW.weights, hu]; exact DataW.weights_mem_each ht hd n hn)
theorem intBytes : Tryz.prog.bytesOf 3 = 8 := by kernel_rfl
end
theorem two_of {α : Type} : ∀ {l : List α}, l.length = 2 → ∃ a b, l = [a, b]
  | [a, b], _ => ⟨a, b, rfl⟩
theorem seventeen_of {α : Type} : ∀ {l : List α}, l.length = 17 → ∃ a0 a1 a2 a3 a4 a5 a6 a7 a8 a9 a10 a11 a12 a13 a14 a15 a16, l = [a0, a1, a2, a3, a4, a5, a6, a7, a8, a9, a10, a11, a12, a13, a14, a15, a16]
  | [a0, a1, a2, a3, a4, a5, a6, a7, a8, a9, a10, a11, a12, a13, a14, a15, a16], _ => ⟨a0, a1, a2, a3, a4, a5, a6, a7, a8, a9, a10, a11, a12, a13, a14, a15, a16, rfl⟩
theorem attrUnder : ∃ f0 f1 : Field, Tryz.prog.underlying 67 = some (.struct #[f0, f1]) ∧ f0.type = 9 ∧ f1.type = 9 ∧ f0.offset = 0 ∧ f1.offset = 1 := ⟨_, _, Tryz.underlying67, rfl, rfl, rfl, rfl⟩
theorem attrCells : Tryz.prog.cellsOf 67 = 2 := by kernel_rfl
theorem strCells : Tryz.prog.cellsOf 9 = 1 := by kernel_rfl
theorem opCells : Tryz.prog.cellsOf 52 = 17 := by kernel_rfl
section
variable {H : Type} {enc : TypeId × Value → H} {W : World} {spare : Nat → Bool} {held : Bool} {fuel : Nat}
set_option maxRecDepth 100000 in
theorem trod_attr {cs : List Value} {x : DataW H × List MemPlace} (h : DataW.trod enc Tryz.prog W 0 spare held fuel 67 cs = some x) : ∃ a : Attr, cs = [.string a.1, .string a.2] ∧ a.1.size ≤ maxLen := by
  obtain ⟨f0, f1, hu, t0, t1, o0, o1⟩ := attrUnder
  obtain ⟨xs, n, _, _, hlen, hxl, hf⟩ := DataW.trod_struct hu h
  rw [attrCells] at hlen
  obtain ⟨c0, c1, rfl⟩ := two_of hlen
  have h0 := hf 0 f0 rfl
  have h1 := hf 1 f1 rfl
  rw [o0, t0, strCells] at h0
  rw [o1, t1, strCells] at h1
  obtain ⟨y0, y1, rfl⟩ := two_of hxl
  obtain ⟨s0, e0, _, z0⟩ := DataW.trod_string Tryz.underlying9 (show DataW.trod enc Tryz.prog W 0 spare held n 9 [c0] = some y0 from h0)
  obtain ⟨s1, e1, _⟩ := DataW.trod_string Tryz.underlying9 (show DataW.trod enc Tryz.prog W 0 spare held n 9 [c1] = some y1 from h1)
  simp only [List.cons.injEq, and_true] at e0 e1
  exact ⟨(s0, s1), by rw [e0, e1], z0⟩
set_option maxRecDepth 100000 in
theorem trod_attrs {a0 : Option Addr} {n0 c0 : Nat} {x : DataW H × List MemPlace} (h : DataW.trod enc Tryz.prog W 0 spare held fuel 30 [.slice a0 n0 c0] = some x) : ∃ l : List Attr, l.length = n0 ∧ n0 ≤ c0 ∧ AttrsAt W a0 l ∧ Sized l := by
  rcases Deep.open_slice Tryz.underlying30 h with ⟨h0, _⟩ | ⟨a, len, cap, m, n, D, Pl, h0, _, hl, hm, hmm, _, hi⟩
  · simp only [List.cons.injEq, and_true] at h0
    injection h0 with h1 h2 h3
    subst h2
    exact ⟨[], rfl, Nat.zero_le _, AttrsAt.nil _ _, fun x hx => by cases hx⟩
  · simp only [List.cons.injEq, and_true] at h0
    injection h0 with h1 h2 h3
    subst h1; subst h2; subst h3
    have hml : n0 ≤ m := by rw [hmm]; split <;> omega
    rcases Nat.eq_zero_or_pos n0 with rfl | hp
    · exact ⟨[], rfl, Nat.zero_le _, AttrsAt.nil _ _, fun x hx => by cases hx⟩
    obtain ⟨b, o, rfl⟩ : ∃ b o, a = ⟨b, o, none⟩ := by
      obtain ⟨cs', hc, ht⟩ := hi 0 (by omega)
      obtain ⟨y, rfl, _⟩ := trod_attr ht
      rw [attrCells, Nat.zero_mul] at hc
      obtain ⟨_, _, hat⟩ := World.cells?_some hc
      have q0 := hat 0 (by omega)
      exact plain_addr (a := a) (v := .string y.1) q0
    have hx : ∀ i, i < n0 → ∃ y : Attr, W.cell? ⟨b, o + i * 2, none⟩ = some (.string y.1) ∧ W.cell? ⟨b, o + i * 2 + 1, none⟩ = some (.string y.2) ∧ y.1.size ≤ maxLen := fun i hin => by
      obtain ⟨cs', hc, ht⟩ := hi i (by omega)
      obtain ⟨y, rfl, hy⟩ := trod_attr ht
      rw [attrCells] at hc
      obtain ⟨_, _, hat⟩ := World.cells?_some hc
      have q0 := hat 0 (by omega)
      have q1 := hat 1 (by omega)
      rw [addr_add, addr_add] at q0 q1
      exact ⟨y, q0, q1, hy⟩
    refine ⟨(List.range n0).map fun i => if h : i < n0 then (hx i h).choose else (.empty, .empty), by simp, hl, ⟨by simp; unfold maxLen at hm; omega, fun k hk => ?_⟩, fun y hy => ?_⟩
    · have hk' : k < n0 := by simpa using hk
      have q := (hx k hk').choose_spec
      refine ⟨b, o, rfl, ?_⟩
      simpa [hk'] using ⟨q.1, q.2.1⟩
    · obtain ⟨i, hi, rfl⟩ := List.mem_map.1 hy
      have hi' : i < n0 := List.mem_range.1 hi
      have q := (hx i hi').choose_spec.2.2
      rw [dif_pos hi']
      exact Nat.le_trans q (by decide)
set_option maxRecDepth 100000 in
theorem trod_ints {a0 : Option Addr} {n0 c0 : Nat} {x : DataW H × List MemPlace} (h : DataW.trod enc Tryz.prog W 0 spare held fuel 31 [.slice a0 n0 c0] = some x) (hb : Fits 31 x.1) : ∃ l : List Int, l.length = n0 ∧ n0 ≤ c0 ∧ IntsAt W a0 l ∧ n0 ≤ 17592186043904 := by
  have hc1 : Tryz.prog.cellsOf 3 = 1 := by kernel_rfl
  rcases Deep.open_slice Tryz.underlying31 h with ⟨h0, _⟩ | ⟨a, len, cap, m, n, D, Pl, h0, _, hl, hm, hmm, hxx, hi⟩
  · simp only [List.cons.injEq, and_true] at h0
    injection h0 with h1 h2 h3
    subst h2
    exact ⟨[], rfl, Nat.zero_le _, ⟨by simp, fun j hj => absurd hj (Nat.not_lt_zero j)⟩, Nat.zero_le _⟩
  · simp only [List.cons.injEq, and_true] at h0
    injection h0 with h1 h2 h3
    subst h1; subst h2; subst h3
    have hml : n0 ≤ m := by rw [hmm]; split <;> omega
    rcases Nat.eq_zero_or_pos n0 with rfl | hp
    · exact ⟨[], rfl, Nat.zero_le _, ⟨by simp, fun j hj => absurd hj (Nat.not_lt_zero j)⟩, Nat.zero_le _⟩
    have hx0 : ∀ i, i < n0 → ∃ y : Int, W.cell? (a.add i) = some (int y) := fun i hin => by
      obtain ⟨cs', hc, ht⟩ := hi i (by omega)
      obtain ⟨y, rfl, _⟩ := DataW.trod_int Tryz.underlying3 ht
      rw [hc1, Nat.mul_one] at hc
      obtain ⟨_, _, hat⟩ := World.cells?_some hc
      have q0 := hat 0 (by omega)
      exact ⟨y, q0⟩
    obtain ⟨b, o, rfl⟩ : ∃ b o, a = ⟨b, o, none⟩ := by
      obtain ⟨y, q0⟩ := hx0 0 hp
      exact plain_addr (a := a) (v := int y) q0
    have hx : ∀ i, i < n0 → ∃ y : Int, W.cell? ⟨b, o + i, none⟩ = some (int y) := fun i hin => by
      obtain ⟨y, q0⟩ := hx0 i hin
      rw [addr_add] at q0
      exact ⟨y, q0⟩
    refine ⟨(List.range n0).map fun i => if h : i < n0 then (hx i h).choose else 0, by simp, hl, ⟨by simp; unfold maxLen at hm; omega, fun k hk => ?_⟩, ?_⟩
    · have hk' : k < n0 := by simpa using hk
      have q := (hx k hk').choose_spec
      refine ⟨b, o, rfl, ?_⟩
      simpa [hk'] using q
    · rw [hxx] at hb
      have hq := hb.len Tryz.underlying31
      rw [intBytes, List.length_map, List.length_range] at hq
      unfold reachBytes at hq
      omega

theorem slice_form {t e : TypeId} {cs : List Value} {x : DataW H × List MemPlace} (ht : Tryz.prog.underlying t = some (.slice e)) (h : DataW.trod enc Tryz.prog W 0 spare held fuel t cs = some x) : ∃ a n c, cs = [.slice a n c] := by
  rcases Deep.open_slice ht h with ⟨h0, _⟩ | ⟨a, len, cap, m, n, D, Pl, h0, _⟩
  · exact ⟨_, _, _, h0⟩
  · exact ⟨_, _, _, h0⟩
theorem five_of {α : Type} : ∀ {l : List α}, l.length = 5 → ∃ a b c d e, l = [a, b, c, d, e]
  | [a, b, c, d, e], _ => ⟨a, b, c, d, e, rfl⟩
theorem four_of {α : Type} : ∀ {l : List α}, l.length = 4 → ∃ a b c d, l = [a, b, c, d]
  | [a, b, c, d], _ => ⟨a, b, c, d, rfl⟩
theorem ten_of {α : Type} : ∀ {l : List α}, l.length = 10 → ∃ a0 a1 a2 a3 a4 a5 a6 a7 a8 a9, l = [a0, a1, a2, a3, a4, a5, a6, a7, a8, a9]
  | [a0, a1, a2, a3, a4, a5, a6, a7, a8, a9], _ => ⟨a0, a1, a2, a3, a4, a5, a6, a7, a8, a9, rfl⟩
set_option maxRecDepth 100000 in
theorem flUnder : ∃ f0 f1 f2 f3 f4 : Field, Tryz.prog.underlying 33 = some (.struct #[f0, f1, f2, f3, f4]) ∧ (f0.type = 4 ∧ f1.type = 4 ∧ f2.type = 4 ∧ f3.type = 4 ∧ f4.type = 4) ∧ f0.offset = 0 ∧ f1.offset = 1 ∧ f2.offset = 2 ∧ f3.offset = 3 ∧ f4.offset = 4 :=
  ⟨_, _, _, _, _, Tryz.underlying33, ⟨rfl, rfl, rfl, rfl, rfl⟩, rfl, rfl, rfl, rfl, rfl⟩
theorem blCells : Tryz.prog.cellsOf 4 = 1 := by kernel_rfl
theorem flCells : Tryz.prog.cellsOf 33 = 5 := by kernel_rfl
theorem u8Cells1 : Tryz.prog.cellsOf 5 = 1 := by kernel_rfl
theorem inCells : Tryz.prog.cellsOf 3 = 1 := by kernel_rfl
theorem mdCells : Tryz.prog.cellsOf 50 = 4 := by kernel_rfl
theorem slACells : Tryz.prog.cellsOf 30 = 1 := by kernel_rfl
theorem slICells : Tryz.prog.cellsOf 31 = 1 := by kernel_rfl
set_option maxRecDepth 100000 in
theorem mdUnder : ∃ f0 f1 f2 f3 : Field, Tryz.prog.underlying 50 = some (.struct #[f0, f1, f2, f3]) ∧ (f0.type = 5 ∧ f1.type = 9 ∧ f2.type = 9 ∧ f3.type = 30) ∧ f0.offset = 0 ∧ f1.offset = 1 ∧ f2.offset = 2 ∧ f3.offset = 3 :=
  ⟨_, _, _, _, Tryz.underlying50, ⟨rfl, rfl, rfl, rfl⟩, rfl, rfl, rfl, rfl⟩
set_option maxRecDepth 100000 in
theorem opUnder : ∃ f0 f1 f2 f3 f4 f5 f6 f7 f8 f9 : Field, Tryz.prog.underlying 52 = some (.struct #[f0, f1, f2, f3, f4, f5, f6, f7, f8, f9]) ∧ (f0.type = 5 ∧ f1.type = 3 ∧ f2.type = 3 ∧ f3.type = 3 ∧ f4.type = 4 ∧ f5.type = 50 ∧ f6.type = 9 ∧ f7.type = 9 ∧ f8.type = 31 ∧ f9.type = 33) ∧ (f0.offset = 0 ∧ f1.offset = 1 ∧ f2.offset = 2 ∧ f3.offset = 3 ∧ f4.offset = 4 ∧ f5.offset = 5 ∧ f6.offset = 9 ∧ f7.offset = 10 ∧ f8.offset = 11 ∧ f9.offset = 12) :=
  ⟨_, _, _, _, _, _, _, _, _, _, Tryz.underlying52, ⟨rfl, rfl, rfl, rfl, rfl, rfl, rfl, rfl, rfl, rfl⟩, rfl, rfl, rfl, rfl, rfl, rfl, rfl, rfl, rfl, rfl⟩
theorem one_inj {α : Type} {a b : α} (h : [a] = [b]) : a = b := by injection h
set_option maxRecDepth 100000 in
theorem trod_flags {cs : List Value} {x : DataW H × List MemPlace} (h : DataW.trod enc Tryz.prog W 0 spare held fuel 33 cs = some x) : ∃ f : Fl, cs = [.bool f.closed, .bool f.manual, .bool f.delegates, .bool f.serial, .bool f.clonable] := by
  obtain ⟨f0, f1, f2, f3, f4, hu, ⟨t0, t1, t2, t3, t4⟩, o0, o1, o2, o3, o4⟩ := flUnder
  obtain ⟨xs, n, _, _, hlen, hxl, hf⟩ := DataW.trod_struct hu h
  rw [flCells] at hlen
  obtain ⟨c0, c1, c2, c3, c4, rfl⟩ := five_of hlen
  obtain ⟨y0, y1, y2, y3, y4, rfl⟩ := five_of hxl
  have h0 := hf 0 f0 rfl
  have h1 := hf 1 f1 rfl
  have h2 := hf 2 f2 rfl
  have h3 := hf 3 f3 rfl
  have h4 := hf 4 f4 rfl
  rw [o0, t0, blCells] at h0
  rw [o1, t1, blCells] at h1
  rw [o2, t2, blCells] at h2
  rw [o3, t3, blCells] at h3
  rw [o4, t4, blCells] at h4
  obtain ⟨b0, e0, _⟩ := DataW.trod_bool Tryz.underlying4 (show DataW.trod enc Tryz.prog W 0 spare held n 4 [c0] = some y0 from h0)
  obtain ⟨b1, e1, _⟩ := DataW.trod_bool Tryz.underlying4 (show DataW.trod enc Tryz.prog W 0 spare held n 4 [c1] = some y1 from h1)
  obtain ⟨b2, e2, _⟩ := DataW.trod_bool Tryz.underlying4 (show DataW.trod enc Tryz.prog W 0 spare held n 4 [c2] = some y2 from h2)
  obtain ⟨b3, e3, _⟩ := DataW.trod_bool Tryz.underlying4 (show DataW.trod enc Tryz.prog W 0 spare held n 4 [c3] = some y3 from h3)
  obtain ⟨b4, e4, _⟩ := DataW.trod_bool Tryz.underlying4 (show DataW.trod enc Tryz.prog W 0 spare held n 4 [c4] = some y4 from h4)
  exact ⟨⟨b0, b1, b2, b3, b4⟩, by rw [one_inj e0, one_inj e1, one_inj e2, one_inj e3, one_inj e4]⟩
set_option maxRecDepth 100000 in
theorem trod_made {cs : List Value} {x : DataW H × List MemPlace} (h : DataW.trod enc Tryz.prog W 0 spare held fuel 50 cs = some x) :
    ∃ (nk : Int) (nm da : ByteArray) (na : List Attr) (a : Option Addr) (c : Nat), cs = [.int .u8 nk, .string nm, .string da, .slice a na.length c] ∧ (0 ≤ nk ∧ nk < 256) ∧ nm.size ≤ maxLen ∧ da.size ≤ maxLen ∧ na.length ≤ c ∧ AttrsAt W a na ∧ Sized na := by
  obtain ⟨f0, f1, f2, f3, hu, ⟨t0, t1, t2, t3⟩, o0, o1, o2, o3⟩ := mdUnder
  obtain ⟨xs, n, _, _, hlen, hxl, hf⟩ := DataW.trod_struct hu h
  rw [mdCells] at hlen
  obtain ⟨c0, c1, c2, c3, rfl⟩ := four_of hlen
  obtain ⟨y0, y1, y2, y3, rfl⟩ := four_of hxl
  have h0 := hf 0 f0 rfl
  have h1 := hf 1 f1 rfl
  have h2 := hf 2 f2 rfl
  have h3 := hf 3 f3 rfl
  rw [o0, t0, u8Cells1] at h0
  rw [o1, t1, strCells] at h1
  rw [o2, t2, strCells] at h2
  rw [o3, t3, slACells] at h3
  obtain ⟨nk, e0, _, w0⟩ := DataW.trod_int Tryz.underlying5 (show DataW.trod enc Tryz.prog W 0 spare held n 5 [c0] = some y0 from h0)
  obtain ⟨nm, e1, _, z1⟩ := DataW.trod_string Tryz.underlying9 (show DataW.trod enc Tryz.prog W 0 spare held n 9 [c1] = some y1 from h1)
  obtain ⟨da, e2, _, z2⟩ := DataW.trod_string Tryz.underlying9 (show DataW.trod enc Tryz.prog W 0 spare held n 9 [c2] = some y2 from h2)
  have h3' : DataW.trod enc Tryz.prog W 0 spare held n 30 [c3] = some y3 := h3
  obtain ⟨a, m, c, e3⟩ := slice_form Tryz.underlying30 h3'
  rw [e3] at h3'
  obtain ⟨na, rfl, hc, hat, hz⟩ := trod_attrs h3'
  refine ⟨nk, nm, da, na, a, c, by rw [one_inj e0, one_inj e1, one_inj e2, one_inj e3], ?_, z1, z2, hc, hat, hz⟩
  have b0 := bounds_u8 w0
  exact ⟨b0.1, by omega⟩
set_option maxRecDepth 100000 in
theorem trod_op {cs : List Value} {x : DataW H × List MemPlace} (h : DataW.trod enc Tryz.prog W 0 spare held fuel 52 cs = some x) (hb : Fits 52 x.1) :
    ∃ (o : OpV) (A1 : Option Addr) (c1 : Nat) (A2 : Option Addr) (c2 : Nat), cs = (o.cells A1 c1 A2 c2).toList ∧ OpOk W o A1 c1 A2 c2 := by
  obtain ⟨f0, f1, f2, f3, f4, f5, f6, f7, f8, f9, hu, ⟨t0, t1, t2, t3, t4, t5, t6, t7, t8, t9⟩, o0, o1, o2, o3, o4, o5, o6, o7, o8, o9⟩ := opUnder
  obtain ⟨xs, n, _, hxe, hlen, hxl, hf⟩ := DataW.trod_struct hu h
  rw [opCells] at hlen
  obtain ⟨c0, c1, c2, c3, c4, c5, c6, c7, c8, c9, c10, c11, c12, c13, c14, c15, c16, rfl⟩ := seventeen_of hlen
  obtain ⟨y0, y1, y2, y3, y4, y5, y6, y7, y8, y9, rfl⟩ := ten_of hxl
  have h0 := hf 0 f0 rfl
  have h1 := hf 1 f1 rfl
  have h2 := hf 2 f2 rfl
  have h3 := hf 3 f3 rfl
  have h4 := hf 4 f4 rfl
  have h5 := hf 5 f5 rfl
  have h6 := hf 6 f6 rfl
  have h7 := hf 7 f7 rfl
  have h8 := hf 8 f8 rfl
  have h9 := hf 9 f9 rfl
  rw [o0, t0, u8Cells1] at h0
  rw [o1, t1, inCells] at h1
  rw [o2, t2, inCells] at h2
  rw [o3, t3, inCells] at h3
  rw [o4, t4, blCells] at h4
  rw [o5, t5, mdCells] at h5
  rw [o6, t6, strCells] at h6
  rw [o7, t7, strCells] at h7
  rw [o8, t8, slICells] at h8
  rw [o9, t9, flCells] at h9
  obtain ⟨kind, e0, _, w0⟩ := DataW.trod_int Tryz.underlying5 (show DataW.trod enc Tryz.prog W 0 spare held n 5 [c0] = some y0 from h0)
  obtain ⟨a, e1, _, w1⟩ := DataW.trod_int Tryz.underlying3 (show DataW.trod enc Tryz.prog W 0 spare held n 3 [c1] = some y1 from h1)
  obtain ⟨b, e2, _, w2⟩ := DataW.trod_int Tryz.underlying3 (show DataW.trod enc Tryz.prog W 0 spare held n 3 [c2] = some y2 from h2)
  obtain ⟨c, e3, _, w3⟩ := DataW.trod_int Tryz.underlying3 (show DataW.trod enc Tryz.prog W 0 spare held n 3 [c3] = some y3 from h3)
  obtain ⟨inn, e4, _⟩ := DataW.trod_bool Tryz.underlying4 (show DataW.trod enc Tryz.prog W 0 spare held n 4 [c4] = some y4 from h4)
  obtain ⟨nk, nm, da, na, A1, d1, e5, w5, z5, z5', hc5, hat, hz⟩ := trod_made (show DataW.trod enc Tryz.prog W 0 spare held n 50 [c5, c6, c7, c8] = some y5 from h5)
  obtain ⟨s, e6, _, z6⟩ := DataW.trod_string Tryz.underlying9 (show DataW.trod enc Tryz.prog W 0 spare held n 9 [c9] = some y6 from h6)
  obtain ⟨t, e7, _, z7⟩ := DataW.trod_string Tryz.underlying9 (show DataW.trod enc Tryz.prog W 0 spare held n 9 [c10] = some y7 from h7)
  have h8' : DataW.trod enc Tryz.prog W 0 spare held n 31 [c11] = some y8 := h8
  obtain ⟨A2, m, d2, e8⟩ := slice_form Tryz.underlying31 h8'
  rw [e8] at h8'
  have hb8 : Fits 31 y8.1 := by
    rw [hxe] at hb
    exact hb.part hu (j := 8) (by simp [t8]) rfl
  obtain ⟨l, rfl, hc8, hl, hbl⟩ := trod_ints h8' hb8
  obtain ⟨f, e9⟩ := trod_flags (show DataW.trod enc Tryz.prog W 0 spare held n 33 [c12, c13, c14, c15, c16] = some y9 from h9)
  simp only [List.cons.injEq, and_true] at e5 e9
  refine ⟨⟨kind, a, b, c, inn, nk, nm, da, na, s, t, l, f⟩, A1, d1, A2, d2, ?_, ?_⟩
  · show _ = [_, _, _, _, _, _, _, _, _, _, _, _, _, _, _, _, _]
    rw [one_inj e0, one_inj e1, one_inj e2, one_inj e3, one_inj e4, one_inj e6, one_inj e7, one_inj e8, e5.1, e5.2.1, e5.2.2.1, e5.2.2.2, e9.1, e9.2.1, e9.2.2.1, e9.2.2.2.1, e9.2.2.2.2]
  · have b0 := bounds_u8 w0
    unfold maxLen at z5 z5' z6 z7
    exact ⟨b0.1, by have := b0.2; show kind < 256; omega, w5.1, w5.2, by simpa using z5, by simpa using z5', by simpa using z6, by simpa using z7, hz, hat, hc5, hl, hc8, hbl⟩

/-- calls that came in -/
def OpsAt (W : World) (a : Option Addr) (l : List OpV) : Prop :=
  l.length ≤ 9223372036854775807 ∧ ∀ k (hk : k < l.length), ∃ b o, a = some ⟨b, o, none⟩ ∧ ∃ A1 c1 A2 c2, OpOk W l[k] A1 c1 A2 c2 ∧ ∀ j v, (l[k].cells A1 c1 A2 c2)[j]? = some v → W.cell? ⟨b, o + k * 17 + j, none⟩ = some v
def ArgOps (W : World) (v : Value) (l : List OpV) : Prop := ∃ a c, v = .slice a l.length c ∧ OpsAt W a l ∧ l.length ≤ c
def opv0 : OpV := ⟨0, 0, 0, 0, false, 0, .empty, .empty, [], .empty, .empty, [], noFl⟩
set_option maxRecDepth 100000 in
theorem trod_ops {a0 : Option Addr} {n0 c0 : Nat} {x : DataW H × List MemPlace} (h : DataW.trod enc Tryz.prog W 0 spare held fuel 22 [.slice a0 n0 c0] = some x) (hb : Fits 22 x.1) : ∃ l : List OpV, l.length = n0 ∧ n0 ≤ c0 ∧ OpsAt W a0 l := by
  rcases Deep.open_slice Tryz.underlying22 h with ⟨h0, _⟩ | ⟨a, len, cap, m, n, D, Pl, h0, _, hl, hm, hmm, hxx, hi⟩
  · simp only [List.cons.injEq, and_true] at h0
    injection h0 with h1 h2 h3
    subst h2
    exact ⟨[], rfl, Nat.zero_le _, by simp, fun j hj => absurd hj (Nat.not_lt_zero j)⟩
  · simp only [List.cons.injEq, and_true] at h0
    injection h0 with h1 h2 h3
    subst h1; subst h2; subst h3
    have hml : n0 ≤ m := by rw [hmm]; split <;> omega
    rcases Nat.eq_zero_or_pos n0 with rfl | hp
    · exact ⟨[], rfl, Nat.zero_le _, by simp, fun j hj => absurd hj (Nat.not_lt_zero j)⟩
    have hx0 : ∀ i, i < n0 → ∃ y : OpV, ∃ A1 c1 A2 c2, OpOk W y A1 c1 A2 c2 ∧ ∀ j v, (y.cells A1 c1 A2 c2)[j]? = some v → W.cell? ((a.add (i * 17)).add j) = some v := fun i hin => by
      obtain ⟨cs', hc, ht⟩ := hi i (by omega)
      have hbi : Fits 52 (D i) := by
        rw [hxx] at hb
        exact hb.elem Tryz.underlying22 (List.mem_map.2 ⟨i, List.mem_range.2 hin, rfl⟩)
      obtain ⟨y, A1, c1, A2, c2, rfl, hok⟩ := trod_op ht hbi
      rw [opCells] at hc
      obtain ⟨_, _, hat⟩ := World.cells?_some hc
      refine ⟨y, A1, c1, A2, c2, hok, fun j v hv => ?_⟩
      have hj : j < 17 := (Array.getElem?_eq_some_iff.1 hv).1
      have q := hat j (by omega)
      rw [q]
      simpa using hv
    obtain ⟨b, o, rfl⟩ : ∃ b o, a = ⟨b, o, none⟩ := by
      obtain ⟨y, A1, c1, A2, c2, _, q0⟩ := hx0 0 hp
      have q := q0 0 _ rfl
      have e : ((a.add (0 * 17)).add 0) = a.add 0 := by
        obtain ⟨ab, ao, asp⟩ := a
        cases asp <;> simp [Addr.add]
      rw [e] at q
      exact plain_addr q
    have hx : ∀ i, i < n0 → ∃ y : OpV, ∃ A1 c1 A2 c2, OpOk W y A1 c1 A2 c2 ∧ ∀ j v, (y.cells A1 c1 A2 c2)[j]? = some v → W.cell? ⟨b, o + i * 17 + j, none⟩ = some v := fun i hin => by
      obtain ⟨y, A1, c1, A2, c2, hk, q0⟩ := hx0 i hin
      refine ⟨y, A1, c1, A2, c2, hk, fun j v hv => ?_⟩
      have q := q0 j v hv
      rw [addr_add, addr_add] at q
      exact q
    refine ⟨(List.range n0).map fun i => if h : i < n0 then (hx i h).choose else opv0, by simp, hl, by simp; unfold maxLen at hm; omega, fun k hk => ?_⟩
    have hk' : k < n0 := by simpa using hk
    have q := (hx k hk').choose_spec
    refine ⟨b, o, rfl, ?_⟩
    have e : ((List.range n0).map fun i => if h : i < n0 then (hx i h).choose else opv0)[k] = (hx k hk').choose := by
      rw [List.getElem_map, List.getElem_range, dif_pos hk']
    rw [e]; exact q
theorem argOps_of {v : Value} {d : DataW H} {p : List MemPlace} (hs : ∃ a n c, v = .slice a n c) (h : DataW.Trod enc Tryz.prog W 0 spare held 22 v d p) (hb : Fits 22 d) : ∃ l, ArgOps W v l := by
  obtain ⟨fuel, hf⟩ := h
  obtain ⟨a0, n0, c0, rfl⟩ := hs
  obtain ⟨l, rfl, hc, hl⟩ := trod_ops (show DataW.trod enc Tryz.prog W 0 spare held fuel 22 [.slice a0 n0 c0] = some (d, p) from hf) hb
  exact ⟨l, a0, c0, rfl, hl, hc⟩
theorem trod_op1 {cs : Array Value} {d : DataW H} {p : List MemPlace} (h : DataW.Trod enc Tryz.prog W 0 spare held 52 (.agg cs) d p) (hb : Fits 52 d) : ∃ (o : OpV) (A1 : Option Addr) (c1 : Nat) (A2 : Option Addr) (c2 : Nat), cs = o.cells A1 c1 A2 c2 ∧ OpOk W o A1 c1 A2 c2 := by
  obtain ⟨fuel, hf⟩ := h
  obtain ⟨o, A1, c1, A2, c2, e, hk⟩ := trod_op (show DataW.trod enc Tryz.prog W 0 spare held fuel 52 cs.toList = some (d, p) from hf) hb
  exact ⟨o, A1, c1, A2, c2, Array.toList_inj.1 e, hk⟩
end
end Go.Proofs.YtgdmaikjaopddaaGreatDoor

/- The law's own functions: inside, Names, Node. -/
namespace Go.Proofs.YtgdmaikjaopddaaGreatDoor
open Go.RowKit

/-- a number of a node -/
def insideI (k : Int) (n : Nat) : Int := max k 0 % (n : Int)
theorem insideI_in (k : Int) {n : Nat} (hn : 0 < n) : 0 ≤ insideI k n ∧ insideI k n < n := ⟨Int.emod_nonneg _ (by omega), Int.emod_lt_of_pos _ (by omega)⟩
def nameL : List ByteArray := [⟨#[100, 105, 118]⟩, ⟨#[115, 112, 97, 110]⟩, ⟨#[115, 108, 111, 116]⟩, ⟨#[116, 101, 109, 112, 108, 97, 116, 101]⟩, ⟨#[120, 45, 97]⟩, ⟨#[115, 101, 99, 116, 105, 111, 110]⟩, ⟨#[112]⟩, ⟨#[98, 114]⟩, ⟨#[98]⟩, ⟨#[97, 114, 116, 105, 99, 108, 101]⟩]
def nameI (k : Int) : ByteArray := nameL.getD (k % 10).toNat .empty

section
variable {W w : World} {rs : List Res}
set_option maxRecDepth 100000 in
theorem inside_any (w : World) (k : Int) (n : Nat) (hn : 0 < n) (hn' : n ≤ 5000) :
    Calls Tryz.prog 13 #[int k, int n] w fun e w' => e = .returned (int (insideI k n)) ∧ w = w' := by
  have h0 : ((n : Int) == 0) = false := by simp; omega
  go_enter Tryz.func13, Tryz.ntmps13
  go_wp2
  go_ret
  exact ⟨rfl, rfl⟩
set_option maxRecDepth 100000 in
set_option maxHeartbeats 4000000 in
theorem names_any (w : World) (k : Int) (h0 : 0 ≤ k) (h1 : k < 256) :
    Calls Tryz.prog 60 #[.int .u8 k] w fun e w' => e = .returned (.string (nameI k)) ∧ Below w.heap.size w w' := by
  have hk : (k % 10 = 0 ∨ k % 10 = 1 ∨ k % 10 = 2 ∨ k % 10 = 3 ∨ k % 10 = 4) ∨ (k % 10 = 5 ∨ k % 10 = 6 ∨ k % 10 = 7 ∨ k % 10 = 8 ∨ k % 10 = 9) := by omega
  have ht : k.tmod 10 = k % 10 := Int.tmod_eq_emod_of_nonneg h0
  have hb := alloc_drewN w (.cells (nameL.map Value.string).toArray 9) 0
  have HB := Lib.hid hb
  clear hb
  rcases hk with (hk | hk | hk | hk | hk) | (hk | hk | hk | hk | hk)
  all_goals
    have HK := Lib.hid (show nameI k = nameL.getD (k % 10).toNat .empty from rfl)
    rw [hk] at HK
    clear ht
    go_enter Tryz.func60, Tryz.ntmps60
    go_wp2
    go_ret
    exact ⟨by rw [HK.out]; rfl, HB.out⟩
end
end Go.Proofs.YtgdmaikjaopddaaGreatDoor

/- The law's own function Node. -/
namespace Go.Proofs.YtgdmaikjaopddaaGreatDoor
open Go.RowKit

/-- what is made: its kind, its name, its data, its attributes -/
def nodeK (nk : Int) (inn : Bool) : Int := if inn = false then nk else if nk % 8 = 1 ∨ nk % 8 = 2 then 2 else if nk % 8 = 3 then 4 else 1
def nodeN (nk : Int) (nm : ByteArray) (inn : Bool) : ByteArray := if inn = false then nm else if nk % 8 = 1 ∨ nk % 8 = 2 then .empty else if nk % 8 = 3 then .empty else nameI (((nm.size : Int) + nk / 8) % 256)
def nodeD (nk : Int) (da : ByteArray) (inn : Bool) : ByteArray := if inn = false then da else if nk % 8 = 1 ∨ nk % 8 = 2 then da else .empty
def nodeA (na : List Attr) (inn : Bool) : List Attr := if inn = false then na else []
theorem nodeN_size {nk : Int} {nm : ByteArray} {inn : Bool} (h : nm.size ≤ 9223372036854775807) : (nodeN nk nm inn).size ≤ 9223372036854775807 := by
  unfold nodeN
  split
  · exact h
  · split
    · decide
    · split
      · decide
      · unfold nameI
        have key : ∀ k : Nat, (nameL.getD k .empty).size ≤ 9 := fun k => by
          by_cases hk : k < 10
          · have : ∀ j, j < 10 → (nameL.getD j .empty).size ≤ 9 := by decide
            exact this k hk
          · rw [List.getD_eq_getElem?_getD, List.getElem?_eq_none (by show 10 ≤ k; omega)]; decide
        exact Nat.le_trans (key _) (by decide)
section
variable {W w : World} {rs : List Res}
theorem below_alloc {w0 w : World} (h : Below w0.heap.size w0 w) (o : Obj) : Below w0.heap.size w0 (w.alloc o) := h.alloc h.size o
theorem lookup3 (w : World) (a b c : Obj) : (((w.alloc a).alloc b).alloc c).heap[w.heap.size + 1]? = some b := by
  have h2 := heap_alloc2_new w a b
  have hl : w.heap.size + 1 < ((w.alloc a).alloc b).heap.size := (Array.getElem?_eq_some_iff.1 h2).1
  exact (heap_alloc_old ((w.alloc a).alloc b) c hl).trans h2
/-- the argument of Make, of what is told of it -/
abbrev argOf (k : Int) (nm da : ByteArray) : Arg := ⟨k, nm, da, 0, none, 0, 0, 0, 0, 0, noFl⟩
theorem arg_ones (k : Int) (nm da : ByteArray) (a : Option Addr) (n c : Nat) : ((argOf k nm da).cells a n c).all (·.oneCell') = true := by simp [Arg.cells, Value.oneCell']
abbrev TMade : Nat := 50
set_option maxRecDepth 100000 in
set_option maxHeartbeats 1000000 in
theorem node_plain (w : World) (nk : Int) (nm da : ByteArray) (A1 : Option Addr) (n1 c1 : Nat) :
    Calls Tryz.prog 25 #[.agg #[.int .u8 nk, .string nm, .string da, .slice A1 n1 c1], .bool false] w fun e w' => e = .returned (.agg ((argOf nk nm da).cells A1 n1 c1)) ∧ Below w.heap.size w w' := by
  go_enter Tryz.func25, Tryz.ntmps25
  go_wp2
  refine bodyPost_ret (v := .agg ((argOf nk nm da).cells A1 n1 c1)) (results_cell_row Tryz.results25 _ _ (w.heap.size + 1) TNd ((argOf nk nm da).cells A1 n1 c1) (0, 0) _ rfl ?_ Tryz.underlying35 rfl nd_info) rfl ⟨rfl, ?_⟩
  · exact lookup3 w _ _ _
  · exact below_alloc (below_alloc (below_alloc (Below.refl _ _) _) _) _
set_option maxRecDepth 100000 in
set_option maxHeartbeats 2000000 in
theorem node_in (w : World) (nk : Int) (hk0 : 0 ≤ nk) (hk1 : nk < 256) (nm da : ByteArray) (A1 : Option Addr) (n1 c1 : Nat) :
    Calls Tryz.prog 25 #[.agg #[.int .u8 nk, .string nm, .string da, .slice A1 n1 c1], .bool true] w fun e w' => e = .returned (.agg ((argOf (nodeK nk true) (nodeN nk nm true) (nodeD nk da true)).cells none 0 0)) ∧ Below w.heap.size w w' := by
  obtain ⟨wa, hwa⟩ : ∃ wa, wa = w.alloc (.cells #[.int .u8 nk, .string nm, .string da, .slice A1 n1 c1] TMade) := ⟨_, rfl⟩
  obtain ⟨wb, hwb⟩ : ∃ wb, wb = wa.alloc (.cells nd0 TNd) := ⟨_, rfl⟩
  obtain ⟨wc, hwc⟩ : ∃ wc, wc = wb.alloc (.cells ((argOf nk nm da).cells A1 n1 c1) TNd) := ⟨_, rfl⟩
  have ea : wa.heap.size = w.heap.size + 1 := by rw [hwa]; exact Array.size_push _
  have eb : wb.heap.size = w.heap.size + 1 + 1 := by rw [hwb, ← ea]; exact Array.size_push _
  have h1 := (Sep.start w).blk_new #[.int .u8 nk, .string nm, .string da, .slice A1 n1 c1] TMade
  rw [← hwa] at h1
  have h2 := h1.blk_new nd0 TNd
  rw [← hwb, ea] at h2
  have h3 := h2.blk_new ((argOf nk nm da).cells A1 n1 c1) TNd
  rw [← hwc, eb] at h3
  have hww : ((w.alloc (.cells #[.int .u8 nk, .string nm, .string da, .slice A1 n1 c1] TMade)).alloc (.cells nd0 TNd)).alloc (.cells ((argOf nk nm da).cells A1 n1 c1) TNd) = wc := by rw [hwc, hwb, hwa]
  have hs : w.heap.size ≤ wc.heap.size := h3.size
  obtain ⟨g, hg⟩ : ∃ g, g = w.heap.size := ⟨_, rfl⟩
  rw [← hg] at h3
  have HS := Lib.hid hs
  have HG := Lib.hid hg
  have HWW := Lib.hid (show ((w.alloc (.cells #[Value.int IntKind.u8 nk, Value.string nm, Value.string da, Value.slice A1 n1 c1] TMade)).alloc (.cells #[Value.int IntKind.u8 0, Value.string { data := #[] }, Value.string { data := #[] }, Value.slice none 0 0, Value.int IntKind.i64 0, Value.slice none 0 0, Value.int IntKind.i64 0, Value.int IntKind.i64 0, Value.int IntKind.i64 0, Value.bool false, Value.bool false, Value.bool false, Value.bool false, Value.bool false] TNd)).alloc (.cells #[Value.int IntKind.u8 nk, Value.string nm, Value.string da, Value.slice A1 n1 c1, Value.int IntKind.i64 0, Value.slice none 0 0, Value.int IntKind.i64 0, Value.int IntKind.i64 0, Value.int IntKind.i64 0, Value.bool false, Value.bool false, Value.bool false, Value.bool false, Value.bool false] TNd) = wc from hww)
  have H3 := Lib.hid h3
  clear h1 h2 h3 hww hwa hwb hwc ea eb hg hs
  have hq : 0 ≤ ((nm.size : Int) + nk / 8) % 256 ∧ ((nm.size : Int) + nk / 8) % 256 < 256 := ⟨Int.emod_nonneg _ (by decide), Int.emod_lt_of_pos _ (by decide)⟩
  have HN := Lib.hid (names_any wc _ hq.1 hq.2)
  clear hq
  have key : (nk % 8 = 1 ∨ nk % 8 = 2) ∨ (¬ (nk % 8 = 1 ∨ nk % 8 = 2) ∧ nk % 8 = 3) ∨ (¬ (nk % 8 = 1 ∨ nk % 8 = 2) ∧ nk % 8 ≠ 3) := by omega
  obtain ⟨nm', hnm'⟩ : ∃ nm', nm' = nameI (((nm.size : Int) + nk / 8) % 256) := ⟨_, rfl⟩
  rw [← hnm'] at HN
  rcases key with hk | ⟨hn, hk⟩ | ⟨hn, hk⟩
  · have e1 : nodeK nk true = 2 := by unfold nodeK; rw [if_neg (by decide), if_pos hk]
    have e2 : nodeN nk nm true = .empty := by unfold nodeN; rw [if_neg (by decide), if_pos hk]
    have e3 : nodeD nk da true = da := by unfold nodeD; rw [if_neg (by decide), if_pos hk]
    rw [e1, e2, e3]
    have t3 : (nk % 8 == 3) = false := by simp; omega
    clear e1 e2 e3 hnm'
    rcases hk with hk | hk
    all_goals
      first
      | (have t1 : (nk % 8 == 1) = true := by simp [hk]); clear hk
      | (have t1 : (nk % 8 == 1) = false := by simp [hk]); (have t2 : (nk % 8 == 2) = true := by simp [hk]); clear hk
      go_enter Tryz.func25, Tryz.ntmps25
      go_wp2_with fail
      rw [HWW.out]
      refine HN.out.mono ?_
      rintro e w2 ⟨rfl, hb⟩
      have h4 := H3.out.belowed hb
      rw [← HG.out]
      have d0 : w2.cell? ⟨g, 0, none⟩ = some (.int .u8 nk) := h4.third.blk_cell 0
      have d1 : w2.cell? ⟨g, 1, none⟩ = some (.string nm) := h4.third.blk_cell 1
      have d2 : w2.cell? ⟨g, 2, none⟩ = some (.string da) := h4.third.blk_cell 2
      have H4 := Lib.hid h4
      clear h4 hb
      go_wp2_with (first | (refine wpList_store_blk rfl TNd _ _ rfl H4.out (cells := (argOf 1 nm' .empty).cells none 0 0) rfl rfl nd_info rfl (arg_ones _ _ _ _ _ _) ?_; intro w3 h5; have H5 := Lib.hid h5; have d0 : w3.cell? ⟨g, 0, none⟩ = some (.int .u8 nk) := h5.third.blk_cell 0; have d1 : w3.cell? ⟨g, 1, none⟩ = some (.string nm) := h5.third.blk_cell 1; have d2 : w3.cell? ⟨g, 2, none⟩ = some (.string da) := h5.third.blk_cell 2; clear h5) | (refine wpList_store_blk rfl TNd _ _ rfl H5.out (cells := (argOf 2 .empty da).cells none 0 0) rfl rfl nd_info rfl (arg_ones _ _ _ _ _ _) ?_; intro w4 h5; have H6 := Lib.hid h5; have d0 : w4.cell? ⟨g, 0, none⟩ = some (.int .u8 nk) := h5.third.blk_cell 0; have d1 : w4.cell? ⟨g, 1, none⟩ = some (.string nm) := h5.third.blk_cell 1; have d2 : w4.cell? ⟨g, 2, none⟩ = some (.string da) := h5.third.blk_cell 2; have e0 : w4.cell? ⟨g + 1 + 1, 0, none⟩ = some (.int .u8 2) := h5.blk_cell 0; have e1 : w4.cell? ⟨g + 1 + 1, 1, none⟩ = some (.string .empty) := h5.blk_cell 1; have e2 : w4.cell? ⟨g + 1 + 1, 2, none⟩ = some (.string da) := h5.blk_cell 2; have e3 : w4.cell? ⟨g + 1 + 1, 3, none⟩ = some (.slice none 0 0) := h5.blk_cell 3; have e4 : w4.cell? ⟨g + 1 + 1, 4, none⟩ = some (int 0) := h5.blk_cell 4; have e5 : w4.cell? ⟨g + 1 + 1, 5, none⟩ = some (.slice none 0 0) := h5.blk_cell 5; have e6 : w4.cell? ⟨g + 1 + 1, 6, none⟩ = some (int 0) := h5.blk_cell 6; have e7 : w4.cell? ⟨g + 1 + 1, 7, none⟩ = some (int 0) := h5.blk_cell 7; have e8 : w4.cell? ⟨g + 1 + 1, 8, none⟩ = some (int 0) := h5.blk_cell 8; have e9 : w4.cell? ⟨g + 1 + 1, 9, none⟩ = some (.bool false) := h5.blk_cell 9; have e10 : w4.cell? ⟨g + 1 + 1, 10, none⟩ = some (.bool false) := h5.blk_cell 10; have e11 : w4.cell? ⟨g + 1 + 1, 11, none⟩ = some (.bool false) := h5.blk_cell 11; have e12 : w4.cell? ⟨g + 1 + 1, 12, none⟩ = some (.bool false) := h5.blk_cell 12; have e13 : w4.cell? ⟨g + 1 + 1, 13, none⟩ = some (.bool false) := h5.blk_cell 13; clear h5) | (refine wpList_store_blk rfl TNd _ _ rfl H6.out.swap (cells := (argOf 2 .empty da).cells none 0 0) rfl rfl nd_info rfl (arg_ones _ _ _ _ _ _) ?_; intro w9 h9; have H9 := Lib.hid h9; clear h9))
      exact bodyPost_ret (v := .agg ((argOf 2 .empty da).cells none 0 0)) (results_cell_row Tryz.results25 _ _ (g + 1) TNd ((argOf 2 .empty da).cells none 0 0) (0, 0) _ rfl H9.out.blk_heap Tryz.underlying35 rfl nd_info) rfl ⟨rfl, HG.out ▸ H9.out.below⟩
  · have e1 : nodeK nk true = 4 := by unfold nodeK; rw [if_neg (by decide), if_neg hn, if_pos hk]
    have e2 : nodeN nk nm true = .empty := by unfold nodeN; rw [if_neg (by decide), if_neg hn, if_pos hk]
    have e3 : nodeD nk da true = .empty := by unfold nodeD; rw [if_neg (by decide), if_neg hn]
    rw [e1, e2, e3]
    have t1 : (nk % 8 == 1) = false := by simp; omega
    have t2 : (nk % 8 == 2) = false := by simp; omega
    have t3 : (nk % 8 == 3) = true := by simp; omega
    clear e1 e2 e3 hnm' hn hk
    go_enter Tryz.func25, Tryz.ntmps25
    go_wp2_with fail
    rw [HWW.out]
    refine HN.out.mono ?_
    rintro e w2 ⟨rfl, hb⟩
    have h4 := H3.out.belowed hb
    rw [← HG.out]
    have d0 : w2.cell? ⟨g, 0, none⟩ = some (.int .u8 nk) := h4.third.blk_cell 0
    have d1 : w2.cell? ⟨g, 1, none⟩ = some (.string nm) := h4.third.blk_cell 1
    have d2 : w2.cell? ⟨g, 2, none⟩ = some (.string da) := h4.third.blk_cell 2
    have H4 := Lib.hid h4
    clear h4 hb
    go_wp2_with (first | (refine wpList_store_blk rfl TNd _ _ rfl H4.out (cells := (argOf 1 nm' .empty).cells none 0 0) rfl rfl nd_info rfl (arg_ones _ _ _ _ _ _) ?_; intro w3 h5; have H5 := Lib.hid h5; have d0 : w3.cell? ⟨g, 0, none⟩ = some (.int .u8 nk) := h5.third.blk_cell 0; have d1 : w3.cell? ⟨g, 1, none⟩ = some (.string nm) := h5.third.blk_cell 1; have d2 : w3.cell? ⟨g, 2, none⟩ = some (.string da) := h5.third.blk_cell 2; clear h5) | (refine wpList_store_blk rfl TNd _ _ rfl H5.out (cells := (argOf 4 .empty .empty).cells none 0 0) rfl rfl nd_info rfl (arg_ones _ _ _ _ _ _) ?_; intro w4 h5; have H6 := Lib.hid h5; have d0 : w4.cell? ⟨g, 0, none⟩ = some (.int .u8 nk) := h5.third.blk_cell 0; have d1 : w4.cell? ⟨g, 1, none⟩ = some (.string nm) := h5.third.blk_cell 1; have d2 : w4.cell? ⟨g, 2, none⟩ = some (.string da) := h5.third.blk_cell 2; have e0 : w4.cell? ⟨g + 1 + 1, 0, none⟩ = some (.int .u8 4) := h5.blk_cell 0; have e1 : w4.cell? ⟨g + 1 + 1, 1, none⟩ = some (.string .empty) := h5.blk_cell 1; have e2 : w4.cell? ⟨g + 1 + 1, 2, none⟩ = some (.string .empty) := h5.blk_cell 2; have e3 : w4.cell? ⟨g + 1 + 1, 3, none⟩ = some (.slice none 0 0) := h5.blk_cell 3; have e4 : w4.cell? ⟨g + 1 + 1, 4, none⟩ = some (int 0) := h5.blk_cell 4; have e5 : w4.cell? ⟨g + 1 + 1, 5, none⟩ = some (.slice none 0 0) := h5.blk_cell 5; have e6 : w4.cell? ⟨g + 1 + 1, 6, none⟩ = some (int 0) := h5.blk_cell 6; have e7 : w4.cell? ⟨g + 1 + 1, 7, none⟩ = some (int 0) := h5.blk_cell 7; have e8 : w4.cell? ⟨g + 1 + 1, 8, none⟩ = some (int 0) := h5.blk_cell 8; have e9 : w4.cell? ⟨g + 1 + 1, 9, none⟩ = some (.bool false) := h5.blk_cell 9; have e10 : w4.cell? ⟨g + 1 + 1, 10, none⟩ = some (.bool false) := h5.blk_cell 10; have e11 : w4.cell? ⟨g + 1 + 1, 11, none⟩ = some (.bool false) := h5.blk_cell 11; have e12 : w4.cell? ⟨g + 1 + 1, 12, none⟩ = some (.bool false) := h5.blk_cell 12; have e13 : w4.cell? ⟨g + 1 + 1, 13, none⟩ = some (.bool false) := h5.blk_cell 13; clear h5) | (refine wpList_store_blk rfl TNd _ _ rfl H6.out.swap (cells := (argOf 4 .empty .empty).cells none 0 0) rfl rfl nd_info rfl (arg_ones _ _ _ _ _ _) ?_; intro w9 h9; have H9 := Lib.hid h9; clear h9))
    exact bodyPost_ret (v := .agg ((argOf 4 .empty .empty).cells none 0 0)) (results_cell_row Tryz.results25 _ _ (g + 1) TNd ((argOf 4 .empty .empty).cells none 0 0) (0, 0) _ rfl H9.out.blk_heap Tryz.underlying35 rfl nd_info) rfl ⟨rfl, HG.out ▸ H9.out.below⟩
  · have e1 : nodeK nk true = 1 := by unfold nodeK; rw [if_neg (by decide), if_neg hn, if_neg hk]
    have e2 : nodeN nk nm true = nm' := by unfold nodeN; rw [if_neg (by decide), if_neg hn, if_neg hk, hnm']
    have e3 : nodeD nk da true = .empty := by unfold nodeD; rw [if_neg (by decide), if_neg hn]
    rw [e1, e2, e3]
    have t1 : (nk % 8 == 1) = false := by simp; omega
    have t2 : (nk % 8 == 2) = false := by simp; omega
    have t3 : (nk % 8 == 3) = false := by simp; omega
    clear e1 e2 e3 hnm' hn hk
    go_enter Tryz.func25, Tryz.ntmps25
    go_wp2_with fail
    rw [HWW.out]
    refine HN.out.mono ?_
    rintro e w2 ⟨rfl, hb⟩
    have h4 := H3.out.belowed hb
    rw [← HG.out]
    have d0 : w2.cell? ⟨g, 0, none⟩ = some (.int .u8 nk) := h4.third.blk_cell 0
    have d1 : w2.cell? ⟨g, 1, none⟩ = some (.string nm) := h4.third.blk_cell 1
    have d2 : w2.cell? ⟨g, 2, none⟩ = some (.string da) := h4.third.blk_cell 2
    have H4 := Lib.hid h4
    clear h4 hb
    go_wp2_with (first | (refine wpList_store_blk rfl TNd _ _ rfl H4.out (cells := (argOf 1 nm' .empty).cells none 0 0) rfl rfl nd_info rfl (arg_ones _ _ _ _ _ _) ?_; intro w3 h5; have H5 := Lib.hid h5; have d0 : w3.cell? ⟨g, 0, none⟩ = some (.int .u8 nk) := h5.third.blk_cell 0; have d1 : w3.cell? ⟨g, 1, none⟩ = some (.string nm) := h5.third.blk_cell 1; have d2 : w3.cell? ⟨g, 2, none⟩ = some (.string da) := h5.third.blk_cell 2; have e0 : w3.cell? ⟨g + 1 + 1, 0, none⟩ = some (.int .u8 1) := h5.blk_cell 0; have e1 : w3.cell? ⟨g + 1 + 1, 1, none⟩ = some (.string nm') := h5.blk_cell 1; have e2 : w3.cell? ⟨g + 1 + 1, 2, none⟩ = some (.string .empty) := h5.blk_cell 2; have e3 : w3.cell? ⟨g + 1 + 1, 3, none⟩ = some (.slice none 0 0) := h5.blk_cell 3; have e4 : w3.cell? ⟨g + 1 + 1, 4, none⟩ = some (int 0) := h5.blk_cell 4; have e5 : w3.cell? ⟨g + 1 + 1, 5, none⟩ = some (.slice none 0 0) := h5.blk_cell 5; have e6 : w3.cell? ⟨g + 1 + 1, 6, none⟩ = some (int 0) := h5.blk_cell 6; have e7 : w3.cell? ⟨g + 1 + 1, 7, none⟩ = some (int 0) := h5.blk_cell 7; have e8 : w3.cell? ⟨g + 1 + 1, 8, none⟩ = some (int 0) := h5.blk_cell 8; have e9 : w3.cell? ⟨g + 1 + 1, 9, none⟩ = some (.bool false) := h5.blk_cell 9; have e10 : w3.cell? ⟨g + 1 + 1, 10, none⟩ = some (.bool false) := h5.blk_cell 10; have e11 : w3.cell? ⟨g + 1 + 1, 11, none⟩ = some (.bool false) := h5.blk_cell 11; have e12 : w3.cell? ⟨g + 1 + 1, 12, none⟩ = some (.bool false) := h5.blk_cell 12; have e13 : w3.cell? ⟨g + 1 + 1, 13, none⟩ = some (.bool false) := h5.blk_cell 13; clear h5) | (refine wpList_store_blk rfl TNd _ _ rfl H5.out.swap (cells := (argOf 1 nm' .empty).cells none 0 0) rfl rfl nd_info rfl (arg_ones _ _ _ _ _ _) ?_; intro w9 h9; have H9 := Lib.hid h9; clear h9))
    exact bodyPost_ret (v := .agg ((argOf 1 nm' .empty).cells none 0 0)) (results_cell_row Tryz.results25 _ _ (g + 1) TNd ((argOf 1 nm' .empty).cells none 0 0) (0, 0) _ rfl H9.out.blk_heap Tryz.underlying35 rfl nd_info) rfl ⟨rfl, HG.out ▸ H9.out.below⟩
end
end Go.Proofs.YtgdmaikjaopddaaGreatDoor

/- The law's own function Heavy; the cells of calls that came in. -/
namespace Go.Proofs.YtgdmaikjaopddaaGreatDoor
open Go.RowKit

section
variable {W w : World} {rs : List Res}
theorem OpsAt.cellsAt {a : Option Addr} {l : List OpV} (h : OpsAt W a l) (hb : Below W.heap.size W w) {k : Nat} (hk : k < l.length) :
    ∃ b o A1 c1 A2 c2, a = some ⟨b, o, none⟩ ∧ OpOk W l[k] A1 c1 A2 c2 ∧ ∀ j v, (l[k].cells A1 c1 A2 c2)[j]? = some v → w.cell? ⟨b, o + k * 17 + j, none⟩ = some v := by
  obtain ⟨b, o, rfl, A1, c1, A2, c2, hok, hc⟩ := h.2 k hk
  exact ⟨b, o, A1, c1, A2, c2, rfl, hok, fun j v hv => (hb.cell (p := ⟨b, o + k * 17 + j, none⟩) (World.block_lt_of_cell? W ⟨b, o + k * 17 + j, none⟩ (hc j v hv))).trans (hc j v hv)⟩
set_option maxRecDepth 100000 in
set_option maxHeartbeats 2000000 in
theorem heavy_any {a : Option Addr} {l : List OpV} (c : Nat) (h : OpsAt W a l) (hb : Below W.heap.size W w) :
    Calls Tryz.prog 8 #[.slice a l.length c] w fun e w' => (∃ z : Int, e = .returned (int z)) ∧ Below w.heap.size w w' := by
  have H := Lib.hid h
  have HB := Lib.hid hb
  clear h hb
  go_enter Tryz.func8, Tryz.ntmps8
  go_wp2_with fail
  go_loopw [3, 4, 5] (fun x iv _ wr => (∃ z : Int, x = int z) ∧ (∃ i : Nat, iv = int i ∧ i ≤ l.length) ∧ Below w.heap.size w wr) (fun _ iv _ _ => l.length - (intOf iv).toNat)
  case atStart => exact ⟨⟨0, rfl⟩, ⟨0, rfl, Nat.zero_le _⟩, Below.refl _ _⟩
  case round =>
    obtain ⟨⟨z, rfl⟩, ⟨i, rfl, hi⟩, hbr⟩ := hrel
    have HR := Lib.hid hbr
    clear hbr
    by_cases hil : i < l.length
    · have t0 : decide ((i : Int) < l.length) = true := by simp; omega
      have hll := H.out.1
      obtain ⟨b, o, A1, c1, A2, c2, rfl, hok, hc0⟩ := H.out.cellsAt HB.out hil
      obtain ⟨x, hx⟩ : ∃ x, x = l[i] := ⟨_, rfl⟩
      rw [← hx] at hok hc0
      have hcw : ∀ w2, Below w.heap.size w w2 → ∀ j v, (x.cells A1 c1 A2 c2)[j]? = some v → w2.cell? ⟨b, o + i * 17 + j, none⟩ = some v := fun w2 h2 j v hv =>
        (h2.cell (p := ⟨b, o + i * 17 + j, none⟩) (World.block_lt_of_cell? w ⟨b, o + i * 17 + j, none⟩ (hc0 j v hv))).trans (hc0 j v hv)
      have hc := hcw wr HR.out
      have f8 : wr.cell? ⟨b, o + i * 17 + 5 + 3, none⟩ = some (.slice A1 x.na.length c1) := hc 8 _ rfl
      have f9 : wr.cell? ⟨b, o + i * 17 + 9, none⟩ = some (.string x.s) := hc 9 _ rfl
      have f10 : wr.cell? ⟨b, o + i * 17 + 10, none⟩ = some (.string x.t) := hc 10 _ rfl
      have f11 : wr.cell? ⟨b, o + i * 17 + 11, none⟩ = some (.slice A2 x.l.length c2) := hc 11 _ rfl
      have f6 : wr.cell? ⟨b, o + i * 17 + 5 + 1, none⟩ = some (.string x.nm) := hc 6 _ rfl
      have f7 : wr.cell? ⟨b, o + i * 17 + 5 + 2, none⟩ = some (.string x.da) := hc 7 _ rfl
      have HA := Lib.hid hok.na
      have HC := Lib.hid (fun (w2 : World) (h2 : Below w.heap.size w w2) => (show w2.cell? ⟨b, o + i * 17 + 5 + 3, none⟩ = some (.slice A1 x.na.length c1) from hcw w2 h2 8 _ rfl))
      clear hc hx hok hc0 hcw
      go_wp2_with fail
      go_quiet (fail)
      go_wp2_with fail
      have HQ := Lib.hid (show Below w.heap.size w (wr.drewN nq) from Below.drewsN HR.out nq)
      generalize wr.drewN nq = wq at HQ ⊢
      clear HR f8 f9 f10 f11 f6 f7
      go_loopw [3, 5] (fun y kv wi => (∃ z : Int, y = int z) ∧ (∃ k : Nat, kv = int k ∧ k ≤ x.na.length) ∧ Below w.heap.size w wi) (fun _ kv _ => x.na.length - (intOf kv).toNat)
      case atStart => exact ⟨⟨_, rfl⟩, ⟨0, rfl, Nat.zero_le _⟩, HQ.out⟩
      case round =>
        obtain ⟨⟨z', rfl⟩, ⟨k, rfl, hk⟩, hbi⟩ := hrel
        have HI := Lib.hid hbi
        have g8 := HC.out wr hbi
        clear hbi
        by_cases hkl : k < x.na.length
        · have t1 : decide ((k : Int) < x.na.length) = true := by simp; omega
          have hnl := HA.out.1
          have hat := HA.out.keep (HB.out.trans (HI.out.mono HB.out.size))
          obtain ⟨b1, o1, rfl, u1, u2⟩ := hat.2 k hkl
          clear hat
          go_wp2_with fail
          go_quiet (fail)
          go_wp2_with fail
          go_roundw
          case rel => exact ⟨⟨_, rfl⟩, ⟨k + 1, by go_num, hkl⟩, Below.drewsN HI.out _⟩
          case measure => simp [intOf]; omega
        · obtain rfl : k = x.na.length := by omega
          have t1 : decide ((x.na.length : Int) < x.na.length) = false := by simp
          go_wp2_with fail
          go_roundw
          case rel => exact ⟨⟨_, rfl⟩, ⟨i + 1, by go_num, hil⟩, HI.out⟩
          case measure => simp [intOf]; omega
    · obtain rfl : i = l.length := by omega
      have t0 : decide ((l.length : Int) < l.length) = false := by simp
      go_wp2
      go_ret
      exact ⟨⟨z, rfl⟩, HR.out⟩
end
end Go.Proofs.YtgdmaikjaopddaaGreatDoor
