/-
  Part of the proof that the law ProjectAll returns true at every input of bulk at most 1048576, and leaves its arguments as they were; the whole is stated at the end of the last text.
-/
import Derived.Test.YtdopmhicmehmeaaEngS
/-
  THE ENGINE, PART 20: what printed walks lean on.
-/
set_option linter.unusedVariables false
set_option linter.unusedSimpArgs false
namespace Go.Eng
open Go

variable {P : Program}

/-- More rounds than any loop takes. -/
theorem k0_ex : ∃ n : Nat, 1099511627776 ≤ n := ⟨_, Nat.le_refl _⟩
noncomputable def K0 : Nat := Classical.choose k0_ex
theorem k0_le : 1099511627776 ≤ K0 := Classical.choose_spec k0_ex

/-! ### Steps of a function's own text -/
theorem bnd {α β : Type} {o : Option α} {m : α → Option β} {r : β} (h : o.bind m = some r) : ∃ x, o = some x ∧ m x = some r := Option.bind_eq_some_iff.1 h
theorem grd {β : Type} {c : Prop} [Decidable c] {m : Option β} {r : β} (h : (if c then m else none) = some r) : c ∧ m = some r := by
  split at h
  · rename_i hc; exact ⟨hc, h⟩
  · cases h
theorem ifT {β : Type} {t : Bool} {a b : Option β} {r : β} (ht : t = true) (h : (if t = true then a else b) = some r) : a = some r := by rw [if_pos ht] at h; exact h
theorem ifF {β : Type} {t : Bool} {a b : Option β} {r : β} (ht : t = false) (h : (if t = true then a else b) = some r) : b = some r := by rw [if_neg (by rw [ht]; exact Bool.false_ne_true)] at h; exact h
theorem btf (t : Bool) : t = true ∨ t = false := by cases t <;> simp

theorem vcT {t : Bool} {A B : Prop} (ht : t = true) (h : A) : vcond t A B := ⟨fun _ => h, fun e => (by rw [ht] at e; cases e)⟩
theorem vcF {t : Bool} {A B : Prop} (ht : t = false) (h : B) : vcond t A B := ⟨fun e => (by rw [ht] at e; cases e), fun _ => h⟩

/-- An element by a number. -/
def at? {α : Type} (l : List α) (i : Int) : Option α := if 0 ≤ i then l[i.toNat]? else none
theorem at_nn {α : Type} {l : List α} {i : Int} {x : α} (h : at? l i = some x) : 0 ≤ i := (grd h).1
theorem at_get {α : Type} {l : List α} {i : Int} {x : α} (h : at? l i = some x) : l[i.toNat]? = some x := (grd h).2
theorem at_lt {α : Type} {l : List α} {i : Int} {x : α} (h : at? l i = some x) : i < (l.length : Int) := by
  obtain ⟨h1, h2⟩ := grd h
  obtain ⟨h3, _⟩ := List.getElem?_eq_some_iff.1 h2
  omega
theorem at_ltn {α : Type} {l : List α} {i : Int} {x : α} (h : at? l i = some x) : i.toNat < l.length := by
  obtain ⟨h1, h2⟩ := grd h
  exact (List.getElem?_eq_some_iff.1 h2).1
theorem map_get {α β : Type} {f : α → β} {l : List α} {i : Nat} {x : α} (h : l[i]? = some x) : (l.map f)[i]? = some (f x) := by simp [h]
theorem row_get {α : Type} {enc : α → List D} {l : List α} {i : Nat} {x : α} (h : l[i]? = some x) : (dataRow enc l)[i]? = some ((enc x).map AV.d) := by simp [dataRow, h]
theorem row_set {α : Type} {enc : α → List D} {l : List α} {i : Nat} {x : α} {c : List AV} (h : c = (enc x).map AV.d) : (dataRow enc l).set i c = dataRow enc (l.set i x) := by
  subst h; simp [dataRow, List.map_set]
theorem row_wid {α : Type} {enc : α → List D} {k : Nat} (hk : ∀ a, (enc a).length = k) (l : List α) : ∀ e ∈ dataRow enc l, e.length = k := by
  intro e he
  simp only [dataRow, List.mem_map] at he
  obtain ⟨a, _, rfl⟩ := he
  simp [hk]
theorem row_len {α : Type} (enc : α → List D) (l : List α) : 0 + l.length = (dataRow enc l).length := by simp [dataRow]
theorem row_app {α : Type} (enc : α → List D) (l m : List α) : (dataRow enc l).drop 0 ++ dataRow enc m = dataRow enc (l ++ m) := by simp [dataRow]
theorem row_appl {α : Type} (enc : α → List D) (l m : List α) : l.length + (dataRow enc m).length = (l ++ m).length := by simp [dataRow]
theorem row_rep {α : Type} {enc : α → List D} (n : Nat) (x : α) {c : List AV} (h : c = (enc x).map AV.d) : List.replicate n c = dataRow enc (List.replicate n x) := by subst h; simp [dataRow]
theorem sl_row {α : Type} (enc : α → List D) (l : List α) : ((l.map enc).map fun e => e.map AV.d) = dataRow enc l := by simp [dataRow]
theorem row_all {α : Type} (enc : α → List D) (l : List α) : ((dataRow enc l).drop 0).take l.length = dataRow enc l := by
  simp only [List.drop_zero]; exact List.take_of_length_le (by simp [dataRow])
theorem row_u8 (l : List UInt8) : ((dataRow byteD l).drop 0).take l.length = u8s l := by rw [row_all, u8s_dataRow]
theorem sl_u8 (l : List UInt8) : ((l.map byteD).map fun e => e.map AV.d) = u8s l := by rw [sl_row, u8s_dataRow]
theorem sz_u8 (s : ByteArray) : s.size = s.data.toList.length := by simp
theorem sl_td {α : Type} (enc : α → List D) (l : List α) (h d : Nat) : ((l.map enc).take h).drop d = ((l.take h).drop d).map enc := by simp
theorem row_td {α : Type} (enc : α → List D) (l : List α) (h d : Nat) : ((dataRow enc l).drop d).take h = dataRow enc ((l.drop d).take h) := by simp [dataRow]

/-- A byte out of a number. -/
def u8 (n : Int) : UInt8 := UInt8.ofNat n.toNat
theorem u8_wrap (n : Int) : ((u8 (IntKind.u8.wrap n)).toNat : Int) = IntKind.u8.wrap n := by
  have h : 0 ≤ IntKind.u8.wrap n ∧ IntKind.u8.wrap n < 256 := by
    simp only [IntKind.wrap, IntKind.bits, IntKind.signed]; simp; omega
  simp only [u8, UInt8.toNat_ofNat']
  omega
theorem u8_byte (b : UInt8) : u8 (b.toNat : Int) = b := by simp [u8]
/-- A text out of bytes. -/
def bs (l : List UInt8) : ByteArray := ⟨l.toArray⟩

/-- '&' and the like. -/
def iand (k : IntKind) (a b : Int) : Int := k.wrap (BitVec.ofInt k.bits a &&& BitVec.ofInt k.bits b).toNat
def ior (k : IntKind) (a b : Int) : Int := k.wrap (BitVec.ofInt k.bits a ||| BitVec.ofInt k.bits b).toNat
def ixor (k : IntKind) (a b : Int) : Int := k.wrap (BitVec.ofInt k.bits a ^^^ BitVec.ofInt k.bits b).toNat
def iandn (k : IntKind) (a b : Int) : Int := k.wrap (BitVec.ofInt k.bits a &&& ~~~BitVec.ofInt k.bits b).toNat
def ishl (k : IntKind) (a b : Int) : Int := k.wrap (a * 2 ^ (min b.toNat k.bits))
def ishr (k : IntKind) (a b : Int) : Int := a.fdiv (2 ^ (min b.toNat k.bits))
def imax (a b : Int) : Int := if b > a then b else a
def imin (a b : Int) : Int := if b < a then b else a

/-! ### Data -/
def sD (s : ByteArray) : D := .v (.string s)
def iD (n : Int) : D := .v (.int .i64 n)
def bD (b : Bool) : D := .v (.bool b)
def strD (s : ByteArray) : List D := [sD s]
def intD (n : Int) : List D := [iD n]
def booD (b : Bool) : List D := [bD b]
def kindD (k : IntKind) (n : Int) : List D := [.v (.int k n)]
def slD {α : Type} (k : Nat) (f : α → List D) (l : List α) : List D := [.sl k (l.map f)]
/-- A struct's value. -/
def agd (l : List D) : AV := .agg (l.map AV.d)
def nilS : AV := .d (.v (.slice none 0 0))
/-- '==' of texts. -/
def seq (a b : ByteArray) : Bool := a.toList == b.toList
/-- '<' of texts. -/
def slt (a b : ByteArray) : Bool := Op.bytesLess a.toList b.toList
/-- What is copied. -/
def cpy {α : Type} (l m : List α) : List α := m.take l.length ++ l.drop (min m.length l.length)
theorem cpy_le {α : Type} (enc : α → List D) (l : List α) : 0 + l.length ≤ (dataRow enc l).length := by simp [dataRow]
theorem cpy_row {α : Type} (enc : α → List D) (l m : List α) : (dataRow enc l).take 0 ++ ((dataRow enc m).take l.length ++ (dataRow enc l).drop (0 + min (dataRow enc m).length l.length)) = dataRow enc (cpy l m) := by simp [dataRow, cpy]
theorem cpy_n {α : Type} (enc : α → List D) (l m : List α) : min (dataRow enc m).length l.length = min m.length l.length := by simp [dataRow]

/-- What is cleared. -/
def clr {α : Type} (l : List α) (off len : Nat) (z : α) : List α := l.take off ++ (List.replicate len z ++ l.drop (off + len))
theorem clr_row {α : Type} {enc : α → List D} (l : List α) (off len : Nat) (z : α) {c : List AV} (h : c = (enc z).map AV.d) : (dataRow enc l).take off ++ (List.replicate len c ++ (dataRow enc l).drop (off + len)) = dataRow enc (clr l off len z) := by subst h; simp [dataRow, clr]
theorem row_ut (l : List UInt8) : ((dataRow byteD l).drop 0).take l.length = u8s l := by rw [row_all, u8s_dataRow]
theorem ne_of_len {α : Type} {l : List α} (h : 0 < l.length) : l ≠ [] := by intro e; subst e; simp at h
theorem bs_empty {l : List UInt8} (h : l.length = 0) : ByteArray.empty = bs l := by
  have := List.length_eq_zero_iff.1 h
  subst this; rfl

/-! ### Readings -/
mutual
def bel (n : Int) : AV → Bool
  | .d _ | .junk | .iptr _ | .anyp => true
  | .row q _ _ _ | .ptr q _ _ _ | .it q => decide (q < n)
  | .agg l | .tup l => belL n l
  | .fn _ a c => belL n a && belL n c
  | .iface _ x => bel n x
def belL (n : Int) : List AV → Bool
  | [] => true
  | x :: l => bel n x && belL n l
end

theorem belL_mem {n : Int} {l : List AV} (h : belL n l = true) : ∀ x ∈ l, bel n x = true := by
  induction l with
  | nil => intro x hx; simp at hx
  | cons y l ih =>
    simp only [belL, Bool.and_eq_true] at h
    intro x hx
    rcases List.mem_cons.1 hx with rfl | hx
    · exact h.1
    · exact ih h.2 x hx

theorem bel_below (m : Int) : ∀ (n : Nat) (x : AV), SizeOf.sizeOf x ≤ n → bel m x = true → Below m x := by
  intro n
  induction n with
  | zero => intro x hx; cases x <;> simp at hx
  | succ n ih =>
    intro x hx h
    cases x <;> simp only [bel, Bool.and_eq_true, decide_eq_true_eq] at h
    · exact .d _
    · exact .junk
    · exact .row h
    · exact .ptr h
    · exact .iptr _
    · exact .it h
    · exact .agg fun i hi => ih _ (by have := List.sizeOf_lt_of_mem (List.getElem_mem hi); simp at hx; omega) (belL_mem h _ (List.getElem_mem hi))
    · exact .tup fun i hi => ih _ (by have := List.sizeOf_lt_of_mem (List.getElem_mem hi); simp at hx; omega) (belL_mem h _ (List.getElem_mem hi))
    · exact .fn (fun i hi => ih _ (by have := List.sizeOf_lt_of_mem (List.getElem_mem hi); simp at hx; omega) (belL_mem h.1 _ (List.getElem_mem hi)))
        (fun i hi => ih _ (by have := List.sizeOf_lt_of_mem (List.getElem_mem hi); simp at hx; omega) (belL_mem h.2 _ (List.getElem_mem hi)))
    · exact .iface (ih _ (by simp at hx; omega) h)
    · exact .anyp

theorem wfn {h : Int → Option AO} {g : List (Nat × Nat × Value)} (wf : WF ⟨h, 0, g⟩) {q : Int} (hq : decide (0 ≤ q) = true) : h q = none := wf.none (of_decide_eq_true hq)

/-- As it is. -/
theorem cv {st st' : St} {x y : AV} (h : x = y) (hb : bel st'.nx y = true) : Conv st st' x y := by subst h; exact .same (bel_below _ _ _ (Nat.le_refl _) hb)

/-- Let go of a row of data. -/
theorem cvz {α : Type} {enc : α → List D} {l : List α} {st st' : St} {q : Int} {ver len k : Nat} {tq : TypeId} {els : List (List AV)} (hq : st.h q = some (.row ver k tq els)) (hn : st'.h q = none) (he : els = dataRow enc l) (hl : len = l.length) : Conv st st' (.row q ver 0 len) (.d (.sl k (l.map enc))) := by
  subst hl
  refine conv_frz hq hn he ?_
  simp

/-- Let go of a piece of a row of data. -/
theorem cvy {α : Type} {enc : α → List D} {l m : List α} {st st' : St} {q : Int} {ver off len k : Nat} {tq : TypeId} {els : List (List AV)} (hq : st.h q = some (.row ver k tq els)) (hn : st'.h q = none) (he : els = dataRow enc l) (hl : m = (l.drop off).take len) : Conv st st' (.row q ver off len) (.d (.sl k (m.map enc))) := by
  subst hl
  exact conv_frz hq hn he rfl

/-- An object with its cells as they are. -/
theorem fwE {st st' : St} {h : Int → Option AO} {q : Int} {ver k : Nat} {tq : TypeId} {els : List (List AV)} (hf : FW st st' h) (hq : decide (q < st'.nx) = true) (h1 : st.h q = some (.row ver k tq els)) (hd : (els.all fun e => e.length == k && belL st'.nx e) = true) :
    FW st st' (upd h q (.row ver k tq els)) := by
  simp only [List.all_eq_true, Bool.and_eq_true, beq_iff_eq] at hd
  intro r o ho
  simp only [upd] at ho
  split at ho
  · rename_i e
    subst e
    cases ho
    refine ⟨of_decide_eq_true hq, _, h1, rfl, rfl, rfl, rfl, fun i hi => (hd _ (List.getElem_mem hi)).1, fun i j x y hx hy => ?_⟩
    rw [hx] at hy
    cases hy
    rw [Option.bind_eq_some_iff] at hx
    obtain ⟨e, he, hx⟩ := hx
    exact .same (bel_below _ _ _ (Nat.le_refl _) (belL_mem (hd _ (List.mem_of_getElem? he)).2 _ (List.mem_of_getElem? hx)))
  · exact hf r o ho

def ConvLL (st st' : St) : List (List AV) → List (List AV) → Prop
  | [], [] => True
  | x :: l, y :: m => ConvL st st' x y ∧ ConvLL st st' l m
  | _, _ => False

theorem ConvLL.get {st st' : St} : ∀ {l m : List (List AV)}, ConvLL st st' l m → l.length = m.length ∧ ∀ i (h1 : i < l.length) (h2 : i < m.length), ConvL st st' l[i] m[i]
  | [], [], _ => ⟨rfl, fun i h1 => by simp at h1⟩
  | x :: l, y :: m, h => by
    obtain ⟨h1, h2⟩ := h
    obtain ⟨h3, h4⟩ := h2.get
    refine ⟨by simp [h3], fun i g1 g2 => ?_⟩
    cases i with
    | zero => exact h1
    | succ i => exact h4 i (by simpa using g1) (by simpa using g2)

/-- An object, its cells read anew. -/
theorem fwC {st st' : St} {h : Int → Option AO} {q : Int} {ver k : Nat} {tq : TypeId} {els els' : List (List AV)} (hf : FW st st' h) (hq : decide (q < st'.nx) = true) (h1 : st.h q = some (.row ver k tq els)) (hc : ConvLL st st' els els') (hd : (els'.all fun e => e.length == k) = true) :
    FW st st' (upd h q (.row ver k tq els')) := by
  simp only [List.all_eq_true, beq_iff_eq] at hd
  obtain ⟨g1, g2⟩ := hc.get
  intro r o ho
  simp only [upd] at ho
  split at ho
  · rename_i e
    subst e
    cases ho
    refine ⟨of_decide_eq_true hq, _, h1, rfl, rfl, rfl, g1, fun i hi => hd _ (List.getElem_mem hi), fun i j x y hx hy => ?_⟩
    rw [Option.bind_eq_some_iff] at hx hy
    obtain ⟨e, he, hx⟩ := hx
    obtain ⟨e', he', hy⟩ := hy
    obtain ⟨hi, rfl⟩ := List.getElem?_eq_some_iff.1 he
    obtain ⟨hi', rfl⟩ := List.getElem?_eq_some_iff.1 he'
    obtain ⟨hj, rfl⟩ := List.getElem?_eq_some_iff.1 hx
    obtain ⟨hj', rfl⟩ := List.getElem?_eq_some_iff.1 hy
    exact (g2 i hi hi').get.2 j hj hj'
  · exact hf r o ho

theorem row_wid' {α : Type} {enc : α → List D} {k : Nat} (hk : ∀ a, (enc a).length = k) (l : List α) : ∀ i (hi : i < (dataRow enc l).length), (dataRow enc l)[i].length = k :=
  fun i hi => row_wid hk l _ (List.getElem_mem hi)

theorem wid_ex {k : Nat} {els : List (List AV)} (h : (els.all fun e => e.length == k) = true) : ∀ e ∈ els, e.length = k := by
  simp only [List.all_eq_true, beq_iff_eq] at h
  exact h

/-- Data, and cells behind them that are read anew. -/
theorem fwA {α : Type} {enc : α → List D} {l m : List α} {st st' : St} {h : Int → Option AO} {q : Int} {ver k : Nat} {tq : TypeId} {els : List (List AV)} (hf : FW st st' h) (hq : decide (q < st'.nx) = true) (h1 : st.h q = some (.row ver k tq (dataRow enc l ++ els))) (hc : ConvLL st st' els (dataRow enc m)) (hk : ∀ a, (enc a).length = k) :
    FW st st' (upd h q (.row ver k tq (dataRow enc (l ++ m)))) := by
  obtain ⟨g1, g2⟩ := hc.get
  have he : dataRow enc (l ++ m) = dataRow enc l ++ dataRow enc m := by simp [dataRow]
  intro r o ho
  simp only [upd] at ho
  split at ho
  · rename_i e
    subst e
    cases ho
    refine ⟨of_decide_eq_true hq, _, h1, rfl, rfl, rfl, by simp [he] at g1 ⊢; omega, row_wid' hk _, fun i j x y hx hy => ?_⟩
    rw [he] at hy
    rw [Option.bind_eq_some_iff] at hx hy
    obtain ⟨e, he, hx⟩ := hx
    obtain ⟨e', he', hy⟩ := hy
    by_cases hi : i < (dataRow enc l).length
    · rw [List.getElem?_append_left hi] at he he'
      rw [he] at he'
      cases he'
      rw [hx] at hy
      cases hy
      simp only [dataRow, List.getElem?_map, Option.map_eq_some_iff] at he
      obtain ⟨a, _, rfl⟩ := he
      simp only [List.getElem?_map, Option.map_eq_some_iff] at hx
      obtain ⟨d, _, rfl⟩ := hx
      exact .same (.d _)
    · rw [List.getElem?_append_right (by omega)] at he he'
      obtain ⟨hi1, rfl⟩ := List.getElem?_eq_some_iff.1 he
      obtain ⟨hi2, rfl⟩ := List.getElem?_eq_some_iff.1 he'
      obtain ⟨hj, rfl⟩ := List.getElem?_eq_some_iff.1 hx
      obtain ⟨hj', rfl⟩ := List.getElem?_eq_some_iff.1 hy
      exact (g2 _ hi1 hi2).get.2 j hj hj'
  · exact hf r o ho

theorem fwD {α : Type} {enc : α → List D} {l : List α} {st st' : St} {h : Int → Option AO} {q : Int} {ver k : Nat} {tq : TypeId} {els : List (List AV)} (hf : FW st st' h) (hq : decide (q < st'.nx) = true) (h1 : st.h q = some (.row ver k tq els)) (he : els = dataRow enc l) (hk : ∀ a, (enc a).length = k) :
    FW st st' (upd h q (.row ver k tq (dataRow enc l))) := fw_data hf hq h1 he hk

/-- Arguments, read anew. -/
theorem R.same {β : Emb} {st : St} {w : World} {x y : AV} (H : HRel β st w) (hc : Conv st st x y) {v : Value} (h : R β st w v x) : R β st w v y := by
  refine h.conv H ⟨fun q o ho => ⟨H.lt _ _ ho, o, ho, ?_⟩, fun x hx => hx⟩ hc
  cases o with
  | iter s p => exact ⟨rfl, rfl⟩
  | row v k tq els =>
    refine ⟨rfl, rfl, rfl, rfl, H.width _ _ _ _ _ ho, fun i j x y hx hy => ?_⟩
    rw [hx] at hy
    cases hy
    exact .same ((H.wf.row _ _ _ _ _ ho).2 i j x hx)

theorem Pure.callc {f : FuncId} {args args' : List AV} {x : AV} (hp : Pure P f args' x) {st : St} {K : AV → St → Prop} (hc : ConvL st st args args') (h : K x st) : Call P f args st K := by
  obtain ⟨h1, h2⟩ := hp.calls st K h
  obtain ⟨g1, g2⟩ := hc.get
  exact ⟨h1, fun β w vs H hs hr => h2 β w vs H (by omega) fun i h3 h4 => (hr i h3 (by omega)).same H (g2 i (by omega) h4)⟩

/-- A call that lets go of rows that only it reads. -/
theorem Pure.callz {f : FuncId} {args args' : List AV} {x : AV} (hp : Pure P f args' x) {st : St} {h : Int → Option AO} {n : Int} {g : List (Nat × Nat × Value)} {K : AV → St → Prop} (hf : FW st ⟨h, n, g⟩ h) (hg : st.g = g) (hn : decide (st.nx ≤ n) = true) (hc : ConvL st ⟨h, n, g⟩ args args') (hk : K x ⟨h, n, g⟩) : Call P f args st K := by
  obtain ⟨h1, h2⟩ := hp.calls ⟨h, n, g⟩ K hk
  obtain ⟨g1, g2⟩ := hc.get
  have hfw : Fewer st ⟨h, n, g⟩ := fw_fewer (st' := st) hf hg
  refine ⟨h1, fun β w vs H hs hr => (h2 β w vs (H.fewer hfw) (by omega) fun i h3 h4 => (hr i h3 (by omega)).conv H hfw (g2 i (by omega) h4)).mono ?_⟩
  rintro e w' ⟨v, y, β', st', rfl, hK, hH, hR, hkp, he⟩
  have hkeep : Keep (Mut β st.h) w (Mut β h) w := (Keep.refl _ _).fewer fun b => hfw.mut
  have hevo : Evo β st β ⟨h, n, g⟩ := by
    refine ⟨of_decide_eq_true hn, fun q o' hq ho' => ?_⟩
    obtain ⟨_, o, h1, h2⟩ := hfw.obj _ _ ho'
    refine ⟨o, h1, ?_, fun _ => rfl⟩
    cases o <;> cases o' <;> simp_all [AOEvo]
  exact ⟨v, y, β', st', rfl, hK, hH, hR, hkeep.trans hkp, hevo.trans he⟩

/-- What is left of a row at a loop's or a piece's head. -/
theorem sk {B : Base} {h0 : Int → Option AO} {n0 : Int} {g : List (Nat × Nat × Value)} (hB : B.st = ⟨h0, n0, g⟩) {env env' : Env} {st : St} {h : Int → Option AO} {n : Int} (hf : FW st ⟨h, n, g⟩ h) (hg : st.g = g) (hn : decide (n0 ≤ n) = true) (hc : ConvE (Conv st ⟨h, n, g⟩) env env') :
    Sub B env st env' ⟨h, n, g⟩ := sub_keep hB hf hg hn hc

/-- What stands next, its reading written anew. -/
theorem at_as {B : Base} {N : Nat} {b : RC} {Q : AQ} {env : Env} {st : St} (env' : Env) (st' : St) (he : env = env') (hs : st = st') (h : vc P B N b Q env' st') : At P B N b Q env st := by
  subst he hs; exact at_go h

/-- One more row, empty, that stands nowhere. -/
theorem sph {B : Base} {env : Env} {st : St} (n k : Nat) (tq : TypeId) (hc : ∀ t, get env t = get env t := fun _ => rfl) : Sub B env st env (st.new (.row n k tq [])) :=
  fun N β a w hR => by
    obtain ⟨β', h1, h2, h3, h4⟩ := step_phantom (B := B) (st := st) n k tq β w hR.heap hR.keep hR.evo
    exact ⟨β', h1, fun t => h4 _ _ _ (.inl rfl) (hR.tmps t), hR.size, hR.defers, h2, h3⟩

theorem ret_now {B : Base} {K : AV → St → Prop} {x : AV} {st : St} (h : K x st) : Ret B K x st :=
  ⟨x, st, fun β w h1 h2 h3 => ⟨β, h1, h2, h3, fun v a b hab hr => by obtain ⟨rfl, rfl⟩ := hab; exact hr⟩, h⟩

theorem ret_keep {B : Base} {h0 : Int → Option AO} {n0 : Int} {g : List (Nat × Nat × Value)} (hB : B.st = ⟨h0, n0, g⟩) {st : St} {h : Int → Option AO} {n : Int} (hf : FW st ⟨h, n, g⟩ h) (hg : st.g = g) (hn : decide (n0 ≤ n) = true) {x y : AV} {K : AV → St → Prop}
    (hc : Conv st ⟨h, n, g⟩ x y) (hr : Ret B K y ⟨h, n, g⟩) : Ret B K x st := by
  obtain ⟨z, st', hs, hK⟩ := hr.h
  refine ⟨z, st', ((step_fewer (fw_fewer (st' := st) hf hg) (by rw [hB]; exact of_decide_eq_true hn)).trans hs).mono ?_, hK⟩
  rintro a b ⟨rfl, rfl⟩
  exact ⟨y, hc, rfl, rfl⟩

end Go.Eng
