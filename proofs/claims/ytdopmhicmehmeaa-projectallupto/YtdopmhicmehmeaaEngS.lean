/-
  Part of the proof that the law ProjectAll returns true at every input of bulk at most 1048576, and leaves its arguments as they were; the whole is stated at the end of the last text.
-/
import Derived.Test.YtdopmhicmehmeaaEngR
/-
  THE ENGINE, PART 19: helpers for walks.
-/
set_option linter.unusedVariables false
set_option linter.unusedSimpArgs false
namespace Go.Eng
open Go

variable {P : Program}

theorem wrap64 {n : Int} (h1 : -9223372036854775808 ≤ n) (h2 : n ≤ 9223372036854775807) : IntKind.i64.wrap n = n := by
  simp only [IntKind.wrap, IntKind.bits, IntKind.signed]
  simp
  omega

theorem conv_eq {st st' : St} {x y : AV} (h : x = y) (hb : Below st'.nx y) : Conv st st' x y := by subst h; exact .same hb
theorem conv_d {st st' : St} {x y : D} (h : x = y) : Conv st st' (.d x) (.d y) := by subst h; exact .same (.d _)
theorem conv_row {st st' : St} {q : Int} {v o l v' o' l' : Nat} (hq : decide (q < st'.nx) = true) (h1 : v = v') (h2 : o = o') (h3 : l = l') : Conv st st' (.row q v o l) (.row q v' o' l') := by
  subst h1 h2 h3; exact .same (.row (of_decide_eq_true hq))
theorem conv_ptr {st st' : St} {q : Int} {v o l : Nat} (hq : decide (q < st'.nx) = true) : Conv st st' (.ptr q v o l) (.ptr q v o l) := .same (.ptr (of_decide_eq_true hq))

theorem pconv_same {n : Nat} {st : St} {x : AV} : PConv n st x x := .inl rfl

/-- What is kept of a heap of what is live, object by object. -/
def FW (st st' : St) (h : Int → Option AO) : Prop := ∀ q o', h q = some o' → q < st'.nx ∧ ∃ o, st.h q = some o ∧ match o, o' with
    | .row ver k tq els, .row ver' k' tq' els' => ver = ver' ∧ k = k' ∧ tq = tq' ∧ els.length = els'.length ∧ (∀ i (hi : i < els'.length), els'[i].length = k) ∧ ∀ (i j : Nat) x y, (els[i]?.bind (·[j]?)) = some x → (els'[i]?.bind (·[j]?)) = some y → Conv st st' x y
    | .iter s p, .iter s' p' => s = s' ∧ p = p'
    | _, _ => False

theorem fw_base {h : Int → Option AO} {g : List (Nat × Nat × Value)} (wf : WF ⟨h, 0, g⟩) {st st' : St} (hn : decide (0 ≤ st'.nx) = true) (ha : Agree h st.h) : FW st st' h := by
  have hn' : 0 ≤ st'.nx := of_decide_eq_true hn
  intro q o ho
  have hq := wf.lt q o ho
  simp only at hq
  refine ⟨by omega, o, (ha q hq).trans ho, ?_⟩
  cases o with
  | iter b p => exact ⟨rfl, rfl⟩
  | row v k tq els =>
    obtain ⟨h1, h2⟩ := wf.row q v k tq els ho
    refine ⟨rfl, rfl, rfl, rfl, h1, fun i j x y hx hy => ?_⟩
    rw [hx] at hy
    cases hy
    exact .same ((h2 i j x hx).mono hn')

/-- Cells of data. -/
def dataRow {α : Type} (enc : α → List D) (l : List α) : List (List AV) := l.map fun a => (enc a).map AV.d

@[simp] theorem dataRow_length {α : Type} (enc : α → List D) (l : List α) : (dataRow enc l).length = l.length := by simp [dataRow]

theorem fw_data {α : Type} {enc : α → List D} {l : List α} {st st' : St} {h : Int → Option AO} {q : Int} {ver k : Nat} {tq : TypeId} {els : List (List AV)} (hf : FW st st' h) (hq : decide (q < st'.nx) = true) (h1 : st.h q = some (.row ver k tq els)) (he : els = dataRow enc l) (hk : ∀ a, (enc a).length = k) :
    FW st st' (upd h q (.row ver k tq (dataRow enc l))) := by
  intro r o ho
  simp only [upd] at ho
  split at ho
  · rename_i e
    subst e
    cases ho
    refine ⟨of_decide_eq_true hq, _, h1, rfl, rfl, rfl, by rw [he], fun i hi => by simp [dataRow, hk], fun i j x y hx hy => ?_⟩
    rw [he, hy] at hx
    cases hx
    simp only [dataRow, List.getElem?_map, Option.bind_eq_some_iff, Option.map_eq_some_iff] at hy
    obtain ⟨e, ⟨a, _, rfl⟩, hy⟩ := hy
    simp only [List.getElem?_map, Option.map_eq_some_iff] at hy
    obtain ⟨d, _, rfl⟩ := hy
    exact .same (.d _)
  · exact hf r o ho

/-- A variable: one element, its cells below. -/
theorem fw_box {st st' : St} {h : Int → Option AO} {q : Int} {ver k : Nat} {tq : TypeId} {cs cs' : List AV} (hf : FW st st' h) (hq : decide (q < st'.nx) = true) (h1 : st.h q = some (.row ver k tq [cs])) (hl : cs.length = cs'.length) (hl' : cs'.length = k)
    (hc : ∀ (j : Nat) x y, cs[j]? = some x → cs'[j]? = some y → Conv st st' x y) : FW st st' (upd h q (.row ver k tq [cs'])) := by
  intro r o ho
  simp only [upd] at ho
  split at ho
  · rename_i e
    subst e
    cases ho
    refine ⟨of_decide_eq_true hq, _, h1, rfl, rfl, rfl, rfl, fun i hi => ?_, fun i j x y hx hy => ?_⟩
    · have : i = 0 := by simpa using hi
      subst this
      exact hl'
    · cases i with
      | zero => exact hc j x y (by simpa using hx) (by simpa using hy)
      | succ i => simp at hx
  · exact hf r o ho

theorem fw_fewer {st st' : St} {h : Int → Option AO} {n : Int} {g : List (Nat × Nat × Value)} (hf : FW st ⟨h, n, g⟩ h) (hg : st.g = g) : Fewer st ⟨h, n, g⟩ := ⟨hf, fun x hx => by rw [hg]; exact hx⟩

/-- Bytes in a row. -/
def byteD (b : UInt8) : List D := [.v (.int .u8 b.toNat)]
theorem u8s_dataRow (l : List UInt8) : u8s l = dataRow byteD l := by simp [u8s, dataRow, byteD]

/-- Let go of all but data. -/
theorem conv_frz {α : Type} {enc : α → List D} {l : List α} {st st' : St} {q : Int} {ver off len k : Nat} {tq : TypeId} {els : List (List AV)} {ds : List (List D)} (hq : st.h q = some (.row ver k tq els)) (hn : st'.h q = none) (he : els = dataRow enc l) (hd : ((l.drop off).take len).map enc = ds) : Conv st st' (.row q ver off len) (.d (.sl k ds)) := by
  refine .frz hq hn ?_
  subst hd he
  simp only [dataRow, List.map_drop, List.map_take, List.map_map]
  rfl

theorem sub_keep {B : Base} {h0 : Int → Option AO} {n0 : Int} {g : List (Nat × Nat × Value)} (hB : B.st = ⟨h0, n0, g⟩) {env env' : Env} {st : St} {h : Int → Option AO} {n : Int} (hf : FW st ⟨h, n, g⟩ h) (hg : st.g = g) (hn : decide (n0 ≤ n) = true) (hc : ConvE (Conv st ⟨h, n, g⟩) env env') :
    Sub B env st env' ⟨h, n, g⟩ := sub_fewer (fw_fewer (st' := st) hf hg) (by rw [hB]; exact of_decide_eq_true hn) hc

/-- A call, done in place. -/
theorem inline_fn {f : FuncId} {sc : SC} {F : RF} (hF : resF P f sc = some F) {args : List AV} {st : St} {K : AV → St → Prop} (hl : args.length ≤ F.n)
    (h : ∀ B : Base, B.st = st → vc P B F.n F.code (vret B F.rs K) (argsE 0 args) st) : Call P f args st K :=
  ⟨ACalls_intro hF hl fun B hB wf => (vc_sound (h B hB)).mono vret_sound⟩

theorem ret_any {B : Base} {h0 : Int → Option AO} {n0 : Int} {g : List (Nat × Nat × Value)} (hB : B.st = ⟨h0, n0, g⟩) {st : St} {h : Int → Option AO} {n : Int} (hf : FW st ⟨h, n, g⟩ h) (hg : st.g = g) (hn : decide (n0 ≤ n) = true) {x y : AV} {K : AV → St → Prop}
    (hc : Conv st ⟨h, n, g⟩ x y) (hK : K y ⟨h, n, g⟩) : Ret B K x st :=
  ⟨y, _, (step_fewer (fw_fewer (st' := st) hf hg) (by rw [hB]; exact of_decide_eq_true hn)).mono (by rintro a b ⟨rfl, rfl⟩; exact hc), hK⟩

/-! ### Shorter forms -/
theorem agree_of {h h' : Int → Option AO} (ha : ∀ n : Nat, h' (Int.negSucc n) = h (Int.negSucc n)) : Agree h h' := by
  intro q hq
  obtain ⟨n, rfl⟩ := Int.eq_negSucc_of_lt_zero hq
  exact ha n

mutual
def dry : AV → Bool
  | .d _ | .junk | .iptr _ | .anyp => true
  | .agg l | .tup l => dryL l
  | .iface _ x => dry x
  | _ => false
def dryL : List AV → Bool
  | [] => true
  | x :: l => dry x && dryL l
end

theorem dryL_mem {l : List AV} (h : dryL l = true) : ∀ x ∈ l, dry x = true := by
  induction l with
  | nil => intro x hx; simp at hx
  | cons y l ih =>
    simp only [dryL, Bool.and_eq_true] at h
    intro x hx
    rcases List.mem_cons.1 hx with rfl | hx
    · exact h.1
    · exact ih h.2 x hx

theorem dry_below (m : Int) : ∀ (n : Nat) (x : AV), SizeOf.sizeOf x ≤ n → dry x = true → Below m x := by
  intro n
  induction n with
  | zero => intro x hx; cases x <;> simp at hx
  | succ n ih =>
    intro x hx h
    cases x <;> simp only [dry, Bool.false_eq_true] at h
    · exact .d _
    · exact .junk
    · exact .iptr _
    · rename_i l
      exact .agg fun i hi => ih _ (by have := List.sizeOf_lt_of_mem (List.getElem_mem hi); simp at hx; omega) (dryL_mem h _ (List.getElem_mem hi))
    · rename_i l
      exact .tup fun i hi => ih _ (by have := List.sizeOf_lt_of_mem (List.getElem_mem hi); simp at hx; omega) (dryL_mem h _ (List.getElem_mem hi))
    · exact .iface (ih _ (by simp at hx; omega) h)
    · exact .anyp

theorem conv_dry {st st' : St} {x y : AV} (h : x = y) (hd : dry y = true) : Conv st st' x y := by subst h; exact .same (dry_below _ _ _ (Nat.le_refl _) hd)

def ConvL (st st' : St) : List AV → List AV → Prop
  | [], [] => True
  | x :: l, y :: m => Conv st st' x y ∧ ConvL st st' l m
  | _, _ => False

theorem ConvL.get {st st' : St} : ∀ {l m : List AV}, ConvL st st' l m → l.length = m.length ∧ ∀ i (h1 : i < l.length) (h2 : i < m.length), Conv st st' l[i] m[i]
  | [], [], _ => ⟨rfl, fun i h1 => by simp at h1⟩
  | x :: l, y :: m, h => by
    obtain ⟨h1, h2⟩ := h
    obtain ⟨h3, h4⟩ := h2.get
    refine ⟨by simp [h3], fun i g1 g2 => ?_⟩
    cases i with
    | zero => exact h1
    | succ i => exact h4 i (by simpa using g1) (by simpa using g2)

theorem conv_agg {st st' : St} {l m : List AV} (h : ConvL st st' l m) : Conv st st' (.agg l) (.agg m) := .agg h.get.1 h.get.2
theorem conv_tup {st st' : St} {l m : List AV} (h : ConvL st st' l m) : Conv st st' (.tup l) (.tup m) := .tup h.get.1 h.get.2

/-- A pure function's return of what holds nothing live. -/
theorem ret_v {B : Base} {hp : Int → Option AO} {g : List (Nat × Nat × Value)} (hB : B.st = ⟨hp, 0, g⟩) (wf : WF ⟨hp, 0, g⟩) {h' : Int → Option AO} {n : Int} (ha : ∀ n : Nat, h' (Int.negSucc n) = hp (Int.negSucc n)) {x y : AV} (hd : dry y = true) (hc : x = y) :
    Ret B (fun y' st' => y' = y ∧ st' = ⟨hp, 0, g⟩) x ⟨h', n, g⟩ := ret_pure hB wf (agree_of ha) (conv_dry hc hd)

/-- A pure function's return of a truth value. -/
theorem ret_b {B : Base} {hp : Int → Option AO} {g : List (Nat × Nat × Value)} (hB : B.st = ⟨hp, 0, g⟩) (wf : WF ⟨hp, 0, g⟩) {h' : Int → Option AO} {n : Int} (ha : ∀ n : Nat, h' (Int.negSucc n) = hp (Int.negSucc n)) {x y : Bool} (hc : x = y) :
    Ret B (fun y' st' => y' = cB y ∧ st' = ⟨hp, 0, g⟩) (.d (.v (.bool x))) ⟨h', n, g⟩ := by subst hc; exact ret_pure hB wf (agree_of ha) (.same (.d _))
theorem ret_i {B : Base} {hp : Int → Option AO} {g : List (Nat × Nat × Value)} (hB : B.st = ⟨hp, 0, g⟩) (wf : WF ⟨hp, 0, g⟩) {h' : Int → Option AO} {n : Int} (ha : ∀ n : Nat, h' (Int.negSucc n) = hp (Int.negSucc n)) {x y : Int} (hc : x = y) :
    Ret B (fun y' st' => y' = cI y ∧ st' = ⟨hp, 0, g⟩) (.d (.v (.int .i64 x))) ⟨h', n, g⟩ := by subst hc; exact ret_pure hB wf (agree_of ha) (.same (.d _))
theorem ret_s {B : Base} {hp : Int → Option AO} {g : List (Nat × Nat × Value)} (hB : B.st = ⟨hp, 0, g⟩) (wf : WF ⟨hp, 0, g⟩) {h' : Int → Option AO} {n : Int} (ha : ∀ n : Nat, h' (Int.negSucc n) = hp (Int.negSucc n)) {x y : ByteArray} (hc : x = y) :
    Ret B (fun y' st' => y' = cS y ∧ st' = ⟨hp, 0, g⟩) (.d (.v (.string x))) ⟨h', n, g⟩ := by subst hc; exact ret_pure hB wf (agree_of ha) (.same (.d _))

/-- A pure function's return. -/
theorem ret_c {B : Base} {hp : Int → Option AO} {g : List (Nat × Nat × Value)} (hB : B.st = ⟨hp, 0, g⟩) (wf : WF ⟨hp, 0, g⟩) {h' : Int → Option AO} {n : Int} (ha : ∀ n : Nat, h' (Int.negSucc n) = hp (Int.negSucc n)) {x y : AV} (hc : Conv ⟨h', n, g⟩ ⟨hp, 0, g⟩ x y) :
    Ret B (fun y' st' => y' = y ∧ st' = ⟨hp, 0, g⟩) x ⟨h', n, g⟩ := ret_pure hB wf (agree_of ha) hc

/-- Nothing but what was there. -/
theorem sub_none {B : Base} {hp : Int → Option AO} {g : List (Nat × Nat × Value)} (hB : B.st = ⟨hp, 0, g⟩) (wf : WF ⟨hp, 0, g⟩) {env env' : Env} {h' : Int → Option AO} {n : Int} (ha : ∀ n : Nat, h' (Int.negSucc n) = hp (Int.negSucc n))
    (hc : ConvE (Conv ⟨h', n, g⟩ ⟨hp, 0, g⟩) env env') : Sub B env ⟨h', n, g⟩ env' ⟨hp, 0, g⟩ :=
  sub_fewer (fewer_back wf (agree_of ha)) (by rw [hB]; exact Int.le_refl _) hc

theorem fw0 {h : Int → Option AO} {g : List (Nat × Nat × Value)} (wf : WF ⟨h, 0, g⟩) {st st' : St} (hn : decide (0 ≤ st'.nx) = true) (ha : ∀ n : Nat, st.h (Int.negSucc n) = h (Int.negSucc n)) : FW st st' h := fw_base wf hn (agree_of ha)

/-- A variable of data. -/
theorem fw_var {st st' : St} {h : Int → Option AO} {q : Int} {ver k : Nat} {tq : TypeId} {cs : List AV} (hf : FW st st' h) (hq : decide (q < st'.nx) = true) (h1 : st.h q = some (.row ver k tq [cs])) (hd : dryL cs = true) (hk : cs.length = k) :
    FW st st' (upd h q (.row ver k tq [cs])) := by
  refine fw_box hf hq h1 rfl hk fun j x y hx hy => ?_
  rw [hx] at hy
  cases hy
  exact .same (dry_below _ _ _ (Nat.le_refl _) (dryL_mem hd x (List.mem_of_getElem? hx)))

theorem width_data {α : Type} {enc : α → List D} {k : Nat} (hk : ∀ a, (enc a).length = k) (l : List α) : ∀ e ∈ (l.map enc).map (fun e => e.map AV.d), e.length = k := by
  intro e he
  simp only [List.map_map, List.mem_map, Function.comp] at he
  obtain ⟨a, _, rfl⟩ := he
  simp [hk]

/-- A loop over numbers below a bound. -/
theorem loop_nat {B : Base} {N : Nat} (n : Nat) (E : Nat → Env) (S : Nat → St) (C : Nat → Prop) {x : RC} {Q : AQ} {env : Env} {st : St} (h0 : C 0) (hs : Sub B env st (E 0) (S 0))
    (round : ∀ i, i ≤ n → C i → vc P B N x (qthen (fun env' st' => (i < n ∧ C (i + 1)) ∧ Sub B env' st' (E (i + 1)) (S (i + 1))) Q) (E i) (S i)) : Loop P B N x Q env st := by
  refine ⟨awp_loop E S (fun i => i ≤ n ∧ C i) (fun i => n - i) 0 ⟨Nat.zero_le _, h0⟩ hs fun i hi => (vc_sound (round i hi.1 hi.2)).mono fun e env st hq => ?_⟩
  cases e
  · obtain ⟨⟨h1, h2⟩, h3⟩ := hq
    exact ⟨i + 1, ⟨h1, h2⟩, by omega, h3⟩
  · exact hq
  · exact hq

/-- A loop over numbers below a bound, that turns an object now and then. -/
theorem loop_ver {B : Base} {N : Nat} (n : Nat) (E : Nat → Nat → Env) (S : Nat → Nat → St) (C : Nat → Prop) {x : RC} {Q : AQ} {env : Env} {st : St} (h0 : C 0) (hs : Sub B env st (E 0 0) (S 0 0))
    (round : ∀ i v, i ≤ n → C i → vc P B N x (qthen (fun env' st' => (i < n ∧ C (i + 1)) ∧ ∃ v', Sub B env' st' (E (i + 1) v') (S (i + 1) v')) Q) (E i v) (S i v)) : Loop P B N x Q env st := by
  refine ⟨awp_loop (α := Nat × Nat) (fun p => E p.1 p.2) (fun p => S p.1 p.2) (fun p => p.1 ≤ n ∧ C p.1) (fun p => n - p.1) (0, 0) ⟨Nat.zero_le _, h0⟩ hs fun p hi => (vc_sound (round p.1 p.2 hi.1 hi.2)).mono fun e env st hq => ?_⟩
  cases e
  · obtain ⟨⟨h1, h2⟩, v', h3⟩ := hq
    exact ⟨(p.1 + 1, v'), ⟨h1, h2⟩, by simp only; omega, h3⟩
  · exact hq
  · exact hq

/-- The next number. -/
theorem conv_next {st st' : St} {i n : Nat} (h : i < n) (hn : n ≤ 4611686018427387904) : Conv st st' (.d (.v (.int .i64 (IntKind.i64.wrap ((i : Int) + 1))))) (cI ((i + 1 : Nat) : Int)) :=
  conv_d (by rw [wrap64 (by omega) (by omega)]; rfl)

end Go.Eng
