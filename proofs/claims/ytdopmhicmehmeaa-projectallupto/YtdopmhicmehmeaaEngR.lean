/-
  Part of the proof that the law ProjectAll returns true at every input of bulk at most 1048576, and leaves its arguments as they were; the whole is stated at the end of the last text.
-/
import Derived.Test.YtdopmhicmehmeaaEngQ
/-
  THE ENGINE, PART 18: what is to be shown, as a term that computes.
-/
set_option linter.unusedVariables false
set_option linter.unusedSimpArgs false
namespace Go.Eng
open Go

variable {P : Program}

structure vcond (t : Bool) (A B : Prop) : Prop where
  a : t = true → A
  b : t = false → B
theorem vcond_intro {t : Bool} {A B : Prop} (h1 : t = true → A) (h2 : t = false → B) : vcond t A B := ⟨h1, h2⟩
theorem vcond_cases {t : Bool} {A B : Prop} (h : vcond t A B) : (t = true ∧ A) ∨ (t = false ∧ B) := by cases t; exact .inr ⟨rfl, h.b rfl⟩; exact .inl ⟨rfl, h.a rfl⟩

structure vif (c A : Prop) : Prop where
  c : c
  a : A
theorem vif_intro {c A : Prop} (hc : c) (h : A) : vif c A := ⟨hc, h⟩
theorem vif_elim {c A : Prop} (h : vif c A) : c ∧ A := ⟨h.c, h.a⟩

structure vget {α : Type} (l : List α) (i : Nat) (K : α → Prop) : Prop where
  h : ∃ x, l[i]? = some x ∧ K x
theorem vget_intro {α : Type} {l : List α} {i : Nat} {K : α → Prop} {x : α} (h : l[i]? = some x) (hk : K x) : vget l i K := ⟨x, h, hk⟩
theorem vget_elim {α : Type} {l : List α} {i : Nat} {K : α → Prop} (h : vget l i K) : ∃ x, l[i]? = some x ∧ K x := h.h

/-- A value, as one likes to write it. -/
structure veq {α : Type} (a : α) (K : α → Prop) : Prop where
  h : ∃ b, a = b ∧ K b
theorem veq_intro {α : Type} {a : α} {K : α → Prop} (b : α) (h : a = b) (hk : K b) : veq a K := ⟨b, h, hk⟩
theorem veq_elim {α : Type} {a : α} {K : α → Prop} (h : veq a K) : K a := by obtain ⟨b, rfl, h⟩ := h; exact h

def vsome {α : Type} (o : Option α) (K : α → Prop) : Prop := match o with | some x => K x | none => False
theorem vsome_intro {α : Type} {o : Option α} {K : α → Prop} {x : α} (h : o = some x) (hk : K x) : vsome o K := by subst h; exact hk
theorem vsome_elim {α : Type} {o : Option α} {K : α → Prop} (h : vsome o K) : ∃ x, o = some x ∧ K x := by
  cases o with
  | none => exact h.elim
  | some x => exact ⟨x, rfl, h⟩

def vbool (x : AV) (K : Bool → Prop) : Prop := match x with | .d (.v (.bool t)) => K t | _ => False
theorem vbool_elim {x : AV} {K : Bool → Prop} (h : vbool x K) : ∃ t, x = .d (.v (.bool t)) ∧ K t := by
  unfold vbool at h
  split at h
  · exact ⟨_, rfl, h⟩
  · exact h.elim

def vint (x : AV) (K : Int → Prop) : Prop := match x with | .d (.v (.int _ n)) => K n | _ => False
theorem vint_elim {x : AV} {K : Int → Prop} (h : vint x K) : ∃ k n, x = .d (.v (.int k n)) ∧ K n := by
  unfold vint at h
  split at h
  · exact ⟨_, _, rfl, h⟩
  · exact h.elim

def vrow (st : St) (q : Int) (K : Nat → Nat → TypeId → List (List AV) → Prop) : Prop := match st.h q with | some (.row ver k tq els) => K ver k tq els | _ => False
theorem vrow_intro {st : St} {q : Int} {K : Nat → Nat → TypeId → List (List AV) → Prop} {ver k : Nat} {tq : TypeId} {els : List (List AV)} (h : st.h q = some (.row ver k tq els)) (hk : K ver k tq els) : vrow st q K := by unfold vrow; rw [h]; exact hk
theorem vrow_elim {st : St} {q : Int} {K : Nat → Nat → TypeId → List (List AV) → Prop} (h : vrow st q K) : ∃ ver k tq els, st.h q = some (.row ver k tq els) ∧ K ver k tq els := by
  unfold vrow at h
  split at h
  · rename_i h1; exact ⟨_, _, _, _, h1, h⟩
  · exact h.elim

def vbound (env : Env) (o : Option RX) (dflt most : Nat) (K : Nat → Prop) : Prop :=
  match o with
  | none => K dflt
  | some x => vint (rv env x) fun n => (0 ≤ n ∧ n ≤ most) ∧ K n.toNat

theorem vbound_elim {env : Env} {o : Option RX} {d m : Nat} {K : Nat → Prop} (h : vbound env o d m K) : ∃ n, bound (rv env) o d m = some n ∧ K n := by
  unfold vbound at h
  split at h
  · exact ⟨d, rfl, h⟩
  · rename_i x
    obtain ⟨k, n, e, h1, h2⟩ := vint_elim h
    exact ⟨n.toNat, by simp only [bound, e]; rw [if_pos h1], h2⟩

/-- A number, as one likes to write it. -/
def vnum (v : Value) (K : Value → Prop) : Prop := match v with
  | .int k n => veq n fun n => K (.int k n)
  | v => K v
theorem vnum_elim {v : Value} {K : Value → Prop} (h : vnum v K) : K v := by
  unfold vnum at h
  split at h
  · obtain ⟨⟨_, rfl, h⟩⟩ := h; exact h
  · exact h

def vbin (op : BinOp) (a b : Value) (K : Value → Prop) : Prop :=
  match op, a, b with
  | .shl, .int k a, .int _ b => 0 ≤ b ∧ vnum (.int k (k.wrap (a * 2 ^ (min b.toNat k.bits)))) K
  | .shr, .int k a, .int _ b => 0 ≤ b ∧ vnum (.int k (a.fdiv (2 ^ (min b.toNat k.bits)))) K
  | .quo, .int k a, .int k' b => vif (k = k') (b ≠ 0 ∧ vnum (.int k (k.wrap (a.tdiv b))) K)
  | .rem, .int k a, .int k' b => vif (k = k') (b ≠ 0 ∧ vnum (.int k (a.tmod b)) K)
  | .add, .string a, .string b => a.size + b.size ≤ 9223372036854775807 ∧ K (.string (a ++ b))
  | op, a, b => vsome (binV op a b) fun v => vnum v K

theorem vbin_elim {op : BinOp} {a b : Value} {K : Value → Prop} (h : vbin op a b K) : ∃ v, binV op a b = some v ∧ K v := by
  unfold vbin at h
  split at h
  · exact ⟨_, by simp only [binV, shI]; rw [if_neg (by omega)], vnum_elim h.2⟩
  · exact ⟨_, by simp only [binV, shI]; rw [if_neg (by omega)], vnum_elim h.2⟩
  · obtain ⟨rfl, h1, h2⟩ := vif_elim h
    exact ⟨_, by simp only [binV, if_true, binI]; rw [if_neg h1], vnum_elim h2⟩
  · obtain ⟨rfl, h1, h2⟩ := vif_elim h
    exact ⟨_, by simp only [binV, if_true, binI]; rw [if_neg h1], vnum_elim h2⟩
  · exact ⟨_, by simp only [binV, binS]; rw [if_pos h.1], h.2⟩
  · obtain ⟨v, h1, h2⟩ := vsome_elim h
    exact ⟨v, h1, vnum_elim h2⟩

/-- A plain value, its number as one likes to write it. -/
def vplain (x : AV) (K : AV → Prop) : Prop := match x with
  | .d (.v (.int k n)) => veq n fun n => K (.d (.v (.int k n)))
  | x => K x
theorem vplain_elim {x : AV} {K : AV → Prop} (h : vplain x K) : K x := by
  unfold vplain at h
  split at h
  · obtain ⟨⟨_, rfl, h⟩⟩ := h; exact h
  · exact h

/-- A call that is made. -/
structure Call (P : Program) (f : FuncId) (args : List AV) (st : St) (K : AV → St → Prop) : Prop where
  h : ACalls P f args st K

theorem Pure.call {f : FuncId} {args : List AV} {x : AV} (hp : Pure P f args x) {st : St} {K : AV → St → Prop} (h : K x st) : Call P f args st K := ⟨hp.calls st K h⟩

/-- The elements of a slice. -/
def vels (st : St) (x : AV) (K : List (List AV) → Prop) : Prop := match x with
  | .d (.v (.slice none 0 0)) => K []
  | .d (.sl _ els) => K (els.map fun e => e.map AV.d)
  | .row q ver off len => vrow st q fun ver' _ _ els => vif (ver = ver') (K ((els.drop off).take len))
  | _ => False

theorem vels_elim {st : St} {x : AV} {K : List (List AV) → Prop} (h : vels st x K) : ∃ els, elemsOf st x = some els ∧ K els := by
  unfold vels at h
  split at h
  · exact ⟨_, rfl, h⟩
  · exact ⟨_, rfl, h⟩
  · obtain ⟨ver', k', tq', els, h1, h⟩ := vrow_elim h
    have h9 := vif_elim h
    clear h
    obtain ⟨rfl, h⟩ := h9
    exact ⟨_, by simp only [elemsOf, h1, if_true], h⟩
  · exact h.elim

/-- What is appended. -/
def vsrc (st : St) (k : Nat) (x : AV) (K : List (List AV) → Prop) : Prop := match x with
  | .d (.v (.string s)) => vif (k = 1) (K (u8s s.data.toList))
  | x => vels st x K

theorem vsrc_elim {st : St} {k : Nat} {x : AV} {K : List (List AV) → Prop} (h : vsrc st k x K) : ∃ els, srcOf st k x = some els ∧ K els := by
  unfold vsrc at h
  split at h
  · have h9 := vif_elim h
    clear h
    obtain ⟨rfl, h⟩ := h9
    exact ⟨_, by simp only [srcOf, if_true], h⟩
  · rename_i hne
    obtain ⟨els, h1, h2⟩ := vels_elim h
    refine ⟨els, ?_, h2⟩
    unfold srcOf
    split
    · exact (hne _ rfl).elim
    · exact h1

def vop (P : Program) (op : ROp) (env : Env) (st : St) (K : AV → St → Prop) : Prop :=
  match op with
  | .mov x => K (rv env x) st
  | .pick c a b => vbool (rv env c) fun t => vcond t (K (rv env a) st) (K (rv env b) st)
  | .bin op x y => match rv env x, rv env y with
    | .d (.v a), .d (.v b) => vbin op a b fun v => K (.d (.v v)) st
    | _, _ => False
  | .load ag k x => match rv env x with
    | .ptr q ver i j => vrow st q fun ver' _ _ els => vif (ver = ver') (vget els i fun cells => vsome (loadC ag k (cells.drop j)) fun v => K v st)
    | .iptr cells => vsome (loadC ag k (cells.map AV.d)) fun v => K v st
    | _ => False
  | .nilck x => match rv env x with
    | .ptr q ver i j => vrow st q fun ver' _ _ _ => vif (ver = ver') (K (.ptr q ver i j) st)
    | .iptr cells => K (.iptr cells) st
    | .fn (.func f) a c => K (.fn (.func f) a c) st
    | _ => False
  | .faddr off x => match rv env x with
    | .ptr q ver i j => vrow st q fun ver' k _ _ => vif (ver = ver' ∧ j + off ≤ k) (K (.ptr q ver i (j + off)) st)
    | .iptr cells => vif (off < cells.length) (K (.iptr (cells.drop off)) st)
    | _ => False
  | .iaR k x i => vint (rv env i) fun n => match rv env x with
    | .row q ver off len => vrow st q fun ver' k' _ _ => vif (ver = ver' ∧ k = k') ((0 ≤ n ∧ n < len) ∧ veq (off + n.toNat) fun i => K (.ptr q ver i 0) st)
    | .d (.sl k' els) => vif (k = k' ∧ 0 < k) (0 ≤ n ∧ vget els n.toNat fun c => K (.iptr c) st)
    | _ => False
  | .iaA k m x i => vint (rv env i) fun n => match rv env x with
    | .ptr q ver a j => vrow st q fun ver' k' _ _ => vif (ver = ver') ((0 ≤ n ∧ n < m) ∧ vif (j + n.toNat * k ≤ k') (veq (j + n.toNat * k) fun j => K (.ptr q ver a j) st))
    | _ => False
  | .idxS x i => vint (rv env i) fun n => match rv env x with
    | .d (.v (.string s)) => 0 ≤ n ∧ vget s.data.toList n.toNat fun b => K (.d (.v (.int .u8 b.toNat))) st
    | _ => False
  | .slS x lo hi => match rv env x with
    | .d (.v (.string s)) => vbound env hi s.size s.size fun h => vbound env lo 0 h fun l => K (.d (.v (.string (s.extract l h)))) st
    | _ => False
  | .slR k x lo hi mx => match rv env x, mx with
    | .row q ver off len, none => vrow st q fun ver' k' _ _ => vif (ver = ver' ∧ k = k') (vbound env hi len len fun h => vbound env lo 0 h fun l => veq (off + l) fun o => veq (h - l) fun m => K (.row q ver o m) st)
    | .row q ver off len, some m => vint (rv env m) fun n => vrow st q fun ver' k' _ _ => vif (ver = ver' ∧ k = k') (vif (hi.isSome = true ∧ n = len) (vbound env hi len len fun h => vif (h = len) (vbound env lo 0 h fun l => veq (off + l) fun o => veq (h - l) fun m => K (.row q ver o m) st)))
    | .d (.sl k' els), none => vif (k = k' ∧ 0 < k) (vbound env hi els.length els.length fun h => vbound env lo 0 h fun l => veq ((els.take h).drop l) fun e => K (.d (.sl k e)) st)
    | _, _ => vsome (aval (.slR k x lo hi mx) (rv env) st) fun v => K v st
  | .lenR x => match rv env x with
    | .d (.v (.slice none 0 0)) => K (iv 0) st
    | .d (.sl _ els) => veq els.length fun n => K (iv n) st
    | .row q ver _ len => vrow st q fun ver' _ _ _ => vif (ver = ver') (K (iv len) st)
    | _ => False
  | .alloc T zero => K (.ptr st.nx 0 0 0) (st.new (.row 0 zero.length T [zero]))
  | .box T x => vsome (vcells (rv env x)) fun l => K (.ptr st.nx 0 0 0) (st.new (.row 0 l.length T [l]))
  | .bslice T k n zero parts => vsome (afillS (List.replicate n zero) (parts.map fun p => (p.1, rv env p.2))) fun els => veq els fun els => K (.row st.nx 0 0 n) (st.new (.row 0 k T els))
  | .store k x y => vsome (vcells (rv env y)) fun l => match rv env x with
    | .ptr q ver i j => vrow st q fun ver' k' tq' els => vif (ver = ver' ∧ l.length = k) (vget els i fun cells => vif (j + l.length ≤ cells.length) (veq (els.set i (splice cells j l)) fun e => K undefAV (st.set q (.row ver k' tq' e))))
    | _ => False
  | .s2b T x => match rv env x with
    | .d (.v (.string s)) => veq (u8s s.data.toList) fun e => veq s.size fun n => K (.row st.nx 0 0 n) (st.new (.row 0 1 T e))
    | _ => False
  | .b2s x => match rv env x with
    | .d (.v (.slice none 0 0)) => K (.d (.v (.string .empty))) st
    | x => vels st x fun els => ∃ l, els = u8s l ∧ K (.d (.v (.string ⟨l.toArray⟩))) st
  | .mksl T k b zero len cap => vint (rv env len) fun n => vint (rv env cap) fun c => (0 ≤ n ∧ n ≤ c ∧ c ≤ 4294967296) ∧ veq (List.replicate n.toNat zero) fun e => veq n.toNat fun n => K (.row st.nx 0 0 n) (st.new (.row 0 k T e))
  | .app T k b x y => vsrc st k (rv env y) fun new => veq new fun new => (∀ e ∈ new, e.length = k) ∧ match rv env x with
    | .d (.v (.slice none 0 0)) => new.length ≤ 4294967296 ∧ veq new.length fun n => K (.row st.nx 0 0 n) (st.new (.row 0 k T new))
    | .row q ver off len => vrow st q fun ver' k' tq' els => vif (ver = ver' ∧ k = k' ∧ T = tq') (off + len = els.length ∧ len + new.length ≤ 4294967296 ∧
            veq (els.drop off ++ new) fun e => veq (len + new.length) fun n => K (.row q (ver + 1) 0 n) (st.set q (.row (ver + 1) k T e)))
    | _ => False
  | .call f args => Call P f (args.map (rv env)) st K
  | .callv x args => match rv env x with
    | .fn (.func f) first cap => Call P f (first ++ args.map (rv env) ++ cap) st K
    | _ => False
  | .copy k x y => vsrc st k (rv env y) fun src => veq src fun src => match rv env x with
    | .row q ver off len => vrow st q fun ver' k' tq' els => vif (ver = ver' ∧ k = k') ((∀ e ∈ src, e.length = k) ∧ off + len ≤ els.length ∧
          veq (els.take off ++ (src.take len ++ els.drop (off + min src.length len))) fun e => veq (min src.length len) fun n => K (iv (n : Nat)) (st.set q (.row ver k tq' e)))
    | _ => False
  | .clear z x => match rv env x with
    | .d (.v (.slice none 0 0)) => K undefAV st
    | .row q ver off len => vrow st q fun ver' k' tq' els => vif (ver = ver' ∧ z.length = k') (off + len ≤ els.length ∧
          veq (els.take off ++ (List.replicate len z ++ els.drop (off + len))) fun e => K undefAV (st.set q (.row ver k' tq' e)))
    | _ => False
  | .toU x => match rv env x with
    | .ptr q ver i j => vrow st q fun ver' k _ _ => vif (ver = ver' ∧ j < k) (K (.ptr q ver i j) st)
    | .d (.v (.pointer none)) => K (.d (.v (.pointer none))) st
    | _ => False
  | .ofU t k x => match rv env x with
    | .ptr q ver i j => vrow st q fun ver' k' t' _ => vif (ver = ver' ∧ j = 0 ∧ k = k' ∧ t = t') (K (.ptr q ver i j) st)
    | .d (.v (.pointer none)) => K (.d (.v (.pointer none))) st
    | _ => False
  | .usd x => match rv env x with
    | .d (.v (.slice none 0 0)) => K (.d (.v (.pointer none))) st
    | .row q ver off len => vrow st q fun ver' _ _ _ => vif (ver = ver') ((0 < len → K (.ptr q ver off 0) st) ∧ (len = 0 → K .anyp st))
    | _ => False
  | .ust t x n => match rv env n with
    | .d (.v (.int .i64 n)) => match rv env x with
      | .ptr q ver i j => vrow st q fun ver' k t' els => vif (ver = ver' ∧ k = 1 ∧ t = t' ∧ j = 0) (∃ l : List UInt8, l ≠ [] ∧ n = l.length ∧ l.length ≤ 9223372036854775807 ∧ (els.drop i).take l.length = u8s l ∧ K (.d (.v (.string ⟨l.toArray⟩))) (st.del q))
      | .anyp => n = 0 ∧ veq ByteArray.empty fun s => K (.d (.v (.string s))) st
      | .d (.v (.pointer none)) => n = 0 ∧ veq ByteArray.empty fun s => K (.d (.v (.string s))) st
      | _ => False
    | _ => False
  | .ci k x => vsome (aval (.ci k x) (rv env) st) fun v => vplain v fun v => K v st
  | .un o x => vsome (aval (.un o x) (rv env) st) fun v => vplain v fun v => K v st
  | .mx l => vsome (aval (.mx l) (rv env) st) fun v => vplain v fun v => K v st
  | .mn l => vsome (aval (.mn l) (rv env) st) fun v => vplain v fun v => K v st
  | op => vsome (aval op (rv env) st) fun v => K v st

theorem vop_sound {op : ROp} {env : Env} {st : St} {K : AV → St → Prop} (h : vop P op env st K) : aexec P op (rv env) st K := by
  have quiet : ∀ op : ROp, op.quiet = true → vsome (aval op (rv env) st) (fun v => K v st) → aexec P op (rv env) st K := by
    intro op hq hv
    obtain ⟨v, h1, h2⟩ := vsome_elim hv
    exact (quiet_exec hq).2 ⟨v, h1, h2⟩
  cases op <;> simp only [vop] at h <;> try exact quiet _ rfl h
  case pick c a b =>
    obtain ⟨t, e, h⟩ := vbool_elim h
    rcases vcond_cases h with ⟨rfl, h7⟩ | ⟨rfl, h7⟩
    · exact ⟨_, by simp [aval, e], h7⟩
    · exact ⟨_, by simp [aval, e], h7⟩
  case bin op x y =>
    split at h
    · rename_i a b e1 e2
      obtain ⟨v, h1, h2⟩ := vbin_elim h
      exact ⟨_, by simp only [aval, e1, e2, h1, Option.map_some], h2⟩
    · exact h.elim
  case load ag k x =>
    split at h
    · rename_i q ver i j e
      obtain ⟨ver', k', tq', els, h1, h⟩ := vrow_elim h
      have h9 := vif_elim h
      clear h
      obtain ⟨rfl, h⟩ := h9
      obtain ⟨c, h2, h⟩ := vget_elim h
      obtain ⟨v, h3, h⟩ := vsome_elim h
      exact ⟨v, by simp only [aval, e, h1, if_true, h2, Option.bind_some, h3], h⟩
    · rename_i cells e
      obtain ⟨v, h3, h⟩ := vsome_elim h
      exact ⟨v, by simp only [aval, e, h3], h⟩
    · exact h.elim
  case nilck x =>
    split at h
    · rename_i q ver i j e
      obtain ⟨ver', k', tq', els, h1, h⟩ := vrow_elim h
      have h9 := vif_elim h
      clear h
      obtain ⟨rfl, h⟩ := h9
      exact ⟨_, by simp only [aval, e, h1, if_true], h⟩
    · rename_i cells e
      exact ⟨_, by simp only [aval, e], h⟩
    · rename_i f a c e
      exact ⟨_, by simp only [aval, e], h⟩
    · exact h.elim
  case faddr off x =>
    split at h
    · rename_i q ver i j e
      obtain ⟨ver', k', tq', els, h1, h⟩ := vrow_elim h
      have h9 := vif_elim h
      clear h
      obtain ⟨⟨rfl, h2⟩, h⟩ := h9
      exact ⟨_, by simp only [aval, e, h1, h2, and_self, if_true], h⟩
    · rename_i cells e
      have h9 := vif_elim h
      clear h
      obtain ⟨h2, h⟩ := h9
      exact ⟨_, by simp only [aval, e, h2, if_true], h⟩
    · exact h.elim
  case iaR k x i =>
    obtain ⟨kk, n, e0, h⟩ := vint_elim h
    split at h
    · rename_i q ver off len e
      obtain ⟨ver', k', tq', els, h1, h⟩ := vrow_elim h
      have h9 := vif_elim h
      clear h
      obtain ⟨⟨rfl, rfl⟩, h⟩ := h9
      obtain ⟨⟨h2, h3⟩, h⟩ := h
      obtain ⟨⟨_, rfl, h⟩⟩ := h
      exact ⟨_, by simp only [aval, e0, e, h1, h2, h3, and_self, if_true], h⟩
    · rename_i k' els e
      have h9 := vif_elim h
      clear h
      obtain ⟨⟨rfl, h0⟩, h⟩ := h9
      obtain ⟨h2, h⟩ := h
      obtain ⟨c, h3, h⟩ := vget_elim h
      exact ⟨_, by simp only [aval, e0, e, h0, h2, h3, and_self, if_true, Option.map_some], h⟩
    · exact h.elim
  case iaA k m x i =>
    obtain ⟨kk, n, e0, h⟩ := vint_elim h
    split at h
    · rename_i q ver a j e
      obtain ⟨ver', k', tq', els, h1, h⟩ := vrow_elim h
      have h9 := vif_elim h
      clear h
      obtain ⟨rfl, h⟩ := h9
      obtain ⟨⟨h2, h3⟩, h⟩ := h
      have h9 := vif_elim h
      clear h
      obtain ⟨h4, h⟩ := h9
      obtain ⟨⟨_, rfl, h⟩⟩ := h
      exact ⟨_, by simp only [aval, e0, e, h1, h2, h3, h4, and_self, if_true], h⟩
    · exact h.elim
  case idxS x i =>
    obtain ⟨kk, n, e0, h⟩ := vint_elim h
    split at h
    · rename_i s e
      obtain ⟨h2, h⟩ := h
      obtain ⟨b, h3, h⟩ := vget_elim h
      exact ⟨_, by simp only [aval, e0, e, h2, h3, if_true, Option.map_some], h⟩
    · exact h.elim
  case slS x lo hi =>
    split at h
    · rename_i s e
      obtain ⟨a, h1, h⟩ := vbound_elim h
      obtain ⟨b, h2, h⟩ := vbound_elim h
      exact ⟨_, by simp only [aval, e, h1, h2, Option.bind_some, Option.map_some], h⟩
    · exact h.elim
  case slR k x lo hi mx =>
    split at h
    · rename_i q ver off len e
      obtain ⟨ver', k', tq', els, h0, h⟩ := vrow_elim h
      have h9 := vif_elim h
      clear h
      obtain ⟨⟨rfl, rfl⟩, h⟩ := h9
      obtain ⟨a, h1, h⟩ := vbound_elim h
      obtain ⟨b, h2, h⟩ := vbound_elim h
      obtain ⟨⟨_, rfl, ⟨⟨_, rfl, h⟩⟩⟩⟩ := h
      exact ⟨_, by simp only [aval, e, h0, h1, h2, and_self, if_true, Option.bind_some, Option.map_some], h⟩
    · rename_i q ver off len m e
      obtain ⟨k0, n, e0, g1⟩ := vint_elim h
      obtain ⟨ver', k', tq', els, h0, g2⟩ := vrow_elim g1
      clear h g1
      have h9 := vif_elim g2
      clear g2
      obtain ⟨⟨rfl, rfl⟩, g3⟩ := h9
      have h10 := vif_elim g3
      clear g3
      obtain ⟨⟨hs, rfl⟩, g4⟩ := h10
      obtain ⟨a, h1, g5⟩ := vbound_elim g4
      clear g4
      have h11 := vif_elim g5
      clear g5
      obtain ⟨rfl, g6⟩ := h11
      obtain ⟨b, h2, g7⟩ := vbound_elim g6
      obtain ⟨⟨_, rfl, ⟨⟨_, rfl, h⟩⟩⟩⟩ := g7
      exact ⟨_, by simp only [aval, e, e0, hs, h0, h1, h2, and_self, if_true, Option.bind_some, Option.map_some], h⟩
    · rename_i k' els e
      have h9 := vif_elim h
      clear h
      obtain ⟨⟨rfl, h0⟩, h⟩ := h9
      obtain ⟨a, h1, h⟩ := vbound_elim h
      obtain ⟨b, h2, h⟩ := vbound_elim h
      obtain ⟨⟨_, rfl, h⟩⟩ := h
      exact ⟨_, by simp only [aval, e, h0, h1, h2, and_self, if_true, Option.bind_some, Option.map_some], h⟩
    · exact quiet _ rfl h
  case lenR x =>
    split at h
    · rename_i e
      exact ⟨_, by simp only [aval, e], h⟩
    · rename_i k els e
      obtain ⟨⟨_, rfl, h⟩⟩ := h
      exact ⟨_, by simp only [aval, e], h⟩
    · rename_i q ver off len e
      obtain ⟨ver', k', tq', els, h1, h⟩ := vrow_elim h
      have h9 := vif_elim h
      clear h
      obtain ⟨rfl, h⟩ := h9
      exact ⟨_, by simp only [aval, e, h1, if_true], h⟩
    · exact h.elim
  case alloc T z => exact h
  case box T x =>
    obtain ⟨l, h1, h⟩ := vsome_elim h
    simp only [aexec, h1]; exact h
  case bslice T k n z ps =>
    obtain ⟨l, h1, h⟩ := vsome_elim h
    obtain ⟨⟨_, rfl, h⟩⟩ := h
    simp only [aexec, h1]; exact h
  case store k x y =>
    obtain ⟨l, h1, h⟩ := vsome_elim h
    split at h
    · rename_i q ver i j e
      obtain ⟨ver', k', tq', els, h0, h⟩ := vrow_elim h
      have h9 := vif_elim h
      clear h
      obtain ⟨⟨rfl, h2⟩, h⟩ := h9
      obtain ⟨c, h3, h⟩ := vget_elim h
      have h9 := vif_elim h
      clear h
      obtain ⟨h4, h⟩ := h9
      obtain ⟨⟨_, rfl, h⟩⟩ := h
      simp only [aexec, h1, e, h0, h3]
      exact ⟨trivial, h2, h4, h⟩
    · exact h.elim
  case s2b T x =>
    simp only [aexec]
    split at h
    · rename_i s e
      simp only [e]
      obtain ⟨⟨_, rfl, ⟨⟨_, rfl, h⟩⟩⟩⟩ := h
      exact h
    · exact h.elim
  case b2s x =>
    simp only [aexec]
    split at h
    · rename_i e
      simp only [e]
      exact h
    · rename_i hne
      obtain ⟨els, h1, l, rfl, h2⟩ := vels_elim h
      split
      · rename_i e
        exact (hne e).elim
      · exact ⟨l, h1, h2⟩
  case mksl T k b z len cap =>
    obtain ⟨k1, n, e1, h⟩ := vint_elim h
    obtain ⟨k2, c, e2, h⟩ := vint_elim h
    simp only [aexec, e1, e2]
    obtain ⟨h1, ⟨⟨_, rfl, ⟨⟨_, rfl, h⟩⟩⟩⟩⟩ := h
    exact ⟨h1.1, h1.2.1, h1.2.2, h⟩
  case app T k b x y =>
    obtain ⟨l, h1, h⟩ := vsrc_elim h
    obtain ⟨⟨_, rfl, h⟩⟩ := h
    obtain ⟨hw, h⟩ := h
    simp only [aexec, h1]
    refine ⟨hw, ?_⟩
    generalize rv env x = X at h ⊢
    split at h
    · obtain ⟨h1, ⟨⟨_, rfl, h⟩⟩⟩ := h
      exact ⟨h1, h⟩
    · rename_i q ver off len
      obtain ⟨ver', k', tq', els, h0, h⟩ := vrow_elim h
      have h9 := vif_elim h
      clear h
      obtain ⟨⟨rfl, rfl, rfl⟩, h⟩ := h9
      simp only [h0]
      obtain ⟨h1, h2, ⟨⟨_, rfl, ⟨⟨_, rfl, h⟩⟩⟩⟩⟩ := h
      exact ⟨trivial, ⟨trivial, trivial⟩, h1, h2, h⟩
    · exact h.elim
  case call f args => exact h.h
  case callv x args =>
    simp only [aexec]
    generalize rv env x = X at h ⊢
    split at h
    · exact h.h
    · exact h.elim
  case copy k x y =>
    obtain ⟨l, h1, h⟩ := vsrc_elim h
    obtain ⟨⟨_, rfl, h⟩⟩ := h
    simp only [aexec, h1]
    generalize rv env x = X at h ⊢
    split at h
    · rename_i q ver off len
      obtain ⟨ver', k', tq', els, h0, h⟩ := vrow_elim h
      have h9 := vif_elim h
      clear h
      obtain ⟨⟨rfl, rfl⟩, h⟩ := h9
      simp only [h0]
      obtain ⟨h1, h2, ⟨⟨_, rfl, ⟨⟨_, rfl, h⟩⟩⟩⟩⟩ := h
      exact ⟨trivial, trivial, h1, h2, h⟩
    · exact h.elim
  case clear z x =>
    simp only [aexec]
    split at h
    · rename_i e
      simp only [e]
      exact h
    · rename_i q ver off len e
      obtain ⟨ver', k', tq', els, h1, h2⟩ := vrow_elim h
      obtain ⟨⟨rfl, rfl⟩, h3, ⟨⟨_, rfl, h4⟩⟩⟩ := vif_elim h2
      simp only [e, h1]
      exact ⟨trivial, trivial, h3, h4⟩
    · exact h.elim
  case toU x =>
    split at h
    · rename_i q ver i j e
      obtain ⟨ver', k', tq', els, h1, h2⟩ := vrow_elim h
      obtain ⟨⟨rfl, h3⟩, h4⟩ := vif_elim h2
      exact ⟨_, by simp only [aval, e, h1, h3, and_self, if_true], h4⟩
    · rename_i e
      exact ⟨_, by simp only [aval, e], h⟩
    · exact h.elim
  case ofU t k x =>
    split at h
    · rename_i q ver i j e
      obtain ⟨ver', k', tq', els, h1, h2⟩ := vrow_elim h
      obtain ⟨⟨rfl, rfl, rfl, rfl⟩, h4⟩ := vif_elim h2
      exact ⟨_, by simp only [aval, e, h1, and_self, if_true], h4⟩
    · rename_i e
      exact ⟨_, by simp only [aval, e], h⟩
    · exact h.elim
  case usd x =>
    simp only [aexec]
    split at h
    · rename_i e
      simp only [e]
      exact h
    · rename_i q ver off len e
      obtain ⟨ver', k', tq', els, h1, h2⟩ := vrow_elim h
      obtain ⟨rfl, h4⟩ := vif_elim h2
      simp only [e, h1]
      exact ⟨trivial, h4⟩
    · exact h.elim
  case ust t x n =>
    simp only [aexec]
    split at h
    · rename_i m e0
      simp only [e0]
      split at h
      · rename_i q ver i j e
        obtain ⟨ver', k', tq', els, h1, h2⟩ := vrow_elim h
        obtain ⟨⟨rfl, rfl, rfl, rfl⟩, l, g1, g2, g3, g4, g5⟩ := vif_elim h2
        simp only [e, h1]
        exact ⟨trivial, trivial, trivial, trivial, l, g1, g2, g3, g4, g5⟩
      · rename_i e
        simp only [e]
        obtain ⟨h1, ⟨⟨_, rfl, h2⟩⟩⟩ := h
        exact ⟨h1, h2⟩
      · rename_i e
        simp only [e]
        obtain ⟨h1, ⟨⟨_, rfl, h2⟩⟩⟩ := h
        exact ⟨h1, h2⟩
      · exact h.elim
    · exact h.elim
  case ci => exact quiet _ rfl (by obtain ⟨v, h1, h2⟩ := vsome_elim h; rw [h1]; exact vplain_elim (K := fun v => K v st) h2)
  case un => exact quiet _ rfl (by obtain ⟨v, h1, h2⟩ := vsome_elim h; rw [h1]; exact vplain_elim (K := fun v => K v st) h2)
  case mx => exact quiet _ rfl (by obtain ⟨v, h1, h2⟩ := vsome_elim h; rw [h1]; exact vplain_elim (K := fun v => K v st) h2)
  case mn => exact quiet _ rfl (by obtain ⟨v, h1, h2⟩ := vsome_elim h; rw [h1]; exact vplain_elim (K := fun v => K v st) h2)

def vsel (b : Bool) (A B : Prop) : Prop := match b with | true => A | false => B

def vguard (g : Option (Nat × Bool)) (env : Env) (run skip : Env → Prop) : Prop :=
  match g with
  | none => run env
  | some (s, b) => match get env s with
    | .d (.v (.bool t)) => vcond t (vsel b (run ((s, bv true) :: env)) (skip ((s, bv true) :: env))) (vsel b (skip ((s, bv false) :: env)) (run ((s, bv false) :: env)))
    | .d (.v (.tuple _)) => skip env
    | _ => False

theorem vguard_sound {g : Option (Nat × Bool)} {env : Env} {run skip : Env → Prop} (h : vguard g env run skip) : guarded g env run skip := by
  unfold vguard at h
  unfold guarded
  split at h
  · exact h
  · rename_i s b
    split at h
    · rename_i t e
      simp only [e]
      rcases vcond_cases h with ⟨rfl, h7⟩ | ⟨rfl, h7⟩ <;> cases b <;> simp only [vsel] at h7 <;> refine ⟨fun h1 => ?_, fun h1 => ?_⟩ <;> first | exact h7 | cases h1
    · rename_i e; simp only [e]; exact h
    · exact h.elim

theorem guarded_mono {g : Option (Nat × Bool)} {env : Env} {r s r' s' : Env → Prop} (h : guarded g env r s) (hr : ∀ e, r e → r' e) (hs : ∀ e, s e → s' e) : guarded g env r' s' := by
  cases g with
  | none => exact hr _ h
  | some p =>
    obtain ⟨t, b⟩ := p
    simp only [guarded] at h ⊢
    generalize get env t = x at h ⊢
    split at h
    · exact ⟨fun g => hr _ (h.1 g), fun g => hs _ (h.2 g)⟩
    · exact hs _ h
    · exact h.elim

def vro (P : Program) (o : RO) (env : Env) (st : St) (K : Env → St → Prop) : Prop :=
  vguard o.guard env (fun env => vop P o.op env st fun v st' => K (put o.dst v env) st') (fun env => K (put o.dst undefAV env) st)

theorem vro_sound {o : RO} {env : Env} {st : St} {K : Env → St → Prop} (h : vro P o env st K) : aRO P o env st K :=
  guarded_mono (vguard_sound h) (fun e h => vop_sound h) (fun e h => h)

def vros (P : Program) : List RO → Env → St → (Env → St → Prop) → Prop
  | [], env, st, K => K env st
  | o :: l, env, st, K => vro P o env st fun env st => vros P l env st K

theorem aexec_mono {op : ROp} {ρ : RX → AV} {st : St} {K K' : AV → St → Prop} (h : aexec P op ρ st K) (hk : ∀ x st, K x st → K' x st) : aexec P op ρ st K' := by
  by_cases hq : op.quiet = true
  · rw [quiet_exec hq] at h ⊢
    obtain ⟨v, h1, h2⟩ := h
    exact ⟨v, h1, hk _ _ h2⟩
  · cases op <;> simp only [ROp.quiet, not_true_eq_false] at hq <;> simp only [aexec] at h ⊢
    case alloc => exact hk _ _ h
    case box => split at h; exact hk _ _ h; exact h.elim
    case bslice => split at h; exact hk _ _ h; exact h.elim
    case store =>
      split at h
      · split at h
        · obtain ⟨h1, h2, h⟩ := h
          refine ⟨h1, h2, ?_⟩
          split at h
          · exact ⟨h.1, hk _ _ h.2⟩
          · exact h.elim
        · exact h.elim
      · exact h.elim
    case s2b => split at h; exact hk _ _ h; exact h.elim
    case b2s => split at h; exact hk _ _ h; obtain ⟨l, h1, h2⟩ := h; exact ⟨l, h1, hk _ _ h2⟩
    case mksl => split at h; exact ⟨h.1, h.2.1, h.2.2.1, hk _ _ h.2.2.2⟩; exact h.elim
    case app =>
      split at h
      · refine ⟨h.1, ?_⟩
        have h := h.2
        split at h
        · exact ⟨h.1, hk _ _ h.2⟩
        · split at h
          · exact ⟨h.1, h.2.1, h.2.2.1, h.2.2.2.1, hk _ _ h.2.2.2.2⟩
          · exact h.elim
        · exact h.elim
      · exact h.elim
    case copy =>
      split at h
      · split at h
        · exact ⟨h.1, h.2.1, h.2.2.1, h.2.2.2.1, hk _ _ h.2.2.2.2⟩
        · exact h.elim
      · exact h.elim
    case clear =>
      split at h
      · exact hk _ _ h
      · split at h
        · exact ⟨h.1, h.2.1, h.2.2.1, hk _ _ h.2.2.2⟩
        · exact h.elim
      · exact h.elim
    case call => exact h.mono hk
    case usd =>
      split at h
      · exact hk _ _ h
      · split at h
        · exact ⟨h.1, fun g => hk _ _ (h.2.1 g), fun g => hk _ _ (h.2.2 g)⟩
        · exact h.elim
      · exact h.elim
    case ust =>
      split at h
      · split at h
        · split at h
          · obtain ⟨g1, g2, g3, g4, l, g5, g6, g7, g8, g9⟩ := h
            exact ⟨g1, g2, g3, g4, l, g5, g6, g7, g8, hk _ _ g9⟩
          · exact h.elim
        · exact ⟨h.1, hk _ _ h.2⟩
        · exact ⟨h.1, hk _ _ h.2⟩
        · exact h.elim
      · exact h.elim
    case callv => split at h; exact ACalls.mono h hk; exact h.elim

theorem aRO_mono {o : RO} {env : Env} {st : St} {K K' : Env → St → Prop} (h : aRO P o env st K) (hk : ∀ e s, K e s → K' e s) : aRO P o env st K' :=
  guarded_mono h (fun e h => aexec_mono h fun x s h => hk _ _ h) (fun e h => hk _ _ h)

theorem vros_sound : ∀ {l : List RO} {env : Env} {st : St} {K : Env → St → Prop}, vros P l env st K → aROs P l env st K
  | [], _, _, _, h => h
  | o :: l, _, _, _, h => aRO_mono (vro_sound h) fun _ _ h => vros_sound h

/-- It would give what it gave. -/
def vpend (P : Program) (o : RO) (env : Env) (st : St) (A : Prop) : Prop :=
  vguard o.guard env (fun env => vif (o.op.quiet = true) (vop P o.op env st fun v _ => match o.dst with | none => A | some d => v = get env d ∧ A)) (fun env => match o.dst with | none => A | some d => get env d = undefAV ∧ A)

theorem vpend_sound {o : RO} {env : Env} {st : St} {A : Prop} (h : vpend P o env st A) : Pend o env st ∧ A := by
  have hr : ∀ env1 : Env, (∀ t, get env1 t = get env t) → (vif (o.op.quiet = true) (vop P o.op env1 st fun v _ => match o.dst with | none => A | some d => v = get env1 d ∧ A)) → PendV o env st ∧ A := by
    intro env1 e1 h
    obtain ⟨hq, h⟩ := vif_elim h
    obtain ⟨v, h1, h⟩ := (quiet_exec hq).1 (vop_sound h)
    rw [aval_env (env' := env) fun t _ => e1 t] at h1
    cases hd : o.dst with
    | none => rw [hd] at h; exact ⟨⟨v, h1, fun d e => by rw [hd] at e; cases e⟩, h⟩
    | some d => rw [hd] at h; exact ⟨⟨v, h1, fun d' e => by rw [hd] at e; cases e; rw [← e1]; exact h.1.symm⟩, h.2⟩
  have hs : ∀ env1 : Env, (∀ t, get env1 t = get env t) → (match o.dst with | none => A | some d => get env1 d = undefAV ∧ A) → PendU o env ∧ A := by
    intro env1 e1 h
    cases hd : o.dst with
    | none => rw [hd] at h; exact ⟨fun d e => (by rw [hd] at e; cases e), h⟩
    | some d => rw [hd] at h; exact ⟨fun d' e => by rw [hd] at e; cases e; rw [← e1]; exact h.1, h.2⟩
  rcases guarded_cases (vguard_sound h) with ⟨env1, e1, hrun, hgb⟩ | ⟨env1, e1, hskip, s, b, hgs, hgb⟩
  · obtain ⟨h1, h2⟩ := hr env1 e1 hrun
    refine ⟨?_, h2⟩
    unfold Pend
    cases hg : o.guard with
    | none => exact h1
    | some p =>
      obtain ⟨s, b⟩ := p
      simp only [hgb s b hg, bv, if_true]
      exact h1
  · obtain ⟨h1, h2⟩ := hs env1 e1 hskip
    refine ⟨?_, h2⟩
    unfold Pend
    rw [hgs]
    rcases hgb with hgb | ⟨l, hgb⟩
    · simp only [hgb, bv]
      rw [if_neg (by cases b <;> simp)]
      exact h1
    · simp only [hgb]
      exact h1

def vre (P : Program) : List RO → Env → St → Prop → Prop
  | [], _, _, A => A
  | o :: l, env, st, A => vpend P o env st (vre P l env st A)

theorem vre_sound : ∀ {l : List RO} {env : Env} {st : St} {A : Prop}, vre P l env st A → aRe l env st ∧ A
  | [], _, _, _, h => ⟨trivial, h⟩
  | o :: l, env, st, A, h => by
    obtain ⟨h1, h2⟩ := vpend_sound h
    obtain ⟨h3, h4⟩ := vre_sound h2
    exact ⟨⟨h1, h3⟩, h4⟩

def vdt (P : Program) : DT → Env → St → (Env → St → Prop) → Prop
  | .fin, env, st, K => K env st
  | .no, _, _, _ => True
  | .q o k, env, st, K => vro P o env st fun env st => vdt P k env st K
  | .a o re k .no, env, st, K => vro P o env st fun env st => vre P re env st (vdt P k env st K)
  | .a o re k alt, env, st, K => (vro P o env st fun env st => vre P re env st (vdt P k env st K)) ∧ vdt P alt env st K

theorem vdt_sound : ∀ {D : DT} {env : Env} {st : St} {K : Env → St → Prop}, vdt P D env st K → aDT P D env st K
  | .fin, _, _, _, h => h
  | .no, _, _, _, _ => trivial
  | .q o k, _, _, _, h => aRO_mono (vro_sound h) fun _ _ h => vdt_sound h
  | .a o re k .no, _, _, _, h => ⟨aRO_mono (vro_sound h) fun _ _ h => ⟨(vre_sound h).1, vdt_sound (vre_sound h).2⟩, trivial⟩
  | .a o re k .fin, _, _, _, h => ⟨aRO_mono (vro_sound h.1) fun _ _ h => ⟨(vre_sound h).1, vdt_sound (vre_sound h).2⟩, vdt_sound h.2⟩
  | .a o re k (.q _ _), _, _, _, h => ⟨aRO_mono (vro_sound h.1) fun _ _ h => ⟨(vre_sound h).1, vdt_sound (vre_sound h).2⟩, vdt_sound h.2⟩
  | .a o re k (.a _ _ _ _), _, _, _, h => ⟨aRO_mono (vro_sound h.1) fun _ _ h => ⟨(vre_sound h).1, vdt_sound (vre_sound h).2⟩, vdt_sound h.2⟩

/-- Code that stands next. -/
structure At (P : Program) (B : Base) (N : Nat) (b : RC) (Q : AQ) (env : Env) (st : St) : Prop where
  h : AWP P B N b Q env st
/-- Two pieces of code that stand next. -/
structure Cut (P : Program) (B : Base) (N : Nat) (a b : RC) (Q : AQ) (env : Env) (st : St) : Prop where
  h : AWP P B N a (qthen (fun env st => At P B N b Q env st) Q) env st
/-- A loop that is entered. -/
structure Loop (P : Program) (B : Base) (N : Nat) (b : RC) (Q : AQ) (env : Env) (st : St) : Prop where
  h : AWP P B N (.loop b) Q env st

def vc (P : Program) (B : Base) (N : Nat) : RC → AQ → Env → St → Prop
  | .skip, Q, env, st => Q .normal env st
  | .reg ros live, Q, env, st => vros P ros env st fun env st => Q .normal (keepE env live) st
  | .drw D live, Q, env, st => vdt P D env st fun env st => Q .normal (keepE env live) st
  | .seq x y, Q, env, st => vc P B N x (qthen (fun env st => vc P B N y Q env st) Q) env st
  | .cut x y, Q, env, st => Cut P B N x y Q env st
  | .cond c x y, Q, env, st => vbool (rv env c) fun t => vcond t (vc P B N x Q env st) (vc P B N y Q env st)
  | .block id x, Q, env, st => vc P B N x (qblock id Q) env st
  | .loop x, Q, env, st => Loop P B N x Q env st
  | .exit id, Q, env, st => Q (.exit id) env st
  | .ret, Q, env, st => Q .ret env st
  | .bad, _, _, _ => False

theorem vc_sound {B : Base} {N : Nat} : ∀ {rc : RC} {Q : AQ} {env : Env} {st : St}, vc P B N rc Q env st → AWP P B N rc Q env st
  | .skip, _, _, _, h => awp_skip h
  | .reg ros live, _, _, _, h => awp_reg (vros_sound h)
  | .drw D live, _, _, _, h => awp_drw (vdt_sound h)
  | .seq x y, Q, _, _, h => awp_seq ((vc_sound (rc := x) h).mono fun e env st hq => by
      cases e
      · exact vc_sound (rc := y) hq
      · exact hq
      · exact hq)
  | .cut x y, Q, _, _, h => awp_cut (h.h.mono fun e env st hq => by
      cases e
      · exact hq.h
      · exact hq
      · exact hq)
  | .cond c x y, _, _, _, h => by
    obtain ⟨t, e, h⟩ := vbool_elim h
    rcases vcond_cases h with ⟨rfl, h7⟩ | ⟨rfl, h7⟩
    · exact awp_cond e (fun _ => vc_sound h7) (fun h => by cases h)
    · exact awp_cond e (fun h => by cases h) (fun _ => vc_sound h7)
  | .block id x, _, _, _, h => awp_block (vc_sound (rc := x) h)
  | .loop x, _, _, _, h => h.h
  | .exit id, _, _, _, h => awp_exit h
  | .ret, _, _, _, h => awp_ret h
  | .bad, _, _, _, h => h.elim

theorem at_go {B : Base} {N : Nat} {b : RC} {Q : AQ} {env : Env} {st : St} (h : vc P B N b Q env st) : At P B N b Q env st := ⟨vc_sound h⟩
theorem at_sub {B : Base} {N : Nat} {b : RC} {Q : AQ} {env env' : Env} {st st' : St} (hs : Sub B env st env' st') (h : At P B N b Q env' st') : At P B N b Q env st := ⟨awp_sub hs h.h⟩
theorem cut_go {B : Base} {N : Nat} {a b : RC} {Q : AQ} {env : Env} {st : St} (h : vc P B N a (qthen (fun env st => At P B N b Q env st) Q) env st) : Cut P B N a b Q env st := ⟨vc_sound h⟩
/-- Ways meet: what is so behind the first piece. -/
theorem cut_join {B : Base} {N : Nat} {a b : RC} {Q : AQ} {env : Env} {st : St} {α : Type} (E : α → Env) (S : α → St) (C : α → Prop) (hb : ∀ y, C y → vc P B N b Q (E y) (S y))
    (ha : vc P B N a (qthen (fun env' st' => ∃ y, C y ∧ Sub B env' st' (E y) (S y)) Q) env st) : Cut P B N a b Q env st :=
  ⟨(vc_sound ha).mono fun e env st hq => by
    cases e
    · obtain ⟨y, hy, hs⟩ := hq
      exact ⟨awp_sub hs (vc_sound (hb y hy))⟩
    · exact hq
    · exact hq⟩

theorem loop_sub {B : Base} {N : Nat} {b : RC} {Q : AQ} {env env' : Env} {st st' : St} (hs : Sub B env st env' st') (h : Loop P B N b Q env' st') : Loop P B N b Q env st := ⟨awp_sub hs h.h⟩

/-- A loop, as a function does it: so many rounds at most. -/
theorem loop_f {B : Base} {N : Nat} {α γ ρ : Type} (E : γ → α → Env) (S : γ → α → St) (f : Nat → α → Option ρ) (h0 : ∀ y, f 0 y = none) {x : RC} {Q : AQ} {r : ρ}
    (round : ∀ k y g, f (k + 1) y = some r → vc P B N x (qthen (fun env' st' => ∃ z, f k z = some r ∧ ∃ g', Sub B env' st' (E g' z) (S g' z)) Q) (E g y) (S g y)) (k : Nat) (x0 : α) (g0 : γ) (hf : f k x0 = some r) : Loop P B N x Q (E g0 x0) (S g0 x0) := by
  refine ⟨awp_loop (α := Nat × α × γ) (fun p => E p.2.2 p.2.1) (fun p => S p.2.2 p.2.1) (fun p => f p.1 p.2.1 = some r) (fun p => p.1) (k, x0, g0) hf (Sub.refl _ _ _) fun p hp => ?_⟩
  obtain ⟨n, y, g⟩ := p
  cases n with
  | zero => rw [h0] at hp; cases hp
  | succ n =>
    refine (vc_sound (round n y g hp)).mono fun e env st hq => ?_
    cases e
    · obtain ⟨z, hz, g', hs⟩ := hq
      exact ⟨(n, z, g'), hz, Nat.lt_succ_self n, hs⟩
    · exact hq
    · exact hq

theorem loop_intro {B : Base} {N : Nat} {α : Type} (E : α → Env) (S : α → St) (C : α → Prop) (μ : α → Nat) {x : RC} {Q : AQ} {env : Env} {st : St} (x0 : α) (h0 : C x0) (hs : Sub B env st (E x0) (S x0))
    (round : ∀ y, C y → vc P B N x (qthen (fun env' st' => ∃ z, C z ∧ μ z < μ y ∧ Sub B env' st' (E z) (S z)) Q) (E y) (S y)) : Loop P B N x Q env st :=
  ⟨awp_loop E S C μ x0 h0 hs fun y hy => vc_sound (round y hy)⟩

/-- What is returned. -/
structure Ret (B : Base) (K : AV → St → Prop) (x : AV) (st : St) : Prop where
  h : ∃ y st', Step B st st' (fun a b => a = x ∧ b = y) ∧ K y st'

def vret (B : Base) (rs : List ROp) (K : AV → St → Prop) : AQ
  | .exit _, _, _ => False
  | .normal, env, st => vsome (resV rs env st) fun x => Ret B K x st
  | .ret, env, st => vsome (resV rs env st) fun x => Ret B K x st

theorem vret_sound {B : Base} {rs : List ROp} {K : AV → St → Prop} : ∀ (e : AE) env st, vret B rs K e env st → qret B rs K e env st
  | .exit _, _, _, h => h
  | .normal, _, _, h => by obtain ⟨x, h1, h2⟩ := vsome_elim h; exact ⟨x, h1, h2.h⟩
  | .ret, _, _, h => by obtain ⟨x, h1, h2⟩ := vsome_elim h; exact ⟨x, h1, h2.h⟩

/-- A PURE FUNCTION. -/
theorem pure_fn {f : FuncId} {sc : SC} {F : RF} (hF : resF P f sc = some F) {args : List AV} {x : AV} (hl : args.length ≤ F.n) (ha : ∀ s, AV.shiftL s args = args) (hx : Dry x)
    (h : ∀ B hp g, B.st = ⟨hp, 0, g⟩ → WF ⟨hp, 0, g⟩ → vc P B F.n F.code (vret B F.rs fun y st' => y = x ∧ st' = ⟨hp, 0, g⟩) (argsE 0 args) ⟨hp, 0, g⟩) : Pure P f args x :=
  pure_intro ha hx fun hp g => ACalls_intro hF hl fun B hB wf => (vc_sound (h B hp g hB wf)).mono vret_sound

/-- A pure function's return. -/
theorem ret_pure {B : Base} {hp : Int → Option AO} {g : List (Nat × Nat × Value)} (hB : B.st = ⟨hp, 0, g⟩) (wf : WF ⟨hp, 0, g⟩) {h' : Int → Option AO} {n : Int} (ha : Agree hp h') {x y : AV} (hc : Conv ⟨h', n, g⟩ ⟨hp, 0, g⟩ x y) :
    Ret B (fun y' st' => y' = y ∧ st' = ⟨hp, 0, g⟩) x ⟨h', n, g⟩ := ⟨y, _, ret_back hB wf ha hc, rfl, rfl⟩

theorem Agree.upd' {h h' : Int → Option AO} (ha : Agree h h') {q : Int} (hq : decide (0 ≤ q) = true) (o : AO) : Agree h (Eng.upd h' q o) := ha.upd (of_decide_eq_true hq) o

/-- A pure function's return of data. -/
theorem ret_d {B : Base} {hp : Int → Option AO} {g : List (Nat × Nat × Value)} (hB : B.st = ⟨hp, 0, g⟩) (wf : WF ⟨hp, 0, g⟩) {h' : Int → Option AO} {n : Int} (ha : Agree hp h') {x y : D} (hc : x = y) :
    Ret B (fun y' st' => y' = .d y ∧ st' = ⟨hp, 0, g⟩) (.d x) ⟨h', n, g⟩ := by
  subst hc
  exact ret_pure hB wf ha (.same (.d _))

def cS (s : ByteArray) : AV := .d (.v (.string s))
def cB (b : Bool) : AV := .d (.v (.bool b))
def cI (n : Int) : AV := .d (.v (.int .i64 n))

end Go.Eng
