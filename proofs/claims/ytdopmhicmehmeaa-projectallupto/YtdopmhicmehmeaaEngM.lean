/-
  Part of the proof that the law ProjectAll returns true at every input of bulk at most 1048576, and leaves its arguments as they were; the whole is stated at the end of the last text.
-/
import Derived.Test.YtdopmhicmehmeaaEngL
/-
  THE ENGINE, PART 13: which operands an operation looks at; environments; guarded operations, one after the other.
-/
set_option linter.unusedVariables false
set_option linter.unusedSimpArgs false
namespace Go.Eng
open Go

variable {P : Program}

def ROp.xs : ROp → List RX
  | .mov x | .box _ x | .load _ _ x | .nilck x | .un _ x | .ci _ x | .s2b _ x | .b2s x | .same x | .mkif _ x | .faddr _ x | .field _ _ _ x | .extr x _ | .lenS x | .lenR x | .clear _ x | .toU x | .ofU _ _ x | .usd x => [x]
  | .pick c a b => [c, a, b]
  | .alloc _ _ => []
  | .build _ ps => ps.map fun p => p.2.2
  | .bslice _ _ _ _ ps => ps.map fun p => p.2
  | .store _ x y | .bin _ x y | .eqp _ x y | .eqb _ x y | .eqs _ _ _ x y | .mksl _ _ _ _ x y | .iaR _ x y | .iaA _ _ x y | .idxS x y | .app _ _ _ x y | .copy _ x y | .ust _ x y => [x, y]
  | .mkfn _ a c => a ++ c
  | .slS x lo hi => [x] ++ lo.toList ++ hi.toList
  | .slR _ x lo hi m3 => [x] ++ lo.toList ++ hi.toList ++ m3.toList
  | .mx l | .mn l => l
  | .call _ l => l
  | .callv x l => x :: l

theorem map_ext {ρ ρ' : RX → AV} {l : List RX} (h : ∀ x ∈ l, ρ x = ρ' x) : l.map ρ = l.map ρ' := List.map_congr_left h

theorem bound_congr {ρ ρ' : RX → AV} {o : Option RX} (h : ∀ x ∈ o.toList, ρ x = ρ' x) (d m : Nat) : bound ρ o d m = bound ρ' o d m := by
  cases o with
  | none => rfl
  | some x => simp only [bound, h x (by simp)]

theorem aval_congr {op : ROp} {ρ ρ' : RX → AV} (st : St) (h : ∀ x ∈ op.xs, ρ x = ρ' x) : aval op ρ st = aval op ρ' st := by
  cases op
  case slS x lo hi =>
    have h1 := fun d m => bound_congr (o := lo) (ρ := ρ) (ρ' := ρ') (fun x hx => h x (by simp only [ROp.xs, List.mem_append]; exact .inl (.inr hx))) d m
    have h2 := fun d m => bound_congr (o := hi) (ρ := ρ) (ρ' := ρ') (fun x hx => h x (by simp only [ROp.xs, List.mem_append]; exact .inr hx)) d m
    simp only [aval, h1, h2, h x (by simp [ROp.xs])]
  case slR k x lo hi mx =>
    have h1 := fun d m => bound_congr (o := lo) (ρ := ρ) (ρ' := ρ') (fun x hx => h x (by simp only [ROp.xs, List.mem_append]; exact .inl (.inl (.inr hx)))) d m
    have h2 := fun d m => bound_congr (o := hi) (ρ := ρ) (ρ' := ρ') (fun x hx => h x (by simp only [ROp.xs, List.mem_append]; exact .inl (.inr hx))) d m
    have h3 := fun d m => bound_congr (o := mx) (ρ := ρ) (ρ' := ρ') (fun x hx => h x (by simp only [ROp.xs, List.mem_append]; exact .inr hx)) d m
    have hx := h x (by simp [ROp.xs])
    cases mx with
    | none => simp only [aval, h1, h2, h3, hx]
    | some m =>
      have hm := h m (by simp [ROp.xs])
      simp only [aval, h1, h2, h3, hx, hm]
  case build z ps =>
    have : (ps.map fun p => (p.1, p.2.1, ρ p.2.2)) = ps.map fun p => (p.1, p.2.1, ρ' p.2.2) := List.map_congr_left fun p hp => by
      rw [h p.2.2 (by simp only [ROp.xs, List.mem_map]; exact ⟨p, hp, rfl⟩)]
    simp only [aval, this]
  case mkfn f a c =>
    have h1 := map_ext (l := a) (ρ := ρ) (ρ' := ρ') fun x hx => h x (by simp [ROp.xs, hx])
    have h2 := map_ext (l := c) (ρ := ρ) (ρ' := ρ') fun x hx => h x (by simp [ROp.xs, hx])
    simp only [aval, h1, h2]
  case mx l => simp only [aval, map_ext (l := l) h]
  case mn l => simp only [aval, map_ext (l := l) h]
  all_goals (simp only [ROp.xs, List.mem_cons, List.not_mem_nil, or_false, forall_eq_or_imp, forall_eq] at h; simp only [aval]; try simp only [h])

theorem aexec_congr {op : ROp} {ρ ρ' : RX → AV} {st : St} {K : AV → St → Prop} (h : ∀ x ∈ op.xs, ρ x = ρ' x) (he : aexec P op ρ st K) : aexec P op ρ' st K := by
  have hv := aval_congr st h
  cases op
  case call f l => simp only [aexec, ← map_ext (l := l) h] at he ⊢; exact he
  case callv x l =>
    simp only [aexec, ← map_ext (l := l) (ρ := ρ) (ρ' := ρ') fun y hy => h y (by simp [ROp.xs, hy]), ← h x (by simp [ROp.xs])] at he ⊢
    exact he
  case bslice T k n z ps =>
    have : (ps.map fun p => (p.1, ρ p.2)) = ps.map fun p => (p.1, ρ' p.2) := List.map_congr_left fun p hp => by
      rw [h p.2 (by simp only [ROp.xs, List.mem_map]; exact ⟨p, hp, rfl⟩)]
    simp only [aexec, ← this] at he ⊢
    exact he
  case alloc T z => exact he
  case box T x => simp only [aexec, ← h x (by simp [ROp.xs])] at he ⊢; exact he
  case store k x y => simp only [aexec, ← h x (by simp [ROp.xs]), ← h y (by simp [ROp.xs])] at he ⊢; exact he
  case s2b T x => simp only [aexec, ← h x (by simp [ROp.xs])] at he ⊢; exact he
  case b2s x => simp only [aexec, ← h x (by simp [ROp.xs])] at he ⊢; exact he
  case mksl T k b z x y => simp only [aexec, ← h x (by simp [ROp.xs]), ← h y (by simp [ROp.xs])] at he ⊢; exact he
  case app T k b x y => simp only [aexec, ← h x (by simp [ROp.xs]), ← h y (by simp [ROp.xs])] at he ⊢; exact he
  case copy k x y => simp only [aexec, ← h x (by simp [ROp.xs]), ← h y (by simp [ROp.xs])] at he ⊢; exact he
  case clear z x => simp only [aexec, ← h x (by simp [ROp.xs])] at he ⊢; exact he
  case usd x => simp only [aexec, ← h x (by simp [ROp.xs])] at he ⊢; exact he
  case ust t x y => simp only [aexec, ← h x (by simp [ROp.xs]), ← h y (by simp [ROp.xs])] at he ⊢; exact he
  all_goals (simp only [aexec] at he ⊢; rw [← hv]; exact he)

/-- Quiet: what is live stays as it is. -/
def ROp.quiet : ROp → Bool
  | .alloc _ _ | .box _ _ | .bslice _ _ _ _ _ | .store _ _ _ | .s2b _ _ | .b2s _ | .mksl _ _ _ _ _ _ | .app _ _ _ _ _ | .copy _ _ _ | .clear _ _ | .call _ _ | .callv _ _ | .usd _ | .ust _ _ _ => false
  | _ => true

theorem quiet_exec {op : ROp} (hq : op.quiet = true) {ρ : RX → AV} {st : St} {K : AV → St → Prop} : aexec P op ρ st K ↔ ∃ v, aval op ρ st = some v ∧ K v st := by
  cases op <;> simp only [ROp.quiet, reduceCtorEq] at hq <;> exact Iff.rfl

/-- What it gives has nothing to do with what is live. -/
def ROp.free : ROp → Bool
  | .mov _ | .pick _ _ _ | .build _ _ | .bin _ _ _ | .eqb _ _ _ | .eqs _ _ _ _ _ | .un _ _ | .ci _ _ | .same _ | .mkfn _ _ _ | .mkif _ _ | .slS _ _ _ | .field _ _ _ _ | .idxS _ _ | .extr _ _ | .lenS _ | .mx _ | .mn _ => true
  | _ => false

theorem free_aval {op : ROp} (hf : op.free = true) (ρ : RX → AV) (st st' : St) : aval op ρ st = aval op ρ st' := by
  cases op <;> simp only [ROp.free, reduceCtorEq] at hf <;> rfl

/-! ### Environments -/
abbrev Env := List (Nat × AV)

def get : Env → Nat → AV
  | [], _ => .junk
  | (k, v) :: e, t => if k = t then v else get e t

def rv (env : Env) : RX → AV
  | .t n => get env n
  | .c x => x

def put (d : Option Nat) (v : AV) (env : Env) : Env :=
  match d with
  | none => env
  | some s => (s, v) :: env

theorem get_put (d : Option Nat) (v : AV) (env : Env) (t : Nat) : get (put d v env) t = if d = some t then v else get env t := by
  cases d <;> simp [put, get]

/-- An operation of a region. -/
structure RO where
  dst : Option Nat
  op : ROp
  guard : Option (Nat × Bool)

def guarded (g : Option (Nat × Bool)) (env : Env) (run skip : Env → Prop) : Prop :=
  match g with
  | none => run env
  | some (s, b) => match get env s with
    | .d (.v (.bool t)) => (t = b → run ((s, bv b) :: env)) ∧ (t = !b → skip ((s, bv !b) :: env))
    | .d (.v (.tuple _)) => skip env
    | _ => False

def aRO (P : Program) (o : RO) (env : Env) (st : St) (K : Env → St → Prop) : Prop :=
  guarded o.guard env (fun env => aexec P o.op (rv env) st fun v st' => K (put o.dst v env) st') (fun env => K (put o.dst undefAV env) st)

def aROs (P : Program) : List RO → Env → St → (Env → St → Prop) → Prop
  | [], env, st, K => K env st
  | o :: l, env, st, K => aRO P o env st fun env st => aROs P l env st K

/-- An operation's own. -/
def resRO (P : Program) (N : Nat) (ops : Array Oper) (o : Oper) : Option RO :=
  (rop P o).bind fun r =>
    if (o.dst.all fun d => decide (d < N)) = true then
      match o.guard with
      | none => some ⟨o.dst, r, none⟩
      | some (g, want) => ((ops[g]?).bind (·.dst)).map fun s => ⟨o.dst, r, some (s, want)⟩
    else none

/-- Where a function began. -/
structure Base where
  β : Emb
  st : St
  w : World

/-- An activation and a world read as an environment and a heap of what is live. -/
structure Rel (B : Base) (N : Nat) (m : Nat → AV) (st : St) (β : Emb) (a : Act) (w : World) : Prop where
  heap : HRel β st w
  tmps : ∀ t, R β st w (a.eval (.tmp t)) (m t)
  size : a.tmps.size = N
  defers : a.defers = []
  keep : Keep (Mut B.β B.st.h) B.w (Mut β st.h) w
  evo : Evo B.β B.st β st

def mv (m : Nat → AV) : RX → AV
  | .t n => m n
  | .c x => x

theorem rv_get (env : Env) : rv env = mv (get env) := by funext x; cases x <;> rfl

theorem Rel.ev {B : Base} {N : Nat} {m : Nat → AV} {st : St} {β : Emb} {a : Act} {w : World} (h : Rel B N m st β a w) (x : Operand) : R β st w (a.eval x) (mv m (rx x)) := by
  cases x with
  | tmp t => exact h.tmps t
  | const v => exact R_ofVal v
  | global g => exact .d (.v _)
  | func f => exact .fn rfl rfl (fun i h1 => by simp at h1) (fun i h1 => by simp at h1)

theorem eval_put (a : Act) (d : Option Nat) (v : Value) (t : Nat) (h : ∀ s, d = some s → s < a.tmps.size) : (a.put d v).eval (.tmp t) = if d = some t then v else a.eval (.tmp t) := by
  cases d with
  | none => simp [Act.put]
  | some s =>
    have hs := h s rfl
    simp only [Act.put, Act.eval, Option.some.injEq]
    split
    · rename_i e
      subst e
      simp [Array.getD, hs]
    · rename_i e
      simp only [Array.getD_eq_getD_getElem?, Array.getElem?_setIfInBounds_ne e]

theorem put_size (a : Act) (d : Option Nat) (v : Value) : (a.put d v).tmps.size = a.tmps.size := by
  cases d <;> simp [Act.put]

theorem put_defers (a : Act) (d : Option Nat) (v : Value) : (a.put d v).defers = a.defers := by
  cases d <;> rfl

/-- What an operation leaves, put into its place. -/
theorem Rel.step {B : Base} {N : Nat} {m m' : Nat → AV} {st st' : St} {β β' : Emb} {a : Act} {w w' : World} (h : Rel B N m st β a w) {d : Option Nat} {v : Value} {x : AV} (hd : ∀ s, d = some s → s < N)
    (H : HRel β' st' w') (hr : R β' st' w' v x) (hk : Keep (Mut β st.h) w (Mut β' st'.h) w') (he : Evo β st β' st') (hm : ∀ t, m' t = if d = some t then x else m t) :
    Rel B N m' st' β' (a.put d v) w' := by
  refine ⟨H, fun t => ?_, by rw [put_size, h.size], by rw [put_defers, h.defers], h.keep.trans hk, h.evo.trans he⟩
  rw [eval_put a d v t (fun s hs => h.size ▸ hd s hs), hm]
  split
  · exact hr
  · exact (h.tmps t).keep hk he

theorem Rel.congr {B : Base} {N : Nat} {m m' : Nat → AV} {st : St} {β : Emb} {a : Act} {w : World} (h : Rel B N m st β a w) (hm : ∀ t, m' t = m t) : Rel B N m' st β a w :=
  ⟨h.heap, fun t => by rw [hm]; exact h.tmps t, h.size, h.defers, h.keep, h.evo⟩

theorem Rel.drawn {B : Base} {N : Nat} {m : Nat → AV} {st : St} {β : Emb} {a : Act} {w : World} (h : Rel B N m st β a w) (dr : Nat) : Rel B N m st β a { w with drawn := dr } :=
  ⟨h.heap.drawn dr, fun t => (h.tmps t).drawn dr, h.size, h.defers, h.keep.trans (Keep.drawn _ _ _), h.evo⟩

/-- An operation that is wanted. -/
theorem wp_of_exec {B : Base} {N : Nat} {o : Oper} {r : ROp} {m : Nat → AV} {st : St} {β : Emb} {a : Act} {w : World} {K : AV → St → Prop} {K' : Act → World → Prop} {Q : Exit → Act → World → Prop}
    (h : Rel B N m st β a w) (hr : rop P o = some r) (hx : aexec P r (mv m) st K)
    (hd : ∀ s, o.dst = some s → s < N)
    (hK : ∀ (x : AV) st' β' v w', K x st' → Rel B N (fun t => if o.dst = some t then x else m t) st' β' (a.put o.dst v) w' → Keep (Mut β st.h) w (Mut β' st'.h) w' → Evo β st β' st' → K' (a.put o.dst v) w') :
    o.wp P a w K' Q := by
  have hs := op_sound hr h.heap h.ev (fun _ => rfl) hx
  unfold Oper.wp
  generalize (execOp a.eval o).run P w = res at hs
  have fin : ∀ v w', Good β st w K v w' → K' (a.put o.dst v) w' := by
    rintro v w' ⟨x, β', st', hk, H, hR, hkp, hev⟩
    exact hK x st' β' v w' hk (h.step hd H hR hkp hev fun t => rfl) hkp hev
  unfold UponOK at hs
  split at hs
  · exact fin _ _ hs
  · exact fin _ _ hs
  · obtain ⟨rfl, hc⟩ := hs
    refine hc.mono ?_
    rintro e w' ⟨v, rfl, hg⟩
    exact fin _ _ hg
  · exact hs.elim

end Go.Eng
