/-
  Part of the proof that the law ProjectAll returns true at every input of bulk at most 1048576, and leaves its arguments as they were; the whole is stated at the end of the last text.
-/
import Derived.Test.YtdopmhicmehmeaaEngM
/-
  THE ENGINE, PART 14: regions, in their order and in any order.
-/
set_option linter.unusedVariables false
set_option linter.unusedSimpArgs false
namespace Go.Eng
open Go

variable {P : Program}

def rd (P : Program) (N : Nat) (ops : Array Oper) (i : Nat) : Option RO := (ops[i]?).bind (resRO P N ops)

theorem rd_inv {N : Nat} {ops : Array Oper} {i : Nat} {ro : RO} (h : rd P N ops i = some ro) : ∃ o, ops[i]? = some o ∧ rop P o = some ro.op ∧ ro.dst = o.dst ∧ (∀ s, o.dst = some s → s < N) ∧
    (∀ a : Act, Region.wanted o (yielded ops a.tmps) = match ro.guard with | none => true | some (s, b) => match a.eval (.tmp s) with | .bool t => t == b | _ => false) := by
  simp only [rd, resRO, Option.bind_eq_some_iff] at h
  obtain ⟨o, ho, r, hr, h⟩ := h
  split at h
  · rename_i hd
    have hd' : ∀ s, o.dst = some s → s < N := by
      intro s hs
      rw [hs] at hd
      simpa using hd
    split at h
    · rename_i hg
      cases h
      exact ⟨o, ho, hr, rfl, hd', fun a => by simp [Region.wanted, hg]⟩
    · rename_i g want hg
      simp only [Option.map_eq_some_iff] at h
      obtain ⟨s, hs, rfl⟩ := h
      refine ⟨o, ho, hr, rfl, hd', fun a => ?_⟩
      simp only [Region.wanted, hg, yielded, hs, Option.bind_some, Act.eval, Array.getD_eq_getD_getElem?]
      cases h1 : a.tmps[s]? with
      | none => simp [undef]
      | some v => cases v <;> simp
  · cases h

theorem bool_ne {t b : Bool} (h : ¬ t = b) : t = !b := by cases t <;> cases b <;> simp_all

/-- A guard, known or not. -/
theorem guarded_cases {g : Option (Nat × Bool)} {env : Env} {run skip : Env → Prop} (h : guarded g env run skip) :
    (∃ env', (∀ t, get env' t = get env t) ∧ run env' ∧ (∀ s b, g = some (s, b) → get env s = bv b)) ∨
    (∃ env', (∀ t, get env' t = get env t) ∧ skip env' ∧ ∃ s b, g = some (s, b) ∧ (get env s = bv (!b) ∨ ∃ l, get env s = .d (.v (.tuple l)))) := by
  unfold guarded at h
  split at h
  · exact .inl ⟨env, fun _ => rfl, h, fun s b e => by cases e⟩
  · rename_i s b
    split at h
    · rename_i t ht
      by_cases hb : t = b
      · subst hb
        refine .inl ⟨(s, bv t) :: env, fun u => ?_, h.1 rfl, fun s' b' e => by cases e; exact ht⟩
        simp only [get]
        split
        · rename_i e; subst e; rw [ht]; rfl
        · rfl
      · have hb' := bool_ne hb
        subst hb'
        refine .inr ⟨(s, bv (!b)) :: env, fun u => ?_, h.2 rfl, s, b, rfl, .inl ht⟩
        simp only [get]
        split
        · rename_i e; subst e; rw [ht]; rfl
        · rfl
    · rename_i l hl
      exact .inr ⟨env, fun _ => rfl, h, s, b, rfl, .inr ⟨l, hl⟩⟩
    · exact h.elim

theorem Rel.congr' {B : Base} {N : Nat} {m m' : Nat → AV} {st : St} {β : Emb} {a : Act} {w : World} (h : Rel B N m st β a w) (hm : ∀ t, m' t = .junk ∨ m' t = m t) : Rel B N m' st β a w :=
  ⟨h.heap, fun t => by
    rcases hm t with e | e
    · rw [e]; exact .junk
    · rw [e]; exact h.tmps t, h.size, h.defers, h.keep, h.evo⟩

/-- One operation. -/
theorem ro_sound {B : Base} {N : Nat} {ops : Array Oper} {i : Nat} {ro : RO} {m : Nat → AV} {env : Env} {st : St} {β : Emb} {a : Act} {w : World} {Q : Exit → Act → World → Prop} {K : Env → St → Prop} {K' : Act → World → Prop}
    (hi : rd P N ops i = some ro) (h : Rel B N m st β a w) (hg : ∀ s b, ro.guard = some (s, b) → m s = get env s) (hx : ∀ x ∈ ro.op.xs, rv env x = mv m x) (hr : aRO P ro env st K)
    (hK : ∀ env' st' β' a' w' v, K env' st' → (∃ x, (∀ t, get env' t = if ro.dst = some t then x else get env t) ∧ Rel B N (fun t => if ro.dst = some t then x else m t) st' β' a' w') → a' = a.put ro.dst v → Keep (Mut β st.h) w (Mut β' st'.h) w' → Evo β st β' st' → K' a' w') :
    wpOp P ops Q i K' a w := by
  obtain ⟨o, ho, hro, hdst, hdN, hwant⟩ := rd_inv hi
  unfold wpOp
  simp only [ho]
  rcases guarded_cases hr with ⟨env1, e1, hrun, hgb⟩ | ⟨env1, e1, hskip, s, b, hgs, hgb⟩
  · have hw : Region.wanted o (yielded ops a.tmps) = true := by
      rw [hwant]
      cases hgd : ro.guard with
      | none => rfl
      | some p =>
        obtain ⟨s, b⟩ := p
        have := h.tmps s
        rw [hg s b hgd, hgb s b hgd] at this
        have := R_v this
        simp [this]
    simp only [hw, if_true]
    left
    refine wp_of_exec h hro (aexec_congr (ρ := rv env1) (fun x hx' => ?_) hrun) hdN (fun x st' β' v w' hk hrel hkp hev => ?_)
    · rw [← hx x hx', rv_get, rv_get]
      cases x <;> simp [mv, e1]
    · rw [← hdst] at hrel ⊢
      exact hK _ _ _ _ _ v hk ⟨x, fun t => by rw [get_put]; split <;> simp [e1], hrel⟩ rfl hkp hev
  · have hw : Region.wanted o (yielded ops a.tmps) = false := by
      rw [hwant, hgs]
      have := h.tmps s
      rw [hg s b hgs] at this
      rcases hgb with hgb | ⟨l, hgb⟩
      · rw [hgb] at this
        have := R_v this
        simp [this]
      · rw [hgb] at this
        have := R_v this
        simp [this]
    simp only [hw, Bool.false_eq_true, if_false]
    rw [← hdst]
    refine hK _ _ β _ w undef hskip ⟨undefAV, fun t => by rw [get_put]; split <;> simp [e1], ?_⟩ rfl (Keep.refl _ _) (Evo.refl _ _)
    exact h.step (by rw [hdst]; exact hdN) h.heap (.d (.v _)) (Keep.refl _ _) (Evo.refl _ _) fun t => rfl

/-- One after the other. -/
theorem ros_sound {B : Base} {N : Nat} {ops : Array Oper} {Q : Exit → Act → World → Prop} {K : Env → St → Prop} (hK : ∀ env st β a w, Rel B N (get env) st β a w → K env st → Q .normal a w) :
    ∀ (l : List Nat) (ros : List RO) (env : Env) (st : St) (β : Emb) (a : Act) (w : World), l.mapM (rd P N ops) = some ros → Rel B N (get env) st β a w → aROs P ros env st K → wpOps P ops Q l a w := by
  intro l
  induction l with
  | nil =>
    intro ros env st β a w hl h hr
    simp at hl
    subst hl
    exact hK _ _ _ _ _ h hr
  | cons i l ih =>
    intro ros env st β a w hl h hr
    simp only [List.mapM_cons, Option.bind_eq_bind, Option.bind_eq_some_iff, Option.pure_def, Option.some.injEq] at hl
    obtain ⟨ro, hi, ros', hl, rfl⟩ := hl
    rw [wpOps_cons]
    refine ro_sound hi h (fun _ _ _ => rfl) (fun x _ => by rw [rv_get]) hr ?_
    rintro env' st' β' a' w' v hk ⟨x, he, hrel⟩ _ _ _
    exact ih ros' env' st' β' a' w' hl (hrel.congr he) hk

/-! ### Any order -/
inductive DTs where
  | fin
  | no
  | q (j : Nat) (k : DTs)
  | a (i : Nat) (re : List Nat) (k alt : DTs)

inductive DT where
  | fin
  | no
  | q (o : RO) (k : DT)
  | a (o : RO) (re : List RO) (k alt : DT)

def PendV (o : RO) (env : Env) (st : St) : Prop := ∃ v, aval o.op (rv env) st = some v ∧ ∀ d, o.dst = some d → get env d = v
def PendU (o : RO) (env : Env) : Prop := ∀ d, o.dst = some d → get env d = undefAV

/-- What it would give now is what it gave. -/
def Pend (o : RO) (env : Env) (st : St) : Prop :=
  match o.guard with
  | none => PendV o env st
  | some (s, b) => match get env s with
    | .d (.v (.bool t)) => if t = b then PendV o env st else PendU o env
    | .d (.v (.tuple _)) => PendU o env
    | _ => False

def aRe : List RO → Env → St → Prop
  | [], _, _ => True
  | o :: l, env, st => Pend o env st ∧ aRe l env st

def aDT (P : Program) : DT → Env → St → (Env → St → Prop) → Prop
  | .fin, env, st, K => K env st
  | .no, _, _, _ => True
  | .q o k, env, st, K => aRO P o env st fun env st => aDT P k env st K
  | .a o re k alt, env, st, K => (aRO P o env st fun env st => aRe re env st ∧ aDT P k env st K) ∧ aDT P alt env st K

def preds (ops : Array Oper) (i : Nat) : List Nat := ((ops[i]?).map fun o => (o.after.toList.filter (Region.binds .any ·)).map (·.on)).getD []

def quietO (P : Program) (N : Nat) (ops : Array Oper) (i : Nat) : Bool :=
  match ops[i]? with
  | some o => match o.op with
    | .assign _ => false
    | _ => (rd P N ops i).any (·.op.quiet)
  | none => false

def RX.slots : RX → List Nat
  | .t n => [n]
  | .c _ => []

def RO.slots (o : RO) : List Nat := (o.op.xs.map RX.slots).flatten ++ (match o.guard with | some (s, _) => [s] | none => [])

def insN (l : List Nat) (x : Nat) : List Nat := if l.contains x then l else x :: l

def ancGo (ops : Array Oper) : Nat → List Nat → List Nat
  | 0, acc => acc
  | j + 1, acc => ancGo ops j (if acc.contains j then (preds ops j).foldl insN acc else acc)

def anc (ops : Array Oper) (_n i : Nat) : List Nat := ancGo ops (i + 1) [i]

/-- What holds of the whole region. -/
def regOK (P : Program) (N : Nat) (ops : Array Oper) : Bool :=
  let n := ops.size
  (List.range n).all fun i =>
    (preds ops i).all (fun j => decide (j < i)) &&
    match rd P N ops i with
    | none => false
    | some o => (List.range n).all fun k =>
        match (ops[k]?).bind (·.dst) with
        | none => true
        | some d => (k == i || o.dst != some d) && (!o.slots.contains d || (preds ops i).contains k || ((preds ops k).contains i && !quietO P N ops k))

def altIdx : DTs → List Nat
  | .a i _ _ alt => i :: altIdx alt
  | _ => []

def subset (l m : List Nat) : Bool := l.all m.contains

def freeO (P : Program) (N : Nat) (ops : Array Oper) (i : Nat) : Bool := (rd P N ops i).any (·.op.free)

def resDT (P : Program) (N : Nat) (ops : Array Oper) : Bool → List Nat → List Nat → DTs → Option DT
  | top, C, _, .fin => if top && (List.range ops.size).all C.contains then some .fin else none
  | top, _, _, .no => if top then none else some .no
  | top, C, S, .q j k =>
    if top && !C.contains j && decide (j < ops.size) && subset (preds ops j) C && quietO P N ops j then (rd P N ops j).bind fun o => (resDT P N ops true (j :: C) S k).map (.q o) else none
  | top, C, S, .a i re k alt =>
    let S' := anc ops ops.size i ++ S
    if (!top || (List.range ops.size).all fun j => C.contains j || !subset (preds ops j) C || (altIdx (.a i re k alt)).contains j) && !C.contains i && decide (i < ops.size) &&
       C.all (fun j => S'.contains j || freeO P N ops j || re.contains j) then
      (rd P N ops i).bind fun o => (re.mapM (rd P N ops)).bind fun ro => (resDT P N ops true (i :: C) S' k).bind fun k' => (resDT P N ops false C S alt).map fun alt' => .a o ro k' alt'
    else none

/-! ### It is sound -/
theorem regOK_inv {N : Nat} {ops : Array Oper} (h : regOK P N ops = true) : ∀ i, i < ops.size → (∀ j ∈ preds ops i, j < i) ∧ ∃ o, rd P N ops i = some o ∧
    (∀ k d, k < ops.size → (ops[k]?).bind (·.dst) = some d → (k ≠ i → o.dst ≠ some d) ∧ (d ∈ o.slots → k ∈ preds ops i ∨ (i ∈ preds ops k ∧ quietO P N ops k = false))) := by
  intro i hi
  simp only [regOK, List.all_eq_true, List.mem_range, Bool.and_eq_true, decide_eq_true_eq] at h
  obtain ⟨h1, h2⟩ := h i hi
  refine ⟨h1, ?_⟩
  split at h2
  · cases h2
  · rename_i o ho
    refine ⟨o, ho, fun k d hk hd => ?_⟩
    simp only [List.all_eq_true, List.mem_range] at h2
    have h3 := h2 k hk
    rw [hd] at h3
    simp only [Bool.and_eq_true, Bool.or_eq_true, beq_iff_eq, bne_iff_ne, ne_eq, Bool.not_eq_true', List.contains_eq_mem, decide_eq_true_eq, decide_eq_false_iff_not] at h3
    obtain ⟨h4, h5⟩ := h3
    refine ⟨fun hne => h4.resolve_left hne, fun hm => ?_⟩
    rcases h5 with (h5 | h5) | h5
    · exact (h5 hm).elim
    · exact .inl h5
    · exact .inr h5

theorem xs_slots {o : RO} {x : RX} (hx : x ∈ o.op.xs) {t : Nat} (ht : x = .t t) : t ∈ o.slots := by
  subst ht
  simp only [RO.slots, List.mem_append, List.mem_flatten, List.mem_map]
  exact .inl ⟨[t], ⟨.t t, hx, rfl⟩, by simp⟩

theorem guard_slots {o : RO} {s : Nat} {b : Bool} (hg : o.guard = some (s, b)) : s ∈ o.slots := by
  simp [RO.slots, hg]

theorem aval_env {o : RO} {env env' : Env} {st : St} (h : ∀ t ∈ o.slots, get env t = get env' t) : aval o.op (rv env) st = aval o.op (rv env') st :=
  aval_congr st fun x hx => by
    cases x with
    | t n => exact h n (xs_slots hx rfl)
    | c v => rfl

theorem PendV_congr {o : RO} {env env' : Env} {st st' : St} (h : ∀ t ∈ o.slots, get env t = get env' t) (hd : ∀ d, o.dst = some d → get env d = get env' d)
    (hs : aval o.op (rv env') st = aval o.op (rv env') st') (hp : PendV o env st) : PendV o env' st' := by
  obtain ⟨v, h1, h2⟩ := hp
  exact ⟨v, by rw [← hs, ← aval_env h]; exact h1, fun d e => by rw [← hd d e]; exact h2 d e⟩

theorem Pend_congr {o : RO} {env env' : Env} {st st' : St} (h : ∀ t ∈ o.slots, get env t = get env' t) (hd : ∀ d, o.dst = some d → get env d = get env' d)
    (hs : aval o.op (rv env') st = aval o.op (rv env') st') (hp : Pend o env st) : Pend o env' st' := by
  have hu : PendU o env → PendU o env' := fun hu d e => by rw [← hd d e]; exact hu d e
  unfold Pend at hp ⊢
  cases hg : o.guard with
  | none => rw [hg] at hp; exact PendV_congr h hd hs hp
  | some p =>
    obtain ⟨s, b⟩ := p
    rw [hg] at hp
    simp only at hp ⊢
    rw [← h s (guard_slots hg)]
    split at hp
    · split at hp
      · rename_i hb; rw [if_pos hb]; exact PendV_congr h hd hs hp
      · rename_i hb; rw [if_neg hb]; exact hu hp
    · exact hu hp
    · exact hp

/-- To do what is pending turns nothing. -/
theorem Pend_run {o : RO} {env : Env} {st : St} (hq : o.op.quiet = true) (hp : Pend o env st) : aRO P o env st fun env' st' => st' = st ∧ ∀ t, get env' t = get env t := by
  have hv : ∀ env1 : Env, (∀ t, get env1 t = get env t) → PendV o env st → aexec P o.op (rv env1) st fun v st' => st' = st ∧ ∀ t, get (put o.dst v env1) t = get env t := by
    rintro env1 e1 ⟨v, h1, h2⟩
    rw [quiet_exec hq]
    refine ⟨v, by rw [aval_env (env' := env) fun t _ => e1 t]; exact h1, rfl, fun t => ?_⟩
    rw [get_put]
    split
    · rename_i e; exact (h2 t e).symm
    · exact e1 t
  have hu : ∀ env1 : Env, (∀ t, get env1 t = get env t) → PendU o env → (st = st ∧ ∀ t, get (put o.dst undefAV env1) t = get env t) := by
    intro env1 e1 h2
    refine ⟨rfl, fun t => ?_⟩
    rw [get_put]
    split
    · rename_i e; exact (h2 t e).symm
    · exact e1 t
  unfold Pend at hp
  unfold aRO guarded
  cases hg : o.guard with
  | none => rw [hg] at hp; exact hv env (fun _ => rfl) hp
  | some p =>
    obtain ⟨s, b⟩ := p
    rw [hg] at hp
    simp only at hp ⊢
    have same : ∀ t : Bool, get env s = .d (.v (.bool t)) → ∀ u, get ((s, bv t) :: env) u = get env u := by
      intro t ht u
      simp only [get]
      split
      · rename_i e; subst e; rw [ht]; rfl
      · rfl
    split at hp
    · rename_i t ht
      simp only [ht]
      refine ⟨fun e => ?_, fun e => ?_⟩
      · subst e
        rw [if_pos rfl] at hp
        exact hv _ (same _ ht) hp
      · subst e
        rw [if_neg (by cases b <;> simp)] at hp
        have := hu _ (same _ ht) hp
        simpa using this
    · rename_i l hl
      simp only [hl]
      have := hu _ (fun _ => rfl) hp
      simpa using this
    · exact hp.elim

open Classical in
/-- What the places hold of which more is done than was. -/
noncomputable def mask (ops : Array Oper) (C : List Nat) (L : Nat → Prop) (env : Env) (t : Nat) : AV :=
  if ∃ j, j ∈ C ∧ ¬ L j ∧ (ops[j]?).bind (·.dst) = some t then .junk else get env t

structure Sim (P : Program) (B : Base) (N : Nat) (ops : Array Oper) (C S : List Nat) (env : Env) (st : St) (L : Nat → Prop) (β : Emb) (a : Act) (w : World) : Prop where
  lc : ∀ i, L i → i ∈ C
  ln : ∀ i, i ∈ C → i < ops.size
  cl : ∀ i, i ∈ C → ∀ j ∈ preds ops i, j ∈ C
  ll : ∀ i, L i → ∀ j ∈ preds ops i, L j
  sl : ∀ i, i ∈ S → L i
  qt : ∀ j, j ∈ C → ¬ L j → quietO P N ops j = true
  rel : Rel B N (mask ops C L env) st β a w
  pend : ∀ j, j ∈ C → ¬ L j → ∀ o, rd P N ops j = some o → Pend o env st

theorem insN_in {L : Nat → Prop} : ∀ (m l : List Nat), (∀ x ∈ l, L x) → (∀ x ∈ m, L x) → ∀ x ∈ m.foldl insN l, L x := by
  intro m
  induction m with
  | nil => intro l h _; exact h
  | cons y m ih =>
    intro l h hm
    refine ih _ (fun x hx => ?_) fun x hx => hm x (List.mem_cons_of_mem _ hx)
    unfold insN at hx
    split at hx
    · exact h x hx
    · rcases List.mem_cons.1 hx with rfl | hx
      · exact hm _ List.mem_cons_self
      · exact h x hx

theorem ancGo_in {ops : Array Oper} {L : Nat → Prop} (h : ∀ i, L i → ∀ j ∈ preds ops i, L j) : ∀ n acc, (∀ x ∈ acc, L x) → ∀ j ∈ ancGo ops n acc, L j := by
  intro n
  induction n with
  | zero => intro acc ha; exact ha
  | succ n ih =>
    intro acc ha
    refine ih _ fun x hx => ?_
    split at hx
    · rename_i hc
      exact insN_in _ _ ha (h n (ha n (by simpa using hc))) x hx
    · exact ha x hx

theorem anc_in {ops : Array Oper} {L : Nat → Prop} (h : ∀ i, L i → ∀ j ∈ preds ops i, L j) : ∀ n i, L i → ∀ j ∈ anc ops n i, L j := by
  intro n i hi
  refine ancGo_in h _ _ fun x hx => ?_
  rw [List.mem_singleton.1 hx]; exact hi

theorem rd_dst {N : Nat} {ops : Array Oper} {i : Nat} {ro : RO} (h : rd P N ops i = some ro) : (ops[i]?).bind (·.dst) = ro.dst := by
  obtain ⟨o, ho, _, hd, _⟩ := rd_inv h
  rw [ho]; exact hd.symm

variable {B : Base} {N : Nat} {ops : Array Oper} {C S : List Nat} {env : Env} {st : St} {L : Nat → Prop} {β : Emb} {a : Act} {w : World}

/-- What an operation that may be done looks at is as it is told. -/
theorem Sim.open (hok : regOK P N ops = true) (h : Sim P B N ops C S env st L β a w) {i : Nat} (hi : i < ops.size) (hp : ∀ j ∈ preds ops i, L j) {o : RO} (ho : rd P N ops i = some o) :
    ∀ t ∈ o.slots, mask ops C L env t = get env t := by
  intro t ht
  unfold mask
  rw [if_neg]
  rintro ⟨k, hk, hnk, hd⟩
  obtain ⟨_, o', ho', hall⟩ := regOK_inv hok i hi
  rw [ho] at ho'
  cases ho'
  rcases (hall k t (h.ln k hk) hd).2 ht with h1 | ⟨_, h1⟩
  · exact hnk (hp k h1)
  · rw [h.qt k hk hnk] at h1
    cases h1

theorem Sim.xs (hok : regOK P N ops = true) (h : Sim P B N ops C S env st L β a w) {i : Nat} (hi : i < ops.size) (hp : ∀ j ∈ preds ops i, L j) {o : RO} (ho : rd P N ops i = some o) :
    ∀ x ∈ o.op.xs, rv env x = mv (mask ops C L env) x := by
  intro x hx
  cases x with
  | t n => exact (h.open hok hi hp ho n (xs_slots hx rfl)).symm
  | c v => rfl

/-- What is pending is done. -/
theorem Sim.done (hok : regOK P N ops = true) (h : Sim P B N ops C S env st L β a w) {i : Nat} (hi : i ∈ C) (hn : ¬ L i) (hp : ∀ j ∈ preds ops i, L j) {Q : Exit → Act → World → Prop} {K' : Act → World → Prop}
    (hK : ∀ β' a' w', Sim P B N ops C S env st (fun j => L j ∨ j = i) β' a' w' → K' a' w') : wpOp P ops Q i K' a w := by
  have hin := h.ln i hi
  obtain ⟨_, o, ho, hall⟩ := regOK_inv hok i hin
  have hq : o.op.quiet = true := by
    have := h.qt i hi hn
    unfold quietO at this
    split at this
    · split at this
      · cases this
      · simpa [ho] using this
    · cases this
  refine ro_sound ho h.rel (fun s b hg => h.open hok hin hp ho s (guard_slots hg)) (h.xs hok hin hp ho) (Pend_run hq (h.pend i hi hn o ho)) ?_
  rintro env' st' β' a' w' v ⟨rfl, he⟩ ⟨x, hx, hrel⟩ _ _ _
  refine hK β' a' w' ⟨?_, h.ln, h.cl, ?_, fun j hj => .inl (h.sl j hj), fun j hj hnj => h.qt j hj fun hl => hnj (.inl hl), hrel.congr fun t => ?_, fun j hj hnj => h.pend j hj fun hl => hnj (.inl hl)⟩
  · rintro j (hj | rfl)
    · exact h.lc j hj
    · exact hi
  · rintro j (hj | rfl) k hk
    · exact .inl (h.ll j hj k hk)
    · exact .inl (hp k hk)
  · by_cases hd : o.dst = some t
    · rw [if_pos hd]
      unfold mask
      rw [if_neg]
      · rw [← he, hx, if_pos hd]
      · rintro ⟨k, hk, hnk, hdk⟩
        exact (hall k t (h.ln k hk) hdk).1 (fun e => hnk (.inr e)) hd
    · rw [if_neg hd]
      unfold mask
      congr 1
      apply propext
      constructor
      · rintro ⟨k, hk, hnk, hdk⟩; exact ⟨k, hk, fun hl => hnk (.inl hl), hdk⟩
      · rintro ⟨k, hk, hnk, hdk⟩
        refine ⟨k, hk, ?_, hdk⟩
        rintro (hl | rfl)
        · exact hnk hl
        · rw [rd_dst ho] at hdk; exact hd hdk

/-- One more is done ahead. -/
theorem Sim.ahead (hok : regOK P N ops = true) (h : Sim P B N ops C S env st L β a w) {j : Nat} {o : RO} (hj : j ∉ C) (hn : j < ops.size) (hsub : ∀ k ∈ preds ops j, k ∈ C) (hq : quietO P N ops j = true) (ho : rd P N ops j = some o) {K : Env → St → Prop}
    (hr : aRO P o env st K) : ∃ env', K env' st ∧ Sim P B N ops (j :: C) S env' st L β a w := by
  obtain ⟨hac, o', ho', hall⟩ := regOK_inv hok j hn
  rw [ho] at ho'
  cases ho'
  have hqo : o.op.quiet = true := by
    have := hq
    unfold quietO at this
    split at this
    · split at this
      · cases this
      · simpa [ho] using this
    · cases this
  have hLj : ¬ L j := fun hl => hj (h.lc j hl)
  have hself : ∀ t ∈ o.slots, o.dst ≠ some t := by
    intro t ht hd
    rcases (hall j t hn (by rw [rd_dst ho]; exact hd)).2 ht with h1 | ⟨h1, _⟩
    · exact Nat.lt_irrefl _ (hac j h1)
    · exact Nat.lt_irrefl _ (hac j h1)
  have key : ∀ env', (∀ t, get env' t = if o.dst = some t then get env' t else get env t) → Pend o env' st → Sim P B N ops (j :: C) S env' st L β a w := by
    intro env' he hpd
    have he' : ∀ t, o.dst ≠ some t → get env' t = get env t := fun t ht => by rw [he, if_neg ht]
    refine ⟨fun i hi => .tail _ (h.lc i hi), ?_, ?_, h.ll, h.sl, ?_, h.rel.congr' fun t => ?_, ?_⟩
    · intro i hi
      rcases List.mem_cons.1 hi with rfl | hi
      · exact hn
      · exact h.ln i hi
    · intro i hi k hk
      rcases List.mem_cons.1 hi with rfl | hi
      · exact .tail _ (hsub k hk)
      · exact .tail _ (h.cl i hi k hk)
    · intro i hi hni
      rcases List.mem_cons.1 hi with rfl | hi
      · exact hq
      · exact h.qt i hi hni
    · unfold mask
      by_cases hd : o.dst = some t
      · rw [if_pos ⟨j, .head _, hLj, by rw [rd_dst ho]; exact hd⟩]
        exact .inl rfl
      · right
        rw [he' t hd]
        congr 1
        apply propext
        constructor
        · rintro ⟨k, hk, hnk, hdk⟩
          rcases List.mem_cons.1 hk with rfl | hk
          · rw [rd_dst ho] at hdk; exact (hd hdk).elim
          · exact ⟨k, hk, hnk, hdk⟩
        · rintro ⟨k, hk, hnk, hdk⟩; exact ⟨k, .tail _ hk, hnk, hdk⟩
    · intro i hi hni oi hoi
      rcases List.mem_cons.1 hi with rfl | hi
      · rw [ho] at hoi; cases hoi; exact hpd
      · obtain ⟨_, o', ho', halli⟩ := regOK_inv hok i (h.ln i hi)
        rw [hoi] at ho'
        cases ho'
        refine Pend_congr (env := env) (st := st) (fun t ht => (he' t fun hd => ?_).symm) (fun d hdi => (he' d fun hd => ?_).symm) rfl (h.pend i hi hni oi hoi)
        · rcases (halli j t hn (by rw [rd_dst ho]; exact hd)).2 ht with h1 | ⟨_, h1⟩
          · exact hj (h.cl i hi j h1)
          · rw [hq] at h1; cases h1
        · exact (halli j d hn (by rw [rd_dst ho]; exact hd)).1 (fun e => hj (e ▸ hi)) hdi
  rcases guarded_cases hr with ⟨env1, e1, hrun, hgb⟩ | ⟨env1, e1, hskip, s, b, hgs, hgb⟩
  · rw [quiet_exec hqo] at hrun
    obtain ⟨v, hv, hK⟩ := hrun
    have hge : ∀ t, o.dst ≠ some t → get (put o.dst v env1) t = get env t := fun t ht => by rw [get_put, if_neg ht, e1]
    have hpv : PendV o (put o.dst v env1) st := ⟨v, by
      rw [← hv]
      refine aval_env fun t ht => ?_
      rw [hge t (hself t ht), e1], fun d hd => by rw [get_put, if_pos hd]⟩
    refine ⟨_, hK, key _ (fun t => ?_) ?_⟩
    · split
      · rfl
      · rename_i hd; exact hge t hd
    · unfold Pend
      cases hgd : o.guard with
      | none => exact hpv
      | some p =>
        obtain ⟨s, b⟩ := p
        have h1 := hge s (hself s (guard_slots hgd))
        rw [hgb s b hgd] at h1
        simp only [h1, bv, if_true]
        exact hpv
  · have hge : ∀ t, o.dst ≠ some t → get (put o.dst undefAV env1) t = get env t := fun t ht => by rw [get_put, if_neg ht, e1]
    have hpu : PendU o (put o.dst undefAV env1) := fun d hd => by rw [get_put, if_pos hd]
    refine ⟨_, hskip, key _ (fun t => ?_) ?_⟩
    · split
      · rfl
      · rename_i hd; exact hge t hd
    · unfold Pend
      rw [hgs]
      have h1 := hge s (hself s (guard_slots hgs))
      rcases hgb with hgb | ⟨l, hgb⟩
      · rw [hgb] at h1
        simp only [h1, bv]
        rw [if_neg (by cases b <;> simp)]
        exact hpu
      · rw [hgb] at h1
        simp only [h1]
        exact hpu

theorem aRe_mem {ro : List RO} {o : RO} (h : aRe ro env st) (ho : o ∈ ro) : Pend o env st := by
  induction ro with
  | nil => simp at ho
  | cons x l ih =>
    rcases List.mem_cons.1 ho with rfl | ho
    · exact h.1
    · exact ih h.2 ho

theorem mapM_mem {re : List Nat} {ro : List RO} (h : re.mapM (rd P N ops) = some ro) {j : Nat} (hj : j ∈ re) : ∃ o ∈ ro, rd P N ops j = some o := by
  induction re generalizing ro with
  | nil => simp at hj
  | cons x l ih =>
    simp only [List.mapM_cons, Option.bind_eq_bind, Option.bind_eq_some_iff, Option.pure_def, Option.some.injEq] at h
    obtain ⟨o, ho, l', hl, rfl⟩ := h
    rcases List.mem_cons.1 hj with rfl | hj
    · exact ⟨o, .head _, ho⟩
    · obtain ⟨o', h1, h2⟩ := ih hl hj
      exact ⟨o', .tail _ h1, h2⟩

/-- What turns what is live is done. -/
theorem Sim.act (hok : regOK P N ops = true) (h : Sim P B N ops C S env st L β a w) {i : Nat} {o : RO} {re : List Nat} {ro : List RO} (hi : i ∉ C) (hn : i < ops.size) (hp : ∀ j ∈ preds ops i, L j) (ho : rd P N ops i = some o)
    (hre : re.mapM (rd P N ops) = some ro) (hC : ∀ j ∈ C, j ∈ anc ops ops.size i ++ S ∨ freeO P N ops j = true ∨ j ∈ re) {K : Env → St → Prop} {Q : Exit → Act → World → Prop} {K' : Act → World → Prop}
    (hr : aRO P o env st fun env st => aRe ro env st ∧ K env st)
    (hK : ∀ env' st' β' a' w', K env' st' → Sim P B N ops (i :: C) (anc ops ops.size i ++ S) env' st' (fun j => L j ∨ j = i) β' a' w' → K' a' w') : wpOp P ops Q i K' a w := by
  obtain ⟨_, o', ho', hall⟩ := regOK_inv hok i hn
  rw [ho] at ho'
  cases ho'
  refine ro_sound ho h.rel (fun s b hg => h.open hok hn hp ho s (guard_slots hg)) (h.xs hok hn hp ho) hr ?_
  rintro env' st' β' a' w' v ⟨hRe, hk⟩ ⟨x, hx, hrel⟩ _ _ _
  have hll : ∀ j, (L j ∨ j = i) → ∀ k ∈ preds ops j, L k ∨ k = i := by
    rintro j (hj | rfl) k hk
    · exact .inl (h.ll j hj k hk)
    · exact .inl (hp k hk)
  have hsl : ∀ j, j ∈ anc ops ops.size i ++ S → L j ∨ j = i := by
    intro j hj
    rcases List.mem_append.1 hj with hj | hj
    · exact anc_in (L := fun j => L j ∨ j = i) hll _ i (.inr rfl) j hj
    · exact .inl (h.sl j hj)
  refine hK env' st' β' a' w' hk ⟨?_, ?_, ?_, hll, hsl, ?_, hrel.congr fun t => ?_, ?_⟩
  · rintro j (hj | rfl)
    · exact .tail _ (h.lc j hj)
    · exact .head _
  · intro j hj
    rcases List.mem_cons.1 hj with rfl | hj
    · exact hn
    · exact h.ln j hj
  · intro j hj k hk
    rcases List.mem_cons.1 hj with rfl | hj
    · exact .tail _ (h.lc k (hp k hk))
    · exact .tail _ (h.cl j hj k hk)
  · intro j hj hnj
    rcases List.mem_cons.1 hj with rfl | hj
    · exact (hnj (.inr rfl)).elim
    · exact h.qt j hj fun hl => hnj (.inl hl)
  · by_cases hd : o.dst = some t
    · rw [if_pos hd]
      unfold mask
      rw [if_neg]
      · rw [hx, if_pos hd]
      · rintro ⟨k, hk, hnk, hdk⟩
        rcases List.mem_cons.1 hk with rfl | hk
        · exact hnk (.inr rfl)
        · exact (hall k t (h.ln k hk) hdk).1 (fun e => hnk (.inr e)) hd
    · rw [if_neg hd]
      unfold mask
      rw [hx, if_neg hd]
      congr 1
      apply propext
      constructor
      · rintro ⟨k, hk, hnk, hdk⟩
        rcases List.mem_cons.1 hk with rfl | hk
        · exact (hnk (.inr rfl)).elim
        · exact ⟨k, hk, fun hl => hnk (.inl hl), hdk⟩
      · rintro ⟨k, hk, hnk, hdk⟩
        refine ⟨k, .tail _ hk, ?_, hdk⟩
        rintro (hl | rfl)
        · exact hnk hl
        · exact hi hk
  · intro j hj hnj oj hoj
    rcases List.mem_cons.1 hj with rfl | hj
    · exact (hnj (.inr rfl)).elim
    have hnLj : ¬ L j := fun hl => hnj (.inl hl)
    rcases hC j hj with h1 | h1 | h1
    · exact (hnj (hsl j h1)).elim
    · obtain ⟨_, o', ho', hallj⟩ := regOK_inv hok j (h.ln j hj)
      rw [hoj] at ho'
      cases ho'
      have he : ∀ t, o.dst ≠ some t → get env' t = get env t := fun t ht => by rw [hx, if_neg ht]
      refine Pend_congr (env := env) (st := st) (fun t ht => (he t fun hd => ?_).symm) (fun d hdi => (he d fun hd => ?_).symm) (free_aval (by simpa [freeO, hoj] using h1) _ _ _) (h.pend j hj hnLj oj hoj)
      · rcases (hallj i t hn (by rw [rd_dst ho]; exact hd)).2 ht with h2 | ⟨h2, _⟩
        · exact hi (h.cl j hj i h2)
        · exact hnLj (hp j h2)
      · exact (hallj i d hn (by rw [rd_dst ho]; exact hd)).1 (fun e => hi (e ▸ hj)) hdi
    · obtain ⟨o', h2, h3⟩ := mapM_mem hre h1
      rw [hoj] at h3
      cases h3
      exact aRe_mem hRe h2


/-! ### All orders -/
theorem ready_mem {ops : Array Oper} {listed : Array Bool} (hs : listed.size = ops.size) {i : Nat} : i ∈ Region.ready .any ops listed ↔ i < ops.size ∧ listed.getD i false = false ∧ ∀ j ∈ preds ops i, listed.getD j false = true := by
  unfold Region.ready
  simp only [List.mem_filter, List.mem_range, Bool.and_eq_true, Bool.not_eq_true']
  constructor
  · rintro ⟨h1, h2, h3⟩
    refine ⟨h1, ?_, fun j hj => ?_⟩
    · simpa [Array.getD, hs, h1] using h2
    · unfold preds at hj
      rw [Array.getElem?_eq_getElem h1] at h3 hj
      simp only [Option.map_some, Option.getD_some, List.mem_map, List.mem_filter, Array.mem_toList_iff] at h3 hj
      obtain ⟨e, ⟨he, hb⟩, rfl⟩ := hj
      have := Array.all_eq_true_iff_forall_mem.1 h3 e he
      simpa [hb] using this
  · rintro ⟨h1, h2, h3⟩
    refine ⟨h1, ?_, ?_⟩
    · simpa [Array.getD, hs, h1] using h2
    · rw [Array.getElem?_eq_getElem h1]
      simp only [Option.map_some, Option.getD_some, Array.all_eq_true_iff_forall_mem]
      intro e he
      cases hb : Region.binds .any e with
      | false => rfl
      | true =>
        have := h3 e.on (by
          unfold preds
          rw [Array.getElem?_eq_getElem h1]
          simp only [Option.map_some, Option.getD_some, List.mem_map, List.mem_filter, Array.mem_toList_iff]
          exact ⟨e, ⟨he, hb⟩, rfl⟩)
        simpa using this

theorem setL {listed : Array Bool} {n i : Nat} (hs : listed.size = n) (hi : i < n) (j : Nat) : (listed.setIfInBounds i true).getD j false = true ↔ listed.getD j false = true ∨ j = i := by
  simp only [Array.getD_eq_getD_getElem?]
  by_cases e : i = j
  · subst e
    simp [Array.getElem?_setIfInBounds_self_of_lt (hs ▸ hi)]
  · rw [Array.getElem?_setIfInBounds_ne e]
    simp [Ne.symm e]

def left (listed : Array Bool) : Nat := (listed.toList.filter (! ·)).length

theorem left_set {listed : Array Bool} {i : Nat} (hi : i < listed.size) (hn : listed.getD i false = false) : left (listed.setIfInBounds i true) + 1 = left listed := by
  have key : ∀ (l : List Bool) (i : Nat), l[i]? = some false → ((l.set i true).filter (! ·)).length + 1 = (l.filter (! ·)).length := by
    intro l
    induction l with
    | nil => intro i h; simp at h
    | cons x l ih =>
      intro i h
      cases i with
      | zero => simp at h; subst h; simp
      | succ i =>
        have := ih i (by simpa using h)
        simp only [List.set_cons_succ, List.filter_cons]
        split <;> simp_all
  unfold left
  rw [Array.toList_setIfInBounds]
  refine key _ _ ?_
  simp only [Array.getD_eq_getD_getElem?, Array.getElem?_eq_getElem hi, Option.getD_some] at hn
  simp [hi, hn]

theorem left_zero {listed : Array Bool} (h : left listed = 0) {i : Nat} (hi : i < listed.size) : listed.getD i false = true := by
  unfold left at h
  have := List.length_eq_zero_iff.1 h
  rw [List.filter_eq_nil_iff] at this
  have h2 := this listed[i] (by simp)
  simpa [Array.getD, hi] using h2

/-- The alternative that is taken. -/
theorem alt_find : ∀ (dts : DTs) (top : Bool) (C S : List Nat) (D : DT) (i : Nat) (env : Env) (st : St) (K : Env → St → Prop), i ∈ altIdx dts → resDT P N ops top C S dts = some D → aDT P D env st K →
    ∃ (re : List Nat) (k : DTs) (k' : DT) (o : RO) (ro : List RO), SizeOf.sizeOf k < SizeOf.sizeOf dts ∧ rd P N ops i = some o ∧ re.mapM (rd P N ops) = some ro ∧ resDT P N ops true (i :: C) (anc ops ops.size i ++ S) k = some k' ∧ (∀ j ∈ C, j ∈ anc ops ops.size i ++ S ∨ freeO P N ops j = true ∨ j ∈ re) ∧
      aRO P o env st fun env st => aRe ro env st ∧ aDT P k' env st K := by
  intro dts
  induction dts with
  | fin => intro top C S D i env st K hi; simp [altIdx] at hi
  | no => intro top C S D i env st K hi; simp [altIdx] at hi
  | q j k ih => intro top C S D i env st K hi; simp [altIdx] at hi
  | a i' re k alt ihk ihalt =>
    intro top C S D i env st K hi hres ha
    simp only [resDT] at hres
    split at hres
    · rename_i hc
      simp only [Option.bind_eq_some_iff, Option.map_eq_some_iff] at hres
      obtain ⟨o, ho, ro, hro, k', hk', alt', halt', rfl⟩ := hres
      obtain ⟨ha1, ha2⟩ := ha
      by_cases e : i = i'
      · subst e
        simp only [Bool.and_eq_true, List.all_eq_true, Bool.or_eq_true, List.contains_eq_mem, decide_eq_true_eq] at hc
        refine ⟨re, k, k', o, ro, ?_, ho, hro, hk', fun j hj => ?_, ha1⟩
        · simp only [DTs.a.sizeOf_spec]; omega
        · have := hc.2 j hj
          rcases this with (h | h) | h
          · exact .inl h
          · exact .inr (.inl h)
          · exact .inr (.inr h)
      · simp only [altIdx, List.mem_cons, e, false_or] at hi
        obtain ⟨re2, k2, k2', o2, ro2, h1, h2⟩ := ihalt false C S alt' i env st K hi halt' ha2
        exact ⟨re2, k2, k2', o2, ro2, by simp only [DTs.a.sizeOf_spec]; omega, h2⟩
    · cases hres

theorem dt_sound (hok : regOK P N ops = true) {Q : Exit → Act → World → Prop} {K : Env → St → Prop} (hK : ∀ env st β a w, Rel B N (get env) st β a w → K env st → Q .normal a w) :
    ∀ (n : Nat) (dts : DTs), SizeOf.sizeOf dts ≤ n → ∀ (fuel : Nat) (C S : List Nat) (D : DT) (env : Env) (st : St) (listed : Array Bool) (β : Emb) (a : Act) (w : World),
      resDT P N ops true C S dts = some D → listed.size = ops.size → left listed ≤ fuel → Sim P B N ops C S env st (fun i => listed.getD i false = true) β a w → aDT P D env st K →
      wpAny P .any ops Q fuel listed a w := by
  intro n
  induction n with
  | zero => intro dts hn; cases dts <;> simp at hn
  | succ n ihn =>
    intro dts hn
    have final : ∀ (C S : List Nat) (D : DT) (env : Env) (st : St) (L : Nat → Prop) (β : Emb) (a : Act) (w : World), resDT P N ops true C S dts = some D → Sim P B N ops C S env st L β a w → aDT P D env st K →
        (∀ i, i < ops.size → L i) → Q .normal a w := by
      intro C S D env st L β a w hres h ha hall
      cases dts with
      | fin =>
        simp only [resDT] at hres
        split at hres
        · cases hres
          refine hK env st β a w (h.rel.congr fun t => ?_) ha
          unfold mask
          rw [if_neg]
          rintro ⟨k, hk, hnk, _⟩
          exact hnk (hall k (h.ln k hk))
        · cases hres
      | no => simp [resDT] at hres
      | q j k =>
        simp only [resDT] at hres
        split at hres
        · rename_i hc
          simp only [Bool.and_eq_true, Bool.not_eq_true', List.contains_eq_mem, decide_eq_false_iff_not, decide_eq_true_eq] at hc
          exact (hc.1.1.1.2 (h.lc j (hall j hc.1.1.2))).elim
        · cases hres
      | a i re k alt =>
        simp only [resDT] at hres
        split at hres
        · rename_i hc
          simp only [Bool.and_eq_true, Bool.not_eq_true', List.contains_eq_mem, decide_eq_false_iff_not, decide_eq_true_eq] at hc
          exact (hc.1.1.2 (h.lc i (hall i hc.1.2))).elim
        · cases hres
    have allL : ∀ listed : Array Bool, listed.size = ops.size → Region.ready .any ops listed = [] → ∀ i, i < ops.size → listed.getD i false = true := by
      intro listed hs hr i
      induction i using Nat.strongRecOn with
      | _ i ih =>
        intro hi
        by_cases hl : listed.getD i false = true
        · exact hl
        · exfalso
          have : i ∈ Region.ready .any ops listed := (ready_mem hs).2 ⟨hi, by simpa using hl, fun j hj => ih j ((regOK_inv hok i hi).1 j hj) (Nat.lt_trans ((regOK_inv hok i hi).1 j hj) hi)⟩
          rw [hr] at this
          simp at this
    intro fuel
    induction fuel with
    | zero =>
      intro C S D env st listed β a w hres hs hf h ha
      have hall : ∀ i, i < ops.size → listed.getD i false = true := fun i hi => left_zero (by omega) (hs ▸ hi)
      refine ⟨?_, final C S D env st _ β a w hres h ha hall⟩
      refine List.eq_nil_iff_forall_not_mem.2 fun i hi => ?_
      rw [ready_mem hs] at hi
      rw [hall i hi.1] at hi
      simp at hi
    | succ fuel ihf =>
      intro C S D env st listed β a w hres hs hf h ha
      refine ⟨fun hr => final C S D env st _ β a w hres h ha (allL listed hs hr), fun i hi => ?_⟩
      rw [ready_mem hs] at hi
      obtain ⟨hi, hni, hp⟩ := hi
      have hnL : ¬ (listed.getD i false = true) := by simp [hni]
      have hleft := left_set (hs ▸ hi) hni
      have hL : (fun j => listed.getD j false = true ∨ j = i) = fun j => (listed.setIfInBounds i true).getD j false = true := by
        funext j; exact propext (setL hs hi j).symm
      by_cases hiC : i ∈ C
      · refine h.done hok hiC hnL hp fun β' a' w' h' => ?_
        rw [hL] at h'
        exact ihf C S D env st _ β' a' w' hres (by simp [hs]) (by omega) h' ha
      · cases dts with
        | fin =>
          simp only [resDT] at hres
          split at hres
          · rename_i hc
            simp only [Bool.true_and, List.all_eq_true, List.mem_range, List.contains_eq_mem, decide_eq_true_eq] at hc
            exact (hiC (hc i hi)).elim
          · cases hres
        | no => simp [resDT] at hres
        | q j k =>
          simp only [resDT] at hres
          split at hres
          · rename_i hc
            simp only [Bool.and_eq_true, Bool.not_eq_true', List.contains_eq_mem, decide_eq_false_iff_not, decide_eq_true_eq, subset, List.all_eq_true] at hc
            simp only [Option.bind_eq_some_iff, Option.map_eq_some_iff] at hres
            obtain ⟨o, ho, k', hk', rfl⟩ := hres
            obtain ⟨env', ha', h'⟩ := h.ahead hok hc.1.1.1.2 hc.1.1.2 hc.1.2 hc.2 ho ha
            have := ihn k (by simp only [DTs.q.sizeOf_spec] at hn; omega) (fuel + 1) _ _ k' env' st listed β a w hk' hs hf h' ha'
            exact this.2 i ((ready_mem hs).2 ⟨hi, hni, hp⟩)
          · cases hres
        | a i' re k alt =>
          have hmem : i ∈ altIdx (.a i' re k alt) := by
            simp only [resDT] at hres
            split at hres
            · rename_i hc
              simp only [Bool.and_eq_true, Bool.not_true, Bool.false_or, List.all_eq_true, List.mem_range, Bool.or_eq_true, List.contains_eq_mem, decide_eq_true_eq, Bool.not_eq_true'] at hc
              rcases hc.1.1.1 i hi with (h1 | h1) | h1
              · exact (hiC h1).elim
              · exfalso
                have : subset (preds ops i) C = true := by
                  simp only [subset, List.all_eq_true, List.contains_eq_mem, decide_eq_true_eq]
                  exact fun j hj => h.lc j (hp j hj)
                rw [this] at h1
                cases h1
              · exact h1
            · cases hres
          obtain ⟨re2, k2, k2', o2, ro2, h1, h2, h3, h4, h5, h6⟩ := alt_find _ true C S D i env st K hmem hres ha
          refine h.act hok hiC hi hp h2 h3 h5 h6 fun env' st' β' a' w' ha' h' => ?_
          rw [hL] at h'
          exact ihn k2 (by omega) fuel _ _ k2' env' st' _ β' a' w' h4 (by simp [hs]) (by omega) h' ha'

/-- A region in any order. -/
theorem region_any (hm : P.follows .mixedOrders = true) {id : Nat} (hok : regOK P N ops = true) {dts : DTs} {D : DT} (hD : resDT P N ops true [] [] dts = some D) {Q : Exit → Act → World → Prop} {K : Env → St → Prop}
    (hK : ∀ env st β a w, Rel B N (get env) st β a w → K env st → Q .normal a w) (h : Rel B N (get env) st β a w) (ha : aDT P D env st K) : (Code.region id ops true).wp P Q a w := by
  refine wp_region_any hm (dt_sound hok hK (SizeOf.sizeOf dts) dts (Nat.le_refl _) ops.size [] [] D env st _ β a _ hD (by simp) ?_ ?_ ha)
  · refine Nat.le_trans (List.length_filter_le _ _) ?_
    simp
  · have hno : ∀ i, ¬ ((Array.replicate ops.size false).getD i false = true) := by
      intro i
      simp [Array.getD_eq_getD_getElem?, Array.getElem?_replicate]
      split <;> simp
    refine ⟨fun i hi => (hno i hi).elim, fun i hi => by simp at hi, fun i hi => by simp at hi, fun i hi => (hno i hi).elim, fun i hi => by simp at hi, fun i hi => by simp at hi, (h.drawn _).congr fun t => ?_, fun i hi => by simp at hi⟩
    unfold mask
    rw [if_neg]
    rintro ⟨k, hk, _⟩
    simp at hk

/-- A region in its order. -/
theorem region_seq {id : Nat} {ros : List RO} (hr : (List.range ops.size).mapM (rd P N ops) = some ros) {Q : Exit → Act → World → Prop} {K : Env → St → Prop}
    (hK : ∀ env st β a w, Rel B N (get env) st β a w → K env st → Q .normal a w) (h : Rel B N (get env) st β a w) (ha : aROs P ros env st K) : (Code.region id ops false).wp P Q a w :=
  wp_region (ros_sound hK _ ros env st β a w hr h ha)

end Go.Eng
