/-
  Part of the proof that the law ProjectAll returns true at every input of bulk at most 1048576, and leaves its arguments as they were; the whole is stated at the end of the last text.
-/
import Derived.Test.YtdopmhicmehmeaaEngO
/-
  THE ENGINE, PART 16: code, calls.
-/
set_option linter.unusedVariables false
set_option linter.unusedSimpArgs false
namespace Go.Eng
open Go

variable {P : Program} {B : Base} {N : Nat}

/-- Code, its operations resolved. -/
inductive RC where
  | skip
  | reg (ops : List RO) (live : List Nat)
  | drw (D : DT) (live : List Nat)
  | seq (a b : RC)
  | cut (a b : RC)
  | cond (c : RX) (a b : RC)
  | block (id : Nat) (b : RC)
  | loop (b : RC)
  | exit (id : Nat)
  | ret
  | bad

/-- How code is to be resolved. -/
inductive SC where
  | leaf
  | reg (live : List Nat)
  | drw (dts : DTs) (live : List Nat)
  | two (a b : SC)
  | cut (a b : SC)
  | one (a : SC)

def resC (P : Program) (N : Nat) : SC → Code → Option RC
  | .leaf, .skip => some .skip
  | .leaf, .exit id => some (.exit id)
  | .leaf, .ret => some .ret
  | .leaf, _ => some .bad
  | .reg live, .region _ ops false => ((List.range ops.size).mapM (rd P N ops)).map (.reg · live)
  | .drw dts live, .region _ ops true => if regOK P N ops && P.follows .mixedOrders then (resDT P N ops true [] [] dts).map (.drw · live) else none
  | .two a b, .seq x y => (resC P N a x).bind fun x => (resC P N b y).map fun y => .seq x y
  | .cut a b, .seq x y => (resC P N a x).bind fun x => (resC P N b y).map fun y => .cut x y
  | .two a b, .cond c x y => (resC P N a x).bind fun x => (resC P N b y).map fun y => .cond (rx c) x y
  | .one a, .block id x => (resC P N a x).map (.block id)
  | .one a, .loop x => (resC P N a x).map .loop
  | _, _ => none

inductive AE where
  | normal
  | exit (id : Nat)
  | ret

abbrev AQ := AE → Env → St → Prop

def lift (B : Base) (N : Nat) (Q : AQ) : Exit → Act → World → Prop
  | .normal, a, w => ∃ env st β, Rel B N (get env) st β a w ∧ Q .normal env st
  | .exit id, a, w => ∃ env st β, Rel B N (get env) st β a w ∧ Q (.exit id) env st
  | .ret, a, w => ∃ env st β, Rel B N (get env) st β a w ∧ Q .ret env st
  | _, _, _ => False

/-- CODE, ON READINGS: done from here on, Q holds of how it ends. -/
def AWP (P : Program) (B : Base) (N : Nat) (rc : RC) (Q : AQ) (env : Env) (st : St) : Prop :=
  ∀ sc c, resC P N sc c = some rc → ∀ β a w, Rel B N (get env) st β a w → c.wp P (lift B N Q) a w

theorem AWP.mono {rc : RC} {Q Q' : AQ} {env : Env} {st : St} (h : AWP P B N rc Q env st) (hq : ∀ e env st, Q e env st → Q' e env st) : AWP P B N rc Q' env st := by
  intro sc c hr β a w hR
  refine wp_mono (h sc c hr β a w hR) fun e a w hl => ?_
  cases e <;> simp only [lift] at hl ⊢ <;> first
    | exact hl.elim
    | (obtain ⟨env, st, β, h1, h2⟩ := hl; exact ⟨env, st, β, h1, hq _ _ _ h2⟩)

def qthen (next : Env → St → Prop) (Q : AQ) : AQ
  | .normal, env, st => next env st
  | e, env, st => Q e env st

def qblock (id : Nat) (Q : AQ) : AQ
  | .exit id', env, st => if id' = id then Q .normal env st else Q (.exit id') env st
  | e, env, st => Q e env st

def keepE (env : Env) : List Nat → Env
  | [] => []
  | s :: l => (s, get env s) :: keepE env l

theorem keepE_get (env : Env) (l : List Nat) (t : Nat) : get (keepE env l) t = .junk ∨ get (keepE env l) t = get env t := by
  induction l with
  | nil => exact .inl rfl
  | cons s l ih =>
    simp only [keepE, get]
    split
    · rename_i e; subst e; exact .inr rfl
    · exact ih

theorem resC_inv {sc : SC} {c : Code} {rc : RC} (h : resC P N sc c = some rc) :
    (c = .skip ∧ rc = .skip) ∨ (∃ id, c = .exit id ∧ rc = .exit id) ∨ (c = .ret ∧ rc = .ret) ∨ rc = .bad ∨
    (∃ id ops live ros, c = .region id ops false ∧ (List.range ops.size).mapM (rd P N ops) = some ros ∧ rc = .reg ros live) ∨
    (∃ id ops live dts D, c = .region id ops true ∧ regOK P N ops = true ∧ P.follows .mixedOrders = true ∧ resDT P N ops true [] [] dts = some D ∧ rc = .drw D live) ∨
    (∃ s1 s2 x y rx ry, c = .seq x y ∧ resC P N s1 x = some rx ∧ resC P N s2 y = some ry ∧ rc = .seq rx ry) ∨
    (∃ s1 s2 o x y rx' ry, c = .cond o x y ∧ resC P N s1 x = some rx' ∧ resC P N s2 y = some ry ∧ rc = .cond (rx o) rx' ry) ∨
    (∃ s1 id x rx, c = .block id x ∧ resC P N s1 x = some rx ∧ rc = .block id rx) ∨
    (∃ s1 x rx, c = .loop x ∧ resC P N s1 x = some rx ∧ rc = .loop rx) ∨
    (∃ s1 s2 x y rx ry, c = .seq x y ∧ resC P N s1 x = some rx ∧ resC P N s2 y = some ry ∧ rc = .cut rx ry) := by
  unfold resC at h
  split at h
  · cases h; exact .inl ⟨rfl, rfl⟩
  · cases h; exact .inr (.inl ⟨_, rfl, rfl⟩)
  · cases h; exact .inr (.inr (.inl ⟨rfl, rfl⟩))
  · cases h; exact .inr (.inr (.inr (.inl rfl)))
  · simp only [Option.map_eq_some_iff] at h
    obtain ⟨ros, h1, rfl⟩ := h
    exact .inr (.inr (.inr (.inr (.inl ⟨_, _, _, ros, rfl, h1, rfl⟩))))
  · split at h
    · rename_i hc
      simp only [Bool.and_eq_true] at hc
      simp only [Option.map_eq_some_iff] at h
      obtain ⟨D, h1, rfl⟩ := h
      exact .inr (.inr (.inr (.inr (.inr (.inl ⟨_, _, _, _, D, rfl, hc.1, hc.2, h1, rfl⟩)))))
    · cases h
  · simp only [Option.bind_eq_some_iff, Option.map_eq_some_iff] at h
    obtain ⟨x, h1, y, h2, rfl⟩ := h
    exact .inr (.inr (.inr (.inr (.inr (.inr (.inl ⟨_, _, _, _, x, y, rfl, h1, h2, rfl⟩))))))
  · simp only [Option.bind_eq_some_iff, Option.map_eq_some_iff] at h
    obtain ⟨x, h1, y, h2, rfl⟩ := h
    exact .inr (.inr (.inr (.inr (.inr (.inr (.inr (.inr (.inr (.inr ⟨_, _, _, _, x, y, rfl, h1, h2, rfl⟩)))))))))
  · simp only [Option.bind_eq_some_iff, Option.map_eq_some_iff] at h
    obtain ⟨x, h1, y, h2, rfl⟩ := h
    exact .inr (.inr (.inr (.inr (.inr (.inr (.inr (.inl ⟨_, _, _, _, _, x, y, rfl, h1, h2, rfl⟩)))))))
  · simp only [Option.map_eq_some_iff] at h
    obtain ⟨x, h1, rfl⟩ := h
    exact .inr (.inr (.inr (.inr (.inr (.inr (.inr (.inr (.inl ⟨_, _, _, x, rfl, h1, rfl⟩))))))))
  · simp only [Option.map_eq_some_iff] at h
    obtain ⟨x, h1, rfl⟩ := h
    exact .inr (.inr (.inr (.inr (.inr (.inr (.inr (.inr (.inr (.inl ⟨_, _, x, rfl, h1, rfl⟩)))))))))
  · cases h

theorem inv_skip {sc : SC} {c : Code} (h : resC P N sc c = some .skip) : c = .skip := by
  rcases resC_inv h with h | h | h | h | h | h | h | h | h | h | h <;> simp_all
theorem inv_exit {sc : SC} {c : Code} {id : Nat} (h : resC P N sc c = some (.exit id)) : c = .exit id := by
  rcases resC_inv h with h | h | h | h | h | h | h | h | h | h | h <;> simp_all
theorem inv_ret {sc : SC} {c : Code} (h : resC P N sc c = some .ret) : c = .ret := by
  rcases resC_inv h with h | h | h | h | h | h | h | h | h | h | h <;> simp_all
theorem inv_reg {sc : SC} {c : Code} {ros live} (h : resC P N sc c = some (.reg ros live)) : ∃ id ops, c = .region id ops false ∧ (List.range ops.size).mapM (rd P N ops) = some ros := by
  rcases resC_inv h with h | h | h | h | ⟨id, ops, l, r, h1, h2, h3⟩ | h | h | h | h | h | h <;> try (simp_all; done)
  cases h3; exact ⟨id, ops, h1, h2⟩
theorem inv_drw {sc : SC} {c : Code} {D live} (h : resC P N sc c = some (.drw D live)) : ∃ id ops dts, c = .region id ops true ∧ regOK P N ops = true ∧ P.follows .mixedOrders = true ∧ resDT P N ops true [] [] dts = some D := by
  rcases resC_inv h with h | h | h | h | h | ⟨id, ops, l, dts, D', h1, h2, h3, h4, h5⟩ | h | h | h | h | h <;> try (simp_all; done)
  cases h5; exact ⟨id, ops, dts, h1, h2, h3, h4⟩
theorem inv_seq {sc : SC} {c : Code} {ra rb} (h : resC P N sc c = some (.seq ra rb)) : ∃ s1 s2 x y, c = .seq x y ∧ resC P N s1 x = some ra ∧ resC P N s2 y = some rb := by
  rcases resC_inv h with h | h | h | h | h | h | ⟨s1, s2, x, y, rx, ry, h1, h2, h3, h4⟩ | h | h | h | h <;> try (simp_all; done)
  cases h4; exact ⟨s1, s2, x, y, h1, h2, h3⟩
theorem inv_cut {sc : SC} {c : Code} {ra rb} (h : resC P N sc c = some (.cut ra rb)) : ∃ s1 s2 x y, c = .seq x y ∧ resC P N s1 x = some ra ∧ resC P N s2 y = some rb := by
  rcases resC_inv h with h | h | h | h | h | h | h | h | h | h | ⟨s1, s2, x, y, rx, ry, h1, h2, h3, h4⟩ <;> try (simp_all; done)
  cases h4; exact ⟨s1, s2, x, y, h1, h2, h3⟩
theorem inv_cond {sc : SC} {c : Code} {cx ra rb} (h : resC P N sc c = some (.cond cx ra rb)) : ∃ s1 s2 o x y, c = .cond o x y ∧ cx = rx o ∧ resC P N s1 x = some ra ∧ resC P N s2 y = some rb := by
  rcases resC_inv h with h | h | h | h | h | h | h | ⟨s1, s2, o, x, y, r1, ry, h1, h2, h3, h4⟩ | h | h | h <;> try (simp_all; done)
  cases h4; exact ⟨s1, s2, o, x, y, h1, rfl, h2, h3⟩
theorem inv_block {sc : SC} {c : Code} {id ra} (h : resC P N sc c = some (.block id ra)) : ∃ s1 x, c = .block id x ∧ resC P N s1 x = some ra := by
  rcases resC_inv h with h | h | h | h | h | h | h | h | ⟨s1, id, x, r1, h1, h2, h4⟩ | h | h <;> try (simp_all; done)
  cases h4; exact ⟨s1, x, h1, h2⟩
theorem inv_loop {sc : SC} {c : Code} {ra} (h : resC P N sc c = some (.loop ra)) : ∃ s1 x, c = .loop x ∧ resC P N s1 x = some ra := by
  rcases resC_inv h with h | h | h | h | h | h | h | h | h | ⟨s1, x, r1, h1, h2, h4⟩ | h <;> try (simp_all; done)
  cases h4; exact ⟨s1, x, h1, h2⟩

theorem awp_skip {Q : AQ} {env : Env} {st : St} (h : Q .normal env st) : AWP P B N .skip Q env st := by
  intro sc c hr β a w hR
  rw [inv_skip hr]
  exact wp_skip ⟨env, st, β, hR, h⟩

theorem awp_exit {id : Nat} {Q : AQ} {env : Env} {st : St} (h : Q (.exit id) env st) : AWP P B N (.exit id) Q env st := by
  intro sc c hr β a w hR
  rw [inv_exit hr]
  exact wp_exit ⟨env, st, β, hR, h⟩

theorem awp_ret {Q : AQ} {env : Env} {st : St} (h : Q .ret env st) : AWP P B N .ret Q env st := by
  intro sc c hr β a w hR
  rw [inv_ret hr]
  exact wp_ret ⟨env, st, β, hR, h⟩

theorem awp_reg {ros : List RO} {live : List Nat} {Q : AQ} {env : Env} {st : St} (h : aROs P ros env st fun env st => Q .normal (keepE env live) st) : AWP P B N (.reg ros live) Q env st := by
  intro sc c hr β a w hR
  obtain ⟨id, ops, rfl, hm⟩ := inv_reg hr
  exact region_seq hm (fun env st β a w hR hq => ⟨keepE env live, st, β, hR.congr' (keepE_get env live), hq⟩) hR h

theorem awp_drw {D : DT} {live : List Nat} {Q : AQ} {env : Env} {st : St} (h : aDT P D env st fun env st => Q .normal (keepE env live) st) : AWP P B N (.drw D live) Q env st := by
  intro sc c hr β a w hR
  obtain ⟨id, ops, dts, rfl, h1, h2, h3⟩ := inv_drw hr
  exact region_any h2 h1 h3 (fun env st β a w hR hq => ⟨keepE env live, st, β, hR.congr' (keepE_get env live), hq⟩) hR h

theorem awp_seq {x y : RC} {Q : AQ} {env : Env} {st : St} (h : AWP P B N x (qthen (fun env st => AWP P B N y Q env st) Q) env st) : AWP P B N (.seq x y) Q env st := by
  intro sc c hr β a w hR
  obtain ⟨s1, s2, x', y', rfl, h1, h2⟩ := inv_seq hr
  refine wp_seq (wp_mono (h s1 x' h1 β a w hR) fun e a w hl => ?_)
  cases e <;> simp only [lift, Exit.then] at hl ⊢ <;> try exact hl
  obtain ⟨env, st, β, hR, hq⟩ := hl
  exact hq s2 y' h2 β a w hR

theorem awp_cut {x y : RC} {Q : AQ} {env : Env} {st : St} (h : AWP P B N x (qthen (fun env st => AWP P B N y Q env st) Q) env st) : AWP P B N (.cut x y) Q env st := by
  intro sc c hr β a w hR
  obtain ⟨s1, s2, x', y', rfl, h1, h2⟩ := inv_cut hr
  refine wp_seq (wp_mono (h s1 x' h1 β a w hR) fun e a w hl => ?_)
  cases e <;> simp only [lift, Exit.then] at hl ⊢ <;> try exact hl
  obtain ⟨env, st, β, hR, hq⟩ := hl
  exact hq s2 y' h2 β a w hR

theorem awp_cond {c : RX} {x y : RC} {Q : AQ} {env : Env} {st : St} {t : Bool} (hc : rv env c = .d (.v (.bool t))) (hx : t = true → AWP P B N x Q env st) (hy : t = false → AWP P B N y Q env st) : AWP P B N (.cond c x y) Q env st := by
  intro sc cc hr β a w hR
  obtain ⟨s1, s2, o, x', y', rfl, rfl, h1, h2⟩ := inv_cond hr
  have he := hR.ev o
  rw [← rv_get, hc] at he
  exact wp_cond_split (R_v he) (fun e => hx e s1 x' h1 β a w hR) (fun e => hy e s2 y' h2 β a w hR)

theorem awp_block {id : Nat} {x : RC} {Q : AQ} {env : Env} {st : St} (h : AWP P B N x (qblock id Q) env st) : AWP P B N (.block id x) Q env st := by
  intro sc c hr β a w hR
  obtain ⟨s1, x', rfl, h1⟩ := inv_block hr
  refine wp_block (wp_mono (h s1 x' h1 β a w hR) fun e a w hl => ?_)
  cases e <;> simp only [lift, Exit.inBlock, qblock] at hl ⊢ <;> try exact hl
  obtain ⟨env, st, β, hR, hq⟩ := hl
  split
  · rename_i e
    rw [if_pos e] at hq
    exact ⟨env, st, β, hR, hq⟩
  · rename_i e
    rw [if_neg e] at hq
    exact ⟨env, st, β, hR, hq⟩

/-! ### Consequence -/
/-- Environment by environment. -/
def ConvE (conv : AV → AV → Prop) (env : Env) : Env → Prop
  | [] => True
  | (t, y) :: l => conv (get env t) y ∧ ConvE conv env l

theorem ConvE.get {conv : AV → AV → Prop} {env env' : Env} (h : ConvE conv env env') (t : Nat) : get env' t = .junk ∨ conv (get env t) (get env' t) := by
  induction env' with
  | nil => exact .inl rfl
  | cons p l ih =>
    obtain ⟨s, y⟩ := p
    obtain ⟨h1, h2⟩ := h
    simp only [Eng.get]
    split
    · rename_i e; subst e; exact .inr h1
    · exact ih h2

/-- One reading gives another one. -/
def Sub (B : Base) (env : Env) (st : St) (env' : Env) (st' : St) : Prop :=
  ∀ N β a w, Rel B N (get env) st β a w → ∃ β', Rel B N (get env') st' β' a w

theorem Sub.refl (B : Base) (env : Env) (st : St) : Sub B env st env st := fun N β a w h => ⟨β, h⟩

theorem Sub.trans {B : Base} {env env' env'' : Env} {st st' st'' : St} (h : Sub B env st env' st') (h' : Sub B env' st' env'' st'') : Sub B env st env'' st'' := fun N β a w hR =>
  let ⟨β', hR'⟩ := h N β a w hR
  h' N β' a w hR'

theorem sub_step {B : Base} {env env' : Env} {st st' : St} {conv : AV → AV → Prop} (h : Step B st st' conv) (hc : ConvE conv env env') : Sub B env st env' st' := by
  intro N β a w hR
  obtain ⟨β', h1, h2, h3, h4⟩ := h β w hR.heap hR.keep hR.evo
  refine ⟨β', h1, fun t => ?_, hR.size, hR.defers, h2, h3⟩
  rcases hc.get t with e | e
  · rw [e]; exact .junk
  · exact h4 _ _ _ e (hR.tmps t)

theorem sub_fewer {B : Base} {env env' : Env} {st st' : St} (h : Fewer st st') (hn : B.st.nx ≤ st'.nx) (hc : ConvE (Conv st st') env env') : Sub B env st env' st' := sub_step (step_fewer h hn) hc

theorem sub_phantom {B : Base} {env env' : Env} {st : St} (n k : Nat) (tq : TypeId) (hc : ConvE (PConv n st) env env') : Sub B env st env' (st.new (.row n k tq [])) := sub_step (step_phantom n k tq) hc

theorem awp_sub {rc : RC} {Q : AQ} {env env' : Env} {st st' : St} (hs : Sub B env st env' st') (h : AWP P B N rc Q env' st') : AWP P B N rc Q env st := by
  intro sc c hr β a w hR
  obtain ⟨β', hR'⟩ := hs N β a w hR
  exact h sc c hr β' a w hR'

/-! ### Loops -/
theorem least {p : Nat → Prop} (h : ∃ n, p n) : ∃ n, p n ∧ ∀ m, p m → n ≤ m := by
  classical
  obtain ⟨n, hn⟩ := h
  induction n using Nat.strongRecOn with
  | _ n ih =>
    by_cases hm : ∃ m, m < n ∧ p m
    · obtain ⟨m, h1, h2⟩ := hm
      exact ih m h1 h2
    · exact ⟨n, hn, fun m hp => Nat.not_lt.1 fun hlt => hm ⟨m, hlt, hp⟩⟩

theorem awp_loop {α : Type} (E : α → Env) (S : α → St) (C : α → Prop) (μ : α → Nat) {x : RC} {Q : AQ} {env : Env} {st : St} (x0 : α) (h0 : C x0) (hs : Sub B env st (E x0) (S x0))
    (round : ∀ y, C y → AWP P B N x (qthen (fun env' st' => ∃ z, C z ∧ μ z < μ y ∧ Sub B env' st' (E z) (S z)) Q) (E y) (S y)) : AWP P B N (.loop x) Q env st := by
  intro sc c hr β a w hR
  obtain ⟨s1, x', rfl, h1⟩ := inv_loop hr
  classical
  let I : Nat → Act → World → Prop := fun n a w => ∃ y β, C y ∧ μ y = n ∧ Rel B N (get (E y)) (S y) β a w
  let M : Act → World → Nat := fun a w => if h : ∃ n, I n a w then Classical.choose (least h) else 0
  refine wp_loop (fun a w => ∃ n, I n a w) M ?_ ?_
  · obtain ⟨β', hR'⟩ := hs N β a w hR
    exact ⟨_, x0, β', h0, rfl, hR'⟩
  · intro a w hI
    have hM : M a w = Classical.choose (least hI) := dif_pos hI
    obtain ⟨⟨y, β, hy, hn, hR⟩, _⟩ := Classical.choose_spec (least hI)
    refine wp_mono (round y hy s1 x' h1 β a w hR) fun e a' w' hl => ?_
    cases e <;> simp only [lift, Exit.then, qthen] at hl ⊢ <;> try exact hl
    obtain ⟨env', st', β1, hR1, z, hz, hlt, hsub⟩ := hl
    obtain ⟨β2, hR2⟩ := hsub N β1 a' w' hR1
    have hI' : ∃ n, I n a' w' := ⟨_, z, β2, hz, rfl, hR2⟩
    refine ⟨hI', ?_⟩
    have hM' : M a' w' = Classical.choose (least hI') := dif_pos hI'
    rw [hM, hM']
    have := (Classical.choose_spec (least hI')).2 (μ z) ⟨z, β2, hz, rfl, hR2⟩
    omega

/-! ### Calls -/
def resR (P : Program) : ResultVar → Option ROp
  | .tmp t => some (.mov (.t t))
  | .cell a t => (P.underlying t).bind fun d => (sizeT P t).map fun s => .load (agD d) s (.t a)

structure RF where
  n : Nat
  rs : List ROp
  code : RC

def resF (P : Program) (f : FuncId) (sc : SC) : Option RF :=
  (P.funcs[f]?).bind fun fn => if fn.name = "runtime.NumGoroutine" then none else fn.body.bind fun c => (fn.results.toList.mapM (resR P)).bind fun rs => (resC P fn.ntmps sc c).map fun rc => ⟨fn.ntmps, rs, rc⟩

def resL : List ROp → Env → St → Option (List AV)
  | [], _, _ => some []
  | o :: l, env, st => (aval o (rv env) st).bind fun x => (resL l env st).map fun m => x :: m

def resV (rs : List ROp) (env : Env) (st : St) : Option AV :=
  match rs with
  | [r] => aval r (rv env) st
  | rs => (resL rs env st).map .tup

def argsE : Nat → List AV → Env
  | _, [] => []
  | i, x :: l => (i, x) :: argsE (i + 1) l

theorem argsE_get : ∀ (l : List AV) (n t : Nat), (∃ i, ∃ (hi : i < l.length), t = n + i ∧ get (argsE n l) t = l[i]) ∨ (t < n ∨ n + l.length ≤ t) ∧ get (argsE n l) t = .junk := by
  intro l
  induction l with
  | nil => intro n t; exact .inr ⟨by simp; omega, rfl⟩
  | cons x l ih =>
    intro n t
    simp only [argsE, get]
    split
    · rename_i e; subst e; exact .inl ⟨0, by simp, by simp, rfl⟩
    · rename_i hne
      rcases ih (n + 1) t with ⟨i, hi, e1, e2⟩ | ⟨e1, e2⟩
      · exact .inl ⟨i + 1, by simpa using hi, by omega, by simpa using e2⟩
      · exact .inr ⟨by simp only [List.length_cons]; omega, e2⟩

/-- What is returned. -/
def qret (B : Base) (rs : List ROp) (K : AV → St → Prop) : AQ
  | .exit _, _, _ => False
  | _, env, st => ∃ x, resV rs env st = some x ∧ ∃ y st', Step B st st' (fun a b => a = x ∧ b = y) ∧ K y st'

theorem run_as {t : TypeId} {v : Value} {a : Addr} (h : v = .pointer (some a)) (w : World) : (do loadVar t (← asAddr v) : Sem Value).run P w = (Instr.loadAt t v).run P w := by
  subst h; rfl

def resOf (tmps : Array Value) : ResultVar → Sem Value
  | .tmp t => pure (tmps.getD t undef)
  | .cell c t => do loadVar t (← asAddr (tmps.getD c undef))

theorem resR_sound {r : ResultVar} {o : ROp} (h : resR P r = some o) {m : Nat → AV} {st : St} {β : Emb} {a : Act} {w : World} (hR : Rel B N m st β a w) {x : AV} (hx : aval o (mv m) st = some x) :
    ∃ v, (resOf a.tmps r).run P w = .ok v w ∧ R β st w v x := by
  cases r with
  | tmp t =>
    cases h
    simp only [aval, mv, Option.some.injEq] at hx
    subst hx
    exact ⟨_, rfl, hR.tmps t⟩
  | cell c t =>
    simp only [resR, Option.bind_eq_some_iff, Option.map_eq_some_iff] at h
    obtain ⟨d, hd, s, hs, rfl⟩ := h
    have hc := hR.tmps c
    obtain ⟨u, h1, h2⟩ := snd_load hd hs hR.heap (X := .t c) (ρ := mv m) hc hx
    have hp : ∃ ad, a.eval (.tmp c) = .pointer (some ad) := by
      simp only [aval, mv] at hx
      generalize a.eval (.tmp c) = vc at hc
      split at hx
      · rename_i e
        rw [e] at hc
        cases hc with
        | ptr _ _ _ hv => exact hv
      · rename_i e
        rw [e] at hc
        cases hc
        exact ⟨_, rfl⟩
      · cases hx
    obtain ⟨ad, had⟩ := hp
    refine ⟨u, ?_, h2⟩
    show (do loadVar t (← asAddr (a.eval (.tmp c))) : Sem Value).run P w = _
    rw [run_as had]
    exact h1

theorem resL_sound {m : Nat → AV} {env : Env} (hm : get env = m) {st : St} {β : Emb} {a : Act} {w : World} (hR : Rel B N m st β a w) : ∀ (rs : List ResultVar) (os : List ROp) (xs : List AV), rs.mapM (resR P) = some os → resL os env st = some xs →
    ∃ vs : List Value, (rs.mapM (resOf a.tmps)).run P w = .ok vs w ∧ vs.length = xs.length ∧ ∀ i (h1 : i < vs.length) (h2 : i < xs.length), R β st w vs[i] xs[i] := by
  intro rs
  induction rs with
  | nil =>
    intro os xs h1 h2
    simp at h1
    subst h1
    cases h2
    exact ⟨[], by simp, rfl, fun i h1 => by simp at h1⟩
  | cons r rs ih =>
    intro os xs h1 h2
    simp only [List.mapM_cons, Option.bind_eq_bind, Option.bind_eq_some_iff, Option.pure_def, Option.some.injEq] at h1
    obtain ⟨o, ho, os', hos, rfl⟩ := h1
    simp only [resL, Option.bind_eq_some_iff, Option.map_eq_some_iff] at h2
    obtain ⟨x, hx, xs', hxs, rfl⟩ := h2
    rw [rv_get, hm] at hx
    obtain ⟨v, g1, g2⟩ := resR_sound ho hR hx
    obtain ⟨vs, k1, k2, k3⟩ := ih os' xs' hos hxs
    refine ⟨v :: vs, ?_, by simp [k2], fun i h1 h2 => ?_⟩
    · simp only [List.mapM_cons, Sem.run_bind, g1, Result.andThen_ok, k1, Sem.run_pure]
    · cases i with
      | zero => exact g2
      | succ i => exact k3 i (by simpa using h1) (by simpa using h2)

theorem results_eq (fn : Func) (tmps : Array Value) : results fn tmps = (do let vs ← fn.results.mapM (resOf tmps); pure (if h : vs.size = 1 then vs[0] else .tuple vs)) := rfl

theorem results_of {fn : Func} {tmps : Array Value} {w : World} {vs : List Value} (h : (fn.results.toList.mapM (resOf tmps)).run P w = .ok vs w) :
    (results fn tmps).run P w = .ok (if h : vs.toArray.size = 1 then vs.toArray[0] else .tuple vs.toArray) w := by
  rw [results_eq, Array.mapM_eq_mapM_toList]
  simp only [Sem.run_bind, Sem.run_map, h, Result.andThen_ok, Sem.run_pure]

/-- A FUNCTION: what its code does is what a call of it does. -/
theorem ACalls_intro {f : FuncId} {sc : SC} {F : RF} (hF : resF P f sc = some F) {args : List AV} {st : St} {K : AV → St → Prop} (hl : args.length ≤ F.n)
    (h : ∀ B : Base, B.st = st → WF st → AWP P B F.n F.code (qret B F.rs K) (argsE 0 args) st) : ACalls P f args st K := by
  simp only [resF, Option.bind_eq_some_iff] at hF
  obtain ⟨fn, hfn, hF⟩ := hF
  split at hF
  · cases hF
  rename_i hname
  simp only [Option.bind_eq_some_iff, Option.map_eq_some_iff] at hF
  obtain ⟨c, hc, rs, hrs, rc, hrc, rfl⟩ := hF
  refine ⟨by simp [hfn, hname, hc], fun β w vs H hs hr => ?_⟩
  refine calls_of_wp hfn hc ?_
  have h0 := h ⟨β, st, w⟩ rfl H.wf
  have hR : Rel ⟨β, st, w⟩ fn.ntmps (get (argsE 0 args)) st β { tmps := vs ++ Array.replicate (fn.ntmps - vs.size) undef, defers := [] } w := by
    refine ⟨H, fun t => ?_, by simp; dsimp only at hl; omega, rfl, Keep.refl _ _, Evo.refl _ _⟩
    rcases argsE_get args 0 t with ⟨i, hi, rfl, e⟩ | ⟨_, e⟩
    · rw [e]
      have := hr i (by omega) hi
      simp only [Act.eval, Nat.zero_add]
      rw [Array.getD_eq_getD_getElem?, Array.getElem?_append_left (by omega), Array.getElem?_eq_getElem (by omega)]
      exact this
    · rw [e]; exact .junk
  refine wp_mono (h0 sc c hrc β _ w hR) fun e a w' hl => ?_
  have key : ∀ (env : Env) st' β' , Rel ⟨β, st, w⟩ fn.ntmps (get env) st' β' a w' → (∃ x, resV rs env st' = some x ∧ ∃ y st'', Step ⟨β, st, w⟩ st' st'' (fun a b => a = x ∧ b = y) ∧ K y st'') →
      a.defers = [] ∧ ∃ v, (results fn a.tmps).run P w' = .ok v w' ∧ ∃ v1 x β' st', Ending.returned v = .returned v1 ∧ K x st' ∧ HRel β' st' w' ∧ R β' st' w' v1 x ∧ Keep (Mut β st.h) w (Mut β' st'.h) w' ∧ Evo β st β' st' := by
    rintro env st' β' hR ⟨x, hx, y, st'', hst, hK⟩
    refine ⟨hR.defers, ?_⟩
    obtain ⟨β'', g1, g2, g3, g4⟩ := hst β' w' hR.heap hR.keep hR.evo
    have fin : ∀ v, R β' st' w' v x → ∃ v1 x β' st', Ending.returned v = .returned v1 ∧ K x st' ∧ HRel β' st' w' ∧ R β' st' w' v1 x ∧ Keep (Mut β st.h) w (Mut β' st'.h) w' ∧ Evo β st β' st' :=
      fun v hv => ⟨v, y, β'', st'', rfl, hK, g1, g4 v x y ⟨rfl, rfl⟩ hv, g2, g3⟩
    have key2 : ∀ xs, resL rs env st' = some xs → ∃ vs : List Value, (results fn a.tmps).run P w' = .ok (if h : vs.toArray.size = 1 then vs.toArray[0] else .tuple vs.toArray) w' ∧ vs.length = xs.length ∧ ∀ i (h1 : i < vs.length) (h2 : i < xs.length), R β' st' w' vs[i] xs[i] := by
      intro xs hxs
      obtain ⟨vs, k1, k2, k3⟩ := resL_sound rfl hR fn.results.toList rs xs hrs hxs
      exact ⟨vs, results_of k1, k2, k3⟩
    unfold resV at hx
    split at hx
    · rename_i r
      obtain ⟨vs, k1, k2, k3⟩ := key2 [x] (by simp [resL, hx])
      obtain ⟨v, rfl⟩ := List.length_eq_one_iff.1 k2
      exact ⟨v, by simpa using k1, fin v (k3 0 (by simp) (by simp))⟩
    · rename_i hne
      simp only [Option.map_eq_some_iff] at hx
      obtain ⟨xs, hxs, rfl⟩ := hx
      obtain ⟨vs, k1, k2, k3⟩ := key2 xs hxs
      have hlen : ∀ (rs : List ROp) xs, resL rs env st' = some xs → xs.length = rs.length := by
        intro rs
        induction rs with
        | nil => intro xs h; cases h; rfl
        | cons r rs ih =>
          intro xs h
          simp only [resL, Option.bind_eq_some_iff, Option.map_eq_some_iff] at h
          obtain ⟨x, _, l, hl, rfl⟩ := h
          simp [ih l hl]
      have h1 : vs.toArray.size ≠ 1 := by
        intro e
        have h2 := hlen rs xs hxs
        have h3 : rs.length = 1 := by simp at e; omega
        obtain ⟨r, rfl⟩ := List.length_eq_one_iff.1 h3
        exact hne r rfl
      rw [dif_neg h1] at k1
      exact ⟨_, k1, fin _ (.tup (by simpa using k2) fun i h1 h2 => by simpa using k3 i (by simpa using h1) h2)⟩
  cases e <;> simp only [lift, bodyPost] at hl ⊢ <;> try exact hl.elim
  · obtain ⟨env, st', β', hR, hq⟩ := hl
    exact key env st' β' hR hq
  · obtain ⟨env, st', β', hR, hq⟩ := hl
    exact hq.elim
  · obtain ⟨env, st', β', hR, hq⟩ := hl
    exact key env st' β' hR hq

end Go.Eng
