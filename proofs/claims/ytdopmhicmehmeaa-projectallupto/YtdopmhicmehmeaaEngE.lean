/-
  Part of the proof that the law ProjectAll returns true at every input of bulk at most 1048576, and leaves its arguments as they were; the whole is stated at the end of the last text.
-/
import Derived.Test.YtdopmhicmehmeaaEngD
import Derived.Laws.Tables
import Derived.Laws.StructEq
import Derived.Lib.LaidTab
/-
  THE ENGINE, PART 5: the other quiet operations, and all of them in one.
-/
set_option linter.unusedVariables false
set_option linter.unusedSimpArgs false
namespace Go.Eng
open Go

variable {P : Program} {β : Emb} {st : St} {w : World}

theorem snd_buildS {t : TypeId} {z : List AV} {fs : Array Field} {places : List (Nat × Nat)} {parts : Array (Nat × Operand)} {l : List (Nat × Nat × RX)} {ev : Operand → Value} {ρ : RX → AV} {v : AV}
    (hz : zeroAV P t = some z) (hu : P.underlying t = some (.struct fs)) (hp : (fs.toList.mapM fun f => (P.info? f.type).map fun i => (f.offset, i.size)) = some places)
    (hl : (parts.toList.mapM fun (p : Nat × Operand) => (places[p.1]?).map fun os => (os.1, os.2, rx p.2)) = some l)
    (hρ : ∀ x, R β st w (ev x) (ρ (rx x))) (hv : aval (.build z l) ρ st = some v) :
    ∃ u, (Instr.build t (parts.map fun (i, x) => (i, ev x))).run P w = .ok u w ∧ R β st w u v := by
  obtain ⟨it, zv, hi, hzv, rfl, hone⟩ := zeroAV_info hz
  simp only [aval, Option.map_eq_some_iff] at hv
  obtain ⟨l', hf, rfl⟩ := hv
  have hzra : RA β st w zv.cells (zv.cells.toList.map fun c => AV.d (.v c)) := zero_ra hone
  have hlen : l.length = parts.toList.length := Go.Lib.mapM_length hl
  obtain ⟨cs', h1, h2⟩ := fill_sound (fun i => places.toArray[i]?) (parts.toList.map fun (p : Nat × Operand) => (p.1, ev p.2)) (l.map fun p => (p.1, p.2.1, ρ p.2.2)) zv.cells _ l' hzra
    (by simp [hlen]) (fun i p ap h1 h2 => by
      simp only [List.getElem?_map, Option.map_eq_some_iff] at h1 h2
      obtain ⟨p0, hp0, rfl⟩ := h1
      obtain ⟨q0, hq0, rfl⟩ := h2
      obtain ⟨b, hb, hb'⟩ := Go.Lib.mapM_at hl i p0 hp0
      rw [hq0] at hb
      cases hb
      simp only [Option.map_eq_some_iff] at hb'
      obtain ⟨os, hos, rfl⟩ := hb'
      exact ⟨by simpa using hos, hρ _⟩) hf
  refine ⟨.agg cs', run_build w t _ cs' ?_, h2.agg⟩
  simp only [Program.built, hi, hu, hzv, hp, Array.toList_map]
  exact h1

theorem snd_buildA {t e : TypeId} {n : Nat} {z : List AV} {s : Nat} {parts : Array (Nat × Operand)} {ev : Operand → Value} {ρ : RX → AV} {v : AV}
    (hz : zeroAV P t = some z) (hu : P.underlying t = some (.array n e)) (hs : sizeT P e = some s)
    (hρ : ∀ x, R β st w (ev x) (ρ (rx x))) (hv : aval (.build z (parts.toList.map fun (p : Nat × Operand) => (p.1 * s, s, rx p.2))) ρ st = some v) :
    ∃ u, (Instr.build t (parts.map fun (i, x) => (i, ev x))).run P w = .ok u w ∧ R β st w u v := by
  obtain ⟨it, zv, hi, hzv, rfl, hone⟩ := zeroAV_info hz
  obtain ⟨ie, hie, rfl⟩ := sizeT_info hs
  simp only [aval, Option.map_eq_some_iff] at hv
  obtain ⟨l', hf, rfl⟩ := hv
  have hzra : RA β st w zv.cells (zv.cells.toList.map fun c => AV.d (.v c)) := zero_ra hone
  obtain ⟨cs', h1, h2⟩ := fill_sound (fun i => some (i * ie.size, ie.size)) (parts.toList.map fun (p : Nat × Operand) => (p.1, ev p.2)) ((parts.toList.map fun (p : Nat × Operand) => (p.1 * ie.size, ie.size, rx p.2)).map fun p => (p.1, p.2.1, ρ p.2.2)) zv.cells _ l' hzra
    (by simp) (fun i p ap h1 h2 => by
      simp only [List.getElem?_map, Option.map_eq_some_iff] at h1 h2
      obtain ⟨p0, hp0, rfl⟩ := h1
      obtain ⟨q0, hq0, rfl⟩ := h2
      obtain ⟨r0, hr0, rfl⟩ := hq0
      rw [hp0] at hr0
      cases hr0
      exact ⟨rfl, hρ _⟩) hf
  refine ⟨.agg cs', run_build w t _ cs' ?_, h2.agg⟩
  simp only [Program.built, hi, hu, hzv, hie, Array.toList_map]
  exact h1

theorem snd_nilck {X : RX} {ρ : RX → AV} {v : AV} {o : Oper} {x : Operand} {ev : Operand → Value} (hx : R β st w (ev x) (ρ X)) (hv : aval (.nilck X) ρ st = some v) (ho : o.op = .nilCheck x) :
    ∃ u, (execOp ev o).run P w = .ok (.value u) w ∧ R β st w u v := by
  simp only [aval] at hv
  unfold execOp
  simp only [ho]
  split at hv
  · rename_i q ver i j hρ
    split at hv
    · rename_i ver' k tq els hq
      split at hv
      · rename_i hver
        subst hver
        cases hv
        rw [hρ] at hx
        obtain ⟨_, _, b, a, _, e⟩ := R_ptr_inv hx hq
        rw [e] at hx ⊢
        exact ⟨_, rfl, hx⟩
      · cases hv
    · cases hv
  · rename_i cells hρ
    cases hv
    rw [hρ] at hx
    generalize ev x = va at *
    cases hx with
    | iptr hm hc hr => exact ⟨_, rfl, .iptr hm hc hr⟩
  · rename_i f a c hρ
    cases hv
    rw [hρ] at hx
    generalize ev x = va at *
    cases hx with
    | fn h1 h2 h3 h4 => exact ⟨_, rfl, .fn h1 h2 h3 h4⟩
  · cases hv

theorem beq_eq_decide (a b : Int) : (a == b) = decide (a = b) := by by_cases h : a = b <;> simp [h]

theorem run_binV {op : BinOp} {a b u : Value} (h : binV op a b = some u) {t : TypeId} :
    (binOp op t a b).run P w = .ok u w := by
  unfold binV at h
  split at h
  · rename_i k a k' b
    split at h
    · unfold shI at h
      split at h
      · cases h
      · rename_i hn
        cases h
        simp [binOp, Op.shift, hn]
    · unfold shI at h
      split at h
      · cases h
      · rename_i hn
        cases h
        simp [binOp, Op.shift, hn]
    · rename_i h1 h2
      split at h
      · rename_i hk
        subst hk
        cases op <;> simp_all [binI, binOp, Op.intArith, Op.intDiv, Op.intBits, Op.intCmp]
        · rw [← h, beq_eq_decide]
        · rw [← h]; congr 1
      · cases h
  · rename_i a b
    cases op <;> simp_all [binS, binOp, Op.stringOp]
    omega
  · cases h


theorem run_eqGuard_v (op : BinOp) (t : TypeId) (x y : Operand) {a b u : Value} (h : binV op a b = some u) : (eqGuard op t x y a b).run P w = .ok () w := by
  unfold binV at h
  split at h
  · cases op <;> simp [eqGuard]
  · cases op <;> simp [eqGuard]
  · cases h

theorem snd_eqb {t : TypeId} {X Y : RX} {x y : Operand} {ρ : RX → AV} {v : AV} {a b : Value} (neg : Bool) (op : BinOp) (hop : op = if neg then .neq else .eql) (hx : R β st w a (ρ X)) (hy : R β st w b (ρ Y))
    (hu : P.underlying t = some .bool) (hv : aval (.eqb neg X Y) ρ st = some v) :
    ∃ u, (do eqGuard op t x y a b; binOp op t a b : Sem Value).run P w = .ok u w ∧ R β st w u v := by
  simp only [aval] at hv
  split at hv
  · rename_i a' b' h1 h2
    rw [h1] at hx; rw [h2] at hy
    have e1 := R_v hx
    have e2 := R_v hy
    subst e1 e2
    cases hv
    refine ⟨.bool ((a' == b') != neg), ?_, .d (.v _)⟩
    subst hop
    cases neg <;> simp [eqGuard, binOp, Op.equal, Op.maxDepth, run_equalIn_bool', hu]
  · cases hv

theorem snd_bin {op : BinOp} {t : TypeId} {X Y : RX} {x y : Operand} {ρ : RX → AV} {v : AV} {a b : Value} (hx : R β st w a (ρ X)) (hy : R β st w b (ρ Y))
    (hv : aval (.bin op X Y) ρ st = some v) :
    ∃ u, (do eqGuard op t x y a b; binOp op t a b : Sem Value).run P w = .ok u w ∧ R β st w u v := by
  simp only [aval] at hv
  split at hv
  · rename_i a' b' h1 h2
    rw [h1] at hx; rw [h2] at hy
    have e1 := R_v hx
    have e2 := R_v hy
    subst e1 e2
    simp only [Option.map_eq_some_iff] at hv
    obtain ⟨u, hu, rfl⟩ := hv
    refine ⟨u, ?_, .d (.v u)⟩
    simp [run_eqGuard_v op t x y hu, run_binV hu]
  · cases hv

/-! ### '==' of structs of plain fields -/
theorem eqCs_append (xs ys : List AV) (l m : List (Nat × PK)) : eqCs xs ys (l ++ m) = (eqCs xs ys l).bind fun a => (eqCs xs ys m).map (a && ·) := by
  induction l with
  | nil => cases h : eqCs xs ys m <;> simp [eqCs, h]
  | cons o l ih =>
    simp only [List.cons_append, eqCs, ih]
    cases xs[o.1]? <;> simp
    cases ys[o.1]? <;> simp
    rename_i x y
    cases eqC o.2 x y <;> simp
    cases eqCs xs ys l <;> simp
    cases eqCs xs ys m <;> simp [Bool.and_assoc]

theorem eqC_run {t : TypeId} {d : TypeDesc} {n : Nat} {k : PK} {x y : AV} {vx vy : Value} {b : Bool} (hd : P.underlying t = some d) (hp : plainT d = some k) (hx : R β st w vx x) (hy : R β st w vy y) (h : eqC k x y = some b) :
    (Op.equalIn (n + 1) t vx vy).run P w = .ok b w := by
  unfold eqC at h
  split at h
  · rename_i k a k' b'
    have e1 := R_v hx
    have e2 := R_v hy
    subst e1 e2
    split at h
    · rename_i hkk
      subst hkk
      cases d <;> simp [plainT] at hp
      rename_i k'
      rw [run_equalIn_int w n t k k' a b' hd, ← Option.some.inj h, beq_eq_decide]
    · cases h
  · have e1 := R_v hx
    have e2 := R_v hy
    subst e1 e2
    cases d <;> simp [plainT] at hp
    rw [run_equalIn_string w n t _ _ hd, ← Option.some.inj h]
  · have e1 := R_v hx
    have e2 := R_v hy
    subst e1 e2
    cases d <;> simp [plainT] at hp
    rw [run_equalIn_bool' w n t _ _ hd, ← Option.some.inj h]
  · cases h

theorem part_run {t : TypeId} {d : TypeDesc} {s : Nat} (hd : P.underlying t = some d) (hs : sizeT P t = some s) (cs : Array Value) (o : Nat) {v : Value} (h : agD d = false → cs[o]? = some v) :
    (part t cs o).run P w = .ok (if agD d = true then .agg (cs.extract o (o + s)) else v) w := by
  unfold part
  cases ha : agD d with
  | true => simp [run_ag hd, ha, run_size hs]
  | false => simp [run_ag hd, ha, h ha]

theorem extract_get (cs : Array Value) (o s i : Nat) (hi : i < s) : (cs.extract o (o + s))[i]? = cs[o + i]? := by
  by_cases h : o + i < cs.size
  · have h1 : i < (cs.extract o (o + s)).size := by simp; omega
    rw [Array.getElem?_eq_getElem h1, Array.getElem?_eq_getElem h]
    simp
  · rw [Array.getElem?_eq_none (by simp; omega), Array.getElem?_eq_none (by omega)]

theorem plain_ag {d : TypeDesc} {k : PK} (h : plainT d = some k) : agD d = false := by cases d <;> simp [plainT] at h <;> rfl

theorem eqOffs_sound {cx cy : Array Value} {xs ys : List AV} (hx : RA β st w cx xs) (hy : RA β st w cy ys) : ∀ (n d : Nat) (t : TypeId) (off : Nat) (offs : List (Nat × PK)) (b : Bool), n ≤ d → eqOffs P n off t = some offs → eqCs xs ys offs = some b →
    ∀ (sx sy : Array Value) (o s : Nat), sizeT P t = some s → (∀ i, i < s → sx[o + i]? = cx[off + i]?) → (∀ i, i < s → sy[o + i]? = cy[off + i]?) →
      ∃ vx vy, (part t sx o).run P w = .ok vx w ∧ (part t sy o).run P w = .ok vy w ∧ (Op.equalIn d t vx vy).run P w = .ok b w := by
  intro n
  induction n with
  | zero => intro d t off offs b _ h; simp [eqOffs] at h
  | succ n ih =>
    intro d t off offs b hnd h hb sx sy o s hs hsx hsy
    obtain ⟨d, rfl⟩ : ∃ d', d = d' + 1 := ⟨d - 1, by omega⟩
    simp only [eqOffs] at h
    split at h
    · rename_i fs s' hu hs'
      have : s' = s := by rw [hs'] at hs; exact Option.some.inj hs
      subst this
      split at h
      · cases h
      · rename_i hst
        have hst' : P.stoodInHeld t = false := by simpa using hst
        simp only [Option.map_eq_some_iff] at h
        obtain ⟨ll, hll, rfl⟩ := h
        have hfo : P.fieldsOf t = fs := by simp [Program.fieldsOf, hu]
        refine ⟨_, _, part_run hu hs sx o (v := undef) (fun h => by simp [agD] at h), part_run hu hs sy o (v := undef) (fun h => by simp [agD] at h), ?_⟩
        simp only [agD, if_true]
        rw [run_equalIn_struct w d t _ _ (by rw [hfo]; exact hu) hst', hfo]
        clear hfo hu
        generalize hfl : fs.toList = fl at hll ⊢
        clear hfl
        have hex : ∀ i, i < s' → (sx.extract o (o + s'))[i]? = cx[off + i]? := fun i hi => by rw [extract_get _ _ _ _ hi, hsx i hi]
        have hey : ∀ i, i < s' → (sy.extract o (o + s'))[i]? = cy[off + i]? := fun i hi => by rw [extract_get _ _ _ _ hi, hsy i hi]
        generalize sx.extract o (o + s') = ex at hex ⊢
        generalize sy.extract o (o + s') = ey at hey ⊢
        induction fl generalizing ll b with
        | nil =>
          simp at hll
          subst hll
          simp [eqCs] at hb
          subst hb
          simp [Op.eqFields]
        | cons f fl ihl =>
          simp only [List.mapM_cons, Option.bind_eq_bind, Option.pure_def] at hll
          split at hll
          · simp at hll
          · rename_i hname
            cases hsf : sizeT P f.type with
            | none => simp [hsf] at hll
            | some sf =>
              simp only [hsf, Option.bind_some] at hll
              split at hll
              · rename_i hfit
                cases ho : eqOffs P n (off + f.offset) f.type with
                | none => simp [ho] at hll
                | some l1 =>
                  simp only [ho, Option.bind_some] at hll
                  cases hr : fl.mapM (fun f => if f.name = "_" then none else (sizeT P f.type).bind fun sf => if f.offset + sf ≤ s' then eqOffs P n (off + f.offset) f.type else none) with
                  | none => simp [hr] at hll
                  | some l2 =>
                    simp only [hr, Option.bind_some, Option.some.injEq] at hll
                    subst hll
                    simp only [List.flatten_cons, eqCs_append] at hb
                    cases hb1 : eqCs xs ys l1 with
                    | none => simp [hb1] at hb
                    | some b1 =>
                      cases hb2 : eqCs xs ys l2.flatten with
                      | none => simp [hb1, hb2] at hb
                      | some b2 =>
                        simp only [hb1, hb2, Option.bind_some, Option.map_some, Option.some.injEq] at hb
                        subst hb
                        obtain ⟨vx, vy, h1, h2, h3⟩ := ih d f.type (off + f.offset) l1 b1 (by omega) ho hb1 ex ey f.offset sf hsf
                          (fun i hi => by rw [hex _ (by omega)]; congr 1; omega) (fun i hi => by rw [hey _ (by omega)]; congr 1; omega)
                        have h4 := ihl b2 l2 hb2 hr
                        simp only [Op.eqFields]
                        rw [if_pos hname]
                        simp only [Sem.run_bind, h1, h2, h3, Result.andThen_ok, Sem.run_ite, h4]
                        cases b1 <;> simp
              · simp at hll
    · rename_i dd s0 hns hu hs0
      have : s0 = s := by rw [hs0] at hs; exact Option.some.inj hs
      subst this
      split at h
      · rename_i h1
        subst h1
        simp only [Option.map_eq_some_iff] at h
        obtain ⟨k, hk, rfl⟩ := h
        have hag := plain_ag hk
        simp only [eqCs] at hb
        cases hxo : xs[off]? with
        | none => simp [hxo] at hb
        | some x =>
          cases hyo : ys[off]? with
          | none => simp [hxo, hyo] at hb
          | some y =>
            cases hc : eqC k x y with
            | none => simp [hxo, hyo, hc] at hb
            | some c =>
              simp [hxo, hyo, hc] at hb
              subst hb
              obtain ⟨vx, hvx, hrx, _⟩ := hx.get hxo
              obtain ⟨vy, hvy, hry, _⟩ := hy.get hyo
              refine ⟨vx, vy, ?_, ?_, eqC_run hu hk hrx hry hc⟩
              · have := part_run (P := P) (w := w) hu hs sx o (v := vx) (fun _ => by have := hsx 0 (by omega); simp only [Nat.add_zero] at this; rw [this, hvx])
                rw [this]; simp [hag]
              · have := part_run (P := P) (w := w) hu hs sy o (v := vy) (fun _ => by have := hsy 0 (by omega); simp only [Nat.add_zero] at this; rw [this, hvy])
                rw [this]; simp [hag]
      · cases h
    · cases h

theorem part_agg {t : TypeId} {sx : Array Value} {vx : Value} {fs : Array Field} {s : Nat} (hu : P.underlying t = some (.struct fs)) (hs : sizeT P t = some s) (h : (part t sx 0).run P w = .ok vx w) : vx = .agg (sx.extract 0 s) := by
  have := part_run hu hs sx 0 (v := undef) (w := w) (fun h => by simp [agD] at h)
  rw [this] at h
  simp only [agD, if_true, Nat.zero_add] at h
  exact (Result.ok.inj h).1.symm

theorem snd_eqs {t : TypeId} {fs : Array Field} {s : Nat} {offs : List (Nat × PK)} {X Y : RX} {x y : Operand} {ρ : RX → AV} {v : AV} {a b : Value} (neg : Bool) (op : BinOp) (hop : op = if neg then .neq else .eql)
    (hu : P.underlying t = some (.struct fs)) (hs : sizeT P t = some s) (hst : P.stoodInHeld t = false) (hg : P.eqGuardType P.depth t = false)
    (ho : eqOffs P 8 0 t = some offs) (hx : R β st w a (ρ X)) (hy : R β st w b (ρ Y)) (hv : aval (.eqs neg s offs X Y) ρ st = some v) :
    ∃ u, (do eqGuard op t x y a b; binOp op t a b : Sem Value).run P w = .ok u w ∧ R β st w u v := by
  simp only [aval] at hv
  split at hv
  · rename_i xs ys h1 h2
    rw [h1] at hx; rw [h2] at hy
    split at hv
    · rename_i hlen
      cases hx with
      | agg hs1 ho1 hr1 =>
        cases hy with
        | agg hs2 ho2 hr2 =>
          rename_i cx cy
          simp only [Option.map_eq_some_iff] at hv
          obtain ⟨r, hr, rfl⟩ := hv
          obtain ⟨vx, vy, e1, e2, e3⟩ := eqOffs_sound (P := P) ⟨hs1, hr1, ho1⟩ ⟨hs2, hr2, ho2⟩ 8 10000 t 0 offs r (by omega) ho hr cx cy 0 s hs (fun i _ => rfl) (fun i _ => rfl)
          have e1' := part_agg hu hs e1
          have e2' := part_agg hu hs e2
          subst e1' e2'
          have ex : cx.extract 0 s = cx := by simp [← hlen.1, ← hs1]
          have ey : cy.extract 0 s = cy := by simp [← hlen.2, ← hs2]
          rw [ex, ey] at e3
          subst hop
          cases neg
          · refine ⟨.bool r, ?_, by simpa [bv] using R.d (.v _)⟩
            simp only [Bool.false_eq_true, if_false, Sem.run_bind, run_eqGuard_agg w .eql t x y cx cy hg, Result.andThen_ok, run_eql_struct, e3]
          · refine ⟨.bool (!r), ?_, by simpa [bv] using R.d (.v _)⟩
            simp only [if_true, Sem.run_bind, run_eqGuard_agg w .neq t x y cx cy hg, Result.andThen_ok, run_neq_struct, e3]
    · cases hv
  · cases hv

theorem run_eqp_nn (d : Nat) {t e : TypeId} (hu : P.underlying t = some (.pointer e)) : (Op.equalIn (d + 1) t (.pointer none) (.pointer none)).run P w = .ok true w := by
  simp [Op.equalIn, run_und hu]
theorem run_eqp_pn (d : Nat) {t e : TypeId} (a : Addr) (hu : P.underlying t = some (.pointer e)) : (Op.equalIn (d + 1) t (.pointer (some a)) (.pointer none)).run P w = .ok false w := by
  simp [Op.equalIn, run_und hu]
theorem run_eqp_np (d : Nat) {t e : TypeId} (a : Addr) (hu : P.underlying t = some (.pointer e)) : (Op.equalIn (d + 1) t (.pointer none) (.pointer (some a))).run P w = .ok false w := by
  simp [Op.equalIn, run_und hu]
theorem run_eqp_pp (d : Nat) {t e : TypeId} (a : Addr) {s : Nat} (hu : P.underlying t = some (.pointer e)) (hs : sizeT P e = some s) (h0 : s ≠ 0) : (Op.equalIn (d + 1) t (.pointer (some a)) (.pointer (some a))).run P w = .ok true w := by
  simp [Op.equalIn, run_und hu, run_size hs, h0, sameAddr]

theorem eqP_run {t e : TypeId} {x y : AV} {a b : Value} {r : Bool} (hu : P.underlying t = some (.pointer e)) {s : Nat} (hs : sizeT P e = some s) (h0 : 0 < s) (hx : R β st w a x) (hy : R β st w b y) (h : eqP st x y = some r) :
    (Op.equal t a b).run P w = .ok r w ∧ (∃ p, a = .pointer p) ∧ (∃ p, b = .pointer p) := by
  unfold eqP at h
  split at h
  · have e1 := R_v hx
    have e2 := R_v hy
    subst e1 e2
    cases h
    exact ⟨run_eqp_nn 9999 hu, ⟨_, rfl⟩, ⟨_, rfl⟩⟩
  · have e2 := R_v hy
    subst e2
    cases h
    cases hx with
    | ptr hq h hn hv =>
      obtain ⟨ad, rfl⟩ := hv
      exact ⟨run_eqp_pn 9999 ad hu, ⟨_, rfl⟩, ⟨_, rfl⟩⟩
  · have e2 := R_v hx
    subst e2
    cases h
    cases hy with
    | ptr hq h hn hv =>
      obtain ⟨ad, rfl⟩ := hv
      exact ⟨run_eqp_np 9999 ad hu, ⟨_, rfl⟩, ⟨_, rfl⟩⟩
  · split at h
    · rename_i ver k els hq
      split at h
      · rename_i hc
        obtain ⟨rfl, rfl, rfl, rfl, rfl⟩ := hc
        cases h
        obtain ⟨_, _, b1, a1, hb1, e1⟩ := R_ptr_inv hx hq
        obtain ⟨_, _, b2, a2, hb2, e2⟩ := R_ptr_inv hy hq
        rw [hb1] at hb2
        cases hb2
        subst e1 e2
        refine ⟨?_, ⟨_, rfl⟩, ⟨_, rfl⟩⟩
        have h1 : s ≠ 0 := by omega
        exact run_eqp_pp 9999 _ hu hs h1
      · cases h
    · cases h
  · cases h

theorem snd_eqp {t e : TypeId} {X Y : RX} {x y : Operand} {ρ : RX → AV} {v : AV} {a b : Value} (neg : Bool) (op : BinOp) (hop : op = if neg then .neq else .eql)
    (hu : P.underlying t = some (.pointer e)) {s : Nat} (hs : sizeT P e = some s) (h0 : 0 < s) (hx : R β st w a (ρ X)) (hy : R β st w b (ρ Y)) (hv : aval (.eqp neg X Y) ρ st = some v) :
    ∃ u, (do eqGuard op t x y a b; binOp op t a b : Sem Value).run P w = .ok u w ∧ R β st w u v := by
  simp only [aval, Option.map_eq_some_iff] at hv
  obtain ⟨r, hr, rfl⟩ := hv
  obtain ⟨h1, ⟨p, rfl⟩, ⟨p', rfl⟩⟩ := eqP_run hu hs h0 hx hy hr
  subst hop
  cases neg
  · refine ⟨.bool r, ?_, by simpa [bv] using R.d (.v _)⟩
    simp [eqGuard, binOp, h1]
  · refine ⟨.bool (!r), ?_, by simpa [bv] using R.d (.v _)⟩
    simp [eqGuard, binOp, h1]

theorem snd_un {op : UnOp} {X : RX} {ρ : RX → AV} {v : AV} {a : Value} (hx : R β st w a (ρ X)) (hv : aval (.un op X) ρ st = some v) :
    ∃ u, (Op.unary op a).run P w = .ok u w ∧ R β st w u v := by
  simp only [aval] at hv
  split at hv
  · rename_i a' h1
    rw [h1] at hx
    have e1 := R_v hx
    subst e1
    simp only [Option.map_eq_some_iff] at hv
    obtain ⟨u, hu, rfl⟩ := hv
    refine ⟨u, ?_, .d (.v u)⟩
    unfold unV at hu
    split at hu
    · split at hu
      · cases hu; rfl
      · cases hu
    · split at hu
      · cases hu; simp [Op.unary, Op.intArith]
      · cases hu
    · cases hu
  · cases hv

theorem snd_ci {s t : TypeId} {k k' : IntKind} {X : RX} {ρ : RX → AV} {v : AV} {a : Value} (hs : P.underlying s = some (.int k')) (ht : P.underlying t = some (.int k)) (hx : R β st w a (ρ X)) (hv : aval (.ci k X) ρ st = some v) :
    ∃ u, (convert s t a).run P w = .ok u w ∧ R β st w u v := by
  simp only [aval] at hv
  split at hv
  · rename_i k'' n h1
    rw [h1] at hx
    have e1 := R_v hx
    subst e1
    cases hv
    exact ⟨_, by simp [convert, run_und hs, run_und ht, Conv.intToInt], .d (.v _)⟩
  · cases hv

theorem snd_same {s t : TypeId} {X : RX} {ρ : RX → AV} {v : AV} {a : Value} (hs : P.underlying s = some .string) (ht : P.underlying t = some .string) (hx : R β st w a (ρ X)) (hv : aval (.same X) ρ st = some v) :
    ∃ u, (convert s t a).run P w = .ok u w ∧ R β st w u v := by
  simp only [aval] at hv
  split at hv
  · rename_i s' h1
    rw [h1] at hx
    have e1 := R_v hx
    subst e1
    cases hv
    exact ⟨_, by simp [convert, run_und hs, run_und ht], .d (.v _)⟩
  · cases hv

theorem snd_mkif {t : TypeId} {d : TypeDesc} {X : RX} {ρ : RX → AV} {v : AV} {a : Value} (hd : P.underlying t = some d) (hn : ∀ ms, d ≠ .interface ms) (hx : R β st w a (ρ X)) (hv : aval (.mkif t X) ρ st = some v) :
    ∃ u, (Instr.makeInterface t a).run P w = .ok u w ∧ R β st w u v := by
  simp only [aval, Option.some.injEq] at hv
  subst hv
  refine ⟨.iface t a, ?_, .iface hx⟩
  cases d <;> simp_all [Instr.makeInterface, run_und hd]

theorem bound_run {ρ : RX → AV} {x : Operand} {ev : Operand → Value} {dflt most n : Nat} (code : BoundsCode) (hx : R β st w (ev x) (ρ (rx x))) (h : bound ρ (some (rx x)) dflt most = some n) :
    ∃ k, ev x = .int k (n : Int) ∧ n ≤ most := by
  simp only [bound] at h
  split at h
  · rename_i k m h1
    rw [h1] at hx
    have e1 := R_v hx
    split at h
    · rename_i hc
      cases h
      exact ⟨k, by rw [e1]; congr 1; omega, by omega⟩
    · cases h
  · cases h

theorem snd_slS {t : TypeId} {x : Operand} {lo hi : Option Operand} {ev : Operand → Value} {ρ : RX → AV} {v : AV} (ht : P.underlying t = some .string) (hρ : ∀ x, R β st w (ev x) (ρ (rx x)))
    (hv : aval (.slS (rx x) (lo.map rx) (hi.map rx)) ρ st = some v) : ∃ u, (Instr.sliceAt t (ev x) (lo.map ev) (hi.map ev) none).run P w = .ok u w ∧ R β st w u v := by
  simp only [aval] at hv
  split at hv
  · rename_i s h1
    have hx := hρ x
    rw [h1] at hx
    have e1 := R_v hx
    rw [e1]
    cases hh : bound ρ (hi.map rx) s.size s.size with
    | none => simp [hh] at hv
    | some h =>
      simp only [hh, Option.bind_some, Option.map_eq_some_iff] at hv
      obtain ⟨l, hl, rfl⟩ := hv
      refine ⟨.string (s.extract l h), ?_, .d (.v _)⟩
      rw [run_sliceAt_string w t _ _ _ _ ht]
      have hhi : ∃ e, (match hi.map ev with | some v => Instr.sliceBound v s.size .sliceAlen | none => pure s.size : Sem Nat).run P w = .ok h w ∧ e = h := by
        cases hi with
        | none => simp [bound] at hh; subst hh; exact ⟨_, rfl, rfl⟩
        | some y =>
          obtain ⟨k, e2, hle⟩ := bound_run .sliceAlen (hρ y) hh
          refine ⟨h, ?_, rfl⟩
          simp only [Option.map_some, e2]
          rw [run_sliceBound w k h s.size _ (by omega) (by omega)]; simp
      have hlo : (match lo.map ev with | some v => Instr.sliceBound v h .sliceB | none => pure 0 : Sem Nat).run P w = .ok l w := by
        cases lo with
        | none => simp [bound] at hl; subst hl; rfl
        | some y =>
          obtain ⟨k, e2, hle⟩ := bound_run .sliceB (hρ y) hl
          simp only [Option.map_some, e2]
          rw [run_sliceBound w k l h _ (by omega) (by omega)]; simp
      obtain ⟨_, hhi, _⟩ := hhi
      simp only [Instr.slice, Sem.run_bind, run_und ht, Result.andThen_ok]
      cases hi <;> cases lo <;> simp_all [Instr.sliceBounds]
  · cases hv

end Go.Eng
