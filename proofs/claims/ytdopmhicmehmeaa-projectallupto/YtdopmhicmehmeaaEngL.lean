/-
  Part of the proof that the law ProjectAll returns true at every input of bulk at most 1048576, and leaves its arguments as they were; the whole is stated at the end of the last text.
-/
import Derived.Test.YtdopmhicmehmeaaEngKb
/-
  THE ENGINE, PART 12: every operation is sound.
-/
set_option linter.unusedVariables false
set_option linter.unusedSimpArgs false
namespace Go.Eng
open Go

variable {P : Program} {β : Emb} {st : St} {w : World}

theorem upon_val' {K : AV → St → Prop} {s : Sem Value} {x : AV} (H : HRel β st w) (hK : K x st) (h : ∃ u, s.run P w = .ok u w ∧ R β st w u x) :
    UponOK P β st w K ((do pure (.value (← s)) : Sem Next).run P w) := upon_quiet H hK (val_quiet h)

theorem snd_pick {c a b : Operand} {ev : Operand → Value} {ρ : RX → AV} {v : AV} (hρ : ∀ x, R β st w (ev x) (ρ (rx x))) (hv : aval (.pick (rx c) (rx a) (rx b)) ρ st = some v) :
    ∃ u, (do pure (.value (if ← asBool (ev c) then ev a else ev b)) : Sem Next).run P w = .ok (.value u) w ∧ R β st w u v := by
  simp only [aval] at hv
  split at hv
  · rename_i t h
    have h1 := hρ c
    rw [h] at h1
    have h2 := R_v h1
    cases hv
    refine ⟨if t = true then ev a else ev b, by rw [h2]; simp [asBool], ?_⟩
    split
    · exact hρ a
    · exact hρ b
  · cases hv

theorem snd_mkfn {f : Fn} {a c : Array Operand} {ev : Operand → Value} {ρ : RX → AV} {v : AV} (hρ : ∀ x, R β st w (ev x) (ρ (rx x))) (hv : aval (.mkfn f (a.toList.map rx) (c.toList.map rx)) ρ st = some v)
    (hf : ∃ g, f = .func g) :
    ∃ u, (Instr.makeFunc f (a.map ev) (c.map ev)).run P w = .ok u w ∧ R β st w u v := by
  simp only [aval, Option.some.injEq] at hv
  subst hv
  obtain ⟨g, rfl⟩ := hf
  refine ⟨.func (.func g) (a.map ev) (c.map ev), by simp [Instr.makeFunc], .fn (by simp) (by simp) (fun i h1 h2 => ?_) (fun i h1 h2 => ?_)⟩
  · simpa using hρ _
  · simpa using hρ _

theorem R_all {args : Array Operand} {ev : Operand → Value} {ρ : RX → AV} (hρ : ∀ x, R β st w (ev x) (ρ (rx x))) : ∀ i (h1 : i < (args.map ev).size) (h2 : i < ((args.toList.map rx).map ρ).length), R β st w (args.map ev)[i] ((args.toList.map rx).map ρ)[i] := by
  intro i h1 h2
  simpa using hρ _

theorem R_allq {args : Array Operand} {ev : Operand → Value} {ρ : RX → AV} (hρ : ∀ x, R β st w (ev x) (ρ (rx x))) : ∀ (i : Nat) u x, (args.map ev).toList[i]? = some u → ((args.toList.map rx).map ρ)[i]? = some x → R β st w u x := by
  intro i u x h1 h2
  simp only [Array.toList_map, List.getElem?_map, Option.map_eq_some_iff] at h1 h2
  obtain ⟨a, ha, rfl⟩ := h1
  obtain ⟨b, ⟨c, hc, rfl⟩, rfl⟩ := h2
  rw [ha] at hc
  cases hc
  exact hρ _

theorem of_toList {α : Type} {a : Array α} {l : List α} (h : a.toList = l) : a = l.toArray := by rw [← h]

/-- A call. -/
theorem snd_call {f : FuncId} {vs : Array Value} {args : List AV} {K : AV → St → Prop} (H : HRel β st w) (hs : vs.size = args.length) (hr : ∀ i (h1 : i < vs.size) (h2 : i < args.length), R β st w vs[i] args[i])
    (h : ACalls P f args st K) : UponOK P β st w K ((callFunc f vs).run P w) := by
  obtain ⟨hb, h⟩ := h
  have hc := h β w vs H hs hr
  cases hf : P.funcs[f]? with
  | none => rw [hf] at hb; simp at hb
  | some fn =>
    rw [hf] at hb
    simp only [Option.any_some, Bool.and_eq_true, bne_iff_ne, ne_eq] at hb
    have hrun : (callFunc f vs).run P w = .ok (.enter f vs) w := by
      cases hbd : fn.body with
      | none => rw [hbd] at hb; simp at hb
      | some c => simp [callFunc, hf, hb.1, hbd]
    rw [hrun]
    refine ⟨rfl, hc.mono ?_⟩
    rintro e w' ⟨v, x, β', st', rfl, hK, hH, hR, hk, he⟩
    exact ⟨v, rfl, x, β', st', hK, hH, hR, hk, he⟩

theorem snd_callv {x : Operand} {args : Array Operand} {ev : Operand → Value} {ρ : RX → AV} {K : AV → St → Prop} (H : HRel β st w) (hρ : ∀ x, R β st w (ev x) (ρ (rx x)))
    (h : aexec P (.callv (rx x) (args.toList.map rx)) ρ st K) :
    UponOK P β st w K ((do let d ← Deferred.ofValue (ev x) (args.map ev); invoke d.target d.args : Sem Next).run P w) := by
  simp only [aexec] at h
  split at h
  · rename_i f first cap hx
    have hR := hρ x
    rw [hx] at hR
    generalize ev x = vx at hR
    cases hR with
    | fn hsa hsc ha hc =>
      rename_i a c
      have hs := snd_call (P := P) (f := f) (vs := a ++ args.map ev ++ c) (args := first ++ (args.toList.map rx).map ρ ++ cap) H (by simp [hsa, hsc]) (fun i h1 h2 => by
        have hall := R_all (args := args) hρ
        simp only [Array.size_append, Array.size_map] at h1
        by_cases h3 : i < first.length
        · have h4 : i < a.size := by omega
          rw [Array.getElem_append_left (by simp; omega), Array.getElem_append_left h4, List.getElem_append_left (by simp; omega), List.getElem_append_left h3]
          exact ha i h4 h3
        · by_cases h5 : i < first.length + args.size
          · rw [Array.getElem_append_left (by simp; omega), Array.getElem_append_right (by omega), List.getElem_append_left (by simp; omega), List.getElem_append_right (by omega)]
            have := hall (i - first.length) (by simp; omega) (by simp; omega)
            simpa [hsa] using this
          · rw [Array.getElem_append_right (by simp; omega), List.getElem_append_right (by simp; omega)]
            have := hc (i - (first.length + args.size)) (by omega) (by omega)
            simpa [hsa] using this) h
      simpa [Deferred.ofValue, invoke] using hs
  · exact h.elim

/-- EVERY OPERATION. -/
theorem op_sound {o : Oper} {ro : ROp} {ev : Operand → Value} {ρ : RX → AV} {K : AV → St → Prop} (hro : rop P o = some ro) (H : HRel β st w) (hρ : ∀ x, R β st w (ev x) (ρ (rx x))) (hfunc : ∀ f, ev (.func f) = .func (.func f) #[] #[]) (h : aexec P ro ρ st K) :
    UponOK P β st w K ((execOp ev o).run P w) := by
  cases hop : o.op <;> simp only [rop, hop, reduceCtorEq] at hro
  case move x =>
    cases hro
    obtain ⟨v, hv, hK⟩ := h
    simp only [aval, Option.some.injEq] at hv
    subst hv
    simp only [execOp, hop]
    exact upon_quiet H hK ⟨ev x, rfl, hρ x⟩
  case assign x =>
    cases hro
    obtain ⟨v, hv, hK⟩ := h
    simp only [aval, Option.some.injEq] at hv
    subst hv
    simp only [execOp, hop]
    exact upon_quiet H hK ⟨ev x, rfl, hρ x⟩
  case pick c a b =>
    cases hro
    obtain ⟨v, hv, hK⟩ := h
    simp only [execOp, hop]
    exact upon_quiet H hK (snd_pick hρ hv)
  case alloc t =>
    cases hz : zeroAV P t with
    | none => rw [hz] at hro; cases hro
    | some z =>
      rw [hz] at hro; cases hro
      simp only [execOp, hop]
      exact snd_alloc hz H h
  case box t x =>
    cases hro
    simp only [execOp, hop]
    exact snd_boxop H (hρ x) h
  case build t parts =>
    split at hro
    · rename_i z fs hz hu
      simp only [Option.bind_eq_some_iff, Option.map_eq_some_iff] at hro
      obtain ⟨places, hp, l, hl, rfl⟩ := hro
      obtain ⟨v, hv, hK⟩ := h
      simp only [execOp, hop]
      exact upon_val' H hK (snd_buildS hz hu hp hl hρ hv)
    · rename_i z n e hz hu
      simp only [Option.map_eq_some_iff] at hro
      obtain ⟨s, hs, rfl⟩ := hro
      obtain ⟨v, hv, hK⟩ := h
      simp only [execOp, hop]
      exact upon_val' H hK (snd_buildA hz hu hs hρ hv)
    · cases hro
  case buildSlice t n parts =>
    split at hro
    · rename_i e hu
      simp only [Option.bind_eq_some_iff] at hro
      obtain ⟨s, hs, z, hz, hro⟩ := hro
      split at hro
      · rename_i hc
        obtain ⟨h1, rfl, h3⟩ := hc
        cases hro
        simp only [execOp, hop]
        exact snd_bslice hu hs hz h1 h3 H hρ h
      · cases hro
    · cases hro
  case load t x =>
    simp only [Option.bind_eq_some_iff, Option.map_eq_some_iff] at hro
    obtain ⟨d, hd, s, hs, rfl⟩ := hro
    obtain ⟨v, hv, hK⟩ := h
    simp only [execOp, hop]
    exact upon_val' H hK (snd_load hd hs H (hρ x) hv)
  case store t x y =>
    simp only [Option.map_eq_some_iff] at hro
    obtain ⟨s, hs, rfl⟩ := hro
    simp only [execOp, hop]
    exact snd_store hs H (hρ x) (hρ y) h
  case nilCheck x =>
    cases hro
    obtain ⟨v, hv, hK⟩ := h
    exact upon_quiet H hK (snd_nilck (hρ x) hv hop)
  case binOp op t x y u =>
    simp only [execOp, hop]
    split at hro
    · rename_i k hu
      cases hro
      obtain ⟨v, hv, hK⟩ := h
      exact upon_val' H hK (snd_bin (hρ x) (hρ y) hv)
    · rename_i hu
      cases hro
      obtain ⟨v, hv, hK⟩ := h
      exact upon_val' H hK (snd_bin (hρ x) (hρ y) hv)
    · rename_i hu
      split at hro
      · cases hro
        obtain ⟨v, hv, hK⟩ := h
        exact upon_val' H hK (snd_eqb false .eql rfl (hρ x) (hρ y) hu hv)
      · cases hro
        obtain ⟨v, hv, hK⟩ := h
        exact upon_val' H hK (snd_eqb true .neq rfl (hρ x) (hρ y) hu hv)
      · cases hro
    · rename_i fs hu
      split at hro
      · split at hro
        · cases hro
        · rename_i hc
          simp only [Bool.or_eq_true, not_or, Bool.not_eq_true] at hc
          simp only [Option.bind_eq_some_iff, Option.map_eq_some_iff] at hro
          obtain ⟨s, hs, l, hl, rfl⟩ := hro
          obtain ⟨v, hv, hK⟩ := h
          exact upon_val' H hK (snd_eqs false .eql rfl hu hs hc.1 hc.2 hl (hρ x) (hρ y) hv)
      · split at hro
        · cases hro
        · rename_i hc
          simp only [Bool.or_eq_true, not_or, Bool.not_eq_true] at hc
          simp only [Option.bind_eq_some_iff, Option.map_eq_some_iff] at hro
          obtain ⟨s, hs, l, hl, rfl⟩ := hro
          obtain ⟨v, hv, hK⟩ := h
          exact upon_val' H hK (snd_eqs true .neq rfl hu hs hc.1 hc.2 hl (hρ x) (hρ y) hv)
      · cases hro
    · rename_i e hu
      split at hro
      · split at hro
        · rename_i hc
          simp only [Option.any_eq_true, decide_eq_true_eq] at hc
          obtain ⟨s, hs, h0⟩ := hc
          cases hro
          obtain ⟨v, hv, hK⟩ := h
          exact upon_val' H hK (snd_eqp false .eql rfl hu hs h0 (hρ x) (hρ y) hv)
        · cases hro
      · split at hro
        · rename_i hc
          simp only [Option.any_eq_true, decide_eq_true_eq] at hc
          obtain ⟨s, hs, h0⟩ := hc
          cases hro
          obtain ⟨v, hv, hK⟩ := h
          exact upon_val' H hK (snd_eqp true .neq rfl hu hs h0 (hρ x) (hρ y) hv)
        · cases hro
      · cases hro
    · cases hro
  case unOp op t x =>
    cases hro
    obtain ⟨v, hv, hK⟩ := h
    simp only [execOp, hop]
    exact upon_val' H hK (snd_un (hρ x) hv)
  case convert s t x =>
    simp only [execOp, hop]
    split at hro
    · rename_i k' k hs ht
      cases hro
      obtain ⟨v, hv, hK⟩ := h
      exact upon_val' H hK (snd_ci hs ht (hρ x) hv)
    · rename_i hs ht
      cases hro
      obtain ⟨v, hv, hK⟩ := h
      exact upon_val' H hK (snd_same hs ht (hρ x) hv)
    · rename_i e hs ht
      split at hro
      · rename_i he
        cases hro
        exact snd_s2b hs ht he H (hρ x) h
      · cases hro
    · rename_i e hs ht
      split at hro
      · rename_i he
        cases hro
        exact snd_b2s hs he ht H (hρ x) h
      · cases hro
    · rename_i e hs ht
      split at hro
      · rename_i hc
        simp only [Option.any_eq_true, decide_eq_true_eq] at hc
        obtain ⟨k, hk, h0⟩ := hc
        cases hro
        obtain ⟨v, hv, hK⟩ := h
        exact upon_val' H hK (snd_toU hs ht hk h0 H (hρ x) hv)
      · cases hro
    · rename_i e hs ht
      simp only [Option.bind_eq_some_iff] at hro
      obtain ⟨k, hk, hro⟩ := hro
      split at hro
      · rename_i h0
        cases hro
        obtain ⟨v, hv, hK⟩ := h
        exact upon_val' H hK (snd_ofU hs ht hk h0 H (hρ x) hv)
      · cases hro
    · cases hro
  case makeInterface t x =>
    split at hro
    · cases hro
    · rename_i d hn hd
      cases hro
      obtain ⟨v, hv, hK⟩ := h
      simp only [execOp, hop]
      exact upon_val' H hK (snd_mkif hd (fun ms e => hn ms e) (hρ x) hv)
    · cases hro
  case makeFunc f a c =>
    split at hro
    · rename_i g
      cases hro
      obtain ⟨v, hv, hK⟩ := h
      simp only [execOp, hop]
      exact upon_val' H hK (snd_mkfn hρ hv ⟨g, rfl⟩)
    · cases hro
  case makeSlice t l c =>
    split at hro
    · rename_i e hu
      simp only [Option.bind_eq_some_iff] at hro
      obtain ⟨s, hs, b, hb, z, hz, hro⟩ := hro
      split at hro
      · rename_i hc
        obtain ⟨rfl, h1, h2⟩ := hc
        cases hro
        simp only [execOp, hop]
        exact snd_mksl hu hb hs hz h1 h2 H (hρ l) (hρ c) h
      · cases hro
    · cases hro
  case slice t x lo hi mx =>
    split at hro
    · rename_i hu
      cases mx with
      | none =>
        cases hro
        obtain ⟨v, hv, hK⟩ := h
        simp only [execOp, hop, Option.map_none]
        exact upon_val' H hK (snd_slS hu hρ hv)
      | some m => cases hro
    · rename_i e hu
      simp only [Option.map_eq_some_iff] at hro
      obtain ⟨s, hs, rfl⟩ := hro
      obtain ⟨v, hv, hK⟩ := h
      simp only [execOp, hop]
      exact upon_val' H hK (snd_slR hu hs hρ H hv)
    · cases hro
  case fieldAddr t x f =>
    split at hro
    · rename_i fs hu
      simp only [Option.bind_eq_some_iff] at hro
      obtain ⟨fd, hf, s, hs, hro⟩ := hro
      split at hro
      · cases hro
      · rename_i h0
        cases hro
        obtain ⟨v, hv, hK⟩ := h
        simp only [execOp, hop]
        exact upon_val' H hK (snd_faddr hu hf hs h0 (hρ x) hv)
    · cases hro
  case field t x f =>
    split at hro
    · rename_i fs hu
      simp only [Option.bind_eq_some_iff, Option.map_eq_some_iff] at hro
      obtain ⟨fd, hf, d, hd, s, hs, rfl⟩ := hro
      obtain ⟨v, hv, hK⟩ := h
      simp only [execOp, hop]
      exact upon_val' H hK (snd_field hu hf hd hs (hρ x) hv)
    · cases hro
  case indexAddr t x i =>
    split at hro
    · rename_i e hu
      simp only [Option.map_eq_some_iff] at hro
      obtain ⟨s, hs, rfl⟩ := hro
      obtain ⟨v, hv, hK⟩ := h
      simp only [execOp, hop]
      exact upon_val' H hK (snd_iaR hu hs H (hρ x) (hρ i) hv)
    · rename_i n e hu
      simp only [Option.map_eq_some_iff] at hro
      obtain ⟨s, hs, rfl⟩ := hro
      obtain ⟨v, hv, hK⟩ := h
      simp only [execOp, hop]
      exact upon_val' H hK (snd_iaA hu hs (hρ x) (hρ i) hv)
    · cases hro
  case index t x i =>
    split at hro
    · rename_i hu
      cases hro
      obtain ⟨v, hv, hK⟩ := h
      simp only [execOp, hop]
      exact upon_val' H hK (snd_idxS hu (hρ x) (hρ i) hv)
    · cases hro
  case extract x i =>
    cases hro
    obtain ⟨v, hv, hK⟩ := h
    simp only [execOp, hop]
    exact upon_val' H hK (snd_extr (hρ x) hv)
  case call c =>
    simp only [execOp, hop, resolve]
    split at hro
    · rename_i f hcal
      simp only [hcal]
      split at hro
      · rename_i x hargs
        split at hro
        · rename_i hf
          cases hro
          have := snd_noesc (P := P) (f := f) (x := x) H hρ hf h
          have ha := of_toList hargs
          rw [ha]
          simpa [Deferred.ofValue, invoke, hfunc f] using this
        · cases hro
          have ha := of_toList hargs
          have := snd_call (P := P) (f := f) (vs := c.args.map ev) (args := (c.args.toList.map rx).map ρ) H (by simp) (R_all hρ) (by rw [hargs]; exact h)
          simpa [Deferred.ofValue, invoke, hfunc f] using this
      · cases hro
        have := snd_call (P := P) (f := f) (vs := c.args.map ev) (args := (c.args.toList.map rx).map ρ) H (by simp) (R_all hρ) h
        simpa [Deferred.ofValue, invoke, hfunc f] using this
    · rename_i x _ hcal
      cases hro
      simp only [hcal]
      exact snd_callv H hρ h
    · cases hro
    · rename_i b hcal
      simp only [hcal, Sem.run_bind, Sem.run_pure, Result.andThen_ok, invoke, builtin]
      split at hro
      · rename_i x t h1 h2
        have h1 := of_toList h1
        have h2 := of_toList h2
        rw [h1, h2]
        simp only [List.map_toArray, List.map_cons, List.map_nil]
        split at hro
        · rename_i hu
          cases hro
          obtain ⟨v, hv, hK⟩ := h
          exact upon_val' H hK (snd_lenS hu (hρ x) hv)
        · rename_i e hu
          cases hro
          obtain ⟨v, hv, hK⟩ := h
          exact upon_val' H hK (snd_lenR hu (hρ x) hv)
        · cases hro
      · rename_i x y t u h1 h2
        have h1 := of_toList h1
        have h2 := of_toList h2
        rw [h1, h2]
        simp only [List.map_toArray, List.map_cons, List.map_nil]
        split at hro
        · rename_i e e' hu hu'
          simp only [Option.bind_eq_some_iff] at hro
          obtain ⟨s, hs, b, hb, z, hz, hro⟩ := hro
          split at hro
          · rename_i hc
            cases hro
            exact snd_app hu hu' (by simp) hs hb hz hc.1 hc.2.1 hc.2.2.1 hc.2.2.2 H (hρ x) (hρ y) h
          · cases hro
        · rename_i e hu hu'
          simp only [Option.bind_eq_some_iff] at hro
          obtain ⟨s, hs, b, hb, z, hz, hro⟩ := hro
          split at hro
          · rename_i hc
            cases hro
            exact snd_app hu hu' (by simp) hs hb hz hc.1 hc.2.1 hc.2.2.1 hc.2.2.2 H (hρ x) (hρ y) h
          · cases hro
        · cases hro
      · rename_i x y t u h1 h2
        have h1 := of_toList h1
        have h2 := of_toList h2
        rw [h1, h2]
        simp only [List.map_toArray, List.map_cons, List.map_nil]
        split at hro
        · rename_i e e' hu hu'
          simp only [Option.bind_eq_some_iff] at hro
          obtain ⟨s, hs, hro⟩ := hro
          split at hro
          · rename_i hc
            cases hro
            exact snd_copy hu hs hc H (hρ x) (hρ y) h
          · cases hro
        · cases hro
      · rename_i x t h1 h2
        have h1 := of_toList h1
        have h2 := of_toList h2
        rw [h1, h2]
        simp only [List.map_toArray, List.map_cons, List.map_nil]
        split at hro
        · rename_i e hu
          simp only [Option.bind_eq_some_iff] at hro
          obtain ⟨s, hs, z, hz, hro⟩ := hro
          split at hro
          · rename_i hc
            cases hro
            exact snd_clear hu hz (by omega) H (hρ x) h
          · cases hro
        · cases hro
      · rename_i x t h1 h2
        have h1 := of_toList h1
        have h2 := of_toList h2
        rw [h1, h2]
        simp only [List.map_toArray, List.map_cons, List.map_nil]
        simp only [Option.bind_eq_some_iff] at hro
        obtain ⟨d, hd, hro⟩ := hro
        split at hro
        · cases hro
          exact snd_usd hd H (hρ x) h
        · cases hro
      · rename_i x n t u h1 h2
        have h1 := of_toList h1
        have h2 := of_toList h2
        rw [h1, h2]
        simp only [List.map_toArray, List.map_cons, List.map_nil]
        split at hro
        · rename_i e hu
          split at hro
          · split at hro
            · rename_i hs
              cases hro
              exact snd_ust hu hs H (hρ x) (hρ n) h
            · cases hro
          · cases hro
        · cases hro
      · split at hro
        · cases hro
          obtain ⟨v, hv, hK⟩ := h
          simp only [aval] at hv
          have hl : (c.args.map ev).toList.length = ((c.args.toList.map rx).map ρ).length := by simp
          obtain ⟨u, x, xs, e1, e2, e3⟩ := mxV_run (P := P) hl (R_allq hρ) hv
          refine upon_val' H hK ⟨u, ?_, e3⟩
          simp only [Builtin.max_, e1, e2]
        · cases hro
      · split at hro
        · cases hro
          obtain ⟨v, hv, hK⟩ := h
          simp only [aval] at hv
          have hl : (c.args.map ev).toList.length = ((c.args.toList.map rx).map ρ).length := by simp
          obtain ⟨u, x, xs, e1, e2, e3⟩ := mnV_run (P := P) hl (R_allq hρ) hv
          refine upon_val' H hK ⟨u, ?_, e3⟩
          simp only [Builtin.min_, e1, e2]
        · cases hro
      · cases hro

end Go.Eng
