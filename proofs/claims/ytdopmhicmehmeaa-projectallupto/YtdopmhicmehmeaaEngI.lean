/-
  Part of the proof that the law ProjectAll returns true at every input of bulk at most 1048576, and leaves its arguments as they were; the whole is stated at the end of the last text.
-/
import Derived.Test.YtdopmhicmehmeaaEngH
/-
  THE ENGINE, PART 9: all operations are sound.
-/
set_option linter.unusedVariables false
set_option linter.unusedSimpArgs false
namespace Go.Eng
open Go

variable {P : Program} {β : Emb} {st : St} {w : World}

theorem upon_quiet {K : AV → St → Prop} {s : Sem Next} {x : AV} (H : HRel β st w) (hK : K x st) (h : ∃ u, s.run P w = .ok (.value u) w ∧ R β st w u x) : UponOK P β st w K (s.run P w) := by
  obtain ⟨u, h1, h2⟩ := h
  rw [h1]
  exact Good.same H hK h2

theorem val_quiet {s : Sem Value} {x : AV} (h : ∃ u, s.run P w = .ok u w ∧ R β st w u x) : ∃ u, (do pure (.value (← s)) : Sem Next).run P w = .ok (.value u) w ∧ R β st w u x := by
  obtain ⟨u, h1, h2⟩ := h
  exact ⟨u, by simp [h1], h2⟩

theorem upon_val {K : AV → St → Prop} {s : Sem Value} {u : Value} {w' : World} (h : s.run P w = .ok u w') (hg : Good β st w K u w') : UponOK P β st w K ((do pure (.value (← s)) : Sem Next).run P w) := by
  simp only [Sem.run_bind, h, Result.andThen_ok, Sem.run_pure]
  exact hg

theorem upon_unit {K : AV → St → Prop} {s : Sem Unit} {w' : World} (h : s.run P w = .ok () w') (hg : Good β st w K undef w') : UponOK P β st w K ((do s; pure .skip : Sem Next).run P w) := by
  simp only [Sem.run_bind, h, Result.andThen_ok, Sem.run_pure]
  exact hg

theorem snd_alloc {t : TypeId} {z : List AV} {K : AV → St → Prop} (hz : zeroAV P t = some z) (H : HRel β st w) (hK : K (.ptr st.nx 0 0 0) (st.new (.row 0 z.length t [z]))) :
    UponOK P β st w K ((do pure (.value (← Instr.alloc t true (.tuple #[]))) : Sem Next).run P w) := by
  obtain ⟨zv, h1, h2⟩ := zero_RA (β := β) (st := st) (w := w) hz w
  refine upon_val (u := .pointer (some ⟨w.heap.size, 0, none⟩)) (w' := w.alloc (.cells zv.cells t)) ?_ (snd_box H h2 hK)
  simp [Instr.alloc, h1, newVar, newRow]

theorem snd_boxop {t : TypeId} {x : Operand} {ev : Operand → Value} {ρ : RX → AV} {K : AV → St → Prop} (H : HRel β st w) (hx : R β st w (ev x) (ρ (rx x))) (h : aexec P (.box t (rx x)) ρ st K) :
    UponOK P β st w K ((do pure (.value (← Instr.box t (ev x))) : Sem Next).run P w) := by
  simp only [aexec] at h
  split at h
  · rename_i l hl
    have hra := RA_vcells hx hl
    refine upon_val (u := .pointer (some ⟨w.heap.size, 0, none⟩)) (w' := w.alloc (.cells (ev x).cells t)) ?_ (snd_box H hra h)
    simp [Instr.box, newVar, newRow]
  · exact h.elim

theorem snd_bslice {t e : TypeId} {n : Nat} {z : List AV} {parts : Array (Nat × Operand)} {ev : Operand → Value} {ρ : RX → AV} {K : AV → St → Prop} (ht : P.underlying t = some (.slice e)) (hs : sizeT P e = some z.length) (hz : zeroAV P e = some z)
    (hn : n * z.length ≤ 16777216) (h0 : 0 < z.length) (H : HRel β st w) (hρ : ∀ x, R β st w (ev x) (ρ (rx x))) (h : aexec P (.bslice e z.length n z (parts.toList.map fun (p : Nat × Operand) => (p.1, rx p.2))) ρ st K) :
    UponOK P β st w K ((do pure (.value (← Instr.buildSlice t n (parts.map fun (i, x) => (i, ev x)))) : Sem Next).run P w) := by
  simp only [aexec] at h
  split at h
  · rename_i els hf
    obtain ⟨zv, h1, h2⟩ := zero_RA (β := β) (st := st) (w := w) hz w
    obtain ⟨hl, cs', g1, g2, g3, g4⟩ := fillS_sound z.length (parts.toList.map fun (p : Nat × Operand) => (p.1, ev p.2)) ((parts.toList.map fun (p : Nat × Operand) => (p.1, rx p.2)).map fun p => (p.1, ρ p.2)) _ _ els (RE_zero (t := e) h2 n h0)
      (by simp) (fun i p ap h1 h2 => by
        simp only [List.getElem?_map, Option.map_eq_some_iff] at h1 h2
        obtain ⟨p0, hp0, rfl⟩ := h1
        obtain ⟨q0, hq0, rfl⟩ := h2
        obtain ⟨r0, hr0, rfl⟩ := hq0
        rw [hp0] at hr0
        cases hr0
        exact ⟨rfl, hρ _⟩) hf
    simp only [List.length_replicate] at hl
    subst hl
    refine upon_val (u := .slice (some ⟨w.heap.size, 0, none⟩) els.length els.length) (w' := w.alloc (.cells cs' e)) ?_ (good_newrow (cap := els.length) H (Nat.le_refl _) g2 (Free.zero _) g3 g4 w.drawn h)
    have hsm : ¬ (2 ^ 24 < els.length * z.length) := by omega
    by_cases hn0 : els.length * z.length = 0
    · have g1' : Instr.fill (fun i => some (i * z.length, z.length)) #[] (parts.toList.map fun (p : Nat × Operand) => (p.1, ev p.2)) = some cs' := by
        rw [← g1]; congr 1; simp [hn0]
      simp only [Instr.buildSlice, Sem.run_bind, run_und ht, Result.andThen_ok, run_size hs, Sem.run_ite, gt_iff_lt, hsm, if_false, hn0, if_true, Sem.run_pure, Array.toList_map, newRow, run_newObj]
      have er : Array.range 0 = #[] := rfl
      simp [er, g1', newRow]
    · simp [Instr.buildSlice, run_und ht, run_size hs, hsm, hn0, h1, g1, newRow]
  · exact h.elim

/-! ### Stores -/
/-- Elements put into a row, one behind the other. -/
theorem RE_write {k : Nat} {c : Array Value} {a i j : Nat} {els : List (List AV)} {l : List AV} {vs : Array Value} (h2 : ∀ i (hi : i < els.length), els[i].length = k) (hsz : a + els.length * k ≤ c.size)
    (h3 : ∀ (i j : Nat) v x, i < els.length → (els[i]?.bind (·[j]?)) = some x → c[a + i * k + j]? = some v → R β st w v x ∧ v.oneCell' = true) (hl : RA β st w vs l) (hi : i < els.length) (hj : j + l.length ≤ k) :
    let c' := (vs.toList.zipIdx 0).foldl (fun cs p => cs.setIfInBounds (a + i * k + j + p.2) p.1) c
    c'.size = c.size ∧ (∀ m (hm : m < (els.set i (splice els[i] j l)).length), (els.set i (splice els[i] j l))[m].length = k) ∧
    ∀ (m n : Nat) v x, m < (els.set i (splice els[i] j l)).length → ((els.set i (splice els[i] j l))[m]?.bind (·[n]?)) = some x → c'[a + m * k + n]? = some v → R β st w v x ∧ v.oneCell' = true := by
  intro c'
  have hw := h2 i hi
  have hle : (i + 1) * k ≤ els.length * k := Nat.mul_le_mul_right k (by omega)
  rw [Nat.add_mul] at hle
  have hvl : vs.toList.length = l.length := by rw [← hl.1]; simp
  have hs := fun m => fold_set (a + i * k + j) vs.toList 0 c m (by omega)
  have hsp := fun n => splice_get els[i] l j n (by omega)
  refine ⟨(hs 0).1, fun m hm => ?_, fun m n v x hm hx hv => ?_⟩
  · simp only [List.getElem_set]
    split
    · rw [(hsp 0).1, hw]
    · exact h2 m _
  · simp only [c', (hs _).2, Nat.add_zero, hvl] at hv
    simp only [List.length_set] at hm
    by_cases hmi : m = i
    · subst hmi
      simp only [List.getElem?_set_self hi, Option.bind_some, (hsp n).2] at hx
      by_cases hn : j ≤ n ∧ n < j + l.length
      · rw [if_pos hn] at hx
        rw [if_pos (by omega)] at hv
        obtain ⟨u, e1, e2, e3⟩ := hl.get hx
        rw [show a + m * k + n - (a + m * k + j) = n - j by omega, Array.getElem?_toList, e1] at hv
        cases hv
        exact ⟨e2, e3⟩
      · rw [if_neg hn] at hx
        rw [if_neg (by omega)] at hv
        exact h3 m n v x hm (by rw [List.getElem?_eq_getElem hm]; exact hx) hv
    · rw [List.getElem?_set_ne (Ne.symm hmi)] at hx
      have hn : n < k := by
        rw [List.getElem?_eq_getElem hm, Option.bind_some] at hx
        rw [← h2 m hm]; exact (List.getElem?_eq_some_iff.1 hx).1
      rw [if_neg ?_] at hv
      · exact h3 m n v x hm hx hv
      · rintro ⟨g1, g2⟩
        rcases Nat.lt_or_ge m i with hlt | hge
        · have : (m + 1) * k ≤ i * k := Nat.mul_le_mul_right k (by omega)
          rw [Nat.add_mul] at this
          omega
        · have : (i + 1) * k ≤ m * k := Nat.mul_le_mul_right k (by omega)
          rw [Nat.add_mul] at this
          omega

theorem snd_store {t : TypeId} {k : Nat} {X Y : RX} {ρ : RX → AV} {K : AV → St → Prop} {a v : Value} (hk : sizeT P t = some k) (H : HRel β st w) (hx : R β st w a (ρ X)) (hy : R β st w v (ρ Y)) (h : aexec P (.store k X Y) ρ st K) :
    UponOK P β st w K ((do Instr.storeAt t a v; pure .skip : Sem Next).run P w) := by
  simp only [aexec] at h
  split at h
  · rename_i q ver i j l hρ hl
    rw [hρ] at hx
    split at h
    · rename_i ver' k' tq' els hq
      obtain ⟨hver, hlk, h⟩ := h
      subst hver
      split at h
      · rename_i cells hcells
        obtain ⟨hle, h⟩ := h
        obtain ⟨hi, rfl⟩ := List.getElem?_eq_some_iff.1 hcells
        obtain ⟨_, hjk, b, a', hb, rfl⟩ := R_ptr_inv hx hq
        obtain ⟨c, fr, hc, hsz, hfr, hw, hr⟩ := H.row q ver k' tq' els b a' hq hb
        have hra := RA_vcells hy hl
        have hwi := hw i hi
        have hjl : j + l.length ≤ k' := by omega
        obtain ⟨g1, g2, g3⟩ := RE_write (w := w) (β := β) (st := st) (l := l) (vs := v.cells) hw hsz hr hra hi hjl
        have hlei : (i + 1) * k' ≤ els.length * k' := Nat.mul_le_mul_right k' (by omega)
        rw [Nat.add_mul] at hlei
        have hvl : v.cells.toList.length = l.length := by rw [← hra.1]; simp
        have hrun := run_storeC (P := P) b (a' + i * k' + j) tq' fr v.cells.toList 0 c w hc hfr (by omega) (fun u hu => by
          obtain ⟨m, hm, rfl⟩ := List.getElem_of_mem hu
          simpa using hra.one m (by simpa using hm))
        obtain ⟨e1, e2, e3⟩ := set_obj H hq hb hc g1 (Nat.le_refl _) (fun _ => ⟨by simp, rfl⟩) (by simpa using hsz) (H.mul _ _ _ _ _ _ _ hq hb) hfr g2 g3
        refine upon_unit ?_ ⟨_, _, _, h, e1, .d (.v _), e2, e3⟩
        simp only [Instr.storeAt, Sem.run_bind, Instr.sureAddr, Sem.run_pure, Result.andThen_ok, storeVar, run_size hk]
        rw [if_neg (by rw [hra.1, hlk]; simp)]
        simpa using hrun
      · exact h.elim
    · exact h.elim
  · exact h.elim

end Go.Eng
