/-
  Part of the proof that the law ProjectAll returns true at every input of bulk at most 1048576, and leaves its arguments as they were; the whole is stated at the end of the last text.
-/
import Derived.Test.YtdopmhicmehmeaaEngF
import Derived.Laws.CopyRow
/-
  THE ENGINE, PART 7: the operations that turn what is live.
-/
set_option linter.unusedVariables false
set_option linter.unusedSimpArgs false
namespace Go.Eng
open Go

variable {P : Program} {β : Emb} {st : St} {w : World}

/-- Memory unfrozen all over. -/
def Free (n : Nat) (fr : Nat × Nat) : Prop := ∀ i, i < n → ¬ (fr.1 ≤ i ∧ i < fr.2)

theorem Free.zero (n : Nat) : Free n (0, 0) := fun i _ h => by omega

/-! ### Stores into a block -/
theorem heap_setRow (w : World) (b : Nat) (c c' : Array Value) (T : TypeId) (fr : Nat × Nat) (hb : w.heap[b]? = some (Go.Obj.cells c T fr)) :
    (w.setRow b c').heap[b]? = some (Go.Obj.cells c' T fr) := setRow_heap w b c c' T fr hb

theorem heap_setRow_ne (w : World) (b b' : Nat) (c' : Array Value) (h : b' ≠ b) : (w.setRow b c').heap[b']? = w.heap[b']? := by
  unfold World.setRow
  simp only [Array.getElem?_modify]
  rw [if_neg (Ne.symm h)]

theorem run_storeC (b o : Nat) (T : TypeId) (fr : Nat × Nat) : ∀ (vs : List Value) (i : Nat) (cur : Array Value) (w : World), w.heap[b]? = some (Go.Obj.cells cur T fr) → Free cur.size fr → o + i + vs.length ≤ cur.size → (∀ v ∈ vs, v.oneCell' = true) →
    (storeCells ⟨b, o, none⟩ vs i).run P w = .ok () (w.setRow b ((vs.zipIdx i).foldl (fun cs p => cs.setIfInBounds (o + p.2) p.1) cur)) := by
  intro vs
  induction vs with
  | nil =>
    intro i cur w hb _ _ _
    simp only [storeCells, List.zipIdx_nil, List.foldl_nil, Sem.run_pure]
    rw [setRow_self w b cur T fr hb]
  | cons v vs ih =>
    intro i cur w hb hf hle hv
    simp only [List.length_cons] at hle
    have hcell : w.cell? ⟨b, o + i, none⟩ = some (cur[o + i]'(by omega)) := by
      simp only [World.cell?, hb]
      rw [Array.getElem?_eq_getElem (by omega)]
      rfl
    have hfr : w.frozen? ⟨b, o + i, none⟩ = false := by
      simp only [World.frozen?, hb]
      have := hf (o + i) (by omega)
      simp only [Bool.and_eq_false_iff, decide_eq_false_iff_not]
      omega
    have hset : w.setCell ⟨b, o + i, none⟩ v = w.setRow b (cur.setIfInBounds (o + i) v) := by
      unfold World.setCell World.setRow
      congr 1
      apply Array.ext
      · simp
      · intro k h1 h2
        simp only [Array.getElem_modify]
        split
        · rename_i hk
          subst hk
          have : w.heap[b]'(by simpa using h1) = Go.Obj.cells cur T fr := by
            rw [Array.getElem?_eq_getElem (by simpa using h1)] at hb
            exact Option.some.inj hb
          simp [this]
        · rfl
    have hw : (w.setRow b (cur.setIfInBounds (o + i) v)).heap[b]? = some (Go.Obj.cells (cur.setIfInBounds (o + i) v) T fr) := heap_setRow w b cur _ T fr hb
    have := ih (i + 1) (cur.setIfInBounds (o + i) v) (w.setRow b (cur.setIfInBounds (o + i) v)) hw (by simpa using hf) (by simp; omega) (fun u hu => hv u (List.mem_cons_of_mem _ hu))
    simp only [storeCells, Sem.run_bind, add_off, run_store P w _ v .plain (hv v (List.mem_cons_self ..)), hcell, hfr, Bool.false_eq_true, if_false, Result.andThen_ok, hset, this, List.zipIdx_cons, List.foldl_cons]
    congr 1
    unfold World.setRow
    congr 1
    apply Array.ext
    · simp
    · intro k h1 h2
      simp only [Array.getElem_modify]
      split
      · rename_i hk
        subst hk
        cases w.heap[b]'(by simpa using h1) <;> rfl
      · rfl

/-! ### What goes on -/
/-- A new block for object q. -/
theorem fresh_obj (H : HRel β st w) {q : Int} {ver k : Nat} {els : List (List AV)} {c : Array Value} {T : TypeId} {fr : Nat × Nat} {n' : Int} (hn : st.nx ≤ n') (hq : q < n')
    (hold : q < st.nx → ∃ o, st.h q = some o ∧ AOEvo o (.row ver k T els) ∧ o.ver ≠ ver)
    (hsz : els.length * k ≤ c.size) (hfr : Free c.size fr) (hw : ∀ i (hi : i < els.length), els[i].length = k)
    (hr : ∀ (i j : Nat) v x, i < els.length → (els[i]?.bind (·[j]?)) = some x → c[i * k + j]? = some v → R β st w v x ∧ v.oneCell' = true) (dr : Nat) :
    let β' : Emb := fun r => if r = q then some (w.heap.size, 0) else β r
    let st' : St := ⟨upd st.h q (.row ver k T els), n', st.g⟩
    let w' : World := { w.alloc (.cells c T fr) with drawn := dr }
    HRel β' st' w' ∧ Keep (Mut β st.h) w (Mut β' st'.h) w' ∧ Evo β st β' st' := by
  intro β' st' w'
  have hmut : ∀ b, Mut β' st'.h b → b = w.heap.size ∨ Mut β st.h b := by
    rintro b ⟨r, o, a, h1, h2⟩
    simp only [β', st', upd] at h1 h2
    split at h2
    · cases h2; exact .inl rfl
    · rename_i hne
      rw [if_neg hne] at h1
      exact .inr ⟨r, o, a, h1, h2⟩
  have hheap : ∀ b, b < w.heap.size → w'.heap[b]? = w.heap[b]? := by
    intro b hb
    simp only [w', World.alloc, Array.getElem?_push]
    rw [if_neg (by omega)]
  have hnew : w'.heap[w.heap.size]? = some (Go.Obj.cells c T fr) := by simp only [w', World.alloc, Array.getElem?_push, if_true]
  have hk : Keep (Mut β st.h) w (Mut β' st'.h) w' := by
    refine ⟨by simp only [w', World.alloc, Array.size_push]; omega, fun b hb hm => ⟨hheap b hb, fun hm' => ?_⟩, fun b c0 T0 fr0 hc => ?_, rfl, rfl, rfl⟩
    · rcases hmut b hm' with rfl | h
      · omega
      · exact hm h
    · have hb : b < w.heap.size := (Array.getElem?_eq_some_iff.1 hc).1
      exact ⟨c0, fr0, by rw [hheap b hb, hc], rfl⟩
  have he : Evo β st β' st' := by
    refine ⟨hn, fun r o' hr ho' => ?_⟩
    simp only [st', upd] at ho'
    split at ho'
    · rename_i hrq
      cases ho'
      subst hrq
      obtain ⟨o, h1, h2, h3⟩ := hold hr
      exact ⟨o, h1, h2, fun h => absurd h h3⟩
    · rename_i hrq
      exact ⟨o', ho', .refl _, fun _ => by simp [β', hrq]⟩
  refine ⟨⟨?_, ?_, ?_, ?_, ?_, ?_, ?_, ?_⟩, hk, he⟩
  · intro r o h
    simp only [st', upd] at h
    split at h
    · rename_i h1; subst h1; exact hq
    · exact Int.lt_of_lt_of_le (H.lt r o h) hn
  · intro r r' o o' b a b' a' h1 h2 hne h3 h4
    simp only [st', β', upd] at h1 h2 h3 h4
    have hbl : ∀ r o b a, st.h r = some o → β r = some (b, a) → b < w.heap.size := by
      intro r o b a h1 h2
      cases o with
      | row v k t e =>
        obtain ⟨c, fr, hc, _⟩ := H.row r v k t e b a h1 h2
        exact (Array.getElem?_eq_some_iff.1 hc).1
      | iter s p =>
        obtain ⟨b0, e0, hc⟩ := H.iter r s p h1
        rw [h2] at e0; cases e0
        exact (Array.getElem?_eq_some_iff.1 hc).1
    by_cases hrq : r = q
    · subst hrq
      simp only [if_true] at h1 h3
      cases h3
      rw [if_neg (Ne.symm hne)] at h2 h4
      have := hbl r' o' b' a' h2 h4
      omega
    · rw [if_neg hrq] at h1 h3
      by_cases hrq' : r' = q
      · subst hrq'
        simp only [if_true] at h2 h4
        cases h4
        have := hbl r o b a h1 h3
        omega
      · rw [if_neg hrq'] at h2 h4
        exact H.apart r r' o o' b a b' a' h1 h2 hne h3 h4
  · intro r v k0 t0 e h1 h2
    simp only [st', β', upd] at h1 h2
    split at h2
    · cases h2
    · rename_i hne
      rw [if_neg hne] at h1
      exact H.phant r v k0 t0 e h1 h2
  · intro r v k0 t0 e b a h1 h2
    simp only [st', β', upd] at h1 h2
    split at h2
    · rename_i hrq
      rw [if_pos hrq] at h1
      cases h1
      cases h2
      refine ⟨c, fr, hnew, by omega, hfr, hw, fun i j v x hi hx hv => ⟨(hr i j v x hi hx (by simpa using hv)).1.keep hk he, (hr i j v x hi hx (by simpa using hv)).2⟩⟩
    · rename_i hne
      rw [if_neg hne] at h1
      obtain ⟨c0, fr0, hc, g1, g2, g3, g4⟩ := H.row r v k0 t0 e b a h1 h2
      have hb : b < w.heap.size := (Array.getElem?_eq_some_iff.1 hc).1
      exact ⟨c0, fr0, by rw [hheap b hb, hc], g1, g2, g3, fun i j v x hi hx hv => ⟨(g4 i j v x hi hx hv).1.keep hk he, (g4 i j v x hi hx hv).2⟩⟩
  · intro r v k0 t0 e h1
    simp only [st', upd] at h1
    split at h1
    · cases h1; exact hw
    · exact H.width r v k0 t0 e h1
  · intro x hx
    obtain ⟨h1, h2⟩ := H.glob x hx
    exact ⟨hk.cell h2 h1, (hk.same _ (cell_lt h1) h2).2⟩
  · intro r s p h1
    simp only [st', upd] at h1
    split at h1
    · cases h1
    · rename_i hne
      obtain ⟨b, h2, h3⟩ := H.iter r s p h1
      refine ⟨b, by simp [β', hne, h2], ?_⟩
      rw [hheap b (Array.getElem?_eq_some_iff.1 h3).1, h3]
  · intro r v k0 t0 e b a h1 h2
    simp only [st', β', upd] at h1 h2
    split at h2
    · cases h2; exact ⟨0, by simp⟩
    · rename_i hne
      rw [if_neg hne] at h1
      exact H.mul r v k0 t0 e b a h1 h2

/-- Another state of object q, in its block. -/
theorem set_obj (H : HRel β st w) {q : Int} {ver k ver' : Nat} {tq : TypeId} {els els' : List (List AV)} {b a a' : Nat} {c c' : Array Value} {fr : Nat × Nat}
    (hq : st.h q = some (.row ver k tq els)) (hb : β q = some (b, a)) (hc : w.heap[b]? = some (Go.Obj.cells c tq fr)) (hs : c'.size = c.size)
    (hv : ver ≤ ver') (he : ver = ver' → els.length = els'.length ∧ a' = a)
    (hsz : a' + els'.length * k ≤ c.size) (hml : ∃ m, a' = m * k) (hfr : Free c.size fr) (hw : ∀ i (hi : i < els'.length), els'[i].length = k)
    (hr : ∀ (i j : Nat) v x, i < els'.length → (els'[i]?.bind (·[j]?)) = some x → c'[a' + i * k + j]? = some v → R β st w v x ∧ v.oneCell' = true) :
    let β' : Emb := fun r => if r = q then some (b, a') else β r
    let st' : St := st.set q (.row ver' k tq els')
    let w' : World := w.setRow b c'
    HRel β' st' w' ∧ Keep (Mut β st.h) w (Mut β' st'.h) w' ∧ Evo β st β' st' := by
  intro β' st' w'
  have hqlt : q < st.nx := H.lt q _ hq
  have hmut : ∀ b, Mut β' st'.h b → Mut β st.h b := by
    rintro b0 ⟨r, o, a0, h1, h2⟩
    simp only [β', st', upd, St.set] at h1 h2
    split at h2
    · cases h2; exact ⟨q, _, a, hq, hb⟩
    · rename_i hne
      rw [if_neg hne] at h1
      exact ⟨r, o, a0, h1, h2⟩
  have hheap : ∀ b0, b0 ≠ b → w'.heap[b0]? = w.heap[b0]? := fun b0 hb0 => heap_setRow_ne w b b0 c' hb0
  have hnew : w'.heap[b]? = some (Go.Obj.cells c' tq fr) := heap_setRow w b c c' tq fr hc
  have hk : Keep (Mut β st.h) w (Mut β' st'.h) w' := by
    refine ⟨by simp [w', World.setRow], fun b0 hb0 hm => ⟨hheap b0 ?_, fun hm' => hm (hmut b0 hm')⟩, fun b0 c0 T0 fr0 hc0 => ?_, rfl, rfl, rfl⟩
    · rintro rfl
      exact hm ⟨q, _, a, hq, hb⟩
    · by_cases hb0 : b0 = b
      · subst hb0
        rw [hc] at hc0
        cases hc0
        exact ⟨c', fr, hnew, hs⟩
      · exact ⟨c0, fr0, by rw [hheap b0 hb0, hc0], rfl⟩
  have hevo : Evo β st β' st' := by
    refine ⟨Int.le_refl _, fun r o' hr ho' => ?_⟩
    simp only [st', upd, St.set] at ho'
    split at ho'
    · rename_i hrq
      cases ho'
      subst hrq
      refine ⟨_, hq, ⟨hv, fun h => ⟨rfl, rfl, (he h).1⟩⟩, fun h => ?_⟩
      simp [β', (he h).2, hb]
    · rename_i hrq
      exact ⟨o', ho', .refl _, fun _ => by simp [β', hrq]⟩
  refine ⟨⟨?_, ?_, ?_, ?_, ?_, ?_, ?_, ?_⟩, hk, hevo⟩
  · intro r o h
    simp only [st', upd, St.set] at h
    split at h
    · rename_i h1; subst h1; exact hqlt
    · exact H.lt r o h
  · intro r r' o o' b1 a1 b2 a2 h1 h2 hne h3 h4
    simp only [st', β', upd, St.set] at h1 h2 h3 h4
    by_cases hrq : r = q
    · subst hrq
      simp only [if_true] at h1 h3
      cases h3
      rw [if_neg (Ne.symm hne)] at h2 h4
      exact H.apart r r' _ o' b a b2 a2 hq h2 hne hb h4
    · rw [if_neg hrq] at h1 h3
      by_cases hrq' : r' = q
      · subst hrq'
        simp only [if_true] at h2 h4
        cases h4
        exact H.apart r r' o _ b1 a1 b a h1 hq hne h3 hb
      · rw [if_neg hrq'] at h2 h4
        exact H.apart r r' o o' b1 a1 b2 a2 h1 h2 hne h3 h4
  · intro r v k0 t0 e h1 h2
    simp only [st', β', upd, St.set] at h1 h2
    split at h2
    · cases h2
    · rename_i hne
      rw [if_neg hne] at h1
      exact H.phant r v k0 t0 e h1 h2
  · intro r v k0 t0 e b0 a0 h1 h2
    simp only [st', β', upd, St.set] at h1 h2
    split at h2
    · rename_i hrq
      rw [if_pos hrq] at h1
      cases h1
      cases h2
      exact ⟨c', fr, hnew, by omega, by rw [hs]; exact hfr, hw, fun i j v x hi hx hv => ⟨(hr i j v x hi hx hv).1.keep hk hevo, (hr i j v x hi hx hv).2⟩⟩
    · rename_i hne
      rw [if_neg hne] at h1
      obtain ⟨c0, fr0, hc0, g1, g2, g3, g4⟩ := H.row r v k0 t0 e b0 a0 h1 h2
      have hb0 : b0 ≠ b := H.apart r q _ _ b0 a0 b a h1 hq hne h2 hb
      exact ⟨c0, fr0, by rw [hheap b0 hb0, hc0], g1, g2, g3, fun i j v x hi hx hv => ⟨(g4 i j v x hi hx hv).1.keep hk hevo, (g4 i j v x hi hx hv).2⟩⟩
  · intro r v k0 t0 e h1
    simp only [st', upd, St.set] at h1
    split at h1
    · cases h1; exact hw
    · exact H.width r v k0 t0 e h1
  · intro x hx
    obtain ⟨h1, h2⟩ := H.glob x hx
    exact ⟨hk.cell h2 h1, (hk.same _ (cell_lt h1) h2).2⟩
  · intro r s p h1
    simp only [st', upd, St.set] at h1
    split at h1
    · cases h1
    · rename_i hne
      obtain ⟨b0, h2, h3⟩ := H.iter r s p h1
      have hb0 : b0 ≠ b := H.apart r q _ _ b0 0 b a h1 hq hne h2 hb
      exact ⟨b0, by simp [β', hne, h2], by rw [hheap b0 hb0, h3]⟩
  · intro r v k0 t0 e b0 a0 h1 h2
    simp only [st', β', upd, St.set] at h1 h2
    split at h2
    · rename_i hrq
      rw [if_pos hrq] at h1
      cases h1
      cases h2
      exact hml
    · rename_i hne
      rw [if_neg hne] at h1
      exact H.mul r v k0 t0 e b0 a0 h1 h2

end Go.Eng
