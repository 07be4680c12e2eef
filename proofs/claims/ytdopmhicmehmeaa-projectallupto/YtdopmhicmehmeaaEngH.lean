/-
  Part of the proof that the law ProjectAll returns true at every input of bulk at most 1048576, and leaves its arguments as they were; the whole is stated at the end of the last text.
-/
import Derived.Test.YtdopmhicmehmeaaEngG
import Derived.Laws.MakeOwn
/-
  THE ENGINE, PART 8: the active operations are sound.
-/
set_option linter.unusedVariables false
set_option linter.unusedSimpArgs false
namespace Go.Eng
open Go

variable {P : Program} {β : Emb} {st : St} {w : World}

/-- K holds of what has become. -/
def Good (β : Emb) (st : St) (w : World) (K : AV → St → Prop) (u : Value) (w' : World) : Prop :=
  ∃ x β' st', K x st' ∧ HRel β' st' w' ∧ R β' st' w' u x ∧ Keep (Mut β st.h) w (Mut β' st'.h) w' ∧ Evo β st β' st'

def UponOK (P : Program) (β : Emb) (st : St) (w : World) (K : AV → St → Prop) : Result Next → Prop
  | .ok (.value u) w' => Good β st w K u w'
  | .ok .skip w' => Good β st w K undef w'
  | .ok (.enter f args) w' => w' = w ∧ Calls P f args w' fun e w'' => ∃ v, e = .returned v ∧ Good β st w K v w''
  | _ => False

theorem Good.same {K : AV → St → Prop} {u : Value} {x : AV} (H : HRel β st w) (hK : K x st) (hr : R β st w u x) : Good β st w K u w :=
  ⟨x, β, st, hK, H, hr, Keep.refl _ _, Evo.refl _ _⟩

theorem R_newptr {n' : Int} {ver k i : Nat} {tq : TypeId} {els : List (List AV)} {w' : World} {h : Int → Option AO} {β' : Emb} {g : List (Nat × Nat × Value)} {q : Int} {b : Nat} (hq : q < n') (hh : h q = some (.row ver k tq els)) (hb : β' q = some (b, 0)) (h0 : i < els.length) (u : Value) (hu : u = .pointer (some ⟨b, i * k, none⟩)) :
    R β' ⟨h, n', g⟩ w' u (.ptr q ver i 0) := by
  subst hu
  refine .ptr hq (fun ver' k' tq0 els' hq' => ?_) (fun s p hq' => ?_) ⟨_, rfl⟩
  · dsimp only at hq'
    rw [hh] at hq'
    cases hq'
    exact ⟨Nat.le_refl _, fun _ => ⟨h0, Nat.zero_le _, b, 0, hb, by simp⟩⟩
  · dsimp only at hq'; rw [hh] at hq'; cases hq'

theorem snd_box {t : TypeId} {cs : Array Value} {l : List AV} {K : AV → St → Prop} (H : HRel β st w) (hra : RA β st w cs l) (hK : K (.ptr st.nx 0 0 0) (st.new (.row 0 l.length t [l]))) :
    Good β st w K (.pointer (some ⟨w.heap.size, 0, none⟩)) (w.alloc (.cells cs t)) := by
  obtain ⟨h1, h2, h3⟩ := fresh_obj (q := st.nx) (ver := 0) (k := l.length) (els := [l]) (c := cs) (T := t) (fr := (0, 0)) (n' := st.nx + 1) H (by omega) (by omega) (fun h => by omega)
    (by simp [hra.1]) (Free.zero _) (fun i hi => by simp at hi; subst hi; rfl)
    (fun i j v x hi hx hv => by
      simp at hi
      subst hi
      simp at hx hv
      obtain ⟨u, e1, e2, e3⟩ := hra.get hx
      rw [hv] at e1
      cases e1
      exact ⟨e2, e3⟩) w.drawn
  exact ⟨_, _, _, hK, h1, R_newptr (tq := t) (ver := 0) (k := l.length) (els := [l]) (b := w.heap.size) (by omega) (by simp [upd]) (by simp) (by simp) _ (by simp), h2, h3⟩

theorem R_newrow {n' : Int} {ver k off len cap : Nat} {tq : TypeId} {els : List (List AV)} {w' : World} {h : Int → Option AO} {β' : Emb} {g : List (Nat × Nat × Value)} {q : Int} {b a : Nat} {c : Array Value} {T : TypeId} {fr : Nat × Nat}
    (hq : q < n') (hh : h q = some (.row ver k tq els)) (hb : β' q = some (b, a)) (hc : w'.heap[b]? = some (Go.Obj.cells c T fr)) (hle : off + len ≤ els.length) (hcap : len ≤ cap) (hsz : a + (off + cap) * k ≤ c.size)
    (u : Value) (hu : u = .slice (some ⟨b, a + off * k, none⟩) len cap) :
    R β' ⟨h, n', g⟩ w' u (.row q ver off len) := by
  subst hu
  refine .row hq (fun ver' k' tq0 els' hq' => ?_) (fun s p hq' => ?_) ⟨_, _, _, rfl⟩
  · dsimp only at hq'
    rw [hh] at hq'
    cases hq'
    exact ⟨Nat.le_refl _, fun _ => ⟨hle, _, cap, rfl, hcap, fun _ => ⟨b, a, hb, rfl, c, T, fr, hc, hsz⟩, fun x hx => by cases hx; exact ⟨c, T, fr, hc⟩⟩⟩
  · dsimp only at hq'; rw [hh] at hq'; cases hq'

/-- A fresh row, whatever made it. -/
theorem good_newrow {t : TypeId} {cs : Array Value} {k cap : Nat} {els : List (List AV)} {fr : Nat × Nat} {K : AV → St → Prop} (H : HRel β st w) (hcap : els.length ≤ cap) (hsz : cs.size = cap * k) (hfr : Free cs.size fr) (hw : ∀ i (hi : i < els.length), els[i].length = k)
    (hr : ∀ (i j : Nat) v x, i < els.length → (els[i]?.bind (·[j]?)) = some x → cs[i * k + j]? = some v → R β st w v x ∧ v.oneCell' = true) (dr : Nat)
    (hK : K (.row st.nx 0 0 els.length) (st.new (.row 0 k t els))) :
    Good β st w K (.slice (some ⟨w.heap.size, 0, none⟩) els.length cap) { w.alloc (.cells cs t fr) with drawn := dr } := by
  have hle : els.length * k ≤ cap * k := Nat.mul_le_mul_right k hcap
  obtain ⟨h1, h2, h3⟩ := fresh_obj (q := st.nx) (ver := 0) (k := k) (els := els) (c := cs) (T := t) (fr := fr) (n' := st.nx + 1) H (by omega) (by omega) (fun h => by omega) (by omega) hfr hw hr dr
  refine ⟨_, _, _, hK, h1, R_newrow (tq := t) (a := 0) (b := w.heap.size) (k := k) (els := els) (cap := cap) (c := cs) (T := t) (fr := fr) (by omega) (by simp [upd]) (by simp) ?_ (by simp) hcap (by simp; omega) _ (by simp), h2, h3⟩
  simp only [World.alloc, Array.getElem?_push, if_true]

/-- What the elements of a row are, in cells. -/
def RE (β : Emb) (st : St) (w : World) (k : Nat) (cs : Array Value) (els : List (List AV)) : Prop :=
  cs.size = els.length * k ∧ (∀ i (hi : i < els.length), els[i].length = k) ∧
  ∀ (i j : Nat) v x, i < els.length → (els[i]?.bind (·[j]?)) = some x → cs[i * k + j]? = some v → R β st w v x ∧ v.oneCell' = true

theorem RE.set {k : Nat} {cs vs : Array Value} {els : List (List AV)} {l : List AV} {i : Nat} (h : RE β st w k cs els) (hl : RA β st w vs l) (hi : i < els.length) (hk : l.length = k) :
    RE β st w k (vs.zipIdx.foldl (fun cs p => cs.setIfInBounds (i * k + p.2) p.1) cs) (els.set i l) := by
  obtain ⟨h1, h2, h3⟩ := h
  have e : vs.zipIdx.foldl (fun cs p => cs.setIfInBounds (i * k + p.2) p.1) cs = (vs.toList.zipIdx 0).foldl (fun cs p => cs.setIfInBounds (i * k + p.2) p.1) cs := by
    rw [← Array.foldl_toList, Array.toList_zipIdx]
  have hvl : vs.toList.length = k := by rw [← hk, ← hl.1]; simp
  have hle : (i + 1) * k ≤ els.length * k := Nat.mul_le_mul_right k (by omega)
  rw [Nat.add_mul] at hle
  have hs := fun m => fold_set (i * k) vs.toList 0 cs m (by omega)
  rw [e]
  refine ⟨by rw [(hs 0).1, h1]; simp, fun m hm => ?_, fun m j v x hm hx hv => ?_⟩
  · simp only [List.getElem_set]
    split
    · exact hk
    · exact h2 m _
  · rw [(hs _).2] at hv
    simp only [List.length_set] at hm
    simp only [Nat.add_zero, hvl] at hv
    by_cases hmi : m = i
    · subst hmi
      simp only [List.getElem?_set_self hi, Option.bind_some] at hx
      have hj : j < k := by rw [← hk]; exact (List.getElem?_eq_some_iff.1 hx).1
      rw [if_pos ⟨by omega, by omega⟩] at hv
      obtain ⟨u, e1, e2, e3⟩ := hl.get hx
      rw [Nat.add_sub_cancel_left, Array.getElem?_toList, e1] at hv
      cases hv
      exact ⟨e2, e3⟩
    · rw [List.getElem?_set_ne (Ne.symm hmi)] at hx
      have hj : j < k := by
        rw [List.getElem?_eq_getElem hm, Option.bind_some] at hx
        rw [← h2 m hm]; exact (List.getElem?_eq_some_iff.1 hx).1
      rw [if_neg ?_] at hv
      · exact h3 m j v x hm hx hv
      · rintro ⟨g1, g2⟩
        rcases Nat.lt_or_ge m i with hlt | hge
        · have : (m + 1) * k ≤ i * k := Nat.mul_le_mul_right k (by omega)
          rw [Nat.add_mul] at this
          omega
        · have : (i + 1) * k ≤ m * k := Nat.mul_le_mul_right k (by omega)
          rw [Nat.add_mul] at this
          omega

theorem fillS_sound (k : Nat) : ∀ (ps : List (Nat × Value)) (aps : List (Nat × AV)) (cs : Array Value) (els els' : List (List AV)), RE β st w k cs els →
    ps.length = aps.length → (∀ (i : Nat) p ap, ps[i]? = some p → aps[i]? = some ap → p.1 = ap.1 ∧ R β st w p.2 ap.2) → afillS els aps = some els' →
    els'.length = els.length ∧ ∃ cs', Instr.fill (fun i => some (i * k, k)) cs ps = some cs' ∧ RE β st w k cs' els' := by
  intro ps
  induction ps with
  | nil =>
    intro aps cs els els' h hl _ hf
    cases aps with
    | nil => simp only [afillS, Option.some.injEq] at hf; subst hf; exact ⟨rfl, cs, rfl, h⟩
    | cons a aps => simp at hl
  | cons p ps ih =>
    intro aps cs els els' h hl hp hf
    cases aps with
    | nil => simp at hl
    | cons ap aps =>
      obtain ⟨i, x⟩ := ap
      obtain ⟨i', v⟩ := p
      obtain ⟨e, hr⟩ := hp 0 (i', v) (i, x) rfl rfl
      dsimp only at e hr
      subst e
      simp only [afillS] at hf
      split at hf
      · rename_i l old hv ho
        split at hf
        · rename_i hlen
          obtain ⟨hi, rfl⟩ := List.getElem?_eq_some_iff.1 ho
          have hk : l.length = k := by rw [hlen, h.2.1 i' hi]
          have hra := RA_vcells hr hv
          have hle : (i' + 1) * k ≤ els.length * k := Nat.mul_le_mul_right k (by omega)
          rw [Nat.add_mul] at hle
          have hsz := hra.1
          have h1 := h.1
          obtain ⟨g1, cs', g2, g3⟩ := ih aps _ _ els' (h.set hra hi hk) (by simpa using hl) (fun i p ap h1 h2 => hp (i + 1) p ap (by simpa using h1) (by simpa using h2)) hf
          refine ⟨by simpa using g1, cs', ?_, g3⟩
          simp only [Instr.fill]
          rw [if_neg (by simp; omega)]
          exact g2
        · cases hf
      · cases hf

theorem Nat.mul_add_mod_self_right_lt {a b c : Nat} (h : c < b) : (a * b + c) % b = c := by
  rw [Nat.mul_comm, Nat.mul_add_mod, Nat.mod_eq_of_lt h]

theorem RE_zero {t : TypeId} {z : List AV} {zv : Value} (hra : RA β st w zv.cells z) (n : Nat) (h0 : 0 < z.length) :
    RE β st w z.length ((Array.range (n * z.length)).map (zv.cells[· % zv.cells.size]!)) (List.replicate n z) := by
  have hz := hra.1
  refine ⟨by simp, fun i hi => by simp, fun i j v x hi hx hv => ?_⟩
  simp only [List.length_replicate] at hi
  simp only [List.getElem?_replicate, hi, if_true, Option.bind_some] at hx
  have hj : j < z.length := (List.getElem?_eq_some_iff.1 hx).1
  have hlt := idx_lt hi hj
  obtain ⟨u, e1, e2, e3⟩ := hra.get hx
  have : ((Array.range (n * z.length)).map (zv.cells[· % zv.cells.size]!))[i * z.length + j]? = some u := by
    rw [Array.getElem?_map, Array.getElem?_range, if_pos hlt]
    simp only [Option.map_some, Option.some.injEq]
    rw [hz, Nat.mul_add_mod_self_right_lt hj]
    rw [getElem!_def, e1]
  rw [this] at hv
  cases hv
  exact ⟨e2, e3⟩

end Go.Eng
