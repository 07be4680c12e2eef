/-
  Part of the proof that the law ProjectAll returns true at every input of bulk at most 1048576, and leaves its arguments as they were; the whole is stated at the end of the last text.
-/
import Derived.Test.YtdopmhicmehmeaaEngC
/-
  THE ENGINE, PART 4: the other quiet operations.
-/
set_option linter.unusedVariables false
set_option linter.unusedSimpArgs false
namespace Go.Eng
open Go

variable {P : Program} {β : Emb} {st : St} {w : World}

theorem cells_one {v : Value} (h : v.oneCell' = true) : v.cells = #[v] := by cases v <;> first | rfl | (simp [Value.oneCell'] at h)

/-- Cells that read so. -/
structure RA (β : Emb) (st : St) (w : World) (cs : Array Value) (l : List AV) : Prop where
  size : cs.size = l.length
  rel : ∀ i (h1 : i < cs.size) (h2 : i < l.length), R β st w cs[i] l[i]
  one : ∀ i (h1 : i < cs.size), cs[i].oneCell' = true

theorem RA.get {cs : Array Value} {l : List AV} (h : RA β st w cs l) {i : Nat} {x : AV} (hx : l[i]? = some x) : ∃ u, cs[i]? = some u ∧ R β st w u x ∧ u.oneCell' = true := by
  obtain ⟨hl, rfl⟩ := List.getElem?_eq_some_iff.1 hx
  have h1 : i < cs.size := by rw [h.1]; exact hl
  exact ⟨cs[i], Array.getElem?_eq_getElem h1, h.2 i h1 hl, h.3 i h1⟩

theorem RA.mk' {cs : Array Value} {l : List AV} (hs : cs.size = l.length) (h : ∀ (i : Nat) (u : Value) (x : AV), cs[i]? = some u → l[i]? = some x → R β st w u x ∧ u.oneCell' = true) : RA β st w cs l :=
  ⟨hs, fun i h1 h2 => (h i _ _ (Array.getElem?_eq_getElem h1) (List.getElem?_eq_getElem h2)).1, fun i h1 => (h i _ _ (Array.getElem?_eq_getElem h1) (List.getElem?_eq_getElem (by omega))).2⟩

theorem RA_one {u : Value} {x : AV} (hu : u.oneCell' = true) (h : R β st w u x) : RA β st w u.cells [x] := by
  rw [cells_one hu]
  refine ⟨rfl, fun i h1 h2 => ?_, fun i h1 => ?_⟩
  · have : i = 0 := by simp at h2; omega
    subst this
    exact h
  · have : i = 0 := by simp at h1; omega
    subst this
    exact hu

theorem RA.agg {cs : Array Value} {l : List AV} (h : RA β st w cs l) : R β st w (.agg cs) (.agg l) := .agg h.1 h.3 h.2

/-- What can be stored, in one cell or in several. -/
theorem RA_vcells {v : Value} {x : AV} {l : List AV} (h : R β st w v x) (hl : vcells x = some l) : RA β st w v.cells l := by
  cases h with
  | agg hs ho h =>
    simp only [vcells, Option.some.injEq] at hl
    subst hl
    exact ⟨by simpa [Value.cells] using hs, by simpa [Value.cells] using h, by simpa [Value.cells] using ho⟩
  | d h =>
    cases h with
    | v =>
      cases v <;> simp only [vcells, Option.some.injEq, reduceCtorEq] at hl <;> (subst hl; exact RA_one rfl (.d (.v _)))
    | sl ad cap k els c hk hcap hc hr =>
      simp only [vcells, Option.some.injEq] at hl
      subst hl
      exact RA_one rfl (.d (.sl ad cap k els c hk hcap hc hr))
  | junk => simp [vcells] at hl
  | anyp => simp [vcells] at hl
  | tup hs h => simp [vcells] at hl
  | row hq h hn hv =>
    simp only [vcells, Option.some.injEq] at hl
    subst hl
    exact RA_one (by obtain ⟨_, _, _, rfl⟩ := hv; rfl) (.row hq h hn hv)
  | ptr hq h hn hv =>
    simp only [vcells, Option.some.injEq] at hl
    subst hl
    exact RA_one (by obtain ⟨_, rfl⟩ := hv; rfl) (.ptr hq h hn hv)
  | iptr hm hc hr =>
    simp only [vcells, Option.some.injEq] at hl
    subst hl
    exact RA_one rfl (.iptr hm hc hr)
  | it hq hv hn h =>
    simp only [vcells, Option.some.injEq] at hl
    subst hl
    exact RA_one (by obtain ⟨_, rfl⟩ := hv; rfl) (.it hq hv hn h)
  | fn hsa hsc ha hc =>
    simp only [vcells, Option.some.injEq] at hl
    subst hl
    exact RA_one rfl (.fn hsa hsc ha hc)
  | iface h =>
    simp only [vcells, Option.some.injEq] at hl
    subst hl
    exact RA_one rfl (.iface h)

/-! ### Building a struct -/
theorem fold_set (off : Nat) : ∀ (l : List Value) (s : Nat) (cells : Array Value) (i : Nat), off + s + l.length ≤ cells.size →
    ((l.zipIdx s).foldl (fun cs p => cs.setIfInBounds (off + p.2) p.1) cells).size = cells.size ∧
    ((l.zipIdx s).foldl (fun cs p => cs.setIfInBounds (off + p.2) p.1) cells)[i]? = if off + s ≤ i ∧ i < off + s + l.length then l[i - (off + s)]? else cells[i]? := by
  intro l
  induction l with
  | nil => intro s cells i h; simp; intro h1 h2; omega
  | cons v l ih =>
    intro s cells i h
    simp only [List.length_cons] at h
    simp only [List.zipIdx_cons, List.foldl_cons]
    obtain ⟨h1, h2⟩ := ih (s + 1) (cells.setIfInBounds (off + s) v) i (by simp; omega)
    refine ⟨by simpa using h1, ?_⟩
    rw [h2]
    by_cases hi : i = off + s
    · subst hi
      rw [if_neg (by omega), if_pos (by simp)]
      have : off + s < cells.size := by omega
      simp [this]
    · by_cases hj : off + (s + 1) ≤ i ∧ i < off + (s + 1) + l.length
      · rw [if_pos hj, if_pos (by simp; omega)]
        obtain ⟨n, hn⟩ : ∃ n, i - (off + s) = n + 1 := ⟨i - (off + s) - 1, by omega⟩
        rw [hn, List.getElem?_cons_succ]
        congr 1; omega
      · rw [if_neg hj, if_neg (by simp; omega)]
        simp [Array.getElem?_setIfInBounds, Ne.symm hi]

theorem splice_get (l m : List AV) (off i : Nat) (h : off + m.length ≤ l.length) :
    (splice l off m).length = l.length ∧ (splice l off m)[i]? = if off ≤ i ∧ i < off + m.length then m[i - off]? else l[i]? := by
  unfold splice
  refine ⟨by simp; omega, ?_⟩
  by_cases h1 : i < off
  · rw [if_neg (by omega), List.getElem?_append_left (by simp; omega), List.getElem?_take_of_lt h1]
  · rw [List.getElem?_append_right (by simp; omega)]
    simp only [List.length_take]
    rw [show min off l.length = off by omega]
    by_cases h2 : i < off + m.length
    · rw [if_pos ⟨by omega, h2⟩, List.getElem?_append_left (by omega)]
    · rw [if_neg (by omega), List.getElem?_append_right (by omega), List.getElem?_drop]
      congr 1; omega

theorem RA_splice {cs : Array Value} {l m : List AV} {vs : Array Value} (off : Nat) (h : RA β st w cs l) (hm : RA β st w vs m) (hle : off + m.length ≤ l.length) :
    RA β st w (vs.zipIdx.foldl (fun cs p => cs.setIfInBounds (off + p.2) p.1) cs) (splice l off m) := by
  have e : vs.zipIdx.foldl (fun cs p => cs.setIfInBounds (off + p.2) p.1) cs = (vs.toList.zipIdx 0).foldl (fun cs p => cs.setIfInBounds (off + p.2) p.1) cs := by
    rw [← Array.foldl_toList, Array.toList_zipIdx]
  have hsz : vs.toList.length = m.length := by simpa using hm.1
  have h0 := h.1
  have hs := fun i => fold_set off vs.toList 0 cs i (by omega)
  rw [e]
  refine RA.mk' (by rw [(hs 0).1, (splice_get l m off 0 hle).1, h0]) (fun i u x hu hx => ?_)
  rw [(hs i).2] at hu
  rw [(splice_get l m off i hle).2] at hx
  simp only [Nat.add_zero, hsz] at hu
  split at hu
  · rename_i hc
    rw [if_pos hc] at hx
    obtain ⟨u', h1, h2, h3⟩ := hm.get hx
    rw [Array.getElem?_toList] at hu
    rw [h1] at hu
    cases hu
    exact ⟨h2, h3⟩
  · rename_i hc
    rw [if_neg hc] at hx
    obtain ⟨u', h1, h2, h3⟩ := h.get hx
    rw [h1] at hu
    cases hu
    exact ⟨h2, h3⟩

theorem fill_sound (place : Nat → Option (Nat × Nat)) : ∀ (ps : List (Nat × Value)) (aps : List (Nat × Nat × AV)) (cs : Array Value) (l l' : List AV), RA β st w cs l →
    ps.length = aps.length → (∀ (i : Nat) p ap, ps[i]? = some p → aps[i]? = some ap → place p.1 = some (ap.1, ap.2.1) ∧ R β st w p.2 ap.2.2) → afill l aps = some l' →
    ∃ cs', Instr.fill place cs ps = some cs' ∧ RA β st w cs' l' := by
  intro ps
  induction ps with
  | nil =>
    intro aps cs l l' h hl _ hf
    cases aps with
    | nil => simp only [afill, Option.some.injEq] at hf; subst hf; exact ⟨cs, rfl, h⟩
    | cons a aps => simp at hl
  | cons p ps ih =>
    intro aps cs l l' h hl hp hf
    cases aps with
    | nil => simp at hl
    | cons ap aps =>
      obtain ⟨off, s, x⟩ := ap
      obtain ⟨hplace, hr⟩ := hp 0 p (off, s, x) rfl rfl
      simp only [afill] at hf
      cases hv : vcells x with
      | none => simp [hv] at hf
      | some m =>
        simp only [hv] at hf
        split at hf
        · rename_i hc
          obtain ⟨rfl, hle⟩ := hc
          have hra := RA_vcells hr hv
          obtain ⟨i, v⟩ := p
          dsimp only at hra hplace
          have hsz := hra.1
          have hcs := h.1
          have hn : ¬ (v.cells.size ≠ m.length ∨ off + v.cells.size > cs.size) := by omega
          obtain ⟨cs', h1, h2⟩ := ih aps _ _ l' (RA_splice off h hra hle) (by simpa using hl) (fun i p ap h1 h2 => hp (i + 1) p ap (by simpa using h1) (by simpa using h2)) hf
          refine ⟨cs', ?_, h2⟩
          simp only [Instr.fill, hplace]
          rw [if_neg (by simpa using hn)]
          exact h1
        · cases hf

theorem zero_ra {zv : Value} (ho : ∀ i (hi : i < zv.cells.size), zv.cells[i].oneCell' = true) : RA β st w zv.cells (zv.cells.toList.map fun c => AV.d (.v c)) :=
  RA.mk' (by simp) (fun i u x hu hx => by
    simp only [List.getElem?_map, Array.getElem?_toList, hu, Option.map_some, Option.some.injEq] at hx
    subst hx
    obtain ⟨h1, h2⟩ := Array.getElem?_eq_some_iff.1 hu
    exact ⟨.d (.v _), h2 ▸ ho i h1⟩)

theorem zero_RA {t : TypeId} {z : List AV} (h : zeroAV P t = some z) (w' : World) : ∃ zv, (zeroValue t).run P w' = .ok zv w' ∧ RA β st w zv.cells z := by
  obtain ⟨i, zv, hi, hz, rfl, ho⟩ := zeroAV_info h
  refine ⟨zv, by simp [zeroValue, typeInfo, hi, hz], zero_ra ho⟩

end Go.Eng
