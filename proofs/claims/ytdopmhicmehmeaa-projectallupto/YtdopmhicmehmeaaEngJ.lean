/-
  Part of the proof that the law ProjectAll returns true at every input of bulk at most 1048576, and leaves its arguments as they were; the whole is stated at the end of the last text.
-/
import Derived.Test.YtdopmhicmehmeaaEngI
import Derived.Laws.BytesString
/-
  THE ENGINE, PART 10: bytes of texts, make, append, copy, clear.
-/
set_option linter.unusedVariables false
set_option linter.unusedSimpArgs false
namespace Go.Eng
open Go

variable {P : Program} {β : Emb} {st : St} {w : World}

/-- A row of elements out of memory, as an array of cells. -/
theorem RE_of {k n : Nat} {els : List (List AV)} (hn : els.length = n) (hw : ∀ i (hi : i < els.length), els[i].length = k) (f : Nat → Value)
    (h : ∀ (i j : Nat) x, i < els.length → (els[i]?.bind (·[j]?)) = some x → R β st w (f (i * k + j)) x ∧ (f (i * k + j)).oneCell' = true) : RE β st w k ((List.range (n * k)).map f).toArray els := by
  refine ⟨by simp [hn], hw, fun i j v x hi hx hv => ?_⟩
  have hj : j < k := by
    rw [List.getElem?_eq_getElem hi, Option.bind_some] at hx
    rw [← hw i hi]; exact (List.getElem?_eq_some_iff.1 hx).1
  have := idx_lt (by omega : i < n) hj
  simp only [List.getElem?_toArray, List.getElem?_map, List.getElem?_range this, Option.map_some, Option.some.injEq] at hv
  subst hv
  exact h i j x hi hx

theorem take_get {α : Type} (l : List α) (m i : Nat) (h : i < (l.take m).length) : i < l.length ∧ (l.take m)[i]? = l[i]? := by
  simp only [List.length_take] at h
  exact ⟨by omega, by rw [List.getElem?_take_of_lt (by omega)]⟩

/-- Cells in a block, from place o on, that read as elements. -/
theorem run_first_block {b o k len m : Nat} {els : List (List AV)} {cap : Nat} (hw : ∀ i (hi : i < els.length), els[i].length = k) (hm : m ≤ els.length)
    (h : ∀ (i j : Nat) (hi : i < els.length) (hj : j < k), ∃ v, w.cell? ⟨b, o + (i * k + j), none⟩ = some v ∧ v.oneCell' = true ∧ ∀ x, els[i][j]? = some x → R β st w v x) :
    ∃ cs, (Builtin.firstCells k m (.slice (some ⟨b, o, none⟩) len cap)).run P w = .ok cs w ∧ RE β st w k cs (els.take m) := by
  have hch : ∀ p, ∃ v, p < els.length * k → w.cell? ⟨b, o + p, none⟩ = some v ∧ v.oneCell' = true ∧ ∀ (i j : Nat) (hi : i < els.length) (hj : j < k) x, p = i * k + j → els[i][j]? = some x → R β st w v x := by
    intro p
    by_cases hp : p < els.length * k
    · have hk : 0 < k := by
        rcases Nat.eq_zero_or_pos k with h0 | h0
        · subst h0; simp at hp
        · exact h0
      have hi : p / k < els.length := Nat.div_lt_of_lt_mul (by rw [Nat.mul_comm]; exact hp)
      have hj : p % k < k := Nat.mod_lt _ hk
      obtain ⟨v, h1, h1c, h2⟩ := h (p / k) (p % k) hi hj
      have e : p / k * k + p % k = p := by rw [Nat.mul_comm]; exact Nat.div_add_mod p k
      rw [e] at h1
      refine ⟨v, fun _ => ⟨h1, h1c, fun i j hi' hj' x hpe hx => h2 x ?_⟩⟩
      have e1 : p / k = i := by
        rw [hpe, Nat.mul_comm, Nat.mul_add_div hk, Nat.div_eq_of_lt hj']; omega
      have e2 : p % k = j := by
        rw [hpe, Nat.mul_comm, Nat.mul_add_mod, Nat.mod_eq_of_lt hj']
      simp only [e1, e2]
      exact hx
    · exact ⟨undef, fun h => absurd h hp⟩
  obtain ⟨f, hf⟩ := Classical.axiomOfChoice hch
  have hmk : m * k ≤ els.length * k := Nat.mul_le_mul_right k hm
  refine ⟨_, run_loadCells w ⟨b, o, none⟩ (m * k) f (fun j hj => by rw [add_off]; exact (hf j (by omega)).1), RE_of (by simp; omega) (fun i hi => by simp only [List.getElem_take]; exact hw i _) f (fun i j x hi hx => ?_)⟩
  obtain ⟨hi', e⟩ := take_get els m i hi
  rw [e, List.getElem?_eq_getElem hi', Option.bind_some] at hx
  have hj : j < k := by rw [← hw i hi']; exact (List.getElem?_eq_some_iff.1 hx).1
  have := idx_lt hi' hj
  exact ⟨(hf (i * k + j) (by omega)).2.2 i j hi' hj x rfl hx, (hf (i * k + j) (by omega)).2.1⟩

theorem RE_nil (k : Nat) : RE β st w k #[] [] := ⟨by simp, fun i hi => by simp at hi, fun i j v x hi => by simp at hi⟩

theorem RE_empty {k : Nat} {cs : Array Value} (h : cs.size = 0) : RE β st w k cs [] := ⟨by simpa using h, fun i hi => by simp at hi, fun i j v x hi => by simp at hi⟩

theorem run_first_zero (k : Nat) (v : Value) (h : ∃ ad n c, v = .slice ad n c) : (Builtin.firstCells k 0 v).run P w = .ok #[] w := by
  obtain ⟨ad, n, c, rfl⟩ := h
  cases ad with
  | none => rfl
  | some a => simp [Builtin.firstCells, loadCells, loadCellsFrom]

/-- What a slice holds, run. -/
theorem run_elems {x : AV} {v : Value} {k : Nat} {L : List (List AV)} (H : HRel β st w) (hr : R β st w v x) (hL : elemsOf st x = some L) (hk : ∀ e ∈ L, e.length = k) (hk0 : 0 < k) :
    (∃ ad c, v = .slice ad L.length c) ∧ ∀ m, m ≤ L.length → ∃ cs, (Builtin.firstCells k m v).run P w = .ok cs w ∧ RE β st w k cs (L.take m) := by
  have zero : ∀ v : Value, (∃ ad n c, v = .slice ad n c) → ∀ m, m ≤ ([] : List (List AV)).length → ∃ cs, (Builtin.firstCells k m v).run P w = .ok cs w ∧ RE β st w k cs (([] : List (List AV)).take m) := by
    intro v hv m hm
    have : m = 0 := by simpa using hm
    subst this
    exact ⟨_, run_first_zero k v hv, by simpa using RE_nil k⟩
  unfold elemsOf at hL
  split at hL
  · cases hL
    have e := R_v hr
    subst e
    exact ⟨⟨_, _, rfl⟩, zero _ ⟨_, _, _, rfl⟩⟩
  · rename_i k' els
    cases hL
    obtain ⟨ad, cap, c, rfl, hw, hcap, hc, hrr⟩ := (R_d hr).sl_inv
    refine ⟨⟨ad, cap, by simp⟩, fun m hm => ?_⟩
    cases hels : els with
    | nil =>
      subst hels
      simp only [List.map_nil] at hm ⊢
      exact zero _ ⟨_, _, _, rfl⟩ m hm
    | cons e0 er =>
      have hne : 0 < els.length := by rw [hels]; simp
      have hkk : k' = k := by
        rw [← hw 0 hne]
        have := hk (els[0].map AV.d) (List.mem_map.2 ⟨els[0], List.getElem_mem hne, rfl⟩)
        simpa using this
      subst hkk
      rw [← hels]
      · obtain ⟨b, o, rfl, _, _⟩ := hc 0 0 hne hk0
        refine run_first_block (by simpa using hw) hm (fun i j hi hj => ?_)
        simp only [List.length_map] at hi
        obtain ⟨b', o', e, _, hcell, h1c⟩ := hc i j hi hj
        cases e
        refine ⟨_, hcell, h1c, fun x hx => ?_⟩
        simp only [List.getElem_map, List.getElem?_map, Option.map_eq_some_iff] at hx
        obtain ⟨d, hd, rfl⟩ := hx
        obtain ⟨hlt, rfl⟩ := List.getElem?_eq_some_iff.1 hd
        exact .d (hrr i j hi hlt)
  · rename_i q ver off len
    split at hL
    · rename_i ver' k' tq' els hq
      split at hL
      · rename_i hver
        subst hver
        cases hL
        obtain ⟨hle, ad, cap, rfl, hcap, hcp, hbk⟩ := R_row_inv hr hq
        have hlen : ((els.drop off).take len).length = len := by simp; omega
        refine ⟨⟨ad, cap, by rw [hlen]⟩, fun m hm => ?_⟩
        rw [hlen] at hm
        rcases Nat.eq_zero_or_pos len with hl0 | hl0
        · have : m = 0 := by omega
          subst this
          exact ⟨_, run_first_zero k _ ⟨_, _, _, rfl⟩, by simpa using RE_nil k⟩
        · obtain ⟨b, a, hb, rfl, c, T, fr, hc, hsz⟩ := hcp (by omega)
          have hkk : k' = k := by
            have h1 := H.width q ver k' tq' els hq off (by omega)
            rw [← h1]
            refine hk _ ?_
            refine List.mem_iff_getElem.2 ⟨0, by omega, ?_⟩
            simp
          subst hkk
          refine run_first_block (fun i hi => ?_) (by omega) (fun i j hi hj => ?_)
          · simp only [List.getElem_take, List.getElem_drop]
            exact H.width q ver k' tq' els hq _ _
          · rw [hlen] at hi
            obtain ⟨v, x, h1, h2, h3, h4⟩ := H.cell hq hb (i := off + i) (by omega) hj
            refine ⟨v, by rw [← h2]; congr 2; rw [Nat.add_mul]; omega, h4, fun x' hx' => ?_⟩
            simp only [List.getElem_take, List.getElem_drop] at hx'
            rw [h1] at hx'
            cases hx'
            exact h3
      · cases hL
    · cases hL
  · cases hL

/-! ### Texts and bytes -/
theorem u8s_length (l : List UInt8) : (u8s l).length = l.length := by simp [u8s]
theorem u8s_width (l : List UInt8) : ∀ e ∈ u8s l, e.length = 1 := by
  intro e he
  simp only [u8s, List.mem_map] at he
  obtain ⟨b, _, rfl⟩ := he
  rfl

theorem RE_u8s {cs : Array Value} {l : List UInt8} (h : cs.size = l.length) (hc : ∀ (i : Nat) (hi : i < l.length), cs[i]? = some (.int .u8 l[i].toNat)) : RE β st w 1 cs (u8s l) := by
  refine ⟨by simp [u8s_length, h], fun i hi => u8s_width l _ (List.getElem_mem hi), fun i j v x hi hx hv => ?_⟩
  rw [u8s_length] at hi
  simp only [u8s, List.getElem?_map, List.getElem?_eq_getElem hi, Option.map_some, Option.bind_some] at hx
  have hj : j = 0 := by
    have := (List.getElem?_eq_some_iff.1 hx).1
    simpa using this
  subst hj
  simp at hx
  subst hx
  simp only [Nat.mul_one, Nat.add_zero, hc i hi, Option.some.injEq] at hv
  subst hv
  exact ⟨.d (.v _), rfl⟩

theorem u8s_vals {cs : Array Value} {l : List UInt8} (h : RE β st w 1 cs (u8s l)) : cs = (l.map fun b => Value.int .u8 b.toNat).toArray := by
  obtain ⟨h1, _, h3⟩ := h
  rw [u8s_length] at h1
  apply Array.ext
  · simpa using h1
  · intro i hi1 hi2
    have hil : i < l.length := by simpa using hi2
    have := h3 i 0 cs[i] (.d (.v (.int .u8 l[i].toNat))) (by rw [u8s_length]; exact hil) (by simp [u8s, List.getElem?_eq_getElem hil]) (by simp [Array.getElem?_eq_getElem hi1])
    rw [R_v this.1]
    simp

theorem fold_bytes (l : List UInt8) : ∀ acc : ByteArray, (l.map fun b => (b.toNat : Int)).foldl (fun r n => r.push (UInt8.ofNat n.toNat)) acc = ⟨acc.data ++ l.toArray⟩ := by
  induction l with
  | nil => intro acc; simp
  | cons b l ih =>
    intro acc
    simp only [List.map_cons, List.foldl_cons, ih]
    congr 1
    simp [ByteArray.push]

theorem snd_b2s {s t e : TypeId} {X : RX} {ρ : RX → AV} {K : AV → St → Prop} {a : Value} (hs : P.underlying s = some (.slice e)) (he : P.underlying e = some (.int .u8)) (ht : P.underlying t = some .string) (H : HRel β st w) (hx : R β st w a (ρ X))
    (h : aexec P (.b2s X) ρ st K) : UponOK P β st w K ((do pure (.value (← convert s t a)) : Sem Next).run P w) := by
  simp only [aexec] at h
  split at h
  · rename_i h1
    rw [h1] at hx
    have e1 := R_v hx
    subst e1
    refine upon_val (u := .string .empty) (w' := w) ?_ (Good.same H h (.d (.v _)))
    rw [run_convert_bytes_string w s t e _ _ _ hs he ht]
    rfl
  · rename_i x hne
    obtain ⟨l, hl, hK⟩ := h
    obtain ⟨⟨ad, c, rfl⟩, hrun⟩ := run_elems H hx hl (u8s_width l) (by omega)
    obtain ⟨cs, h1, h2⟩ := hrun (u8s l).length (Nat.le_refl _)
    rw [List.take_length] at h2
    refine upon_val (u := .string ⟨l.toArray⟩) (w' := w) ?_ (Good.same H hK (.d (.v _)))
    rw [run_convert_bytes_string w s t e _ _ _ hs he ht]
    cases ad with
    | none =>
      have : l = [] := by
        simp only [Builtin.firstCells, Sem.run_pure, Result.ok.injEq, and_true] at h1
        have := h2.1
        rw [← h1, u8s_length] at this
        simpa using this.symm
      subst this
      rfl
    | some ad =>
      simp only [Builtin.firstCells, u8s_length, Nat.mul_one] at h1
      rw [u8s_vals h2] at h1
      rw [u8s_length, run_bytesToString w ad l.length c (l.map fun b => (b.toNat : Int)) (by rw [h1]; simp [Function.comp_def])]
      rw [fold_bytes, show ByteArray.empty.data = #[] from rfl, Array.empty_append]

theorem freeze_push (heap : Array Go.Obj) (cs : Array Value) (e : TypeId) (cap : Nat) (tape : Nat → Question → Nat) (dr : Nat) (os : Os) (out : Array (Nat × ByteArray)) :
    (⟨heap.push (.cells cs e), tape, dr, os, out⟩ : World).freeze ⟨heap.size, cap, none⟩ 1 = ⟨heap.push (.cells cs e (cap, cap + 1)), tape, dr, os, out⟩ := by
  unfold World.freeze
  rw [if_neg (by omega)]
  congr 1
  apply Array.ext
  · simp
  · intro i h1 h2
    simp only [Array.getElem_modify, Array.getElem_push]
    by_cases hi : heap.size = i
    · subst hi
      simp
    · have : i < heap.size := by simp at h2; omega
      simp [hi, this]

theorem snd_s2b {s t e : TypeId} {X : RX} {ρ : RX → AV} {K : AV → St → Prop} {a : Value} (hs : P.underlying s = some .string) (ht : P.underlying t = some (.slice e)) (he : P.underlying e = some (.int .u8)) (H : HRel β st w) (hx : R β st w a (ρ X))
    (h : aexec P (.s2b e X) ρ st K) : UponOK P β st w K ((do pure (.value (← convert s t a)) : Sem Next).run P w) := by
  simp only [aexec] at h
  split at h
  · rename_i str h1
    rw [h1] at hx
    have e1 := R_v hx
    subst e1
    have hlen : str.data.toList.length = str.size := by rw [Array.length_toList]; rfl
    generalize hq : (Question.appendCap str.size 0 e) = q
    have hcut : ∃ cap, q.cut (w.tape w.drawn q) = cap ∧ str.size ≤ cap := ⟨_, rfl, by rw [← hq]; exact Nat.le_add_right _ _⟩
    obtain ⟨cap, hc1, hc2⟩ := hcut
    have hfr : q.forced = false := by rw [← hq]; rfl
    have hK : K (.row st.nx 0 0 (u8s str.data.toList).length) (st.new (.row 0 1 e (u8s str.data.toList))) := by rw [u8s_length, hlen]; exact h
    obtain ⟨cs, hcsd⟩ : ∃ cs : Array Value, cs = (str.data.map fun b => Value.int .u8 b.toNat) ++ Array.replicate (cap - str.size) (.int .u8 0) := ⟨_, rfl⟩
    have hcs : cs.size = cap := by
      have e : str.data.size = str.size := rfl
      simp only [hcsd, Array.size_append, Array.size_map, Array.size_replicate, e]
      omega
    have hg := good_newrow (t := e) (cs := cs) (k := 1) (cap := cap) (els := u8s str.data.toList) (fr := (cap, cap + 1)) (K := K) H (by rw [u8s_length, hlen]; exact hc2) (by omega) (fun i hi h => by omega)
      (fun i hi => u8s_width _ _ (List.getElem_mem hi)) (fun i j v x hi hx hv => by
        rw [u8s_length] at hi
        simp only [u8s, List.getElem?_map, List.getElem?_eq_getElem hi, Option.map_some, Option.bind_some] at hx
        have hj : j = 0 := by
          have := (List.getElem?_eq_some_iff.1 hx).1
          simpa using this
        subst hj
        simp at hx
        subst hx
        have hi' : i < str.data.size := by simpa using hi
        simp only [Nat.mul_one, Nat.add_zero, hcsd] at hv
        rw [Array.getElem?_append_left (by simpa using hi')] at hv
        simp only [Array.getElem?_map, Array.getElem?_eq_getElem hi', Option.map_some, Option.some.injEq] at hv
        subst hv
        exact ⟨.d (.v _), rfl⟩) (w.drawn + 1) hK
    rw [u8s_length, hlen] at hg
    refine upon_val ?_ hg
    have hst : (Conv.stringToBytes e str).run P w = .ok (.slice (some ⟨w.heap.size, 0, none⟩) str.size cap) { w.alloc (.cells cs e (cap, cap + 1)) with drawn := w.drawn + 1 } := by
      simp only [Conv.stringToBytes, Sem.run_bind, run_choose, hq, hfr, Bool.false_eq_true, if_false, hc1, Result.andThen_ok, newRow, run_newObj, Sem.run_pure, ← hcsd]
      simp only [markStringish, Sem.run_bind, run_shape, Result.andThen_ok]
      have hsh : ({ heap := w.heap.push (Go.Obj.cells cs e), tape := w.tape, drawn := w.drawn + 1, os := w.os, output := w.output } : World).shape? w.heap.size = some (e, cap) := by
        simp only [World.shape?, Array.getElem?_push, if_true, hcs]
      simp only [hsh, run_freeze, Result.andThen_ok, freeze_push]
      rfl
    simp only [convert, Sem.run_bind, run_und hs, run_und ht, run_und he, Result.andThen_ok, hst]
  · exact h.elim

end Go.Eng
