/-
  Part of the proof that the law ProjectAll returns true at every input of bulk at most 1048576, and leaves its arguments as they were; the whole is stated at the end of the last text.
-/
import Derived.Test.YtdopmhicmehmeaaEngB
import Derived.Laws.Cells
import Derived.Laws.Slices
/-
  THE ENGINE, PART 3: each operation on abstract values is what the machine does: the quiet ones.
-/
set_option linter.unusedVariables false
set_option linter.unusedSimpArgs false
namespace Go.Eng
open Go

variable {P : Program} {β : Emb} {st : St} {w : World}

theorem idx_lt {n k i j : Nat} (hi : i < n) (hj : j < k) : i * k + j < n * k := by
  have : (i + 1) * k ≤ n * k := Nat.mul_le_mul_right k (by omega)
  rw [Nat.succ_mul] at this
  omega

theorem sizeT_info {t : TypeId} {k : Nat} (h : sizeT P t = some k) : ∃ i, P.info? t = some i ∧ i.size = k := by
  unfold sizeT at h
  cases hi : P.info? t with
  | none => simp [hi] at h
  | some i => exact ⟨i, rfl, by simpa [hi] using h⟩
theorem bytesT_info {t : TypeId} {k : Nat} (h : bytesT P t = some k) : ∃ i, P.info? t = some i ∧ i.bytes = k := by
  unfold bytesT at h
  cases hi : P.info? t with
  | none => simp [hi] at h
  | some i => exact ⟨i, rfl, by simpa [hi] using h⟩
theorem zeroAV_info {t : TypeId} {l : List AV} (h : zeroAV P t = some l) : ∃ i z, P.info? t = some i ∧ i.zero = some z ∧ l = (z.cells.toList.map fun c => AV.d (.v c)) ∧ ∀ i (hi : i < z.cells.size), z.cells[i].oneCell' = true := by
  unfold zeroAV at h
  cases hi : P.info? t with
  | none => simp [hi] at h
  | some i =>
    cases hz : i.zero with
    | none => simp [hi, hz] at h
    | some z =>
      simp only [hi, hz, Option.bind_some] at h
      split at h
      · rename_i ho
        exact ⟨i, z, rfl, hz, (Option.some.inj h).symm, Array.all_eq_true.1 ho⟩
      · cases h

theorem run_size {t : TypeId} {k : Nat} (h : sizeT P t = some k) (w : World) : (sizeOf t).run P w = .ok k w := by
  obtain ⟨i, hi, rfl⟩ := sizeT_info h
  simp [sizeOf, typeInfo, hi]
theorem run_und {t : TypeId} {d : TypeDesc} (h : P.underlying t = some d) (w : World) : (underlying t).run P w = .ok d w := by
  simp [underlying, h]
theorem run_ag {t : TypeId} {d : TypeDesc} (h : P.underlying t = some d) (w : World) : (isAgg t).run P w = .ok (agD d) w := by
  simp only [isAgg, Sem.run_bind, run_und h, Result.andThen_ok]
  cases d <;> rfl

theorem R_ofVal (v : Value) : R β st w v (ofVal v) := by
  unfold ofVal
  split
  · rename_i cs
    split
    · rename_i ho
      refine .agg (by simp) (fun i h1 => ?_) (fun i h1 h2 => ?_)
      · exact (Array.all_eq_true.1 ho) i h1
      · simp only [List.getElem_map, Array.getElem_toList]
        exact .d (.v _)
    · exact .junk
  · exact .d (.v _)

theorem R_d {v : Value} {x : D} (h : R β st w v (.d x)) : Reads (Mut β st.h) w v x := by cases h; assumption
theorem Reads.sl_inv {M : Nat → Prop} {v : Value} {k : Nat} {els : List (List D)} (h : Reads M w v (.sl k els)) : ∃ (ad : Option Addr) (cap : Nat) (c : Nat → Nat → Value), v = .slice ad els.length cap ∧
    (∀ i (hi : i < els.length), els[i].length = k) ∧ els.length ≤ cap ∧
    (∀ i j, i < els.length → j < k → ∃ b o, ad = some ⟨b, o, none⟩ ∧ ¬ M b ∧ w.cell? ⟨b, o + (i * k + j), none⟩ = some (c i j) ∧ (c i j).oneCell' = true) ∧
    (∀ i j (hi : i < els.length) (hj : j < els[i].length), Reads M w (c i j) els[i][j]) := by
  cases h with
  | sl ad cap k els c hk hcap hc hr => exact ⟨ad, cap, c, rfl, hk, hcap, hc, hr⟩

theorem R_v {v x : Value} (h : R β st w v (.d (.v x))) : v = x := by
  cases h with
  | d h => cases h; rfl

/-- The cell of a live row. -/
theorem HRel.cell (H : HRel β st w) {q : Int} {ver k : Nat} {tq : TypeId} {els : List (List AV)} (hq : st.h q = some (.row ver k tq els)) {b a : Nat} (hb : β q = some (b, a)) {i j : Nat}
    (hi : i < els.length) (hj : j < k) : ∃ v x, els[i][j]? = some x ∧ w.cell? ⟨b, a + i * k + j, none⟩ = some v ∧ R β st w v x ∧ v.oneCell' = true := by
  obtain ⟨c, fr, hc, hs, _, hw, hr⟩ := H.row q ver k tq els b a hq hb
  have h1 := idx_lt hi hj
  have h2 : a + i * k + j < c.size := by omega
  have h3 : j < els[i].length := by rw [hw i hi]; exact hj
  refine ⟨c[a + i * k + j], els[i][j], List.getElem?_eq_getElem h3, ?_, hr i j _ _ hi ?_ (Array.getElem?_eq_getElem h2)⟩
  · simp [World.cell?, hc, h2]
  · simp [List.getElem?_eq_getElem hi, List.getElem?_eq_getElem h3]

theorem R_ptr_inv {v : Value} {q : Int} {ver i j k : Nat} {tq : TypeId} {els : List (List AV)} (h : R β st w v (.ptr q ver i j)) (hq : st.h q = some (.row ver k tq els)) :
    i < els.length ∧ j ≤ k ∧ ∃ b a, β q = some (b, a) ∧ v = .pointer (some ⟨b, a + i * k + j, none⟩) := by
  cases h with
  | ptr _ h _ _ => exact (h _ _ _ _ hq).2 rfl

theorem R_row_inv {v : Value} {q : Int} {ver off len k : Nat} {tq : TypeId} {els : List (List AV)} (h : R β st w v (.row q ver off len)) (hq : st.h q = some (.row ver k tq els)) :
    off + len ≤ els.length ∧ SliceAt β w q k off len v := by
  cases h with
  | row _ h _ _ => exact (h _ _ _ _ hq).2 rfl

theorem add_off (b o n : Nat) : (⟨b, o, none⟩ : Addr).add n = ⟨b, o + n, none⟩ := by
  unfold Addr.add; split <;> simp_all

/-- A piece of an array of cells. -/
theorem R_piece {k : Nat} {l : List AV} {f : Nat → Value} (hk : k ≤ l.length) (h : ∀ j (hj : j < k), R β st w (f j) (l[j]'(by omega)) ∧ (f j).oneCell' = true) :
    R β st w (.agg ((List.range k).map f).toArray) (.agg (l.take k)) := by
  refine .agg (by simp; omega) (fun i h1 => ?_) (fun i h1 h2 => ?_)
  · simp only [List.getElem_toArray, List.getElem_map, List.getElem_range]
    exact (h i (by simp at h1; omega)).2
  · simp only [List.getElem_toArray, List.getElem_map, List.getElem_range, List.getElem_take]
    exact (h i (by simp at h1; omega)).1

/-- A load, out of whatever cells read so. -/
theorem load_cells {t : TypeId} {d : TypeDesc} {k : Nat} (hd : P.underlying t = some d) (hk : sizeT P t = some k) {b o : Nat} {cells : List AV} {v : AV}
    (hc : ∀ j (hj : j < cells.length), ∃ u, w.cell? ⟨b, o + j, none⟩ = some u ∧ R β st w u cells[j] ∧ u.oneCell' = true) (hv : loadC (agD d) k cells = some v) :
    ∃ u, (Instr.loadAt t (.pointer (some ⟨b, o, none⟩))).run P w = .ok u w ∧ R β st w u v := by
  unfold loadC at hv
  cases hag : agD d with
  | true =>
    simp only [hag, if_true] at hv
    split at hv
    · rename_i hle
      cases hv
      have hch : ∀ j, ∃ u, j < cells.length → ∃ hj : j < cells.length, w.cell? ⟨b, o + j, none⟩ = some u ∧ R β st w u cells[j] ∧ u.oneCell' = true := by
        intro j
        by_cases hj : j < cells.length
        · obtain ⟨u, h1, h2⟩ := hc j hj
          exact ⟨u, fun _ => ⟨hj, h1, h2⟩⟩
        · exact ⟨undef, fun h => absurd h hj⟩
      obtain ⟨f, hf⟩ := Classical.axiomOfChoice hch
      have hl := run_loadCells (P := P) w ⟨b, o, none⟩ k f (fun j hj => by rw [add_off]; exact (hf j (by omega)).2.1)
      refine ⟨_, ?_, R_piece hle (fun j hj => (hf j (by omega)).2.2)⟩
      simp [Instr.loadAt, Instr.sureAddr, loadVar, run_ag hd, hag, run_size hk, hl]
    · cases hv
  | false =>
    simp only [hag, Bool.false_eq_true, if_false] at hv
    cases cells with
    | nil => simp at hv
    | cons x l =>
      simp only [List.head?_cons, Option.some.injEq] at hv
      subst hv
      obtain ⟨u, h1, h2, _⟩ := hc 0 (by simp)
      refine ⟨u, ?_, by simpa using h2⟩
      simp only [Nat.add_zero] at h1
      simp [Instr.loadAt, Instr.sureAddr, loadVar, run_ag hd, hag, h1]

theorem snd_load {t : TypeId} {d : TypeDesc} {k : Nat} (hd : P.underlying t = some d) (hk : sizeT P t = some k) (H : HRel β st w) {va : Value} {X : RX} {ρ : RX → AV} {v : AV}
    (hx : R β st w va (ρ X)) (hv : aval (.load (agD d) k X) ρ st = some v) : ∃ u, (Instr.loadAt t va).run P w = .ok u w ∧ R β st w u v := by
  simp only [aval] at hv
  split at hv
  · rename_i q ver i j hρ
    split at hv
    · rename_i ver' k' tq' els hq
      split at hv
      · rename_i hver
        subst hver
        cases hi : els[i]? with
        | none => simp [hi] at hv
        | some cells =>
          simp only [hi, Option.bind_some] at hv
          rw [hρ] at hx
          obtain ⟨hil, hjk, b, a, hb, rfl⟩ := R_ptr_inv hx hq
          have hcells : cells = els[i] := by rw [List.getElem?_eq_getElem hil] at hi; exact (Option.some.inj hi).symm
          have hw := H.width q ver k' tq' els hq i hil
          refine load_cells hd hk (b := b) (o := a + i * k' + j) (cells := cells.drop j) (fun j' hj' => ?_) hv
          simp only [List.length_drop] at hj'
          have hlen : cells.length = k' := by rw [hcells, hw]
          obtain ⟨u, x, h1, h2, h3, h4⟩ := H.cell hq hb hil (j := j + j') (by omega)
          refine ⟨u, by rw [← h2]; congr 2; omega, ?_, h4⟩
          simp only [List.getElem_drop]
          have : cells[j + j']'(by omega) = x := by
            have hh : els[i][j + j']? = some (els[i][j + j']'(by rw [hw]; omega)) := List.getElem?_eq_getElem _
            rw [hh] at h1
            simp only [hcells]
            exact Option.some.inj h1
          rw [this]; exact h3
      · cases hv
    · cases hv
  · rename_i cells hρ
    rw [hρ] at hx
    cases hx with
    | iptr hm hc hr =>
      refine load_cells hd hk (cells := cells.map AV.d) (fun j hj => ?_) hv
      simp only [List.length_map] at hj
      refine ⟨_, (hc j hj).1, ?_, (hc j hj).2⟩
      simp only [List.getElem_map]
      exact .d (hr j hj)
  · cases hv

end Go.Eng
