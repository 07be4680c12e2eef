/-
  Part of the proof that the law ProjectAll returns true at every input of bulk at most 1048576, and leaves its arguments as they were; the whole is stated at the end of the last text.
-/
import Derived.Test.YtdopmhicmehmeaaEngE
/-
  THE ENGINE, PART 6: the last of the quiet operations, and all of them in one.
-/
set_option linter.unusedVariables false
set_option linter.unusedSimpArgs false
namespace Go.Eng
open Go

variable {P : Program} {β : Emb} {st : St} {w : World}

theorem und_elem {t e : TypeId} (h : P.underlying t = some (.slice e)) : P.underlying t = some (.slice (P.elem t)) := by
  rw [h]; simp [Program.elem, h]

/-- The bounds of a slice expression, run. -/
theorem run_bounds {isSlice : Bool} {len cap h l m : Nat} {lo hi mx : Option Value} {klo khi kmx : IntKind}
    (hmx : mx = none ∧ m = cap ∨ (mx = some (.int kmx m) ∧ m ≤ cap)) (hhi : (hi = none ∧ mx = none ∧ h = len) ∨ (hi = some (.int khi h) ∧ h ≤ m)) (hlo : (lo = none ∧ l = 0) ∨ (lo = some (.int klo l) ∧ l ≤ h)) :
    (Instr.sliceBounds isSlice len cap lo hi mx).run P w = .ok (l, h, m) w := by
  have sb : ∀ (k : IntKind) (i y : Nat) (c : BoundsCode), i ≤ y → (Instr.sliceBound (.int k (i : Int)) y c).run P w = .ok i w := by
    intro k i y c hle
    rw [run_sliceBound w k i y c (by omega) (by omega)]; simp
  unfold Instr.sliceBounds
  rcases hmx with ⟨rfl, rfl⟩ | ⟨rfl, hm⟩
  · rcases hhi with ⟨rfl, _, rfl⟩ | ⟨rfl, hh⟩
    · rcases hlo with ⟨rfl, rfl⟩ | ⟨rfl, hl⟩
      · simp
      · simp [sb _ _ _ _ hl]
    · rcases hlo with ⟨rfl, rfl⟩ | ⟨rfl, hl⟩
      · simp [sb _ _ _ _ hh]
      · simp [sb _ _ _ _ hh, sb _ _ _ _ hl]
  · rcases hhi with ⟨rfl, h0, rfl⟩ | ⟨rfl, hh⟩
    · cases h0
    · rcases hlo with ⟨rfl, rfl⟩ | ⟨rfl, hl⟩
      · simp [sb _ _ _ _ hm, sb _ _ _ _ hh]
      · simp [sb _ _ _ _ hm, sb _ _ _ _ hh, sb _ _ _ _ hl]

theorem bound_opt {ρ : RX → AV} {x : Option Operand} {ev : Operand → Value} {dflt most n : Nat} (hρ : ∀ x, R β st w (ev x) (ρ (rx x))) (h : bound ρ (x.map rx) dflt most = some n) :
    ∃ k, (x.map ev = none ∧ n = dflt) ∨ (x.map ev = some (.int k n) ∧ n ≤ most) := by
  cases x with
  | none => simp [bound] at h; exact ⟨.i64, .inl ⟨rfl, h.symm⟩⟩
  | some y =>
    obtain ⟨k, e, hle⟩ := bound_run .index (hρ y) h
    exact ⟨k, .inr ⟨by simp [e], hle⟩⟩

/-- A piece of what a slice of a live row is. -/
theorem SliceAt.piece {q : Int} {k off len l h : Nat} {ad : Option Addr} {cap m : Nat} (hs : SliceAt β w q k off len (.slice ad len cap)) (hl : l ≤ h) (hh : h ≤ m) (hm : m ≤ cap) :
    SliceAt β w q k (off + l) (h - l) (.slice (if m = l then ad else ad.map (·.add (l * k))) (h - l) (m - l)) := by
  obtain ⟨ad', cap', e, hle, hc, hbk⟩ := hs
  cases e
  refine ⟨_, m - l, rfl, by omega, fun h0 => ?_, fun x hx => ?_⟩
  rotate_left
  · split at hx
    · exact hbk x hx
    · simp only [Option.map_eq_some_iff] at hx
      obtain ⟨y, hy, rfl⟩ := hx
      have := hbk y hy
      unfold Addr.add
      split
      · exact this
      · exact this
  obtain ⟨b, a, hb, had, c, T, fr, hcell, hsz⟩ := hc (by omega)
  refine ⟨b, a, hb, ?_, c, T, fr, hcell, ?_⟩
  · rw [if_neg (by omega), had]
    simp only [Option.map_some, add_off, Option.some.injEq, Addr.mk.injEq, and_true, true_and]
    rw [Nat.add_mul]; omega
  · have h1 : (off + l + (m - l)) * k ≤ (off + cap) * k := Nat.mul_le_mul_right k (by omega)
    omega

theorem Reads.piece {M : Nat → Prop} {k l h : Nat} {ad : Option Addr} {cap m : Nat} {els : List (List D)} (hr : Reads M w (.slice ad els.length cap) (.sl k els)) (hl : l ≤ h) (hh : h ≤ els.length) (hm : h ≤ m) (hmc : m ≤ cap) (hk : 0 < k) :
    Reads M w (.slice (if m = l then ad else ad.map (·.add (l * k))) (h - l) (m - l)) (.sl k ((els.take h).drop l)) := by
  obtain ⟨ad', cap', c, e, hw, hcap, hc, hr⟩ := hr.sl_inv
  cases e
  have hlen : ((els.take h).drop l).length = h - l := by simp; omega
  have key := Reads.sl (M := M) (w := w) (if m = l then ad else ad.map (·.add (l * k))) (m - l) k ((els.take h).drop l) (fun i j => c (l + i) j)
    (fun i hi => by simp only [List.getElem_drop, List.getElem_take]; exact hw _ _)
    (by rw [hlen]; omega)
    (fun i j hi hj => by
      rw [hlen] at hi
      obtain ⟨b, o, e1, e2, e3, e4⟩ := hc (l + i) j (by omega) hj
      refine ⟨b, o + l * k, ?_, e2, ?_, e4⟩
      · rw [if_neg (by omega), e1]; simp [add_off]
      · rw [← e3]; congr 2; rw [Nat.add_mul]; omega)
    (fun i j hi hj => by
      have hi' := hi
      rw [hlen] at hi'
      simp only [List.getElem_drop, List.getElem_take] at hj ⊢
      exact hr (l + i) j (by omega) hj)
  rw [hlen] at key
  exact key

theorem snd_slR {t e : TypeId} {k : Nat} {x : Operand} {lo hi mx : Option Operand} {ev : Operand → Value} {ρ : RX → AV} {v : AV} (ht : P.underlying t = some (.slice e)) (hk : sizeT P e = some k) (hρ : ∀ x, R β st w (ev x) (ρ (rx x)))
    (H : HRel β st w)
    (hv : aval (.slR k (rx x) (lo.map rx) (hi.map rx) (mx.map rx)) ρ st = some v) : ∃ u, (Instr.sliceAt t (ev x) (lo.map ev) (hi.map ev) (mx.map ev)).run P w = .ok u w ∧ R β st w u v := by
  have run : ∀ ad len cap l h m, ev x = .slice ad len cap → (Instr.sliceBounds true len cap (lo.map ev) (hi.map ev) (mx.map ev)).run P w = .ok (l, h, m) w →
      (Instr.sliceAt t (ev x) (lo.map ev) (hi.map ev) (mx.map ev)).run P w = .ok (.slice (if m = l then ad else ad.map (·.add (l * k))) (h - l) (m - l)) w := by
    intro ad len cap l h m e1 e2
    rw [run_sliceAt_slice w t _ _ _ _ (und_elem ht), e1]
    simp only [Instr.slice, Sem.run_bind, run_und ht, Result.andThen_ok, e2, run_size hk, Sem.run_pure]
  simp only [aval] at hv
  split at hv
  · rename_i q ver off len h1
    have hx := hρ x
    rw [h1] at hx
    split at hv
    · rename_i ver' k' tq' els hq
      split at hv
      · rename_i hvk
        obtain ⟨rfl, rfl⟩ := hvk
        obtain ⟨hle, hsl⟩ := R_row_inv hx hq
        obtain ⟨ad, cap, e1, hcap, _⟩ := id hsl
        rw [e1] at hsl hx
        have hqlt : q < st.nx := H.lt q _ hq
        have mk : ∀ l h m, l ≤ h → h ≤ len → h ≤ m → m ≤ cap → R β st w (.slice (if m = l then ad else ad.map (·.add (l * k))) (h - l) (m - l)) (.row q ver (off + l) (h - l)) := by
          intro l h m a1 a2 a3 a4
          refine .row hqlt (fun ver' k' tq0 els' hq' => ?_) (fun s p hq' => ?_) ⟨_, _, _, rfl⟩
          · rw [hq] at hq'
            cases hq'
            exact ⟨Nat.le_refl _, fun _ => ⟨by omega, hsl.piece a1 a3 a4⟩⟩
          · rw [hq] at hq'; cases hq'
        split at hv
        · rename_i hmx
          have hmx' : mx = none := by cases mx <;> simp_all
          cases hh : bound ρ (hi.map rx) len len with
          | none => simp [hh] at hv
          | some h =>
            simp only [hh, Option.bind_some, Option.map_eq_some_iff] at hv
            obtain ⟨l, hl, rfl⟩ := hv
            obtain ⟨khi, hhi⟩ := bound_opt hρ hh
            obtain ⟨klo, hlo⟩ := bound_opt hρ hl
            have hhl : h ≤ len := by rcases hhi with ⟨_, rfl⟩ | ⟨_, h⟩ <;> omega
            have hll : l ≤ h := by rcases hlo with ⟨_, rfl⟩ | ⟨_, h⟩ <;> omega
            refine ⟨_, run ad len cap l h cap e1 (run_bounds (klo := klo) (khi := khi) (kmx := .i64) (.inl ⟨by simp [hmx'], rfl⟩) ?_ ?_), mk l h cap hll hhl (by omega) (Nat.le_refl _)⟩
            · rcases hhi with ⟨e, rfl⟩ | ⟨e, _⟩
              · exact .inl ⟨e, by simp [hmx'], rfl⟩
              · exact .inr ⟨e, by omega⟩
            · rcases hlo with ⟨e, rfl⟩ | ⟨e, _⟩
              · exact .inl ⟨e, rfl⟩
              · exact .inr ⟨e, by omega⟩
        · rename_i mm hmx
          split at hv
          · rename_i km n e2
            split at hv
            · rename_i hn0
              obtain ⟨hsome, hn⟩ := hn0
              cases hb : bound ρ (hi.map rx) len len with
              | none => simp [hb] at hv
              | some h =>
                simp only [hb, Option.bind_some] at hv
                split at hv
                · rename_i hhl
                  subst hhl
                  simp only [Option.map_eq_some_iff] at hv
                  obtain ⟨l, hl, rfl⟩ := hv
                  obtain ⟨my, hmy, rfl⟩ : ∃ my, mx = some my ∧ rx my = mm := by cases mx <;> simp_all
                  obtain ⟨hy, hhy⟩ : ∃ hy, hi = some hy := by cases hi <;> simp_all
                  subst hmy hhy
                  have em := hρ my
                  rw [e2] at em
                  have em' := R_v em
                  obtain ⟨khi, ehi, _⟩ := bound_run .index (hρ hy) hb
                  obtain ⟨klo, hlo⟩ := bound_opt hρ hl
                  have hll : l ≤ h := by rcases hlo with ⟨_, rfl⟩ | ⟨_, h⟩ <;> omega
                  refine ⟨_, run ad h cap l h h e1 (run_bounds (klo := klo) (khi := khi) (kmx := km) (.inr ⟨by simp [em', hn], hcap⟩) (.inr ⟨by simp [ehi], Nat.le_refl _⟩) ?_), mk l h h hll (Nat.le_refl _) (Nat.le_refl _) hcap⟩
                  rcases hlo with ⟨e, rfl⟩ | ⟨e, _⟩
                  · exact .inl ⟨e, rfl⟩
                  · exact .inr ⟨e, by omega⟩
                · cases hv
            · cases hv
          · cases hv
      · cases hv
    · cases hv
  · rename_i k' els h1
    have hx := hρ x
    rw [h1] at hx
    split at hv
    · rename_i hmx
      have hmx' : mx = none := by cases mx <;> simp_all
      split at hv
      · rename_i hkk
        obtain ⟨rfl, h0⟩ := hkk
        have hx := R_d hx
        cases hh : bound ρ (hi.map rx) els.length els.length with
        | none => simp [hh] at hv
        | some h =>
          simp only [hh, Option.bind_some, Option.map_eq_some_iff] at hv
          obtain ⟨l, hl, rfl⟩ := hv
          obtain ⟨khi, hhi⟩ := bound_opt hρ hh
          obtain ⟨klo, hlo⟩ := bound_opt hρ hl
          have hhl : h ≤ els.length := by rcases hhi with ⟨_, rfl⟩ | ⟨_, h⟩ <;> omega
          have hll : l ≤ h := by rcases hlo with ⟨_, rfl⟩ | ⟨_, h⟩ <;> omega
          obtain ⟨ad, cap, c, e1, hw, hcap, hc, hr⟩ := hx.sl_inv
          rw [e1] at hx
          refine ⟨_, run ad els.length cap l h cap e1 (run_bounds (klo := klo) (khi := khi) (kmx := .i64) (.inl ⟨by simp [hmx'], rfl⟩) ?_ ?_), .d (hx.piece hll hhl (by omega) (Nat.le_refl _) h0)⟩
          · rcases hhi with ⟨e, rfl⟩ | ⟨e, _⟩
            · exact .inl ⟨e, by simp [hmx'], rfl⟩
            · exact .inr ⟨e, by omega⟩
          · rcases hlo with ⟨e, rfl⟩ | ⟨e, _⟩
            · exact .inl ⟨e, rfl⟩
            · exact .inr ⟨e, by omega⟩
      · cases hv
    · cases hv
  · rename_i h1
    have hx := hρ x
    rw [h1] at hx
    have e1 := R_v hx
    split at hv
    · cases hv
    rename_i hnm
    cases hm : bound ρ (mx.map rx) 0 0 with
    | none => simp [hm] at hv
    | some m =>
      simp only [hm, Option.bind_some] at hv
      cases hh : bound ρ (hi.map rx) 0 0 with
      | none => simp [hh] at hv
      | some h =>
        simp only [hh, Option.bind_some, Option.map_eq_some_iff] at hv
        obtain ⟨l, hl, rfl⟩ := hv
        obtain ⟨kmx, hmx⟩ := bound_opt hρ hm
        obtain ⟨khi, hhi⟩ := bound_opt hρ hh
        obtain ⟨klo, hlo⟩ := bound_opt hρ hl
        have m0 : m = 0 := by rcases hmx with ⟨_, h⟩ | ⟨_, h⟩ <;> omega
        have h00 : h = 0 := by rcases hhi with ⟨_, h⟩ | ⟨_, h⟩ <;> omega
        have l0 : l = 0 := by rcases hlo with ⟨_, h⟩ | ⟨_, h⟩ <;> omega
        subst m0 h00 l0
        have hb : (Instr.sliceBounds true 0 0 (lo.map ev) (hi.map ev) (mx.map ev)).run P w = .ok (0, 0, 0) w := by
          by_cases hc : hi.map ev = none ∧ mx.map ev ≠ none
          · refine absurd ?_ hnm
            cases hi <;> cases mx <;> simp_all
          · refine run_bounds (klo := klo) (khi := khi) (kmx := kmx) ?_ ?_ ?_
            · rcases hmx with ⟨e, _⟩ | ⟨e, _⟩
              · exact .inl ⟨e, rfl⟩
              · exact .inr ⟨e, Nat.le_refl _⟩
            · rcases hhi with ⟨e, _⟩ | ⟨e, _⟩
              · refine .inl ⟨e, ?_, rfl⟩
                rcases hmx with ⟨e', _⟩ | ⟨e', _⟩
                · exact e'
                · exact absurd ⟨e, by simp [e']⟩ hc
              · exact .inr ⟨e, Nat.le_refl _⟩
            · rcases hlo with ⟨e, _⟩ | ⟨e, _⟩
              · exact .inl ⟨e, rfl⟩
              · exact .inr ⟨e, Nat.le_refl _⟩
        refine ⟨_, run none 0 0 0 0 0 e1 hb, ?_⟩
        simp only [if_true, Nat.sub_self]
        exact .d (.v _)
  · cases hv

/-! ### fields, elements -/
theorem snd_faddr {t : TypeId} {fs : Array Field} {f : Nat} {fd : Field} {s : Nat} {X : RX} {ρ : RX → AV} {v : AV} {a : Value} (ht : P.underlying t = some (.struct fs)) (hf : fs[f]? = some fd) (hs : sizeT P fd.type = some s) (h0 : s ≠ 0)
    (hx : R β st w a (ρ X)) (hv : aval (.faddr fd.offset X) ρ st = some v) : ∃ u, (Instr.fieldAt t a f).run P w = .ok u w ∧ R β st w u v := by
  have run : ∀ ad, (Instr.fieldAt t (.pointer (some ad)) f).run P w = .ok (.pointer (some (ad.add fd.offset))) w := by
    intro ad
    simp [Instr.fieldAt, run_und ht, hf, Instr.sureAddr, fieldPlace, run_size hs, h0]
  simp only [aval] at hv
  split at hv
  · rename_i q ver i j h1
    rw [h1] at hx
    split at hv
    · rename_i ver' k tq els hq
      split at hv
      · rename_i hc
        obtain ⟨rfl, hjk⟩ := hc
        cases hv
        obtain ⟨hi, _, b, a', hb, rfl⟩ := R_ptr_inv hx hq
        refine ⟨_, run _, ?_⟩
        rw [add_off]
        cases hx with
        | ptr hqn h hn hv =>
          refine .ptr hqn (fun ver2 k2 tq2 els2 hq2 => ?_) hn ⟨_, rfl⟩
          rw [hq] at hq2
          cases hq2
          exact ⟨Nat.le_refl _, fun _ => ⟨hi, hjk, b, a', hb, by congr 3; omega⟩⟩
      · cases hv
    · cases hv
  · rename_i cells h1
    rw [h1] at hx
    split at hv
    · rename_i hlt
      cases hv
      cases hx with
      | iptr hm hc hr =>
        rename_i b0 o0 c0
        refine ⟨_, run _, ?_⟩
        rw [add_off]
        refine .iptr (c := fun i => c0 (fd.offset + i)) (fun _ => hm (by omega)) (fun i hi => ?_) (fun i hi => ?_)
        · simp only [List.length_drop] at hi
          rw [Nat.add_assoc]
          exact hc (fd.offset + i) (by omega)
        · simp only [List.getElem_drop]
          exact hr _ _
    · cases hv
  · cases hv

theorem snd_field {t : TypeId} {fs : Array Field} {f : Nat} {fd : Field} {d : TypeDesc} {s : Nat} {X : RX} {ρ : RX → AV} {v : AV} {a : Value} (ht : P.underlying t = some (.struct fs)) (hf : fs[f]? = some fd) (hd : P.underlying fd.type = some d) (hs : sizeT P fd.type = some s)
    (hx : R β st w a (ρ X)) (hv : aval (.field (agD d) s fd.offset X) ρ st = some v) : ∃ u, (Instr.field t a f).run P w = .ok u w ∧ R β st w u v := by
  simp only [aval] at hv
  split at hv
  · rename_i l h1
    rw [h1] at hx
    cases hx with
    | agg hsz ho hr =>
      rename_i cs
      have hra : RA β st w cs l := ⟨hsz, hr, ho⟩
      unfold loadC at hv
      cases hag : agD d with
      | true =>
        simp only [hag, if_true] at hv
        split at hv
        · rename_i hle
          cases hv
          simp only [List.length_drop] at hle
          refine ⟨.agg (cs.extract fd.offset (fd.offset + s)), ?_, ?_⟩
          · have := part_run (P := P) (w := w) hd hs cs fd.offset (v := undef) (fun h => by rw [hag] at h; cases h)
            rw [hag] at this
            simp [Instr.field, run_und ht, hf, asAgg, this]
          · have hh : RA β st w (cs.extract fd.offset (fd.offset + s)) ((l.drop fd.offset).take s) := by
              refine RA.mk' (by simp; omega) (fun i u x hu hx => ?_)
              have hi : i < s := by
                have := (List.getElem?_eq_some_iff.1 hx).1
                simp at this; omega
              rw [extract_get _ _ _ _ hi] at hu
              rw [List.getElem?_take_of_lt hi, List.getElem?_drop] at hx
              obtain ⟨u', e1, e2, e3⟩ := hra.get hx
              rw [hu] at e1; cases e1; exact ⟨e2, e3⟩
            exact hh.agg
        · cases hv
      | false =>
        simp only [hag, Bool.false_eq_true, if_false] at hv
        have hx : l[fd.offset]? = some v := by rw [← hv]; simp [List.head?_drop]
        obtain ⟨u, e1, e2, _⟩ := hra.get hx
        refine ⟨u, ?_, e2⟩
        have := part_run (P := P) (w := w) hd hs cs fd.offset (v := u) (fun _ => e1)
        rw [hag] at this
        simp [Instr.field, run_und ht, hf, asAgg, this]
  · cases hv

theorem snd_iaR {t e : TypeId} {k : Nat} {X I : RX} {ρ : RX → AV} {v : AV} {a i : Value} (ht : P.underlying t = some (.slice e)) (hk : sizeT P e = some k) (H : HRel β st w) (hx : R β st w a (ρ X)) (hi : R β st w i (ρ I))
    (hv : aval (.iaR k X I) ρ st = some v) : ∃ u, (Instr.indexAt t a i).run P w = .ok u w ∧ R β st w u v := by
  have run : ∀ (kk : IntKind) (n : Nat) (ad : Addr) (len cap : Nat), n < len → (Instr.indexAt t (.slice (some ad) len cap) (.int kk n)).run P w = .ok (.pointer (some (ad.add (n * k)))) w := by
    intro kk n ad len cap hn
    have h1 : ((n : Int) < (len : Int)) := by omega
    simp [Instr.indexAt, asIntOf, run_und ht, run_size hk, hn]
  simp only [aval] at hv
  split at hv
  · rename_i kk n h1
    rw [h1] at hi
    have e1 := R_v hi
    subst e1
    split at hv
    · rename_i hn0
      obtain ⟨n, rfl⟩ := Int.eq_ofNat_of_zero_le hn0
      simp only [Int.toNat_natCast] at hv
      split at hv
      · rename_i q ver off len h2
        rw [h2] at hx
        split at hv
        · rename_i ver' k' tq' els hq
          split at hv
          · rename_i hc
            obtain ⟨rfl, rfl, hlt⟩ := hc
            have hlt : n < len := by omega
            cases hv
            obtain ⟨hle, ad, cap, rfl, hcap, hcp, hbk⟩ := R_row_inv hx hq
            obtain ⟨b, a', hb, rfl, c, T, fr, hc, hsz⟩ := hcp (by omega)
            refine ⟨_, run kk n _ len cap hlt, ?_⟩
            rw [add_off]
            refine .ptr (H.lt q _ hq) (fun ver2 k2 tq2 els2 hq2 => ?_) (fun s p hq2 => ?_) ⟨_, rfl⟩
            · rw [hq] at hq2
              cases hq2
              exact ⟨Nat.le_refl _, fun _ => ⟨by omega, Nat.zero_le _, b, a', hb, by congr 3; rw [Nat.add_mul]; omega⟩⟩
            · rw [hq] at hq2; cases hq2
          · cases hv
        · cases hv
      · rename_i k' els h2
        rw [h2] at hx
        split at hv
        · rename_i hkk
          obtain ⟨rfl, h0⟩ := hkk
          simp only [Option.map_eq_some_iff] at hv
          obtain ⟨cells, hcells, rfl⟩ := hv
          obtain ⟨hlt, rfl⟩ := List.getElem?_eq_some_iff.1 hcells
          obtain ⟨ad, cap, c, rfl, hw, hcap, hc, hr⟩ := (R_d hx).sl_inv
          obtain ⟨b, o, rfl, hm, _, _⟩ := hc n 0 hlt h0
          refine ⟨_, run kk n _ els.length cap hlt, ?_⟩
          rw [add_off]
          refine .iptr (c := fun j => c n j) (fun _ => hm) (fun j hj => ?_) (fun j hj => hr n j hlt hj)
          rw [hw n hlt] at hj
          obtain ⟨b', o', e, _, hcell, h1c⟩ := hc n j hlt hj
          cases e
          exact ⟨by rw [← hcell]; congr 2; omega, h1c⟩
        · cases hv
      · cases hv
    · cases hv
  · cases hv

theorem snd_iaA {t e : TypeId} {k n : Nat} {X I : RX} {ρ : RX → AV} {v : AV} {a i : Value} (ht : P.underlying t = some (.array n e)) (hk : sizeT P e = some k) (hx : R β st w a (ρ X)) (hi : R β st w i (ρ I))
    (hv : aval (.iaA k n X I) ρ st = some v) : ∃ u, (Instr.indexAt t a i).run P w = .ok u w ∧ R β st w u v := by
  simp only [aval] at hv
  split at hv
  · rename_i kk m h1
    rw [h1] at hi
    have e1 := R_v hi
    subst e1
    split at hv
    · rename_i hmn
      obtain ⟨m, rfl⟩ := Int.eq_ofNat_of_zero_le hmn.1
      simp only [Int.toNat_natCast] at hv
      have hlt : m < n := by omega
      split at hv
      · rename_i q ver a0 j h2
        rw [h2] at hx
        split at hv
        · rename_i ver' k' tq' els hq
          split at hv
          · rename_i hc
            obtain ⟨rfl, hle⟩ := hc
            cases hv
            obtain ⟨hi0, _, b, a', hb, rfl⟩ := R_ptr_inv hx hq
            refine ⟨.pointer (some ⟨b, a' + a0 * k' + j + m * k, none⟩), ?_, ?_⟩
            · simp [Instr.indexAt, asIntOf, run_und ht, run_size hk, hlt, Instr.sureAddr, add_off]
            · cases hx with
              | ptr hqn h hn hv =>
                refine .ptr hqn (fun ver2 k2 tq2 els2 hq2 => ?_) hn ⟨_, rfl⟩
                rw [hq] at hq2
                cases hq2
                exact ⟨Nat.le_refl _, fun _ => ⟨hi0, hle, b, a', hb, by congr 3; omega⟩⟩
          · cases hv
        · cases hv
      · cases hv
    · cases hv
  · cases hv

theorem snd_idxS {t : TypeId} {X I : RX} {ρ : RX → AV} {v : AV} {a i : Value} (ht : P.underlying t = some .string) (hx : R β st w a (ρ X)) (hi : R β st w i (ρ I)) (hv : aval (.idxS X I) ρ st = some v) :
    ∃ u, (Instr.index t a i).run P w = .ok u w ∧ R β st w u v := by
  simp only [aval] at hv
  split at hv
  · rename_i s kk n h1 h2
    rw [h1] at hx; rw [h2] at hi
    have e1 := R_v hx
    have e2 := R_v hi
    subst e1 e2
    split at hv
    · rename_i hn0
      obtain ⟨n, rfl⟩ := Int.eq_ofNat_of_zero_le hn0
      simp only [Int.toNat_natCast, Option.map_eq_some_iff] at hv
      obtain ⟨b, hb, rfl⟩ := hv
      have hb' : s[n]? = some b := by
        rw [Array.getElem?_toList] at hb
        obtain ⟨h1, h2⟩ := Array.getElem?_eq_some_iff.1 hb
        have : n < s.size := h1
        rw [getElem?_pos s n this]
        exact congrArg some h2
      exact ⟨_, by simp [Instr.index, asIntOf, run_und ht, hb'], .d (.v _)⟩
    · cases hv
  · cases hv

theorem snd_lenS {t ty : TypeId} {X : RX} {ρ : RX → AV} {v : AV} {a : Value} (ht : P.underlying t = some .string) (hx : R β st w a (ρ X)) (hv : aval (.lenS X) ρ st = some v) :
    ∃ u, (Builtin.len_ #[t] ty #[a]).run P w = .ok u w ∧ R β st w u v := by
  simp only [aval] at hv
  split at hv
  · rename_i s h1
    rw [h1] at hx
    have e1 := R_v hx
    subst e1
    cases hv
    exact ⟨goInt s.size, by simp [Builtin.len_, run_und ht], .d (.v _)⟩
  · cases hv

theorem snd_lenR {t e ty : TypeId} {X : RX} {ρ : RX → AV} {v : AV} {a : Value} (ht : P.underlying t = some (.slice e)) (hx : R β st w a (ρ X)) (hv : aval (.lenR X) ρ st = some v) :
    ∃ u, (Builtin.len_ #[t] ty #[a]).run P w = .ok u w ∧ R β st w u v := by
  have run : ∀ ad n c, (Builtin.len_ #[t] ty #[.slice ad n c]).run P w = .ok (goInt n) w := by
    intro ad n c
    simp [Builtin.len_, run_und ht]
  simp only [aval] at hv
  split at hv
  · rename_i h1
    rw [h1] at hx
    have e1 := R_v hx
    subst e1
    cases hv
    exact ⟨_, run _ _ _, .d (.v _)⟩
  · rename_i k els h1
    rw [h1] at hx
    cases hv
    obtain ⟨ad, cap, c, rfl, _⟩ := (R_d hx).sl_inv
    exact ⟨_, run _ _ _, .d (.v _)⟩
  · rename_i q ver off len h1
    rw [h1] at hx
    split at hv
    · rename_i ver' k tq els hq
      split at hv
      · rename_i hver
        subst hver
        cases hv
        obtain ⟨_, ad, cap, rfl, _⟩ := R_row_inv hx hq
        exact ⟨_, run _ _ _, .d (.v _)⟩
      · cases hv
    · cases hv
  · cases hv

theorem snd_extr {X : RX} {i : Nat} {ρ : RX → AV} {v : AV} {a : Value} (hx : R β st w a (ρ X)) (hv : aval (.extr X i) ρ st = some v) : ∃ u, (Instr.extract a i).run P w = .ok u w ∧ R β st w u v := by
  simp only [aval] at hv
  split at hv
  · rename_i l h1
    rw [h1] at hx
    cases hx with
    | tup hs hr =>
      obtain ⟨hl, rfl⟩ := List.getElem?_eq_some_iff.1 hv
      rename_i cs
      have h1 : i < cs.size := by omega
      exact ⟨cs[i], by simp [Instr.extract, Array.getElem?_eq_getElem h1], hr i h1 hl⟩
  · cases hv

theorem mxVGo_run (k : IntKind) : ∀ (l : List AV) (vs : List Value) (a : Int) (v : AV), vs.length = l.length → (∀ (i : Nat) u x, vs[i]? = some u → l[i]? = some x → R β st w u x) → mxVGo k a l = some v →
    ∃ u, (vs.foldlM Builtin.max2 (.int k a)).run P w = .ok u w ∧ R β st w u v := by
  intro l
  induction l with
  | nil =>
    intro vs a v hl _ h
    cases vs with
    | cons _ _ => simp at hl
    | nil =>
      simp only [mxVGo, Option.some.injEq] at h
      subst h
      exact ⟨_, rfl, .d (.v _)⟩
  | cons y l ih =>
    intro vs a v hl hr h
    cases vs with
    | nil => simp at hl
    | cons u vs =>
      have h0 := hr 0 u y rfl rfl
      cases y with
      | d y =>
        cases y with
        | v y =>
          cases y <;> simp only [mxVGo, reduceCtorEq] at h
          rename_i k' b
          have e := R_v h0
          subst e
          obtain ⟨u, h1, h2⟩ := ih vs _ v (by simpa using hl) (fun i u x hu hx => hr (i + 1) u x (by simpa using hu) (by simpa using hx)) h
          exact ⟨u, by simpa [Builtin.max2] using h1, h2⟩
        | sl _ _ => simp [mxVGo] at h
      | _ => simp [mxVGo] at h

theorem mxV_run {l : List AV} {vs : List Value} {v : AV} (hl : vs.length = l.length) (hr : ∀ (i : Nat) u x, vs[i]? = some u → l[i]? = some x → R β st w u x) (h : mxV l = some v) :
    ∃ u x xs, vs = x :: xs ∧ (xs.foldlM Builtin.max2 x).run P w = .ok u w ∧ R β st w u v := by
  unfold mxV at h
  split at h
  · rename_i k a l
    cases vs with
    | nil => simp at hl
    | cons u vs =>
      have e := R_v (hr 0 u _ rfl rfl)
      subst e
      obtain ⟨u, h1, h2⟩ := mxVGo_run (P := P) k l vs a v (by simpa using hl) (fun i u x hu hx => hr (i + 1) u x (by simpa using hu) (by simpa using hx)) h
      exact ⟨u, _, _, rfl, h1, h2⟩
  · cases h

theorem mnVGo_run (k : IntKind) : ∀ (l : List AV) (vs : List Value) (a : Int) (v : AV), vs.length = l.length → (∀ (i : Nat) u x, vs[i]? = some u → l[i]? = some x → R β st w u x) → mnVGo k a l = some v →
    ∃ u, (vs.foldlM Builtin.min2 (.int k a)).run P w = .ok u w ∧ R β st w u v := by
  intro l
  induction l with
  | nil =>
    intro vs a v hl _ h
    cases vs with
    | cons _ _ => simp at hl
    | nil =>
      simp only [mnVGo, Option.some.injEq] at h
      subst h
      exact ⟨_, rfl, .d (.v _)⟩
  | cons y l ih =>
    intro vs a v hl hr h
    cases vs with
    | nil => simp at hl
    | cons u vs =>
      have h0 := hr 0 u y rfl rfl
      cases y with
      | d y =>
        cases y with
        | v y =>
          cases y <;> simp only [mnVGo, reduceCtorEq] at h
          rename_i k' b
          have e := R_v h0
          subst e
          obtain ⟨u, h1, h2⟩ := ih vs _ v (by simpa using hl) (fun i u x hu hx => hr (i + 1) u x (by simpa using hu) (by simpa using hx)) h
          exact ⟨u, by simpa [Builtin.min2] using h1, h2⟩
        | sl _ _ => simp [mnVGo] at h
      | _ => simp [mnVGo] at h

theorem mnV_run {l : List AV} {vs : List Value} {v : AV} (hl : vs.length = l.length) (hr : ∀ (i : Nat) u x, vs[i]? = some u → l[i]? = some x → R β st w u x) (h : mnV l = some v) :
    ∃ u x xs, vs = x :: xs ∧ (xs.foldlM Builtin.min2 x).run P w = .ok u w ∧ R β st w u v := by
  unfold mnV at h
  split at h
  · rename_i k a l
    cases vs with
    | nil => simp at hl
    | cons u vs =>
      have e := R_v (hr 0 u _ rfl rfl)
      subst e
      obtain ⟨u, h1, h2⟩ := mnVGo_run (P := P) k l vs a v (by simpa using hl) (fun i u x hu hx => hr (i + 1) u x (by simpa using hu) (by simpa using hx)) h
      exact ⟨u, _, _, rfl, h1, h2⟩
  · cases h


end Go.Eng
