/-
  Part of the proof that the law ProjectAll returns true at every input of bulk at most 1048576, and leaves its arguments as they were; the whole is stated at the end of the last text.
-/
import Derived.Test.YtdopmhicmehmeaaEngN
/-
  THE ENGINE, PART 15: what follows from a reading: less is live, what nobody writes any more is data.
-/
set_option linter.unusedVariables false
set_option linter.unusedSimpArgs false
namespace Go.Eng
open Go

variable {P : Program} {β : Emb} {st : St} {w : World}

/-- All that it leads to has a number below n. -/
inductive Below (n : Int) : AV → Prop
  | d (x) : Below n (.d x)
  | junk : Below n .junk
  | row {q ver off len} (h : q < n) : Below n (.row q ver off len)
  | ptr {q ver i j} (h : q < n) : Below n (.ptr q ver i j)
  | iptr (c) : Below n (.iptr c)
  | it {q} (h : q < n) : Below n (.it q)
  | agg {l : List AV} (h : ∀ i (hi : i < l.length), Below n l[i]) : Below n (.agg l)
  | tup {l : List AV} (h : ∀ i (hi : i < l.length), Below n l[i]) : Below n (.tup l)
  | fn {f} {a c : List AV} (ha : ∀ i (hi : i < a.length), Below n a[i]) (hc : ∀ i (hi : i < c.length), Below n c[i]) : Below n (.fn f a c)
  | iface {t x} (h : Below n x) : Below n (.iface t x)
  | anyp : Below n .anyp

theorem R.bel {v : Value} {x : AV} (h : R β st w v x) : Below st.nx x := by
  induction h with
  | d h => exact .d _
  | junk => exact .junk
  | row hq => exact .row hq
  | ptr hq => exact .ptr hq
  | iptr => exact .iptr _
  | it hq => exact .it hq
  | agg hs ho _ ih => exact .agg fun i hi => ih i (by omega) hi
  | tup hs _ ih => exact .tup fun i hi => ih i (by omega) hi
  | fn hsa hsc _ _ iha ihc => exact .fn (fun i hi => iha i (by omega) hi) (fun i hi => ihc i (by omega) hi)
  | iface _ ih => exact .iface ih
  | anyp => exact .anyp

theorem Below.mono {n m : Int} (hm : n ≤ m) {x : AV} (h : Below n x) : Below m x := by
  induction h with
  | d => exact .d _
  | junk => exact .junk
  | row hq => exact .row (by omega)
  | ptr hq => exact .ptr (by omega)
  | iptr => exact .iptr _
  | it hq => exact .it (by omega)
  | agg _ ih => exact .agg ih
  | tup _ ih => exact .tup ih
  | fn _ _ iha ihc => exact .fn iha ihc
  | iface _ ih => exact .iface ih
  | anyp => exact .anyp

/-- A heap of what is live that leads nowhere else. -/
structure WF (st : St) : Prop where
  lt : ∀ q o, st.h q = some o → q < st.nx
  row : ∀ q ver k tq els, st.h q = some (.row ver k tq els) → (∀ i (hi : i < els.length), els[i].length = k) ∧ ∀ (i j : Nat) x, (els[i]?.bind (·[j]?)) = some x → Below st.nx x

theorem HRel.wf (H : HRel β st w) : WF st := by
  refine ⟨H.lt, fun q ver k tq els hq => ⟨H.width q ver k tq els hq, fun i j x hx => ?_⟩⟩
  cases hb : β q with
  | none =>
    have := H.phant q ver k tq els hq hb
    subst this
    simp at hx
  | some p =>
    obtain ⟨b, a⟩ := p
    have hi : i < els.length := by
      rcases Nat.lt_or_ge i els.length with h | h
      · exact h
      · rw [List.getElem?_eq_none h] at hx; simp at hx
    rw [List.getElem?_eq_getElem hi, Option.bind_some] at hx
    obtain ⟨hj, rfl⟩ := List.getElem?_eq_some_iff.1 hx
    rw [H.width q ver k tq els hq i hi] at hj
    obtain ⟨u, x, h1, h2, h3, h4⟩ := H.cell hq hb hi hj
    rw [List.getElem?_eq_getElem (by rw [H.width q ver k tq els hq i hi]; exact hj)] at h1
    cases h1
    exact h3.bel

/-- How a reading reads behind it. -/
inductive Conv (st st' : St) : AV → AV → Prop
  | same {x} (h : Below st'.nx x) : Conv st st' x x
  | junk {x} : Conv st st' x .junk
  | frz {q ver off len k tq els} {ds : List (List D)} (hq : st.h q = some (.row ver k tq els)) (hn : st'.h q = none) (hd : (els.drop off).take len = ds.map fun e => e.map AV.d) : Conv st st' (.row q ver off len) (.d (.sl k ds))
  | frzp {q ver i j k tq els} {cs : List AV} {ds : List D} (hq : st.h q = some (.row ver k tq els)) (hn : st'.h q = none) (hi : els[i]? = some cs) (hd : cs.drop j = ds.map AV.d) : Conv st st' (.ptr q ver i j) (.iptr ds)
  | nil {k} : Conv st st' (.d (.v (.slice none 0 0))) (.d (.sl k []))
  | ph {q ver ver' k tq els} (hq : q < st'.nx) (h : st'.h q = some (.row ver' k tq els)) (hv : ver ≤ ver') : Conv st st' (.d (.v (.slice none 0 0))) (.row q ver 0 0)
  | agg {l m : List AV} (hl : l.length = m.length) (h : ∀ i (h1 : i < l.length) (h2 : i < m.length), Conv st st' l[i] m[i]) : Conv st st' (.agg l) (.agg m)
  | tup {l m : List AV} (hl : l.length = m.length) (h : ∀ i (h1 : i < l.length) (h2 : i < m.length), Conv st st' l[i] m[i]) : Conv st st' (.tup l) (.tup m)
  | iface {t x y} (h : Conv st st' x y) : Conv st st' (.iface t x) (.iface t y)

/-- Fewer are live, each as it was but for how its cells read. -/
structure Fewer (st st' : St) : Prop where
  obj : ∀ q o', st'.h q = some o' → q < st'.nx ∧ ∃ o, st.h q = some o ∧ match o, o' with
    | .row ver k tq els, .row ver' k' tq' els' => ver = ver' ∧ k = k' ∧ tq = tq' ∧ els.length = els'.length ∧ (∀ i (hi : i < els'.length), els'[i].length = k) ∧ ∀ (i j : Nat) x y, (els[i]?.bind (·[j]?)) = some x → (els'[i]?.bind (·[j]?)) = some y → Conv st st' x y
    | .iter s p, .iter s' p' => s = s' ∧ p = p'
    | _, _ => False
  g : ∀ x ∈ st'.g, x ∈ st.g

theorem Fewer.some {st st' : St} (h : Fewer st st') {q : Int} {o' : AO} (ho : st'.h q = some o') : ∃ o, st.h q = some o := by
  obtain ⟨_, o, h1, _⟩ := h.obj q o' ho
  exact ⟨o, h1⟩

theorem Fewer.mut {st st' : St} (h : Fewer st st') {b : Nat} (hm : Mut β st'.h b) : Mut β st.h b := by
  obtain ⟨q, o, a, h1, h2⟩ := hm
  obtain ⟨o', h3⟩ := h.some h1
  exact ⟨q, o', a, h3, h2⟩

theorem Reads.fewer {M M' : Nat → Prop} (hm : ∀ b, M' b → M b) {v : Value} {d : D} (hr : Reads M w v d) : Reads M' w v d := by
  induction hr with
  | v x => exact .v x
  | sl ad cap k els c hk hcap hc hr ih =>
    refine .sl ad cap k els c hk hcap (fun i j hi hj => ?_) (fun i j hi hj => ih i j hi hj)
    obtain ⟨b, o, e, hn, hcell, h1⟩ := hc i j hi hj
    exact ⟨b, o, e, fun h => hn (hm b h), hcell, h1⟩

theorem R.bel_fewer {st' : St} (h : Fewer st st') {v : Value} {x : AV} (hr : R β st w v x) (hb : Below st'.nx x) : R β st' w v x := by
  induction hr with
  | d h1 => exact .d (h1.fewer fun b => h.mut)
  | junk => exact .junk
  | row hq h1 hn hv =>
    cases hb with
    | row hb =>
      refine .row hb (fun ver' k tq0 els ho => ?_) (fun s p ho => ?_) hv
      · obtain ⟨_, o, h2, h3⟩ := h.obj _ _ ho
        cases o with
        | iter s p => exact h3.elim
        | row v0 k0 tq0 els0 =>
          obtain ⟨rfl, rfl, rfl, hl, _⟩ := h3
          obtain ⟨g1, g2⟩ := h1 _ _ _ _ h2
          exact ⟨g1, fun e => ⟨by have := (g2 e).1; omega, (g2 e).2⟩⟩
      · obtain ⟨_, o, h2, h3⟩ := h.obj _ _ ho
        cases o with
        | iter s' p' => exact hn _ _ h2
        | row v0 k0 tq0 els0 => exact h3.elim
  | ptr hq h1 hn hv =>
    cases hb with
    | ptr hb =>
      refine .ptr hb (fun ver' k tq0 els ho => ?_) (fun s p ho => ?_) hv
      · obtain ⟨_, o, h2, h3⟩ := h.obj _ _ ho
        cases o with
        | iter s p => exact h3.elim
        | row v0 k0 tq0 els0 =>
          obtain ⟨rfl, rfl, rfl, hl, _⟩ := h3
          obtain ⟨g1, g2⟩ := h1 _ _ _ _ h2
          exact ⟨g1, fun e => ⟨by have := (g2 e).1; omega, (g2 e).2⟩⟩
      · obtain ⟨_, o, h2, h3⟩ := h.obj _ _ ho
        cases o with
        | iter s' p' => exact hn _ _ h2
        | row v0 k0 tq0 els0 => exact h3.elim
  | iptr hm hc hr => exact .iptr (fun h0 hh => hm h0 (h.mut hh)) hc (fun i hi => (hr i hi).fewer fun b => h.mut)
  | it hq hv hn h1 =>
    cases hb with
    | it hb =>
      refine .it hb hv (fun ver k tq9 els ho => ?_) (fun s p ho => ?_)
      · obtain ⟨_, o, h2, h3⟩ := h.obj _ _ ho
        cases o with
        | iter s' p' => exact h3.elim
        | row v0 k0 tq0 els0 => exact hn _ _ _ _ h2
      · obtain ⟨_, o, h2, h3⟩ := h.obj _ _ ho
        cases o with
        | row v0 k0 tq0 els0 => exact h3.elim
        | iter s' p' =>
          obtain ⟨rfl, rfl⟩ := h3
          exact h1 _ _ h2
  | agg hs ho _ ih =>
    cases hb with
    | agg hb => exact .agg hs ho fun i h1 h2 => ih i h1 h2 (hb i h2)
  | tup hs _ ih =>
    cases hb with
    | tup hb => exact .tup hs fun i h1 h2 => ih i h1 h2 (hb i h2)
  | fn hsa hsc _ _ iha ihc =>
    cases hb with
    | fn ha hc => exact .fn hsa hsc (fun i h1 h2 => iha i h1 h2 (ha i h2)) (fun i h1 h2 => ihc i h1 h2 (hc i h2))
  | iface _ ih =>
    cases hb with
    | iface hb => exact .iface (ih hb)
  | anyp => exact .anyp

theorem notMut {st' : St} (H : HRel β st w) (h : Fewer st st') {q : Int} {b a : Nat} {o : AO} (hq : st.h q = some o) (hn : st'.h q = none) (hb : β q = some (b, a)) : ¬ Mut β st'.h b := by
  rintro ⟨q', o', a', h1, h2⟩
  obtain ⟨o2, h3⟩ := h.some h1
  by_cases e : q = q'
  · subst e; rw [hn] at h1; cases h1
  · exact H.apart q q' o o2 b a b a' hq h3 e hb h2 rfl

theorem R.conv {st' : St} (H : HRel β st w) (h : Fewer st st') {x y : AV} (hc : Conv st st' x y) : ∀ {v : Value}, R β st w v x → R β st' w v y := by
  induction hc with
  | same hb => exact fun hr => hr.bel_fewer h hb
  | junk => exact fun _ => .junk
  | frz hq hn hd =>
    rename_i q ver off len k tq els ds
    intro v hr
    obtain ⟨hle, ad, cap, rfl, hcap, hcp, hbk⟩ := R_row_inv hr hq
    have hwd := H.width q ver k tq els hq
    have hdl : ds.length = len := by
      have := congrArg List.length hd
      simp at this
      omega
    have hget : ∀ i (hi : i < ds.length), (els[off + i]'(by omega)) = ds[i].map AV.d := by
      intro i hi
      have h1 : ((els.drop off).take len)[i]? = some (ds[i].map AV.d) := by rw [hd]; simp [hi]
      rw [List.getElem?_take_of_lt (by omega), List.getElem?_drop, List.getElem?_eq_getElem (by omega)] at h1
      exact Option.some.inj h1
    have hwk : ∀ i (hi : i < ds.length), ds[i].length = k := by
      intro i hi
      have := congrArg List.length (hget i hi)
      rw [hwd] at this
      simpa using this.symm
    rcases Nat.eq_zero_or_pos cap with hc0 | hc0
    · have : ds = [] := List.length_eq_zero_iff.1 (by omega)
      subst this
      have : len = 0 := by simpa using hdl.symm
      subst this
      exact .d (.sl ad cap k [] (fun _ _ => undef) (by simp) (by simp) (by intro i j hi; simp at hi) (by intro i j hi; simp at hi))
    · obtain ⟨b, a, hb, rfl, c, T, fr, hcell, hsz⟩ := hcp hc0
      have hnm := notMut H h hq hn hb
      have hch : ∀ i j, ∃ u, ∀ (hi : i < ds.length) (hj : j < k), w.cell? ⟨b, a + off * k + (i * k + j), none⟩ = some u ∧ u.oneCell' = true ∧ Reads (Mut β st'.h) w u (ds[i][j]'(by rw [hwk]; exact hj)) := by
        intro i j
        by_cases hij : i < ds.length ∧ j < k
        · obtain ⟨hi, hj⟩ := hij
          obtain ⟨u, x, h1, h2, h3, h4⟩ := H.cell hq hb (i := off + i) (by omega) hj
          refine ⟨u, fun _ _ => ⟨?_, h4, ?_⟩⟩
          · rw [← h2]; congr 2; rw [Nat.add_mul]; omega
          · rw [hget i hi] at h1
            simp only [List.getElem?_map, Option.map_eq_some_iff] at h1
            obtain ⟨d, hd1, rfl⟩ := h1
            rw [List.getElem?_eq_getElem (by rw [hwk]; exact hj)] at hd1
            cases hd1
            exact (R_d h3).fewer fun b => h.mut
        · exact ⟨undef, fun hi hj => absurd ⟨hi, hj⟩ hij⟩
      have hch' : ∀ p : Nat × Nat, ∃ u, ∀ (hi : p.1 < ds.length) (hj : p.2 < k), w.cell? ⟨b, a + off * k + (p.1 * k + p.2), none⟩ = some u ∧ u.oneCell' = true ∧ Reads (Mut β st'.h) w u (ds[p.1][p.2]'(by rw [hwk]; exact hj)) := fun p => hch p.1 p.2
      obtain ⟨f, hf⟩ := Classical.axiomOfChoice hch'
      rw [← hdl]
      refine .d (.sl _ cap k ds (fun i j => f (i, j)) hwk (by omega) (fun i j hi hj => ⟨b, _, rfl, hnm, (hf (i, j) hi hj).1, (hf (i, j) hi hj).2.1⟩) (fun i j hi hj => (hf (i, j) hi (by rw [← hwk i hi]; exact hj)).2.2))
  | frzp hq hn hi hd =>
    rename_i q ver i j k tq els cs ds
    intro v hr
    obtain ⟨hil, hjk, b, a, hb, rfl⟩ := R_ptr_inv hr hq
    have hnm := notMut H h hq hn hb
    obtain ⟨hi', rfl⟩ := List.getElem?_eq_some_iff.1 hi
    have hwd := H.width q ver k tq els hq i hi'
    have hdl : ds.length = k - j := by
      have := congrArg List.length hd
      simp at this
      omega
    have hch : ∀ m, ∃ u, ∀ (hm : m < ds.length), w.cell? ⟨b, a + i * k + j + m, none⟩ = some u ∧ u.oneCell' = true ∧ Reads (Mut β st'.h) w u ds[m] := by
      intro m
      by_cases hm : m < ds.length
      · obtain ⟨u, x, h1, h2, h3, h4⟩ := H.cell hq hb (i := i) hi' (j := j + m) (by omega)
        refine ⟨u, fun _ => ⟨by rw [← h2]; congr 2; omega, h4, ?_⟩⟩
        have h5 : (els[i].drop j)[m]? = some (AV.d ds[m]) := by rw [hd]; simp [hm]
        rw [List.getElem?_drop, h1] at h5
        cases h5
        exact (R_d h3).fewer fun b => h.mut
      · exact ⟨undef, fun hm' => absurd hm' hm⟩
    obtain ⟨f, hf⟩ := Classical.axiomOfChoice hch
    exact .iptr (fun _ => hnm) (c := f) (fun m hm => ⟨(hf m hm).1, (hf m hm).2.1⟩) (fun m hm => (hf m hm).2.2)
  | nil =>
    intro v hr
    have := R_v hr
    subst this
    exact .d (.sl none 0 _ [] (fun _ _ => undef) (by simp) (by simp) (by intro i j hi; simp at hi) (by intro i j hi; simp at hi))
  | ph hq h hv =>
    intro v hr
    have := R_v hr
    subst this
    refine .row hq (fun ver'' k' t' els' ho => ?_) (fun s p ho => by rw [h] at ho; cases ho) ⟨none, 0, 0, rfl⟩
    rw [h] at ho
    cases ho
    exact ⟨hv, fun _ => ⟨by omega, none, 0, rfl, Nat.le_refl _, fun h0 => absurd h0 (by omega), fun x hx => by cases hx⟩⟩
  | agg hl _ ih =>
    intro v hr
    cases hr with
    | agg hs ho h1 => exact .agg (by omega) ho fun i h2 h3 => ih i (by omega) h3 (h1 i h2 (by omega))
  | tup hl _ ih =>
    intro v hr
    cases hr with
    | tup hs h1 => exact .tup (by omega) fun i h2 h3 => ih i (by omega) h3 (h1 i h2 (by omega))
  | iface _ ih =>
    intro v hr
    cases hr with
    | iface h1 => exact .iface (ih h1)

theorem HRel.fewer {st' : St} (H : HRel β st w) (h : Fewer st st') : HRel β st' w := by
  refine ⟨fun q o ho => (h.obj q o ho).1, fun q q' o o' b a b' a' ho ho' hne hb hb' => ?_, fun q ver k tq els ho hb => ?_, fun q ver k tq els b a ho hb => ?_, fun q ver k tq els ho => ?_, fun x hx => ?_, fun q s p ho => ?_, fun q ver k tq els b a ho hb => ?_⟩
  · obtain ⟨o1, h1⟩ := h.some ho
    obtain ⟨o2, h2⟩ := h.some ho'
    exact H.apart q q' o1 o2 b a b' a' h1 h2 hne hb hb'
  · obtain ⟨_, o, h1, h2⟩ := h.obj _ _ ho
    cases o with
    | iter s p => exact h2.elim
    | row v0 k0 tq0 els0 =>
      obtain ⟨rfl, rfl, rfl, hl, _⟩ := h2
      have := H.phant q _ _ _ els0 h1 hb
      subst this
      exact List.length_eq_zero_iff.1 (by simpa using hl.symm)
  · obtain ⟨_, o, h1, h2⟩ := h.obj _ _ ho
    cases o with
    | iter s p => exact h2.elim
    | row v0 k0 tq0 els0 =>
      obtain ⟨rfl, rfl, rfl, hl, hw, hcv⟩ := h2
      obtain ⟨c, fr, g1, g2, g3, g4, g5⟩ := H.row q _ _ _ els0 b a h1 hb
      refine ⟨c, fr, g1, by rw [← hl]; exact g2, g3, hw, fun i j v x hi hx hv => ?_⟩
      have hi0 : i < els0.length := by omega
      have hj : j < k0 := by
        rw [List.getElem?_eq_getElem hi, Option.bind_some] at hx
        rw [← hw i hi]; exact (List.getElem?_eq_some_iff.1 hx).1
      have hx0 : (els0[i]?.bind (·[j]?)) = some (els0[i][j]'(by rw [g4 i hi0]; exact hj)) := by
        rw [List.getElem?_eq_getElem hi0, Option.bind_some, List.getElem?_eq_getElem]
      obtain ⟨r1, r2⟩ := g5 i j v _ hi0 hx0 hv
      exact ⟨r1.conv H h (hcv i j _ _ hx0 hx), r2⟩
  · obtain ⟨_, o, h1, h2⟩ := h.obj _ _ ho
    cases o with
    | iter s p => exact h2.elim
    | row v0 k0 tq0 els0 =>
      obtain ⟨rfl, rfl, rfl, hl, hw, _⟩ := h2
      exact hw
  · obtain ⟨g1, g2⟩ := H.glob x (h.g x hx)
    exact ⟨g1, fun hm => g2 (h.mut hm)⟩
  · obtain ⟨_, o, h1, h2⟩ := h.obj _ _ ho
    cases o with
    | row v0 k0 tq0 els0 => exact h2.elim
    | iter s' p' =>
      obtain ⟨rfl, rfl⟩ := h2
      exact H.iter q _ _ h1
  · obtain ⟨_, o, h1, h2⟩ := h.obj _ _ ho
    cases o with
    | iter s p => exact h2.elim
    | row v0 k0 tq0 els0 =>
      obtain ⟨rfl, rfl, rfl, hl, hw, _⟩ := h2
      exact H.mul q _ _ _ els0 b a h1 hb

theorem Evo.fewer {B : Base} {st' : St} (he : Evo B.β B.st β st) (h : Fewer st st') (hn : B.st.nx ≤ st'.nx) : Evo B.β B.st β st' := by
  refine ⟨hn, fun q o' hq ho' => ?_⟩
  obtain ⟨_, o, h1, h2⟩ := h.obj _ _ ho'
  obtain ⟨o0, g1, g2, g3⟩ := he.obj q o hq h1
  have hv : o.ver = o'.ver ∧ AOEvo o o' := by
    cases o <;> cases o' <;> simp_all [AO.ver, AOEvo]
  exact ⟨o0, g1, g2.trans hv.2, fun e => g3 (by rw [e, hv.1])⟩

/-- FROM A READING TO ANOTHER: whatever is so in the one is so in the other. -/
def Step (B : Base) (st st' : St) (conv : AV → AV → Prop) : Prop :=
  ∀ β w, HRel β st w → Keep (Mut B.β B.st.h) B.w (Mut β st.h) w → Evo B.β B.st β st → ∃ β', HRel β' st' w ∧ Keep (Mut B.β B.st.h) B.w (Mut β' st'.h) w ∧ Evo B.β B.st β' st' ∧ ∀ v x y, conv x y → R β st w v x → R β' st' w v y

theorem step_fewer {B : Base} {st' : St} (h : Fewer st st') (hn : B.st.nx ≤ st'.nx) : Step B st st' (Conv st st') :=
  fun β w H hk he => ⟨β, H.fewer h, hk.fewer fun b => h.mut, he.fewer h hn, fun v x y hc hr => hr.conv H h hc⟩

theorem Step.mono {B : Base} {st' : St} {c c' : AV → AV → Prop} (h : Step B st st' c) (hc : ∀ x y, c' x y → c x y) : Step B st st' c' := by
  intro β w H hk he
  obtain ⟨β', h1, h2, h3, h4⟩ := h β w H hk he
  exact ⟨β', h1, h2, h3, fun v x y hxy hr => h4 v x y (hc x y hxy) hr⟩

theorem Step.trans {B : Base} {st' st'' : St} {c c' : AV → AV → Prop} (h : Step B st st' c) (h' : Step B st' st'' c') : Step B st st'' fun x z => ∃ y, c x y ∧ c' y z := by
  intro β w H hk he
  obtain ⟨β', h1, h2, h3, h4⟩ := h β w H hk he
  obtain ⟨β'', g1, g2, g3, g4⟩ := h' β' w h1 h2 h3
  exact ⟨β'', g1, g2, g3, fun v x z ⟨y, e1, e2⟩ hr => g4 v y z e2 (h4 v x y e1 hr)⟩

/-- An empty row that stands nowhere: what reads as nil reads as of it too. -/
def PConv (n : Nat) (st : St) (x y : AV) : Prop := x = y ∨ x = .d (.v (.slice none 0 0)) ∧ y = .row st.nx n 0 0

theorem step_phantom {B : Base} (n k : Nat) (tq : TypeId) : Step B st (st.new (.row n k tq [])) (PConv n st) := by
  intro β w H hk he
  obtain ⟨g1, g2, g3⟩ := phantom_obj (tq := tq) (q := st.nx) (ver := n) (k := k) (n' := st.nx + 1) H (by omega) (by omega) (fun h => by omega)
  refine ⟨_, g1, hk.trans g2, he.trans g3, fun v x y hc hr => ?_⟩
  rcases hc with rfl | ⟨rfl, rfl⟩
  · exact hr.keep g2 g3
  · have := R_v hr
    subst this
    exact R_phantom (tq := tq) (k := k) (by omega) (by simp [upd]) (fun x hx => by cases hx)

end Go.Eng
