/-
  Part of the proof that the law ProjectAll returns true at every input of bulk at most 1048576, and leaves its arguments as they were; the whole is stated at the end of the last text.
-/
import Derived.Orders
import Derived.Laws.Sem
/-
  THE ENGINE, PART 1: abstract values, the heap of what is live, how concrete values read as abstract ones, and what keeps such readings.
-/
namespace Go.Eng
open Go

/-- Pure data: a plain value of one cell, or an immutable slice: its elements, each a list of k cells. -/
inductive D where
  | v (x : Value)
  | sl (k : Nat) (els : List (List D))

/-- Abstract values. -/
inductive AV where
  | d (x : D)
  | junk
  | row (q : Int) (ver off len : Nat)
  | ptr (q : Int) (ver i j : Nat)
  | iptr (cells : List D)
  | it (q : Int)
  | agg (l : List AV)
  | tup (l : List AV)
  | fn (f : Fn) (first cap : List AV)
  | iface (t : TypeId) (x : AV)
  | anyp

/-- What is live: a row of elements (a variable is a row of one element), an iterator over a string. -/
inductive AO where
  | row (ver k : Nat) (t : TypeId) (els : List (List AV))
  | iter (s : ByteArray) (pos : Nat)

/-- What is live, by numbers; the next free number; what package-level variables hold: a block, a place, a value. -/
structure St where
  h : Int → Option AO
  nx : Int
  g : List (Nat × Nat × Value)

abbrev Emb := Int → Option (Nat × Nat)

/-- The blocks that live objects stand in. -/
def Mut (β : Emb) (h : Int → Option AO) (b : Nat) : Prop := ∃ q o a, h q = some o ∧ β q = some (b, a)

/-- A concrete value reads as pure data, out of memory that nobody writes. -/
inductive Reads (M : Nat → Prop) (w : World) : Value → D → Prop
  | v (x : Value) : Reads M w x (.v x)
  | sl (ad : Option Addr) (cap k : Nat) (els : List (List D)) (c : Nat → Nat → Value)
      (hk : ∀ i (hi : i < els.length), els[i].length = k)
      (hcap : els.length ≤ cap)
      (hc : ∀ i j, i < els.length → j < k → ∃ b o, ad = some ⟨b, o, none⟩ ∧ ¬ M b ∧ w.cell? ⟨b, o + (i * k + j), none⟩ = some (c i j) ∧ (c i j).oneCell' = true)
      (hr : ∀ i j (hi : i < els.length) (hj : j < els[i].length), Reads M w (c i j) els[i][j]) :
      Reads M w (.slice ad els.length cap) (.sl k els)

/-- The world has gone on: what is not mutable is as it was, and stays so; blocks keep their shapes. -/
structure Keep (M : Nat → Prop) (w : World) (M' : Nat → Prop) (w' : World) : Prop where
  size : w.heap.size ≤ w'.heap.size
  same : ∀ b, b < w.heap.size → ¬ M b → w'.heap[b]? = w.heap[b]? ∧ ¬ M' b
  shape : ∀ (b : Nat) (c : Array Value) (T : TypeId) (fr : Nat × Nat), w.heap[b]? = some (Go.Obj.cells c T fr) → ∃ (c' : Array Value) (fr' : Nat × Nat), w'.heap[b]? = some (Go.Obj.cells c' T fr') ∧ c'.size = c.size
  os : w'.os = w.os
  tape : w'.tape = w.tape
  output : w'.output = w.output

theorem Keep.refl (M : Nat → Prop) (w : World) : Keep M w M w :=
  ⟨Nat.le_refl _, fun _ _ h => ⟨rfl, h⟩, fun _ c _ fr h => ⟨c, fr, h, rfl⟩, rfl, rfl, rfl⟩

theorem Keep.trans {M M' M'' : Nat → Prop} {w w' w'' : World} (h : Keep M w M' w') (h' : Keep M' w' M'' w'') : Keep M w M'' w'' := by
  refine ⟨Nat.le_trans h.size h'.size, fun b hb hm => ?_, fun b c T fr hc => ?_, h'.os.trans h.os, h'.tape.trans h.tape, h'.output.trans h.output⟩
  · obtain ⟨e1, m1⟩ := h.same b hb hm
    obtain ⟨e2, m2⟩ := h'.same b (Nat.lt_of_lt_of_le hb h.size) m1
    exact ⟨e2.trans e1, m2⟩
  · obtain ⟨c1, fr1, hc1, hs1⟩ := h.shape b c T fr hc
    obtain ⟨c2, fr2, hc2, hs2⟩ := h'.shape b c1 T fr1 hc1
    exact ⟨c2, fr2, hc2, hs2.trans hs1⟩

/-- Fewer are mutable. -/
theorem Keep.fewer {M M' M'' : Nat → Prop} {w w' : World} (h : Keep M w M' w') (hm : ∀ b, M'' b → M' b) : Keep M w M'' w' :=
  ⟨h.size, fun b hb hn => ⟨(h.same b hb hn).1, fun hh => (h.same b hb hn).2 (hm b hh)⟩, h.shape, h.os, h.tape, h.output⟩

theorem cell_lt {w : World} {a : Addr} {v : Value} (h : w.cell? a = some v) : a.block < w.heap.size := by
  unfold World.cell? at h
  split at h
  · rename_i heq
    exact (Array.getElem?_eq_some_iff.1 heq).1
  · cases h

theorem Keep.cell {M M' : Nat → Prop} {w w' : World} (h : Keep M w M' w') {a : Addr} {v : Value} (hm : ¬ M a.block) (hc : w.cell? a = some v) : w'.cell? a = some v := by
  have hb := cell_lt hc
  have he := (h.same _ hb hm).1
  unfold World.cell? at hc ⊢
  rw [he]; exact hc

theorem Reads.keep {M M' : Nat → Prop} {w w' : World} (h : Keep M w M' w') {v : Value} {d : D} (hr : Reads M w v d) : Reads M' w' v d := by
  induction hr with
  | v x => exact .v x
  | sl ad cap k els c hk hcap hc hr ih =>
    refine .sl ad cap k els c hk hcap (fun i j hi hj => ?_) (fun i j hi hj => ih i j hi hj)
    obtain ⟨b, o, e, hm, hcell, h1⟩ := hc i j hi hj
    exact ⟨b, o, e, (h.same b (cell_lt hcell) hm).2, h.cell hm hcell, h1⟩

/-- An address that a slice may hold. -/
def Blk (w : World) (ad : Option Addr) : Prop := ∀ x, ad = some x → ∃ (c : Array Value) (T : TypeId) (fr : Nat × Nat), w.heap[x.block]? = some (Go.Obj.cells c T fr)

/-- Slice value v is the elements off .. off + len of the row at object q. -/
def SliceAt (β : Emb) (w : World) (q : Int) (k off len : Nat) (v : Value) : Prop :=
  ∃ ad cap, v = .slice ad len cap ∧ len ≤ cap ∧
    (0 < cap → ∃ b a, β q = some (b, a) ∧ ad = some ⟨b, a + off * k, none⟩ ∧ ∃ (c : Array Value) (T : TypeId) (fr : Nat × Nat), w.heap[b]? = some (Go.Obj.cells c T fr) ∧ a + (off + cap) * k ≤ c.size) ∧ Blk w ad

def PtrAt (β : Emb) (q : Int) (k i j : Nat) (v : Value) : Prop := ∃ b a, β q = some (b, a) ∧ v = .pointer (some ⟨b, a + i * k + j, none⟩)

inductive R (β : Emb) (st : St) (w : World) : Value → AV → Prop
  | d {v x} (h : Reads (Mut β st.h) w v x) : R β st w v (.d x)
  | junk {v} : R β st w v .junk
  | row {v q ver off len} (hq : q < st.nx)
      (h : ∀ ver' k t els, st.h q = some (.row ver' k t els) → ver ≤ ver' ∧ (ver = ver' → off + len ≤ els.length ∧ SliceAt β w q k off len v))
      (hn : ∀ s p, st.h q ≠ some (.iter s p)) (hv : ∃ ad n cap, v = .slice ad n cap) : R β st w v (.row q ver off len)
  | ptr {v q ver i j} (hq : q < st.nx)
      (h : ∀ ver' k t els, st.h q = some (.row ver' k t els) → ver ≤ ver' ∧ (ver = ver' → i < els.length ∧ j ≤ k ∧ PtrAt β q k i j v))
      (hn : ∀ s p, st.h q ≠ some (.iter s p)) (hv : ∃ ad, v = .pointer (some ad)) : R β st w v (.ptr q ver i j)
  | iptr {b o : Nat} {cells : List D} {c : Nat → Value}
      (hm : 0 < cells.length → ¬ Mut β st.h b)
      (hc : ∀ i, i < cells.length → w.cell? ⟨b, o + i, none⟩ = some (c i) ∧ (c i).oneCell' = true)
      (hr : ∀ i (hi : i < cells.length), Reads (Mut β st.h) w (c i) cells[i]) :
      R β st w (.pointer (some ⟨b, o, none⟩)) (.iptr cells)
  | it {v q} (hq : q < st.nx) (hv : ∃ ad, v = .pointer (some ad)) (hn : ∀ ver k t els, st.h q ≠ some (.row ver k t els))
      (h : ∀ s p, st.h q = some (.iter s p) → ∃ b, β q = some (b, 0) ∧ v = .pointer (some ⟨b, 0, none⟩)) : R β st w v (.it q)
  | agg {cs : Array Value} {l : List AV} (hs : cs.size = l.length) (ho : ∀ i (h1 : i < cs.size), cs[i].oneCell' = true) (h : ∀ i (h1 : i < cs.size) (h2 : i < l.length), R β st w cs[i] l[i]) : R β st w (.agg cs) (.agg l)
  | tup {cs : Array Value} {l : List AV} (hs : cs.size = l.length) (h : ∀ i (h1 : i < cs.size) (h2 : i < l.length), R β st w cs[i] l[i]) : R β st w (.tuple cs) (.tup l)
  | fn {f : Fn} {a c : Array Value} {la lc : List AV} (hsa : a.size = la.length) (hsc : c.size = lc.length)
      (ha : ∀ i (h1 : i < a.size) (h2 : i < la.length), R β st w a[i] la[i]) (hc : ∀ i (h1 : i < c.size) (h2 : i < lc.length), R β st w c[i] lc[i]) :
      R β st w (.func f a c) (.fn f la lc)
  | iface {t : TypeId} {v : Value} {x : AV} (h : R β st w v x) : R β st w (.iface t v) (.iface t x)
  | anyp {p : Option Addr} : R β st w (.pointer p) .anyp

/-- How an object has gone on. -/
def AOEvo : AO → AO → Prop
  | .row v k t els, .row v' k' t' els' => v ≤ v' ∧ (v = v' → k = k' ∧ t = t' ∧ els.length = els'.length)
  | .iter s _, .iter s' _ => s = s'
  | _, _ => False

def AO.ver : AO → Nat
  | .row v _ _ _ => v
  | .iter _ _ => 0

/-- How the heap of what is live has gone on: of those that were there, what is still there is the same one. -/
structure Evo (β : Emb) (st : St) (β' : Emb) (st' : St) : Prop where
  nx : st.nx ≤ st'.nx
  obj : ∀ q o', q < st.nx → st'.h q = some o' → ∃ o, st.h q = some o ∧ AOEvo o o' ∧ (o.ver = o'.ver → β' q = β q)

theorem AOEvo.refl (o : AO) : AOEvo o o := by cases o <;> simp [AOEvo]

theorem AOEvo.trans {a b c : AO} (h : AOEvo a b) (h' : AOEvo b c) : AOEvo a c := by
  cases a <;> cases b <;> cases c <;> simp_all [AOEvo]
  rename_i v1 k1 t1 e1 v2 k2 t2 e2 v3 k3 t3 e3
  refine ⟨Nat.le_trans h.1 h'.1, fun he => ?_⟩
  have e12 : v1 = v2 := by omega
  have e23 : v2 = v3 := by omega
  exact ⟨(h.2 e12).1.trans (h'.2 e23).1, (h.2 e12).2.1.trans (h'.2 e23).2.1, (h.2 e12).2.2.trans (h'.2 e23).2.2⟩

theorem AOEvo.ver {a b : AO} (h : AOEvo a b) : a.ver ≤ b.ver := by
  cases a <;> cases b <;> simp_all [AOEvo, AO.ver]

theorem Evo.refl (β : Emb) (st : St) : Evo β st β st := ⟨Int.le_refl _, fun _ o' _ h => ⟨o', h, .refl _, fun _ => rfl⟩⟩

theorem Evo.trans {β β' β'' : Emb} {st st' st'' : St} (h : Evo β st β' st') (h' : Evo β' st' β'' st'') : Evo β st β'' st'' := by
  refine ⟨Int.le_trans h.nx h'.nx, fun q o'' hq ho'' => ?_⟩
  obtain ⟨o', ho', e', b'⟩ := h'.obj q o'' (Int.lt_of_lt_of_le hq h.nx) ho''
  obtain ⟨o, ho, e, b⟩ := h.obj q o' hq ho'
  refine ⟨o, ho, e.trans e', fun hv => ?_⟩
  have := e.ver; have := e'.ver
  rw [b' (by omega), b (by omega)]

/-- The heap of what is live, and the world. -/
structure HRel (β : Emb) (st : St) (w : World) : Prop where
  lt : ∀ q o, st.h q = some o → q < st.nx
  apart : ∀ q q' o o' b a b' a', st.h q = some o → st.h q' = some o' → q ≠ q' → β q = some (b, a) → β q' = some (b', a') → b ≠ b'
  phant : ∀ q ver k t els, st.h q = some (.row ver k t els) → β q = none → els = []
  row : ∀ q ver k t els b a, st.h q = some (.row ver k t els) → β q = some (b, a) →
    ∃ (c : Array Value) (fr : Nat × Nat), w.heap[b]? = some (Go.Obj.cells c t fr) ∧ a + els.length * k ≤ c.size ∧ (∀ i, i < c.size → ¬ (fr.1 ≤ i ∧ i < fr.2)) ∧
      (∀ i (hi : i < els.length), els[i].length = k) ∧
      (∀ i j v x, i < els.length → (els[i]?.bind (·[j]?)) = some x → c[a + i * k + j]? = some v → R β st w v x ∧ v.oneCell' = true)
  width : ∀ q ver k t els, st.h q = some (.row ver k t els) → ∀ i (hi : i < els.length), els[i].length = k
  glob : ∀ x, x ∈ st.g → w.cell? ⟨x.1, x.2.1, none⟩ = some x.2.2 ∧ ¬ Mut β st.h x.1
  iter : ∀ q s p, st.h q = some (.iter s p) → ∃ b, β q = some (b, 0) ∧ w.heap[b]? = some (Go.Obj.stringIter s p)
  mul : ∀ q ver k t els b a, st.h q = some (.row ver k t els) → β q = some (b, a) → ∃ m, a = m * k

theorem Keep.blk {M M' : Nat → Prop} {w w' : World} (h : Keep M w M' w') {ad : Option Addr} (hb : Blk w ad) : Blk w' ad := by
  intro x hx
  obtain ⟨c, T, fr, hc⟩ := hb x hx
  obtain ⟨c', fr', hc', _⟩ := h.shape _ c T fr hc
  exact ⟨c', T, fr', hc'⟩

theorem Keep.sliceAt {β β' : Emb} {M M' : Nat → Prop} {w w' : World} (h : Keep M w M' w') {q : Int} {k off len : Nat} {v : Value} (hb : β' q = β q) (hs : SliceAt β w q k off len v) :
    SliceAt β' w' q k off len v := by
  obtain ⟨ad, cap, e, hl, hc, hbk⟩ := hs
  refine ⟨ad, cap, e, hl, fun h0 => ?_, h.blk hbk⟩
  obtain ⟨b, a, hq, had, c, T, fr, hcell, hsz⟩ := hc h0
  obtain ⟨c', fr', hc', hs'⟩ := h.shape b c T fr hcell
  exact ⟨b, a, hb.trans hq, had, c', T, fr', hc', by rw [hs']; exact hsz⟩

/-- Readings go on. -/
theorem R.keep {β β' : Emb} {st st' : St} {w w' : World} (hk : Keep (Mut β st.h) w (Mut β' st'.h) w') (he : Evo β st β' st') {v : Value} {x : AV} (h : R β st w v x) : R β' st' w' v x := by
  induction h with
  | d h => exact .d (h.keep hk)
  | junk => exact .junk
  | row hq h hn hv =>
    refine .row (Int.lt_of_lt_of_le hq he.nx) (fun ver' k t els ho' => ?_) (fun s p ho' => ?_) hv
    · obtain ⟨o, ho, hev, hb⟩ := he.obj _ _ hq ho'
      cases o with
      | iter s p => exact hev.elim
      | row v0 k0 t0 els0 =>
        obtain ⟨h1, h2⟩ := h _ _ _ _ ho
        simp only [AOEvo] at hev
        refine ⟨Nat.le_trans h1 hev.1, fun hv => ?_⟩
        have e0 : v0 = ver' := by omega
        obtain ⟨ek, et, el⟩ := hev.2 e0
        obtain ⟨g1, g2⟩ := h2 (by omega)
        subst ek et
        exact ⟨by omega, hk.sliceAt (hb e0) g2⟩
    · obtain ⟨o, ho, hev, _⟩ := he.obj _ _ hq ho'
      cases o with
      | iter s' p' => exact hn _ _ ho
      | row v0 k0 t0 els0 => exact hev.elim
  | ptr hq h hn hv =>
    refine .ptr (Int.lt_of_lt_of_le hq he.nx) (fun ver' k t els ho' => ?_) (fun s p ho' => ?_) hv
    · obtain ⟨o, ho, hev, hb⟩ := he.obj _ _ hq ho'
      cases o with
      | iter s p => exact hev.elim
      | row v0 k0 t0 els0 =>
        obtain ⟨h1, h2⟩ := h _ _ _ _ ho
        simp only [AOEvo] at hev
        refine ⟨Nat.le_trans h1 hev.1, fun hv => ?_⟩
        have e0 : v0 = ver' := by omega
        obtain ⟨ek, et, el⟩ := hev.2 e0
        obtain ⟨g1, g2, b, a, hb0, hv0⟩ := h2 (by omega)
        subst ek et
        exact ⟨by omega, g2, b, a, (hb e0).trans hb0, hv0⟩
    · obtain ⟨o, ho, hev, _⟩ := he.obj _ _ hq ho'
      cases o with
      | iter s' p' => exact hn _ _ ho
      | row v0 k0 t0 els0 => exact hev.elim
  | iptr hm hc hr =>
    refine .iptr (fun h0 => ?_) (fun i hi => ?_) (fun i hi => (hr i hi).keep hk)
    · exact (hk.same _ (cell_lt (hc 0 h0).1) (hm h0)).2
    · exact ⟨hk.cell (hm (by omega)) (hc i hi).1, (hc i hi).2⟩
  | it hq hv hn h =>
    refine .it (Int.lt_of_lt_of_le hq he.nx) hv (fun ver k t els ho' => ?_) (fun s p ho' => ?_)
    · obtain ⟨o, ho, hev, _⟩ := he.obj _ _ hq ho'
      cases o with
      | iter s' p' => exact hev.elim
      | row v0 k0 t0 els0 => exact hn _ _ _ _ ho
    · obtain ⟨o, ho, hev, hb⟩ := he.obj _ _ hq ho'
      cases o with
      | row v0 k0 t0 els0 => exact hev.elim
      | iter s' p' =>
        obtain ⟨b, h1, h2⟩ := h _ _ ho
        exact ⟨b, (hb rfl).trans h1, h2⟩
  | agg hs ho _ ih => exact .agg hs ho ih
  | tup hs _ ih => exact .tup hs ih
  | fn hsa hsc _ _ iha ihc => exact .fn hsa hsc iha ihc
  | iface _ ih => exact .iface ih
  | anyp => exact .anyp

end Go.Eng
