/-
  Part of the proof that the law ProjectAll returns true at every input of bulk at most 1048576, and leaves its arguments as they were; the whole is stated at the end of the last text.
-/
import Derived.Test.YtdopmhicmehmeaaEngT
import Derived.Carry
import Derived.ChangeSame
import Derived.ChangeArms
import Derived.WideShapes
import Derived.Below
import Derived.RowKit
import Derived.WideKeyArgs
import Derived.ChangeShapes
/-
  THE ENGINE, PART 21: what a call's arguments read as; what a statement asks of a call.
-/
set_option linter.unusedVariables false
set_option linter.unusedSimpArgs false
namespace Go.Eng
open Go

variable {P : Program}

/-- Cells that read as data. -/
def RL (w : World) (cs : List Value) (ds : List D) : Prop := cs.length = ds.length ∧ ∀ i (h1 : i < cs.length) (h2 : i < ds.length), Reads (fun _ => False) w cs[i] ds[i] ∧ cs[i].oneCell' = true

/-- How much a reading holds. -/
structure BulkOK {H : Type} (b : DataW H → Nat) (bl : List (DataW H) → Nat) : Prop where
  str : ∀ s, b (.lit (.string s)) = s.length + 1
  one : ∀ d, 1 ≤ b d
  sl : ∀ x y, b (.slice x y) = bl x + bl y + 1
  agg : ∀ x, b (.agg x) = bl x + 1
  nil : bl [] = 0
  cons : ∀ d l, bl (d :: l) = b d + bl l

/-- What is read as a type is read as typed data. -/
def Opens (P : Program) {α : Type} (t : TypeId) (enc : α → List D) (sz : α → Nat) (ok : α → Prop) : Prop :=
  ∀ (H : Type) (e : TypeId × Value → H) (b : DataW H → Nat) (bl : List (DataW H) → Nat), BulkOK b bl → ∀ (w : World) (base : Nat) (sp : Nat → Bool) (held : Bool) (fuel : Nat) (cs : List Value) (d : DataW H) (ps : List MemPlace),
    DataW.trod e P w base sp held fuel t cs = some (d, ps) → ∃ x : α, RL w cs (enc x) ∧ sz x + 1 ≤ b d ∧ ok x

def okI (n : Int) : Prop := -9223372036854775808 ≤ n ∧ n ≤ 9223372036854775807
def szS (s : ByteArray) : Nat := s.size
def sz0 {α : Type} (_ : α) : Nat := 0
def okT {α : Type} (_ : α) : Prop := True

theorem opens_int {t : TypeId} (ht : P.underlying t = some (.int .i64)) : Opens P t intD sz0 okI := by
  intro H e b bl hb w base sp held fuel cs d ps h
  obtain ⟨n, rfl, hx, hw⟩ := DataW.trod_int ht h
  refine ⟨n, ⟨rfl, fun i h1 h2 => ?_⟩, by have := hb.one d; simpa [sz0] using this, ?_⟩
  · have : i = 0 := by simp at h1; omega
    subst this
    exact ⟨.v _, rfl⟩
  · simpa [Lit.wf, IntKind.min, IntKind.max, IntKind.signed, IntKind.bits, okI] using hw

theorem opens_str {t : TypeId} (ht : P.underlying t = some .string) : Opens P t strD szS okT := by
  intro H e b bl hb w base sp held fuel cs d ps h
  obtain ⟨s, rfl, hx, hw⟩ := DataW.trod_string ht h
  simp only [Prod.mk.injEq] at hx
  obtain ⟨rfl, rfl⟩ := hx
  refine ⟨s, ⟨rfl, fun i h1 h2 => ?_⟩, by rw [hb.str]; simp [szS], trivial⟩
  have : i = 0 := by simp at h1; omega
  subst this
  exact ⟨.v _, rfl⟩

theorem opens_bool {t : TypeId} (ht : P.underlying t = some .bool) : Opens P t booD sz0 okT := by
  intro H e b bl hb w base sp held fuel cs d ps h
  obtain ⟨s, rfl, hx⟩ := DataW.trod_bool ht h
  refine ⟨s, ⟨rfl, fun i h1 h2 => ?_⟩, by have := hb.one d; simpa [sz0] using this, trivial⟩
  have : i = 0 := by simp at h1; omega
  subst this
  exact ⟨.v _, rfl⟩

def lsz {α : Type} (sz : α → Nat) (l : List α) : Nat := (l.map fun x => sz x + 1).sum
theorem lsz_len {α : Type} (sz : α → Nat) (l : List α) : l.length ≤ lsz sz l := by
  induction l with
  | nil => simp [lsz]
  | cons x l ih => simp only [lsz, List.map_cons, List.sum_cons, List.length_cons] at ih ⊢; omega
theorem lsz_mem {α : Type} {sz : α → Nat} {l : List α} {x : α} (h : x ∈ l) : sz x + 1 ≤ lsz sz l := by
  induction l with
  | nil => simp at h
  | cons y l ih =>
    simp only [lsz, List.map_cons, List.sum_cons]
    rcases List.mem_cons.1 h with rfl | h
    · omega
    · have := ih h; simp only [lsz] at this; omega

theorem mapM_get {α β : Type} {f : α → Option β} : ∀ {l : List α} {r : List β}, l.mapM f = some r → l.length = r.length ∧ ∀ i (h1 : i < l.length) (h2 : i < r.length), f l[i] = some r[i] := by
  intro l
  induction l with
  | nil => intro r h; simp at h; subst h; exact ⟨rfl, fun i h => by simp at h⟩
  | cons a l ih =>
    intro r h
    rw [List.mapM_cons] at h
    simp only [Option.bind_eq_bind, Option.bind_eq_some_iff, Option.pure_def, Option.some.injEq] at h
    obtain ⟨y, hy, ys, hys, rfl⟩ := h
    obtain ⟨h1, h2⟩ := ih hys
    refine ⟨by simp [h1], fun i g1 g2 => ?_⟩
    cases i with
    | zero => exact hy
    | succ i => exact h2 i (by simpa using g1) (by simpa using g2)

theorem bl_ge {H : Type} {b : DataW H → Nat} {bl : List (DataW H) → Nat} (hb : BulkOK b bl) {α : Type} {sz : α → Nat} : ∀ {l : List α} {ds : List (DataW H)}, l.length = ds.length → (∀ i (h1 : i < l.length) (h2 : i < ds.length), sz l[i] + 1 ≤ b ds[i]) → lsz sz l ≤ bl ds
  | [], ds, h, _ => by simp [lsz]
  | x :: l, [], h, _ => by simp at h
  | x :: l, d :: ds, h, hg => by
    have h1 := hg 0 (by simp) (by simp)
    have h2 := bl_ge hb (l := l) (ds := ds) (by simpa using h) fun i g1 g2 => by
      have := hg (i + 1) (by simp only [List.length_cons]; omega) (by simp only [List.length_cons]; omega)
      simp only [List.getElem_cons_succ] at this
      exact this
    simp only [List.getElem_cons_zero] at h1
    rw [hb.cons]
    simp only [lsz, List.map_cons, List.sum_cons] at h2 ⊢
    omega

theorem list_choose {α : Type} {Q : Nat → α → Prop} : ∀ n, (∀ i, i < n → ∃ x, Q i x) → ∃ l : List α, l.length = n ∧ ∀ i (h : i < l.length), Q i l[i]
  | 0, _ => ⟨[], rfl, fun i h => by simp at h⟩
  | n + 1, h => by
    obtain ⟨l, hl, hq⟩ := list_choose n fun i hi => h i (by omega)
    obtain ⟨x, hx⟩ := h n (by omega)
    refine ⟨l ++ [x], by simp [hl], fun i hi => ?_⟩
    rw [List.getElem_append]
    split
    · exact hq i _
    · have : i = n := by simp at hi; omega
      subst this
      simpa [hl] using hx

theorem cells_get {w : World} {base n : Nat} {a : Addr} {cs : List Value} (h : w.cells? base a n = some cs) : cs.length = n ∧ ∀ j (hj : j < cs.length), w.cell? (a.add j) = some cs[j] := by
  unfold World.cells? at h
  split at h
  · obtain ⟨h1, h2⟩ := mapM_get h
    simp only [List.length_range] at h1
    refine ⟨h1.symm, fun j hj => ?_⟩
    have := h2 j (by simp; omega) hj
    simpa using this
  · cases h

theorem opens_slice {t e : TypeId} {α : Type} {enc : α → List D} {sz : α → Nat} {ok : α → Prop} {k : Nat} (ht : P.underlying t = some (.slice e)) (hk : P.cellsOf e = k) (hl : ∀ a, (enc a).length = k) (ho : Opens P e enc sz ok) :
    Opens P t (slD k enc) (lsz sz) (fun l => ∀ x ∈ l, ok x) := by
  intro H en b bl hb w base sp held fuel cs d ps h
  rcases DataW.trod_slice ht h with ⟨rfl, hx⟩ | ⟨a, len, cap, elems, rest, n, rfl, rfl, hx, hbl, hlc, hcm, hlen, hel, _⟩
  · cases hx
    refine ⟨[], ⟨rfl, fun i h1 h2 => ?_⟩, by have := hb.one (.nil); simpa [lsz] using this, fun y hy => by simp at hy⟩
    have : i = 0 := by simp at h1; omega
    subst this
    exact ⟨.sl none 0 k [] (fun _ _ => undef) (by simp) (by simp) (by intro i j hi; simp at hi) (by intro i j hi; simp at hi), rfl⟩
  · cases hx
    obtain ⟨l, hll, hq⟩ := list_choose (α := α) (Q := fun i x => ∃ ci, w.cells? base (a.add (i * k)) k = some ci ∧ RL w ci (enc x) ∧ (∀ y, elems[i]? = some y → sz x + 1 ≤ b y.1) ∧ ok x) len fun i hi => by
      have h1 := hel i hi
      rw [hk, List.getElem?_eq_getElem (by omega)] at h1
      obtain ⟨ci, hci, htr⟩ := Option.bind_eq_some_iff.1 h1
      obtain ⟨x, hr, hs, hok⟩ := ho H en b bl hb w base sp held n ci elems[i].1 elems[i].2 htr
      refine ⟨x, ci, hci, hr, fun y hy => ?_, hok⟩
      rw [List.getElem?_eq_getElem (by omega)] at hy
      cases hy
      exact hs
    refine ⟨l, ⟨rfl, fun i h1 h2 => ?_⟩, ?_, fun x hx => ?_⟩
    · have : i = 0 := by simp at h1; omega
      subst this
      refine ⟨?_, rfl⟩
      have cell : ∀ i j (hi : i < l.length) (hj : j < (enc l[i]).length), ∃ v, w.cell? ((a.add (i * k)).add j) = some v ∧ v.oneCell' = true ∧ Reads (fun _ => False) w v (enc l[i])[j] := by
        intro i j hi hj
        obtain ⟨ci, hci, hr, _, _⟩ := hq i hi
        obtain ⟨hcl, hcg⟩ := cells_get hci
        have hjc : j < ci.length := by rw [hr.1]; exact hj
        obtain ⟨r1, r2⟩ := hr.2 j hjc hj
        exact ⟨ci[j], hcg j hjc, r2, r1⟩
      have spot : 0 < l.length → 0 < k → a.spot = none := by
        intro g1 g2
        obtain ⟨v, hv, _⟩ := cell 0 0 g1 (by rw [hl]; exact g2)
        cases hs : a.spot with
        | none => rfl
        | some z => exfalso; simp [World.cell?, Addr.add, hs] at hv; split at hv <;> simp at hv
      have key : ∀ i j (hi : i < l.length) (hj : j < (enc l[i]).length), a.spot = none ∧ ∃ v, w.cell? ⟨a.block, a.off + (i * k + j), none⟩ = some v ∧ v.oneCell' = true ∧ Reads (fun _ => False) w v (enc l[i])[j] := by
        intro i j hi hj
        have hsp := spot (by omega) (by rw [hl] at hj; omega)
        obtain ⟨v, hv, h1, h2⟩ := cell i j hi hj
        refine ⟨hsp, v, ?_, h1, h2⟩
        rw [← hv]
        obtain ⟨ab, ao, as⟩ := a
        simp only at hsp
        subst hsp
        have hadd : ∀ (o m : Nat), (Addr.mk ab o none).add m = ⟨ab, o + m, none⟩ := by
          intro o m
          simp only [Addr.add]
          split
          · subst_vars; rfl
          · rfl
        rw [hadd, hadd, Nat.add_assoc]
      have h5 := Reads.sl (M := fun _ => False) (w := w) (some a) cap k (l.map enc) (fun i j => (w.cell? ⟨a.block, a.off + (i * k + j), none⟩).getD undef)
        (fun i hi => by simp [hl]) (by simp [hll]; exact hlc)
        (fun i j hi hj => by
          have hi : i < l.length := by simpa using hi
          obtain ⟨hsp, v, hv, ho, hr⟩ := key i j hi (by rw [hl]; exact hj)
          refine ⟨a.block, a.off, ?_, fun h => h, ?_, ?_⟩
          · obtain ⟨ab, ao, as⟩ := a; simp at hsp; subst hsp; rfl
          · simp only [hv, Option.getD_some]
          · simp only [hv, Option.getD_some, ho])
        (fun i j hi hj => by
          have hi : i < l.length := by simpa using hi
          have hj' : j < (enc l[i]).length := by simpa using hj
          obtain ⟨hsp, v, hv, ho, hr⟩ := key i j hi hj'
          simp only [hv, Option.getD_some, List.getElem_map]
          exact hr)
      have e : (l.map enc).length = len := by simp [hll]
      rw [e] at h5
      exact h5
    · rw [hb.sl]
      have := bl_ge hb (l := l) (ds := elems.map (·.1)) (sz := sz) (by simp [hll, hlen]) fun i h1 h2 => by
        obtain ⟨_, _, _, hs, _⟩ := hq i h1
        simp only [List.getElem_map]
        exact hs _ (List.getElem?_eq_getElem _)
      omega
    · obtain ⟨i, hi, rfl⟩ := List.getElem_of_mem hx
      obtain ⟨_, _, _, _, hok⟩ := hq i hi
      exact hok

/-! ### Structs: the fields' cells one after another. -/

theorem RL.app {w : World} {cs : List Value} {k : Nat} {d1 d2 : List D} (h1 : RL w (cs.take k) d1) (h2 : RL w (cs.drop k) d2) : RL w cs (d1 ++ d2) := by
  have h : RL w (cs.take k ++ cs.drop k) (d1 ++ d2) := by
    refine ⟨by simp only [List.length_append, h1.1, h2.1], fun i g1 g2 => ?_⟩
    simp only [List.getElem_append, h1.1]
    split
    · exact h1.2 i (by rw [h1.1]; assumption) (by assumption)
    · exact h2.2 _ _ _
  simpa using h

def structIs (P : Program) (t : TypeId) (l : List (TypeId × Nat × Nat)) (total : Nat) : Bool :=
  match P.underlying t with
  | some (.struct fs) => (fs.toList.map fun f => (f.type, f.offset, P.cellsOf f.type)) == l && P.cellsOf t == total
  | _ => false

def OpensF (P : Program) (l : List (TypeId × Nat × Nat)) (off total : Nat) {α : Type} (enc : α → List D) (sz : α → Nat) (ok : α → Prop) : Prop :=
  ∀ (H : Type) (e : TypeId × Value → H) (b : DataW H → Nat) (bl : List (DataW H) → Nat), BulkOK b bl → ∀ (w : World) (base : Nat) (sp : Nat → Bool) (held : Bool) (n : Nat) (cs : List Value) (xs : List (DataW H × List MemPlace)),
    cs.length = total → xs.length = l.length → (∀ (i : Nat) (y : TypeId × Nat × Nat), l[i]? = some y → DataW.trod e P w base sp held n y.1 ((cs.drop y.2.1).take y.2.2) = xs[i]?) → ∃ x : α, RL w (cs.drop off) (enc x) ∧ sz x ≤ bl (xs.map (·.1)) ∧ ok x

theorem opensF_nil {total : Nat} : OpensF P [] total total (fun _ : Unit => []) (fun _ => 0) (fun _ => True) := by
  intro H e b bl hb w base sp held n cs xs hc hx hf
  refine ⟨(), ⟨by simp [hc], fun i h1 h2 => by simp at h2⟩, Nat.zero_le _, trivial⟩

theorem opensF_cons {l : List (TypeId × Nat × Nat)} {t : TypeId} {off k total : Nat} {α β : Type} {enc1 : α → List D} {enc2 : β → List D} {sz1 : α → Nat} {sz2 : β → Nat} {ok1 : α → Prop} {ok2 : β → Prop}
    (h1 : Opens P t enc1 sz1 ok1) (h2 : OpensF P l (off + k) total enc2 sz2 ok2) : OpensF P ((t, off, k) :: l) off total (fun x : α × β => enc1 x.1 ++ enc2 x.2) (fun x => (sz1 x.1 + 1) + sz2 x.2) (fun x => ok1 x.1 ∧ ok2 x.2) := by
  intro H e b bl hb w base sp held n cs xs hc hx hf
  match xs, hx with
  | x0 :: xs, hx =>
    obtain ⟨x, r1, s1, o1⟩ := h1 H e b bl hb w base sp held n _ x0.1 x0.2 (by simpa using hf 0 (t, off, k) rfl)
    obtain ⟨y, r2, s2, o2⟩ := h2 H e b bl hb w base sp held n cs xs hc (by simpa using hx) fun i y hy => by simpa using hf (i + 1) y (by simpa using hy)
    refine ⟨(x, y), RL.app r1 (by rw [List.drop_drop]; exact r2), ?_, o1, o2⟩
    simp only [List.map_cons, hb.cons]
    omega

theorem opens_struct {t : TypeId} {l : List (TypeId × Nat × Nat)} {total : Nat} {α β : Type} {enc : α → List D} {sz : α → Nat} {ok : α → Prop} {enc' : β → List D} {sz' : β → Nat} {ok' : β → Prop} (ht : structIs P t l total = true) (g : α → β)
    (h : OpensF P l 0 total enc sz ok) (henc : ∀ x, enc' (g x) = enc x) (hsz : ∀ x, sz' (g x) = sz x) (hok : ∀ x, ok x → ok' (g x)) : Opens P t enc' sz' ok' := by
  intro H e b bl hb w base sp held fuel cs d ps hd
  unfold structIs at ht
  split at ht
  · rename_i fs hfs
    simp only [Bool.and_eq_true, beq_iff_eq] at ht
    obtain ⟨hl, hc⟩ := ht
    obtain ⟨xs, n, rfl, hx, hcs, hxs, hf⟩ := DataW.trod_struct hfs hd
    cases hx
    obtain ⟨x, r, s, o⟩ := h H e b bl hb w base sp held n cs xs (by rw [hcs, hc]) (by rw [hxs, ← hl]; simp) fun i y hy => by
      rw [← hl, List.getElem?_map] at hy
      obtain ⟨f, hf1, rfl⟩ := Option.map_eq_some_iff.1 hy
      exact hf i f (by simpa using hf1)
    refine ⟨g x, by rw [henc]; exact r, ?_, hok x o⟩
    rw [hb.agg, hsz]
    omega
  · cases ht

/-! ### What a law's call asks. -/

theorem Reads.none {M M' : Nat → Prop} {w : World} {v : Value} {x : D} (h : Reads M w v x) (hm : ∀ b, M' b → M b) : Reads M' w v x := by
  induction h with
  | v x => exact .v x
  | sl ad cap k els c hk hcap hc hr ih =>
    refine .sl ad cap k els c hk hcap (fun i j h1 h2 => ?_) ih
    obtain ⟨b, o, h3, h4, h5⟩ := hc i j h1 h2
    exact ⟨b, o, h3, fun h => h4 (hm b h), h5⟩

def st0 : St := ⟨fun _ => Option.none, 0, []⟩
def be0 : Emb := fun _ => Option.none
theorem mut0 (b : Nat) : ¬ Mut be0 st0.h b := by rintro ⟨q, o, a, h, _⟩; simp [st0] at h
theorem hrel0 (w : World) : HRel be0 st0 w where
  lt := fun q o h => by simp [st0] at h
  apart := fun q q' o o' b a b' a' h => by simp [st0] at h
  phant := fun q ver k t els h => by simp [st0] at h
  row := fun q ver k t els b a h => by simp [st0] at h
  width := fun q ver k t els h => by simp [st0] at h
  glob := fun x h => by simp [st0] at h
  iter := fun q s p h => by simp [st0] at h
  mul := fun q ver k t els b a h => by simp [st0] at h

theorem r0_one {w : World} {v : Value} {d : D} (h : RL w [v] [d]) : R be0 st0 w v (.d d) := .d ((h.2 0 (by simp) (by simp)).1.none fun b h => absurd h (mut0 b))
theorem r0_agg {w : World} {cs : Array Value} {ds : List D} (h : RL w cs.toList ds) : R be0 st0 w (.agg cs) (agd ds) := by
  have hl : cs.size = ds.length := by simpa using h.1
  refine .agg (by simp [hl]) (fun i h1 => ?_) fun i h1 h2 => ?_
  · have := (h.2 i (by simpa using h1) (by omega)).2
    simpa using this
  · have := (h.2 i (by simpa using h1) (by omega)).1
    simp only [List.getElem_map]
    exact .d (by simpa using this.none fun b h => absurd h (mut0 b))

theorem below0 {w w' : World} {M : Nat → Prop} (h : Keep (Mut be0 st0.h) w M w') : Go.RowKit.Below w.heap.size w w' :=
  ⟨h.os, h.tape, h.output, h.size, fun k hk => (h.same k hk (mut0 k)).1⟩

/-- A function that answers a truth value, called at arguments that read as its own. -/
theorem call0 {f : FuncId} {args : List AV} {b : Bool} {vs : Array Value} {w : World} (hp : Pure P f args (cB b)) (hs : vs.size = args.length) (hr : ∀ i (h1 : i < vs.size) (h2 : i < args.length), R be0 st0 w vs[i] args[i]) :
    Calls P f vs w fun e w' => e = .returned (.bool b) ∧ Go.RowKit.Below w.heap.size w w' := by
  refine ((hp.calls st0 (fun x st => x = cB b ∧ st = st0) ⟨rfl, rfl⟩).2 be0 w vs (hrel0 w) hs hr).mono ?_
  rintro e w' ⟨v, x, β', st', rfl, ⟨rfl, rfl⟩, hr', hv, hk, _⟩
  cases hv with
  | d h =>
    cases h
    exact ⟨rfl, below0 hk⟩

def readableAll (P : Program) (ts : List TypeId) : Bool := ts.all fun t => P.readableRec t && decide (t < P.types.size)

theorem trodAll_stays {H : Type} {enc : TypeId × Value → H} (hl : laidOutB P = true) {W W' : World} (hb : Go.RowKit.Below W.heap.size W W') {sp : Nat → Bool} :
    ∀ {ts : List TypeId} {vs : List Value} {ds : List (DataW H)} {ps : List MemPlace}, readableAll P ts = true → DataW.TrodAll enc P W 0 (fun _ => true) true ts vs ds ps → (∀ p ∈ ps, p.block < W.heap.size) → (∀ p ∈ ps, sp p.block = true) →
      DataW.TrodAll enc P W' 0 sp true ts vs ds ps
  | [], [], [], ps, _, h, _, _ => h
  | [], [], _ :: _, _, _, h, _, _ => h.elim
  | [], _ :: _, _, _, _, h, _, _ => h.elim
  | _ :: _, [], _, _, _, h, _, _ => h.elim
  | _ :: _, _ :: _, [], _, _, h, _, _ => h.elim
  | t :: ts, v :: vs, d :: ds, ps, hr, h, hlt, hsp => by
    obtain ⟨p, q, h1, h2, rfl⟩ := h
    simp only [readableAll, List.all_cons, Bool.and_eq_true, decide_eq_true_eq] at hr
    refine ⟨p, q, WideElems.Trod_stays hl hr.1.1 hr.1.2 h1 (fun x hx => hb.same (hlt x (by simp [hx]))) (fun x hx => hsp x (by simp [hx])), trodAll_stays hl hb (ts := ts) (by simpa [readableAll] using hr.2) h2 (fun x hx => hlt x (by simp [hx])) (fun x hx => hsp x (by simp [hx])), rfl⟩

theorem trodVars_stays {H : Type} {enc : TypeId × Value → H} (hl : laidOutB P = true) {W W' : World} (hb : Go.RowKit.Below W.heap.size W W') {sp : Nat → Bool} {ns : List String} {gs : List (DataW H)} {ps : List MemPlace} (hn : ns = []) (h : DataW.TrodVars enc P W (fun _ => true) ns gs ps) : DataW.TrodVars enc P W' sp ns gs ps := by
  subst hn
  obtain ⟨rfl, rfl⟩ := Go.ChangeShapes.trodVars_none h
  exact rfl

/-- THE LAW'S CONTRACT: it returns true, and what was there is as it was. -/
theorem law_post {H : Type} {enc : TypeId × Value → H} {f : Func} {s : ChangeSpec} {W W' : World} {args : Array Value} {ds gs : List (DataW H)} {before : List MemPlace} {tb : TypeId}
    (hW : DataW.Whole enc P f.params.toList s.vars false W args.toList ds gs before) (hn : s.vars = []) (hfn : s.fn H (ds ++ gs) = { results := [.lit (.bool true)], args := ds, vars := gs })
    (hl : laidOutB P = true) (hr : readableAll P f.params.toList = true) (ht : f.resultTypes = #[tb]) (hb : P.underlying tb = some .bool) (hbel : Go.RowKit.Below W.heap.size W W') :
    s.post enc P f false true false false W args (.bool true) W' := by
  have hlt : ∀ p ∈ before, p.block < W.heap.size := fun p hp => hW.lt p hp
  have hW' := hW
  obtain ⟨p, q, hA, hV, rfl, hfz, hnd⟩ := hW
  have hlt1 : ∀ x ∈ p, x.block < W.heap.size := fun x hx => hlt x (by simp [hx])
  have keep : ∀ sp : Nat → Bool, (∀ x ∈ p ++ q, sp x.block = true) → DataW.TrodAll enc P W' 0 sp true f.params.toList args.toList ds p := fun sp h => trodAll_stays hl hbel hr hA hlt1 fun x hx => h x (by simp [hx])
  have res : ∀ (b : Nat) (sp : Nat → Bool) (hd : Bool), DataW.TrodAll enc P W' b sp hd f.resultTypes.toList ((Value.bool true).resultList f.resultTypes.size) (s.fn H (ds ++ gs)).results [] := by
    intro b sp hd
    rw [hfn, ht]
    exact ⟨[], [], Go.RowKit.shut_bool hb true, rfl, rfl⟩
  have hold : ∀ x ∈ p ++ q, (fun b => decide (b < W.heap.size)) x.block = true := fun x hx => by simpa using hlt x hx
  refine ⟨ds, gs, p ++ q, [], p, q, hW', res _ _ _, ?_, ?_, World.keptBut_mono (fun x hx => ⟨hx, ?_⟩) (hbel.frame (· ∈ p ++ q)), fun h => by cases h⟩
  · rw [hfn]; exact keep _ hold
  · rw [hfn]; exact trodVars_stays hl hbel hn hV
  · rcases List.mem_append.1 hx with h | h
    · exact Or.inr (Or.inl h)
    · exact Or.inr (Or.inr h)

end Go.Eng
