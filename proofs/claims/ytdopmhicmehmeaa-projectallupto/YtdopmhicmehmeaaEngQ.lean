/-
  Part of the proof that the law ProjectAll returns true at every input of bulk at most 1048576, and leaves its arguments as they were; the whole is stated at the end of the last text.
-/
import Derived.Test.YtdopmhicmehmeaaEngP
/-
  THE ENGINE, PART 17: the numbers of what is live are free; pure functions.
-/
set_option linter.unusedVariables false
set_option linter.unusedSimpArgs false
namespace Go.Eng
open Go

variable {P : Program} {β : Emb} {st : St} {w : World}

mutual
def AV.shift (s : Int) : AV → AV
  | .row q v o l => .row (q + s) v o l
  | .ptr q v i j => .ptr (q + s) v i j
  | .it q => .it (q + s)
  | .agg l => .agg (AV.shiftL s l)
  | .tup l => .tup (AV.shiftL s l)
  | .fn f a c => .fn f (AV.shiftL s a) (AV.shiftL s c)
  | .iface t x => .iface t (AV.shift s x)
  | .d x => .d x
  | .junk => .junk
  | .anyp => .anyp
  | .iptr c => .iptr c
def AV.shiftL (s : Int) : List AV → List AV
  | [] => []
  | x :: l => AV.shift s x :: AV.shiftL s l
end

theorem shiftL_map (s : Int) (l : List AV) : AV.shiftL s l = l.map (AV.shift s) := by
  induction l with
  | nil => rfl
  | cons x l ih => simp [AV.shiftL, ih]

def AO.shift (s : Int) : AO → AO
  | .row v k tq els => .row v k tq (els.map (·.map (AV.shift s)))
  | .iter b p => .iter b p

def St.shift (s : Int) (st : St) : St := ⟨fun q => (st.h (q - s)).map (AO.shift s), st.nx + s, st.g⟩
def Emb.shift (s : Int) (β : Emb) : Emb := fun q => β (q - s)

theorem shift_h (s q : Int) : (st.shift s).h (q + s) = (st.h q).map (AO.shift s) := by simp [St.shift, Int.add_sub_cancel]
theorem shift_β (s q : Int) : (Emb.shift s β) (q + s) = β q := by simp [Emb.shift, Int.add_sub_cancel]

theorem shift_inv {s q : Int} {o' : AO} (h : (st.shift s).h q = some o') : ∃ o, st.h (q - s) = some o ∧ o' = o.shift s := by
  simp only [St.shift, Option.map_eq_some_iff] at h
  obtain ⟨o, h1, h2⟩ := h
  exact ⟨o, h1, h2.symm⟩

theorem shift_row {s q : Int} {ver k : Nat} {tq : TypeId} {els : List (List AV)} (h : (st.shift s).h q = some (.row ver k tq els)) : ∃ els0, st.h (q - s) = some (.row ver k tq els0) ∧ els = els0.map (·.map (AV.shift s)) := by
  obtain ⟨o, h1, h2⟩ := shift_inv h
  cases o with
  | row v k tq0 els0 => simp only [AO.shift, AO.row.injEq] at h2; obtain ⟨rfl, rfl, rfl, rfl⟩ := h2; exact ⟨els0, h1, rfl⟩
  | iter b p => simp [AO.shift] at h2

theorem shift_iter {s q : Int} {b : ByteArray} {p : Nat} (h : (st.shift s).h q = some (.iter b p)) : st.h (q - s) = some (.iter b p) := by
  obtain ⟨o, h1, h2⟩ := shift_inv h
  cases o with
  | row v k tq0 els0 => simp [AO.shift] at h2
  | iter b p => simp only [AO.shift, AO.iter.injEq] at h2; obtain ⟨rfl, rfl⟩ := h2; exact h1

theorem mut_shift (s : Int) (b : Nat) : Mut (Emb.shift s β) (st.shift s).h b ↔ Mut β st.h b := by
  constructor
  · rintro ⟨q, o, a, h1, h2⟩
    obtain ⟨o', h3, _⟩ := shift_inv h1
    exact ⟨q - s, o', a, h3, h2⟩
  · rintro ⟨q, o, a, h1, h2⟩
    exact ⟨q + s, o.shift s, a, by rw [shift_h, h1]; rfl, by rw [shift_β]; exact h2⟩

theorem mut_shift' (s : Int) : Mut (Emb.shift s β) (st.shift s).h = Mut β st.h := funext fun b => propext (mut_shift s b)

theorem R_shift (s : Int) {v : Value} {x : AV} (h : R β st w v x) : R (Emb.shift s β) (st.shift s) w v (x.shift s) := by
  induction h with
  | d h => exact .d (by rw [mut_shift']; exact h)
  | junk => exact .junk
  | row hq h hn hv =>
    refine .row (by simp [St.shift]; omega) (fun ver' k tq0 els ho => ?_) (fun t p ho => ?_) hv
    · obtain ⟨els0, h1, rfl⟩ := shift_row ho
      rw [Int.add_sub_cancel] at h1
      obtain ⟨g1, g2⟩ := h _ _ _ _ h1
      refine ⟨g1, fun e => ?_⟩
      obtain ⟨k1, ad, cap, k2, k3, k4, k6⟩ := g2 e
      refine ⟨by simpa using k1, ad, cap, k2, k3, fun hc => ?_, k6⟩
      obtain ⟨b, a, k5⟩ := k4 hc
      exact ⟨b, a, by rw [shift_β]; exact k5.1, k5.2⟩
    · have := shift_iter ho
      rw [Int.add_sub_cancel] at this
      exact hn _ _ this
  | ptr hq h hn hv =>
    refine .ptr (by simp [St.shift]; omega) (fun ver' k tq0 els ho => ?_) (fun t p ho => ?_) hv
    · obtain ⟨els0, h1, rfl⟩ := shift_row ho
      rw [Int.add_sub_cancel] at h1
      obtain ⟨g1, g2⟩ := h _ _ _ _ h1
      refine ⟨g1, fun e => ?_⟩
      obtain ⟨k1, k2, b, a, k5⟩ := g2 e
      exact ⟨by simpa using k1, k2, b, a, by rw [shift_β]; exact k5.1, k5.2⟩
    · have := shift_iter ho
      rw [Int.add_sub_cancel] at this
      exact hn _ _ this
  | iptr hm hc hr => exact .iptr (fun h0 => by rw [mut_shift']; exact hm h0) hc (fun i hi => by rw [mut_shift']; exact hr i hi)
  | it hq hv hn h =>
    refine .it (by simp [St.shift]; omega) hv (fun ver k tq els ho => ?_) (fun t p ho => ?_)
    · obtain ⟨els0, h1, rfl⟩ := shift_row ho
      rw [Int.add_sub_cancel] at h1
      exact hn _ _ _ _ h1
    · have := shift_iter ho
      rw [Int.add_sub_cancel] at this
      obtain ⟨b, g1, g2⟩ := h _ _ this
      exact ⟨b, by rw [shift_β]; exact g1, g2⟩
  | agg hs ho _ ih =>
    simp only [AV.shift, shiftL_map]
    exact .agg (by simpa using hs) ho fun i h1 h2 => by simpa using ih i h1 (by simpa using h2)
  | tup hs _ ih =>
    simp only [AV.shift, shiftL_map]
    exact .tup (by simpa using hs) fun i h1 h2 => by simpa using ih i h1 (by simpa using h2)
  | fn hsa hsc _ _ iha ihc =>
    simp only [AV.shift, shiftL_map]
    exact .fn (by simpa using hsa) (by simpa using hsc) (fun i h1 h2 => by simpa using iha i h1 (by simpa using h2)) (fun i h1 h2 => by simpa using ihc i h1 (by simpa using h2))
  | iface _ ih => exact .iface ih
  | anyp => exact .anyp

theorem HRel_shift (s : Int) (H : HRel β st w) : HRel (Emb.shift s β) (st.shift s) w := by
  refine ⟨fun q o ho => ?_, fun q q' o o' b a b' a' ho ho' hne hb hb' => ?_, fun q ver k tq els ho hb => ?_, fun q ver k tq els b a ho hb => ?_, fun q ver k tq els ho => ?_, fun x hx => ?_, fun q t p ho => ?_, fun q ver k tq els b a ho hb => ?_⟩
  · obtain ⟨o', h1, _⟩ := shift_inv ho
    have := H.lt _ _ h1
    simp [St.shift]; omega
  · obtain ⟨o1, h1, _⟩ := shift_inv ho
    obtain ⟨o2, h2, _⟩ := shift_inv ho'
    exact H.apart _ _ _ _ b a b' a' h1 h2 (by omega) hb hb'
  · obtain ⟨els0, h1, rfl⟩ := shift_row ho
    rw [H.phant _ _ _ _ _ h1 hb]; rfl
  · obtain ⟨els0, h1, rfl⟩ := shift_row ho
    obtain ⟨c, fr, g1, g2, g3, g4, g5⟩ := H.row _ _ _ _ _ b a h1 hb
    refine ⟨c, fr, g1, by simpa using g2, g3, fun i hi => by simpa using g4 i (by simpa using hi), fun i j v x hi hx hv => ?_⟩
    simp only [List.length_map] at hi
    simp only [List.getElem?_map, List.getElem?_eq_getElem hi, Option.map_some, Option.bind_some, Option.map_eq_some_iff] at hx
    obtain ⟨y, hy, rfl⟩ := hx
    obtain ⟨r1, r2⟩ := g5 i j v y hi (by rw [List.getElem?_eq_getElem hi]; exact hy) hv
    exact ⟨R_shift s r1, r2⟩
  · obtain ⟨els0, h1, rfl⟩ := shift_row ho
    intro i hi
    simpa using H.width _ _ _ _ _ h1 i (by simpa using hi)
  · rw [mut_shift']
    exact H.glob x hx
  · exact H.iter _ _ _ (shift_iter ho)
  · obtain ⟨els0, h1, rfl⟩ := shift_row ho
    exact H.mul _ _ _ _ _ b a h1 hb

theorem ver_shift (s : Int) (o : AO) : (o.shift s).ver = o.ver := by cases o <;> rfl

theorem Evo_shift (s : Int) {β' : Emb} {st' : St} (h : Evo β st β' st') : Evo (Emb.shift s β) (st.shift s) (Emb.shift s β') (st'.shift s) := by
  refine ⟨by have := h.nx; simp [St.shift]; omega, fun q o' hq ho' => ?_⟩
  obtain ⟨o1, h1, rfl⟩ := shift_inv ho'
  obtain ⟨o, g1, g2, g3⟩ := h.obj (q - s) o1 (by simp [St.shift] at hq; omega) h1
  refine ⟨o.shift s, by simp [St.shift, g1], ?_, fun e => ?_⟩
  · cases o <;> cases o1 <;> simp_all [AOEvo, AO.shift]
  · rw [ver_shift, ver_shift] at e
    exact g3 e

theorem AV.shift_zero' : ∀ (n : Nat) (x : AV), SizeOf.sizeOf x ≤ n → x.shift 0 = x := by
  intro n
  induction n with
  | zero => intro x hx; cases x <;> simp at hx
  | succ n ih =>
    intro x hx
    have hl : ∀ l : List AV, SizeOf.sizeOf l ≤ n → l.map (AV.shift 0) = l := by
      intro l hl
      rw [List.map_congr_left (g := id) fun y hy => ih y (by have := List.sizeOf_lt_of_mem hy; omega), List.map_id]
    cases x <;> simp only [AV.shift, shiftL_map, Int.add_zero]
    · rw [hl _ (by simp at hx; omega)]
    · rw [hl _ (by simp at hx; omega)]
    · rw [hl _ (by simp at hx; omega), hl _ (by simp at hx; omega)]
    · rw [ih _ (by simp at hx; omega)]

theorem AV.shift_shift' (s t : Int) : ∀ (n : Nat) (x : AV), SizeOf.sizeOf x ≤ n → (x.shift s).shift t = x.shift (s + t) := by
  intro n
  induction n with
  | zero => intro x hx; cases x <;> simp at hx
  | succ n ih =>
    intro x hx
    have hl : ∀ l : List AV, SizeOf.sizeOf l ≤ n → (l.map (AV.shift s)).map (AV.shift t) = l.map (AV.shift (s + t)) := by
      intro l hl
      rw [List.map_map]
      exact List.map_congr_left fun y hy => ih y (by have := List.sizeOf_lt_of_mem hy; omega)
    cases x <;> simp only [AV.shift, shiftL_map, Int.add_assoc]
    · rw [hl _ (by simp at hx; omega)]
    · rw [hl _ (by simp at hx; omega)]
    · rw [hl _ (by simp at hx; omega), hl _ (by simp at hx; omega)]
    · rw [ih _ (by simp at hx; omega)]

theorem AV.shift_back (s : Int) (x : AV) : (x.shift (-s)).shift s = x := by
  rw [AV.shift_shift' _ _ _ x (Nat.le_refl _), Int.add_left_neg, AV.shift_zero' _ x (Nat.le_refl _)]

theorem St.shift_back (s : Int) (st : St) : (st.shift (-s)).shift s = st := by
  cases st with
  | mk h nx g =>
    simp only [St.shift, St.mk.injEq, and_true]
    refine ⟨?_, by omega⟩
    funext q
    simp only [show q - s - -s = q by omega, Option.map_map]
    cases h q with
    | none => rfl
    | some o =>
      simp only [Option.map_some, Function.comp, Option.some.injEq]
      cases o with
      | iter b p => rfl
      | row v k tq els =>
        simp only [AO.shift, List.map_map, AO.row.injEq, true_and]
        rw [List.map_congr_left (g := id) fun e _ => by
          simp only [Function.comp, List.map_map]
          rw [List.map_congr_left (g := id) fun x _ => by simp only [Function.comp, AV.shift_back]; rfl, List.map_id]; rfl]
        simp

theorem Emb.shift_back (s : Int) (β : Emb) : (β.shift (-s)).shift s = β := by
  funext q
  simp only [Emb.shift]
  congr 1
  omega

/-- A contract at one numbering is one at another. -/
theorem ACalls_shift (s : Int) {f : FuncId} {args : List AV} {st : St} {K : AV → St → Prop} (h : ACalls P f (args.map (AV.shift s)) (st.shift s) fun y st' => K (y.shift (-s)) (st'.shift (-s))) : ACalls P f args st K := by
  obtain ⟨h1, h2⟩ := h
  refine ⟨h1, fun β w vs H hs hr => ?_⟩
  refine (h2 (β.shift s) w vs (HRel_shift s H) (by simpa using hs) fun i g1 g2 => by simpa using R_shift s (hr i g1 (by simpa using g2))).mono ?_
  rintro e w' ⟨v, x, β', st', rfl, hK, hH, hR, hk, he⟩
  have hb : (β.shift s).shift (-s) = β := by have := Emb.shift_back (-s) β; simpa using this
  have hst : (st.shift s).shift (-s) = st := by have := St.shift_back (-s) st; simpa using this
  refine ⟨v, _, β'.shift (-s), _, rfl, hK, HRel_shift _ hH, R_shift _ hR, ?_, ?_⟩
  · rw [mut_shift'] at hk ⊢
    exact hk
  · have := Evo_shift (-s) he
    rw [hb, hst] at this
    exact this

/-- Nothing live is in it. -/
def Dry (x : AV) : Prop := ∀ s, x.shift s = x

theorem WF_shift {s : Int} (h : HRel β st w) : WF (st.shift s) := (HRel_shift s h).wf

theorem ACalls.mono {f : FuncId} {args : List AV} {st : St} {K K' : AV → St → Prop} (h : ACalls P f args st K) (hk : ∀ x st, K x st → K' x st) : ACalls P f args st K' := by
  refine ⟨h.1, fun β w vs H hs hr => (h.2 β w vs H hs hr).mono ?_⟩
  rintro e w' ⟨v, x, β', st', rfl, hK, rest⟩
  exact ⟨v, x, β', st', rfl, hk _ _ hK, rest⟩

/-- A PURE CONTRACT: from data, data; what is live stays as it is. -/
structure Pure (P : Program) (f : FuncId) (args : List AV) (x : AV) : Prop where
  calls : ∀ (st : St) (K : AV → St → Prop), K x st → ACalls P f args st K

theorem pure_intro {f : FuncId} {args : List AV} {x : AV} (ha : ∀ s, AV.shiftL s args = args) (hx : Dry x) (h : ∀ hp g, ACalls P f args ⟨hp, 0, g⟩ fun y st' => y = x ∧ st' = ⟨hp, 0, g⟩) : Pure P f args x := by
  refine ⟨fun st K hK => ACalls_shift (-st.nx) ?_⟩
  rw [← shiftL_map, ha]
  have h0 : st.shift (-st.nx) = ⟨(st.shift (-st.nx)).h, 0, st.g⟩ := by simp [St.shift]; omega
  rw [h0]
  refine (h _ _).mono ?_
  rintro y st' ⟨rfl, rfl⟩
  rw [← h0, Int.neg_neg, hx]
  rw [St.shift_back]
  exact hK

/-- What was there before is as it was. -/
def Agree (h h' : Int → Option AO) : Prop := ∀ q, q < 0 → h' q = h q

theorem Agree.refl (h : Int → Option AO) : Agree h h := fun _ _ => rfl
theorem Agree.upd {h h' : Int → Option AO} (ha : Agree h h') {q : Int} (hq : 0 ≤ q) (o : AO) : Agree h (upd h' q o) := fun r hr => by
  simp only [Eng.upd]
  rw [if_neg (by omega)]
  exact ha r hr

theorem fewer_back {h : Int → Option AO} {g : List (Nat × Nat × Value)} (wf : WF ⟨h, 0, g⟩) {h' : Int → Option AO} {n : Int} (ha : Agree h h') : Fewer ⟨h', n, g⟩ ⟨h, 0, g⟩ := by
  refine ⟨fun q o ho => ⟨wf.lt q o ho, o, ?_, ?_⟩, fun x hx => hx⟩
  · exact (ha q (wf.lt q o ho)).trans ho
  · cases o with
    | iter b p => exact ⟨rfl, rfl⟩
    | row v k tq els =>
      obtain ⟨h1, h2⟩ := wf.row q v k tq els ho
      refine ⟨rfl, rfl, rfl, rfl, h1, fun i j x y hx hy => ?_⟩
      rw [hx] at hy
      cases hy
      exact .same (h2 i j x hx)

/-- To return: what was made is let go. -/
theorem ret_back {B : Base} {h : Int → Option AO} {g : List (Nat × Nat × Value)} (hB : B.st = ⟨h, 0, g⟩) (wf : WF ⟨h, 0, g⟩) {h' : Int → Option AO} {n : Int} (ha : Agree h h') {x y : AV} (hc : Conv ⟨h', n, g⟩ ⟨h, 0, g⟩ x y) :
    Step B ⟨h', n, g⟩ ⟨h, 0, g⟩ (fun a b => a = x ∧ b = y) :=
  (step_fewer (fewer_back wf ha) (by rw [hB]; exact Int.le_refl _)).mono (by rintro a b ⟨rfl, rfl⟩; exact hc)

theorem WF.none {h : Int → Option AO} {g : List (Nat × Nat × Value)} (wf : WF ⟨h, 0, g⟩) {q : Int} (hq : 0 ≤ q) : h q = none := by
  cases e : h q with
  | none => rfl
  | some o => have := wf.lt q o e; simp at this; omega

end Go.Eng
