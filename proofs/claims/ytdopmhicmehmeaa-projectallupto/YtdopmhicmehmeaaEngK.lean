/-
  Part of the proof that the law ProjectAll returns true at every input of bulk at most 1048576, and leaves its arguments as they were; the whole is stated at the end of the last text.
-/
import Derived.Test.YtdopmhicmehmeaaEngJ
/-
  THE ENGINE, PART 11: make, append, copy, clear.
-/
set_option linter.unusedVariables false
set_option linter.unusedSimpArgs false
namespace Go.Eng
open Go

variable {P : Program} {β : Emb} {st : St} {w : World}

theorem snd_mksl {t e : TypeId} {b : Nat} {z : List AV} {L C : RX} {ρ : RX → AV} {K : AV → St → Prop} {vl vc : Value} (ht : P.underlying t = some (.slice e)) (hb : bytesT P e = some b) (hs : sizeT P e = some z.length) (hz : zeroAV P e = some z) (h0 : 0 < z.length) (hb8 : b ≤ 8192)
    (H : HRel β st w) (hl : R β st w vl (ρ L)) (hc : R β st w vc (ρ C)) (h : aexec P (.mksl e z.length b z L C) ρ st K) : UponOK P β st w K ((do pure (.value (← Instr.makeSlice t vl vc)) : Sem Next).run P w) := by
  simp only [aexec] at h
  split at h
  · rename_i kl n kc c h1 h2
    rw [h1] at hl; rw [h2] at hc
    have e1 := R_v hl
    have e2 := R_v hc
    subst e1 e2
    obtain ⟨hn0, hnc, hc4, hK⟩ := h
    obtain ⟨i, hi, hib⟩ := bytesT_info hb
    obtain ⟨i', zv, hi', hzv, hze, hzo⟩ := zeroAV_info hz
    rw [hi] at hi'; cases hi'
    obtain ⟨i'', hi'', his⟩ := sizeT_info hs
    rw [hi] at hi''; cases hi''
    have hbc : (i.bytes : Int) * c ≤ 281474976710656 := by
      have : (i.bytes : Int) * c ≤ 8192 * 4294967296 := Int.mul_le_mul (by omega) hc4 (by omega) (by omega)
      omega
    have hrun := run_make (P := P) w t e i zv ht hi hzv kl kc n c hn0 hnc hbc (by omega)
    have hra : RA β st w zv.cells z := by
      rw [hze]
      exact zero_ra hzo
    obtain ⟨n, rfl⟩ := Int.eq_ofNat_of_zero_le hn0
    obtain ⟨c, rfl⟩ := Int.eq_ofNat_of_zero_le (by omega : 0 ≤ c)
    simp only [Int.toNat_natCast] at hrun hK
    refine upon_val hrun ?_
    obtain ⟨g1, g2, g3⟩ := RE_zero (t := e) hra c h0
    have hg := good_newrow (t := e) (cs := madeCells zv.cells (c * i.size)) (k := z.length) (cap := c) (els := List.replicate n z) (fr := (0, 0)) (K := K) H (by simp; omega) (by rw [size_madeCells, his]) (Free.zero _)
      (fun i hi => by simp) (fun i' j v x hi' hx hv => by
        simp only [List.length_replicate] at hi'
        refine g3 i' j v x (by simp; omega) ?_ ?_
        · simp only [List.getElem?_replicate, hi', if_true, Option.bind_some] at hx
          simp only [List.getElem?_replicate, (by omega : i' < c), if_true, Option.bind_some]
          exact hx
        · rw [← hv, his]; rfl) w.drawn (by simpa using hK)
    simp only [List.length_replicate] at hg
    exact hg
  · exact h.elim

/-- Every cell of elements is one. -/
theorem RE.one {k : Nat} {cs : Array Value} {els : List (List AV)} (h : RE β st w k cs els) (hk : 0 < k) {u : Value} (hu : u ∈ cs.toList) : u.oneCell' = true := by
  obtain ⟨m, hm, rfl⟩ := List.getElem_of_mem hu
  have hm' : m < els.length * k := by rw [← h.1]; simpa using hm
  have hi : m / k < els.length := Nat.div_lt_of_lt_mul (by rw [Nat.mul_comm]; exact hm')
  have hj : m % k < k := Nat.mod_lt _ hk
  have e : m / k * k + m % k = m := by rw [Nat.mul_comm]; exact Nat.div_add_mod m k
  have hw := h.2.1 _ hi
  refine (h.2.2 (m / k) (m % k) _ els[m / k][m % k] hi ?_ ?_).2
  · rw [List.getElem?_eq_getElem hi, Option.bind_some, List.getElem?_eq_getElem (by omega)]
  · rw [e]
    simp only [Array.length_toList] at hm
    simp [Array.getElem?_eq_getElem hm]

/-! ### append -/
theorem RE.append {k : Nat} {c1 c2 : Array Value} {e1 e2 : List (List AV)} (h1 : RE β st w k c1 e1) (h2 : RE β st w k c2 e2) : RE β st w k (c1 ++ c2) (e1 ++ e2) := by
  obtain ⟨a1, a2, a3⟩ := h1
  obtain ⟨b1, b2, b3⟩ := h2
  refine ⟨by simp [a1, b1, Nat.add_mul], fun i hi => ?_, fun i j v x hi hx hv => ?_⟩
  · by_cases h : i < e1.length
    · rw [List.getElem_append_left h]; exact a2 i h
    · rw [List.getElem_append_right (by omega)]; exact b2 _ _
  · by_cases h : i < e1.length
    · rw [List.getElem?_append_left h] at hx
      have hj : j < k := by
        rw [List.getElem?_eq_getElem h, Option.bind_some] at hx
        rw [← a2 i h]; exact (List.getElem?_eq_some_iff.1 hx).1
      have := idx_lt h hj
      rw [Array.getElem?_append_left (by omega)] at hv
      exact a3 i j v x h hx hv
    · rw [List.getElem?_append_right (by omega)] at hx
      have hle : e1.length * k ≤ i * k := Nat.mul_le_mul_right k (by omega)
      rw [Array.getElem?_append_right (by omega)] at hv
      refine b3 (i - e1.length) j v x (by simp at hi; omega) hx ?_
      rw [← hv]; congr 1
      rw [Nat.sub_mul, a1]; omega

/-- What a source holds, run. -/
theorem run_src {x : AV} {v : Value} {k : Nat} {L : List (List AV)} (H : HRel β st w) (hr : R β st w v x) (hL : srcOf st k x = some L) (hk : ∀ e ∈ L, e.length = k) (hk0 : 0 < k) :
    (Builtin.lenOf v).run P w = .ok L.length w ∧ ∀ m, m ≤ L.length → ∃ cs, (Builtin.firstCells k m v).run P w = .ok cs w ∧ RE β st w k cs (L.take m) := by
  unfold srcOf at hL
  split at hL
  · rename_i s
    split at hL
    · rename_i hk1
      subst hk1
      cases hL
      have e := R_v hr
      subst e
      have hlen : s.data.toList.length = s.size := by rw [Array.length_toList]; rfl
      refine ⟨by rw [u8s_length, hlen]; rfl, fun m hm => ?_⟩
      rw [u8s_length, hlen] at hm
      refine ⟨_, rfl, ?_⟩
      have hdata : (s.extract 0 m).data = s.data.extract 0 m := by simp
      have : (u8s s.data.toList).take m = u8s (s.data.toList.take m) := by simp [u8s, List.map_take]
      rw [this]
      have hds : s.data.size = s.size := rfl
      refine RE_u8s (by rw [hdata]; simp) (fun i hi => ?_)
      have hi' : i < m ∧ i < s.data.size := by simp only [List.length_take, Array.length_toList] at hi; omega
      rw [hdata]
      have h2 : i < (s.data.extract 0 m).size := by simp; omega
      simp only [Array.getElem?_map, Array.getElem?_eq_getElem h2, Option.map_some, Option.some.injEq, Array.getElem_extract, Nat.zero_add, List.getElem_take, Array.getElem_toList]
    · cases hL
  · obtain ⟨⟨ad, c, rfl⟩, h⟩ := run_elems (P := P) H hr hL hk hk0
    exact ⟨rfl, h⟩

theorem next_bound (need cap : Nat) (h : cap < need) (hn : need ≤ 4294967296) : Builtin.nextslicecap need cap ≤ 34359738368 := by
  unfold Builtin.nextslicecap
  split
  · omega
  · split
    · omega
    · simp only [Builtin.growBy]
      (repeat' split) <;> omega

/-- Orders that are drawn turn nothing. -/
theorem Keep.drawn (M : Nat → Prop) (w : World) (dr : Nat) : Keep M w M { w with drawn := dr } :=
  ⟨Nat.le_refl _, fun _ _ h => ⟨rfl, h⟩, fun _ c _ fr h => ⟨c, fr, h, rfl⟩, rfl, rfl, rfl⟩
theorem R.drawn {v : Value} {x : AV} (h : R β st w v x) (dr : Nat) : R β st { w with drawn := dr } v x := h.keep (Keep.drawn _ _ _) (Evo.refl _ _)
theorem HRel.drawn (H : HRel β st w) (dr : Nat) : HRel β st { w with drawn := dr } := by
  refine ⟨H.lt, H.apart, H.phant, fun q ver k tq els b a h1 h2 => ?_, H.width, H.glob, H.iter, H.mul⟩
  obtain ⟨c, fr, g1, g2, g3, g4, g5⟩ := H.row q ver k tq els b a h1 h2
  exact ⟨c, fr, g1, g2, g3, g4, fun i j v x hi hx hv => ⟨(g5 i j v x hi hx hv).1.drawn dr, (g5 i j v x hi hx hv).2⟩⟩
theorem RE.undrawn {k : Nat} {cs : Array Value} {els : List (List AV)} {dr : Nat} (h : RE β st { w with drawn := dr } k cs els) : RE β st w k cs els :=
  ⟨h.1, h.2.1, fun i j v x hi hx hv => ⟨(h.2.2 i j v x hi hx hv).1.drawn w.drawn, (h.2.2 i j v x hi hx hv).2⟩⟩

theorem run_append {t u e ty : TypeId} {k b : Nat} {ad : Option Addr} {len cap n : Nat} {x : Value} {old new : Array Value} (ht : P.underlying t = some (.slice e)) (hu : ∀ kk, P.underlying u ≠ some (.int kk)) {d : TypeDesc} (hd : P.underlying u = some d) (hs : sizeT P e = some k) (hb : bytesT P e = some b) {z : List AV} (hz : zeroAV P e = some z)
    (h0 : 0 < b) (hb8 : b ≤ 8192) (hn : len + n ≤ 4294967296) (hl : (Builtin.lenOf x).run P w = .ok n w) :
    (len + n ≤ cap → (Builtin.firstCells k n x).run P w = .ok new w → (Builtin.append_ #[t, u] ty #[.slice ad len cap, x]).run P w = ((match ad with | some a => storeCells (a.add (len * k)) new.toList | none => pure () : Sem Unit).run P w).andThen fun _ w' => .ok (.slice ad (len + n) cap) w') ∧
    (cap < len + n → (Builtin.firstCells k n x).run P { w with drawn := w.drawn + 1 } = .ok new { w with drawn := w.drawn + 1 } → (Builtin.firstCells k len (.slice ad len cap)).run P { w with drawn := w.drawn + 1 } = .ok old { w with drawn := w.drawn + 1 } →
      ∃ cap' rest, len + n ≤ cap' ∧ rest.size = (cap' - (len + n)) * z.length ∧ (Builtin.append_ #[t, u] ty #[.slice ad len cap, x]).run P w = .ok (.slice (some ⟨w.heap.size, 0, none⟩) (len + n) cap') { w.alloc (.cells (old ++ new ++ rest) e) with drawn := w.drawn + 1 }) := by
  obtain ⟨i, hi, hib⟩ := bytesT_info hb
  obtain ⟨i', zv, hi', hzv, hze, hzo⟩ := zeroAV_info hz
  rw [hi] at hi'; cases hi'
  have hzl : zv.cells.size = z.length := by rw [hze]; simp
  have hdk : ∀ kk, d ≠ .int kk := fun kk e => hu kk (by rw [hd, e])
  have hm : (match d with | .int _ => true | _ => false) = false := by
    cases d <;> first | rfl | exact absurd rfl (hdk _)
  refine ⟨fun hle hnew => ?_, fun hlt hnew hold => ?_⟩
  · simp only [Builtin.append_]
    cases ad <;> simp [run_und ht, run_und hd, run_size hs, hl, hnew, hle, hm]
  · have hnb := next_bound (len + n) cap hlt hn
    have hbytes : Builtin.nextslicecap (len + n) cap * i.bytes ≤ 281474976710656 := by
      have : Builtin.nextslicecap (len + n) cap * i.bytes ≤ 34359738368 * 8192 := Nat.mul_le_mul hnb (by omega)
      omega
    have hnot : ¬ (281474976710656 < Builtin.nextslicecap (len + n) cap * i.bytes) := by omega
    have hle : ¬ (len + n ≤ cap) := by omega
    have hneed : ¬ ((IntKind.i64.max < (len : Int) + (n : Int)) ∧ i.bytes = 0) := by omega
    generalize hq : Question.appendCap (len + n) cap e = q
    have hqf : q.forced = false := by rw [← hq]; rfl
    have hcut : ∃ cap', q.cut (w.tape w.drawn q) = cap' ∧ len + n ≤ cap' := ⟨_, rfl, by rw [← hq]; exact Nat.le_add_right _ _⟩
    obtain ⟨cap', hc1, hc2⟩ := hcut
    have hti : ∀ w' : World, (typeInfo e).run P w' = .ok i w' := fun w' => by simp [typeInfo, hi]
    have hzr : ∀ w' : World, (zeroValue e).run P w' = .ok zv w' := fun w' => by simp [zeroValue, hti, hzv]
    refine ⟨cap', Builtin.zeroCells zv.cells (cap' - (len + n)), hc2, by simp [Builtin.zeroCells, hzl], ?_⟩
    simp only [Builtin.append_]
    simp [run_und ht, run_und hd, run_size hs, hl, hle, hm, hti, hzr, hnot, hneed, hq, hqf, hc1]
    have hold' : (Builtin.firstCells k len (.slice ad len cap)).run P w.drew = .ok old w.drew := hold
    have hnew' : (Builtin.firstCells k n x).run P w.drew = .ok new w.drew := hnew
    rw [if_neg (by omega)]
    simp only [hold', hnew', Result.andThen_ok, newRow, Sem.run_bind, run_newObj, Sem.run_pure, Array.append_assoc]
    rfl

/-- A row without elements and without a block. -/
theorem phantom_obj (H : HRel β st w) {q : Int} {ver k : Nat} {tq : TypeId} {n' : Int} (hn : st.nx ≤ n') (hq : q < n') (hold : q < st.nx → ∃ o, st.h q = some o ∧ AOEvo o (.row ver k tq []) ∧ o.ver ≠ ver) :
    let β' : Emb := fun r => if r = q then none else β r
    let st' : St := ⟨upd st.h q (.row ver k tq []), n', st.g⟩
    HRel β' st' w ∧ Keep (Mut β st.h) w (Mut β' st'.h) w ∧ Evo β st β' st' := by
  intro β' st'
  have hmut : ∀ b, Mut β' st'.h b → Mut β st.h b := by
    rintro b0 ⟨r, o, a, g1, g2⟩
    simp only [β', st', upd] at g1 g2
    split at g2
    · cases g2
    · rename_i hne
      rw [if_neg hne] at g1
      exact ⟨r, o, a, g1, g2⟩
  have hk' : Keep (Mut β st.h) w (Mut β' st'.h) w := (Keep.refl _ _).fewer hmut
  have he' : Evo β st β' st' := by
    refine ⟨hn, fun r o' hr ho' => ?_⟩
    simp only [st', upd] at ho'
    split at ho'
    · rename_i hrq
      cases ho'
      subst hrq
      obtain ⟨o, h1, h2, h3⟩ := hold hr
      exact ⟨o, h1, h2, fun h => absurd h h3⟩
    · rename_i hrq
      exact ⟨o', ho', .refl _, fun _ => by simp [β', hrq]⟩
  refine ⟨⟨?_, ?_, ?_, ?_, ?_, ?_, ?_, ?_⟩, hk', he'⟩
  · intro r o g
    simp only [st', upd] at g ⊢
    split at g
    · rename_i h1; subst h1; exact hq
    · exact Int.lt_of_lt_of_le (H.lt r o g) hn
  · intro r r' o o' b0 a b' a' g1 g2 hne g3 g4
    simp only [β', st', upd] at g1 g2 g3 g4
    split at g3
    · cases g3
    split at g4
    · cases g4
    rename_i n1 n2
    rw [if_neg n1] at g1
    rw [if_neg n2] at g2
    exact H.apart r r' o o' b0 a b' a' g1 g2 hne g3 g4
  · intro r v k0 t0 e0 g1 g2
    simp only [β', st', upd] at g1 g2
    split at g1
    · cases g1; rfl
    · rename_i hne
      rw [if_neg hne] at g2
      exact H.phant r v k0 t0 e0 g1 g2
  · intro r v k0 t0 e0 b0 a g1 g2
    simp only [β', st', upd] at g1 g2
    split at g2
    · cases g2
    · rename_i hne
      rw [if_neg hne] at g1
      obtain ⟨c, fr, a1, a2, a3, a4, a5⟩ := H.row r v k0 t0 e0 b0 a g1 g2
      exact ⟨c, fr, a1, a2, a3, a4, fun i j v x hi hx hv => ⟨(a5 i j v x hi hx hv).1.keep hk' he', (a5 i j v x hi hx hv).2⟩⟩
  · intro r v k0 t0 e0 g1
    simp only [st', upd] at g1
    split at g1
    · cases g1; intro i hi; simp at hi
    · exact H.width r v k0 t0 e0 g1
  · intro x hx
    obtain ⟨g1, g2⟩ := H.glob x hx
    exact ⟨g1, fun hm => g2 (hmut _ hm)⟩
  · intro r s p g1
    simp only [st', upd] at g1
    split at g1
    · cases g1
    · rename_i hne
      obtain ⟨b0, g2, g3⟩ := H.iter r s p g1
      exact ⟨b0, by simp [β', hne, g2], g3⟩
  · intro r v k0 t0 e0 b0 a g1 g2
    simp only [β', st', upd] at g1 g2
    split at g2
    · cases g2
    · rename_i hne
      rw [if_neg hne] at g1
      exact H.mul r v k0 t0 e0 b0 a g1 g2

theorem R_phantom {h : Int → Option AO} {n' q : Int} {ver k : Nat} {tq : TypeId} {g : List (Nat × Nat × Value)} {β' : Emb} {ad : Option Addr} (hq : q < n') (hh : h q = some (.row ver k tq [])) (hbk : Blk w ad) : R β' ⟨h, n', g⟩ w (.slice ad 0 0) (.row q ver 0 0) := by
  refine .row hq (fun ver' k' tq0 els' g => ?_) (fun s p g => ?_) ⟨_, _, _, rfl⟩
  · dsimp only at g
    rw [hh] at g
    cases g
    exact ⟨Nat.le_refl _, fun _ => ⟨by simp, ad, 0, rfl, by simp, fun h => by omega, hbk⟩⟩
  · dsimp only at g; rw [hh] at g; cases g

theorem snd_app {t u e ty : TypeId} {k b : Nat} {X Y : RX} {ρ : RX → AV} {K : AV → St → Prop} {vx vy : Value} {z : List AV} {d : TypeDesc} (ht : P.underlying t = some (.slice e)) (hd : P.underlying u = some d) (hu : ∀ kk, d ≠ .int kk) (hs : sizeT P e = some k) (hb : bytesT P e = some b) (hz : zeroAV P e = some z)
    (hzk : z.length = k) (hk0 : 0 < k) (h0 : 0 < b) (hb8 : b ≤ 8192) (H : HRel β st w) (hx : R β st w vx (ρ X)) (hy : R β st w vy (ρ Y)) (h : aexec P (.app e k b X Y) ρ st K) :
    UponOK P β st w K ((do pure (.value (← Builtin.append_ #[t, u] ty #[vx, vy])) : Sem Next).run P w) := by
  have hu' : ∀ kk, P.underlying u ≠ some (.int kk) := fun kk e => hu kk (by rw [hd] at e; exact Option.some.inj e)
  simp only [aexec] at h
  split at h
  · rename_i new hsrc
    obtain ⟨hw, h⟩ := h
    obtain ⟨hlen, hfc⟩ := run_src (P := P) H hy hsrc hw hk0
    obtain ⟨nc, hnc, hnre⟩ := hfc new.length (Nat.le_refl _)
    rw [List.take_length] at hnre
    have Hd := H.drawn (w.drawn + 1)
    obtain ⟨_, hfcd⟩ := run_src (P := P) Hd (hy.drawn (w.drawn + 1)) hsrc hw hk0
    obtain ⟨ncd, hncd, hnred⟩ := hfcd new.length (Nat.le_refl _)
    rw [List.take_length] at hnred
    have hnred := hnred.undrawn
    split at h
    · rename_i h1
      rw [h1] at hx
      have e1 := R_v hx
      subst e1
      obtain ⟨hn4, hK⟩ := h
      obtain ⟨happ1, happ2⟩ := run_append (P := P) (w := w) (ty := ty) (len := 0) (cap := 0) (ad := none) (old := #[]) (new := ncd) ht hu' hd hs hb hz h0 hb8 (by omega) hlen
      by_cases hn0 : new.length = 0
      · have hnil : new = [] := List.length_eq_zero_iff.1 hn0
        obtain ⟨happ1, _⟩ := run_append (P := P) (w := w) (ty := ty) (len := 0) (cap := 0) (ad := none) (old := #[]) (new := nc) ht hu' hd hs hb hz h0 hb8 (by omega) hlen
        have := happ1 (by omega) hnc
        simp only [Sem.run_pure, Result.andThen_ok, Nat.zero_add, hn0] at this
        refine upon_val this ?_
        subst hnil
        obtain ⟨g1, g2, g3⟩ := phantom_obj (tq := e) (q := st.nx) (ver := 0) (k := k) (n' := st.nx + 1) H (by omega) (by omega) (fun h => by omega)
        exact ⟨_, _, _, hK, g1, R_phantom (tq := e) (k := k) (by omega) (by simp [upd]) (fun x hx => by cases hx), g2, g3⟩
      · obtain ⟨cap', rest, hc1, hc2, hrun⟩ := happ2 (by omega) hncd (by rfl)
        simp only [Nat.zero_add] at hrun hc1 hc2
        refine upon_val hrun ?_
        have hnsz := hnred.1
        refine good_newrow (cap := cap') H hc1 ?_ (Free.zero _) hnred.2.1 (fun i j v x hi hx hv => ?_) _ hK
        · have hle : new.length * k ≤ cap' * k := Nat.mul_le_mul_right k hc1
          simp only [Array.size_append, hnsz, hc2, hzk]
          simp only [List.size_toArray, List.length_nil, Nat.zero_add, Nat.sub_mul]
          omega
        · refine hnred.2.2 i j v x hi hx ?_
          have hj : j < k := by
            rw [List.getElem?_eq_getElem hi, Option.bind_some] at hx
            rw [← hnred.2.1 i hi]; exact (List.getElem?_eq_some_iff.1 hx).1
          have := idx_lt hi hj
          rw [Array.getElem?_append_left (by simp; omega)] at hv
          simpa using hv
    · rename_i q ver off len h1
      rw [h1] at hx
      split at h
      · rename_i ver' k' tq' els hq
        obtain ⟨rfl, ⟨rfl, rfl⟩, htop, hn4, hK⟩ := h
        obtain ⟨hle, ad, cap, rfl, hcap, hcp, hbk⟩ := R_row_inv hx hq
        have hqlt := H.lt q _ hq
        by_cases hneed : len + new.length ≤ cap
        · obtain ⟨happ, _⟩ := run_append (P := P) (w := w) (ty := ty) (len := len) (cap := cap) (ad := ad) (old := #[]) (new := nc) ht hu' hd hs hb hz h0 hb8 hn4 hlen
          have hrun := happ hneed hnc
          rcases Nat.eq_zero_or_pos cap with hc0 | hc0
          · have hl0 : len = 0 := by omega
            have hn0 : new.length = 0 := by omega
            have hnil : new = [] := List.length_eq_zero_iff.1 hn0
            have hnc0 : nc.toList = [] := by
              have := hnre.1
              rw [hn0, Nat.zero_mul] at this
              simpa using this
            subst hl0 hnil hc0
            have hels : els.drop off = [] := by rw [List.drop_eq_nil_iff]; omega
            rw [hels] at hK
            have hrun' : (Builtin.append_ #[t, u] ty #[.slice ad 0 0, vy]).run P w = .ok (.slice ad 0 0) w := by
              rw [hrun, hnc0]
              cases ad <;> simp [storeCells]
            refine upon_val hrun' ?_
            obtain ⟨g1, g2, g3⟩ := phantom_obj (tq := e) (q := q) (ver := ver + 1) (k := k) (n' := st.nx) H (Int.le_refl _) hqlt (fun _ => ⟨_, hq, by simp [AOEvo], by simp [AO.ver]⟩)
            exact ⟨_, _, _, hK, g1, R_phantom (tq := e) (k := k) hqlt (by simp [upd]) (g2.blk hbk), g2, g3⟩
          · obtain ⟨b0, a0, hb0, rfl, c, T, fr, hc, hsz⟩ := hcp hc0
            obtain ⟨c', fr', hc', hsz', hfr, hwd, hrr⟩ := H.row q ver k _ els b0 a0 hq hb0
            rw [hc] at hc'
            cases hc'
            have hncl : nc.toList.length = new.length * k := by rw [Array.length_toList]; exact hnre.1
            have hmul : (off + (len + new.length)) * k ≤ (off + cap) * k := Nat.mul_le_mul_right k (by omega)
            have e1 : (off + (len + new.length)) * k = off * k + len * k + new.length * k := by rw [Nat.add_mul, Nat.add_mul]; omega
            have e2 : els.length * k = off * k + len * k := by rw [← htop, Nat.add_mul]
            have hone : ∀ u ∈ nc.toList, u.oneCell' = true := fun u hu => hnre.one hk0 hu
            have hst := run_storeC (P := P) b0 (a0 + off * k + len * k) _ fr nc.toList 0 c w hc hfr (by omega) hone
            have hfold := fun m => fold_set (a0 + off * k + len * k) nc.toList 0 c m (by omega)
            obtain ⟨g1, g2, g3⟩ := set_obj (els' := els.drop off ++ new) (ver' := ver + 1) (a' := a0 + off * k) H hq hb0 hc (hfold 0).1 (by omega) (fun h => by omega)
              (by simp only [List.length_append, List.length_drop]; rw [← htop, Nat.add_sub_cancel_left, Nat.add_mul]; omega) (by obtain ⟨m, hm⟩ := H.mul _ _ _ _ _ _ _ hq hb0; exact ⟨m + off, by rw [hm, Nat.add_mul]⟩) hfr
              (fun i hi => by
                by_cases hil : i < (els.drop off).length
                · rw [List.getElem_append_left hil, List.getElem_drop]; exact hwd _ _
                · rw [List.getElem_append_right (by omega)]; exact hw _ (List.getElem_mem _))
              (fun i j v x hi hx hv => by
                rw [(hfold _).2] at hv
                simp only [Nat.add_zero, hncl] at hv
                by_cases hil : i < (els.drop off).length
                · rw [List.getElem?_append_left hil, List.getElem?_drop] at hx
                  simp only [List.length_drop] at hil
                  have hj : j < k := by
                    rw [List.getElem?_eq_getElem (by omega), Option.bind_some] at hx
                    rw [← hwd (off + i) (by omega)]; exact (List.getElem?_eq_some_iff.1 hx).1
                  have := idx_lt (by omega : i < len) hj
                  rw [if_neg (by omega)] at hv
                  refine hrr (off + i) j v x (by omega) hx ?_
                  rw [← hv]; congr 1; rw [Nat.add_mul]; omega
                · rw [List.getElem?_append_right (by omega)] at hx
                  simp only [List.length_append, List.length_drop] at hi hil hx
                  have hil' : len ≤ i := by omega
                  have hj : j < k := by
                    rw [List.getElem?_eq_getElem (by omega), Option.bind_some] at hx
                    rw [← hnre.2.1 _ (by omega : i - (els.length - off) < new.length)]; exact (List.getElem?_eq_some_iff.1 hx).1
                  have hle1 : len * k ≤ i * k := Nat.mul_le_mul_right k hil'
                  have hlt1 := idx_lt (by omega : i - len < new.length) hj
                  have e3 : (i - len) * k = i * k - len * k := Nat.sub_mul ..
                  rw [if_pos (by omega)] at hv
                  refine hnre.2.2 (i - (els.length - off)) j v x (by omega) hx ?_
                  rw [Array.getElem?_toList] at hv
                  rw [← hv]; congr 1
                  rw [show els.length - off = len by omega, e3]; omega)
            have hrun' : (Builtin.append_ #[t, u] ty #[.slice (some ⟨b0, a0 + off * k, none⟩) len cap, vy]).run P w = .ok (.slice (some ⟨b0, a0 + off * k, none⟩) (len + new.length) cap) (w.setRow b0 ((nc.toList.zipIdx 0).foldl (fun cs p => cs.setIfInBounds (a0 + off * k + len * k + p.2) p.1) c)) := by
              rw [hrun]
              simp only [add_off, hst, Result.andThen_ok]
            refine upon_val hrun' ⟨_, _, _, hK, g1, ?_, g2, g3⟩
            refine R_newrow (tq := e) (a := a0 + off * k) (b := b0) (k := k) (els := els.drop off ++ new) (cap := cap) (fr := fr) hqlt (by simp [St.set, upd]) (by simp) (heap_setRow w b0 c _ _ fr hc) (by simp; omega) hneed ?_ _ (by simp)
            rw [(hfold 0).1]
            have e4 : (0 + cap) * k = cap * k := by rw [Nat.zero_add]
            have e5 : (off + cap) * k = off * k + cap * k := Nat.add_mul ..
            omega
        · have hlt : cap < len + new.length := by omega
          have hbase : elemsOf st (.row q ver off len) = some ((els.drop off).take len) := by simp [elemsOf, hq]
          have hdl : ((els.drop off).take len) = els.drop off := by rw [List.take_of_length_le]; simp; omega
          rw [hdl] at hbase
          have hwd : ∀ e ∈ els.drop off, e.length = k := fun e he => by
            obtain ⟨i, hi, rfl⟩ := List.getElem_of_mem he
            rw [List.getElem_drop]
            exact H.width q ver k _ els hq _ _
          obtain ⟨_, hob⟩ := run_elems (P := P) Hd (hx.drawn (w.drawn + 1)) hbase hwd hk0
          have hdll : (els.drop off).length = len := by simp; omega
          obtain ⟨oc, hoc, hore⟩ := hob (els.drop off).length (Nat.le_refl _)
          rw [List.take_length] at hore
          rw [hdll] at hoc
          have hore := hore.undrawn
          obtain ⟨_, happ2⟩ := run_append (P := P) (w := w) (ty := ty) (len := len) (cap := cap) (ad := ad) (old := oc) (new := ncd) ht hu' hd hs hb hz h0 hb8 hn4 hlen
          obtain ⟨cap', rest, hc1, hc2, hrun⟩ := happ2 hlt hncd hoc
          have hboth := hore.append hnred
          have hsz := hboth.1
          have htl : (els.drop off ++ new).length = len + new.length := by rw [List.length_append, hdll]
          rw [htl] at hsz
          have hle1 : (len + new.length) * k ≤ cap' * k := Nat.mul_le_mul_right k hc1
          have hrs : (cap' - (len + new.length)) * k = cap' * k - (len + new.length) * k := Nat.sub_mul ..
          have hall : (oc ++ ncd ++ rest).size = cap' * k := by
            rw [Array.size_append, hsz, hc2, hzk]; omega
          obtain ⟨g1, g2, g3⟩ := fresh_obj (q := q) (ver := ver + 1) (k := k) (els := els.drop off ++ new) (c := oc ++ ncd ++ rest) (T := e) (fr := (0, 0)) (n' := st.nx) H (Int.le_refl _) hqlt (fun _ => ⟨_, hq, by simp [AOEvo], by simp [AO.ver]⟩)
            (by rw [hall, htl]; exact hle1) (Free.zero _) hboth.2.1 (fun i j v x hi hx hv => by
              refine hboth.2.2 i j v x hi hx ?_
              have hj : j < k := by
                rw [List.getElem?_eq_getElem hi, Option.bind_some] at hx
                rw [← hboth.2.1 i hi]; exact (List.getElem?_eq_some_iff.1 hx).1
              have := idx_lt (by omega : i < len + new.length) hj
              rw [Array.getElem?_append_left (by omega)] at hv
              exact hv) (w.drawn + 1)
          refine upon_val hrun ⟨_, _, _, hK, g1, ?_, g2, g3⟩
          refine R_newrow (tq := e) (a := 0) (b := w.heap.size) (k := k) (els := els.drop off ++ new) (cap := cap') (c := oc ++ ncd ++ rest) (T := e) (fr := (0, 0)) hqlt (by simp [upd]) (by simp) ?_ (by omega) hc1 (by rw [hall]; simp) _ (by simp)
          simp only [World.alloc, Array.getElem?_push, if_true]
      · exact h.elim
    · exact h.elim
  · exact h.elim

/-! ### copy, clear -/
/-- Elements written over a row, from place i on. -/
theorem RE_over {k : Nat} {c vs : Array Value} {a i : Nat} {els new : List (List AV)} (hw : ∀ i (hi : i < els.length), els[i].length = k) (hsz : a + els.length * k ≤ c.size)
    (h3 : ∀ (i j : Nat) v x, i < els.length → (els[i]?.bind (·[j]?)) = some x → c[a + i * k + j]? = some v → R β st w v x ∧ v.oneCell' = true) (hn : RE β st w k vs new) (hi : i + new.length ≤ els.length) :
    let c' := (vs.toList.zipIdx 0).foldl (fun cs p => cs.setIfInBounds (a + i * k + p.2) p.1) c
    let els' := els.take i ++ (new ++ els.drop (i + new.length))
    els'.length = els.length ∧ c'.size = c.size ∧ (∀ m (hm : m < els'.length), els'[m].length = k) ∧
    ∀ (m n : Nat) v x, m < els'.length → (els'[m]?.bind (·[n]?)) = some x → c'[a + m * k + n]? = some v → R β st w v x ∧ v.oneCell' = true := by
  intro c' els'
  have hel : els'.length = els.length := by simp [els']; omega
  have hvl : vs.toList.length = new.length * k := by rw [Array.length_toList]; exact hn.1
  have hmul : (i + new.length) * k ≤ els.length * k := Nat.mul_le_mul_right k hi
  rw [Nat.add_mul] at hmul
  have hs := fun m => fold_set (a + i * k) vs.toList 0 c m (by omega)
  have hget : ∀ m, m < els.length → els'[m]? = if i ≤ m ∧ m < i + new.length then new[m - i]? else els[m]? := by
    intro m hm
    simp only [els']
    by_cases h1 : m < i
    · rw [if_neg (by omega), List.getElem?_append_left (by simp; omega), List.getElem?_take_of_lt h1]
    · rw [List.getElem?_append_right (by simp; omega), List.length_take, show min i els.length = i by omega]
      by_cases h2 : m < i + new.length
      · rw [if_pos ⟨by omega, h2⟩, List.getElem?_append_left (by omega)]
      · rw [if_neg (by omega), List.getElem?_append_right (by omega), List.getElem?_drop]
        congr 1; omega
  refine ⟨hel, (hs 0).1, fun m hm => ?_, fun m n v x hm hx hv => ?_⟩
  · have h1 := hget m (by omega)
    rw [List.getElem?_eq_getElem hm] at h1
    split at h1
    · rename_i hc
      have h2 := (List.getElem?_eq_some_iff.1 h1.symm)
      obtain ⟨h3', h4⟩ := h2
      rw [← h4]; exact hn.2.1 _ h3'
    · have h2 := (List.getElem?_eq_some_iff.1 h1.symm)
      obtain ⟨h3', h4⟩ := h2
      rw [← h4]; exact hw _ h3'
  · rw [hel] at hm
    rw [hget m hm] at hx
    simp only [c', (hs _).2, Nat.add_zero, hvl] at hv
    split at hx
    · rename_i hc
      have hmi : m - i < new.length := by omega
      have hj : n < k := by
        rw [List.getElem?_eq_getElem hmi, Option.bind_some] at hx
        rw [← hn.2.1 _ hmi]; exact (List.getElem?_eq_some_iff.1 hx).1
      have hlt := idx_lt hmi hj
      have e3 : (m - i) * k = m * k - i * k := Nat.sub_mul ..
      have hle1 : i * k ≤ m * k := Nat.mul_le_mul_right k hc.1
      rw [if_pos (by omega)] at hv
      refine hn.2.2 (m - i) n v x hmi hx ?_
      rw [Array.getElem?_toList] at hv
      rw [← hv]; congr 1; omega
    · rename_i hc
      have hj : n < k := by
        rw [List.getElem?_eq_getElem hm, Option.bind_some] at hx
        rw [← hw m hm]; exact (List.getElem?_eq_some_iff.1 hx).1
      rw [if_neg ?_] at hv
      · exact h3 m n v x hm hx hv
      · rintro ⟨g1, g2⟩
        rcases Nat.lt_or_ge m i with hlt | hge
        · have : (m + 1) * k ≤ i * k := Nat.mul_le_mul_right k (by omega)
          rw [Nat.add_mul] at this
          omega
        · have : (i + new.length) * k ≤ m * k := Nat.mul_le_mul_right k (by omega)
          rw [Nat.add_mul] at this
          omega

theorem snd_copy {t u e ty : TypeId} {k : Nat} {X Y : RX} {ρ : RX → AV} {K : AV → St → Prop} {vx vy : Value} (ht : P.underlying t = some (.slice e)) (hs : sizeT P e = some k)
    (hk0 : 0 < k) (H : HRel β st w) (hx : R β st w vx (ρ X)) (hy : R β st w vy (ρ Y)) (h : aexec P (.copy k X Y) ρ st K) :
    UponOK P β st w K ((do pure (.value (← Builtin.copy_ #[t, u] ty #[vx, vy])) : Sem Next).run P w) := by
  simp only [aexec] at h
  split at h
  · rename_i src q ver off len hsrc h1
    rw [h1] at hx
    split at h
    · rename_i ver' k' tq' els hq
      obtain ⟨rfl, rfl, hw, hol, hK⟩ := h
      obtain ⟨hlen, hfc⟩ := run_src (P := P) H hy hsrc hw hk0
      obtain ⟨hle, ad, cap, rfl, hcap, hcp, hbk⟩ := R_row_inv hx hq
      obtain ⟨cs, hcs, hre⟩ := hfc (min src.length len) (by omega)
      have hmin : Nat.min src.length len = min src.length len := rfl
      have htk : src.take (min src.length len) = src.take len := by
        rcases Nat.le_total src.length len with h | h
        · rw [Nat.min_eq_left h, List.take_of_length_le (Nat.le_refl _), List.take_of_length_le h]
        · rw [Nat.min_eq_right h]
      rw [htk] at hre
      have htl : (src.take len).length = min src.length len := by simp; omega
      have hrun0 : (Builtin.copy_ #[t, u] ty #[.slice ad len cap, vy]).run P w = ((match (generalizing := false) ad with | some a => storeCells a cs.toList | none => pure () : Sem Unit).run P w).andThen fun _ w' => .ok (goInt (min src.length len : Nat)) w' := by
        simp only [Builtin.copy_]
        cases ad <;> simp [run_und ht, hlen, run_size hs, hmin, hcs]
      rcases Nat.eq_zero_or_pos cap with hc0 | hc0
      · have hl0 : len = 0 := by omega
        subst hl0
        have hcsn : cs.toList = [] := by
          have := hre.1
          simp at this
          simp [this]
        have hels : els.take off ++ (src.take 0 ++ els.drop (off + min src.length 0)) = els := by simp
        have hset : st.set q (.row ver k tq' els) = st := by
          unfold St.set upd
          cases st
          congr 1
          funext r
          split
          · rename_i h; subst h; exact hq.symm
          · rfl
        rw [hels, hset] at hK
        refine upon_val (u := goInt (min src.length 0 : Nat)) (w' := w) ?_ (Good.same H hK (.d (.v _)))
        rw [hrun0, hcsn]
        cases ad <;> simp [storeCells]
      · obtain ⟨b0, a0, hb0, rfl, c, T, fr, hc, hsz⟩ := hcp hc0
        obtain ⟨c', fr', hc', hsz', hfr, hwd, hrr⟩ := H.row q ver k _ els b0 a0 hq hb0
        rw [hc] at hc'
        cases hc'
        obtain ⟨e1, e2, e3, e4⟩ := RE_over (i := off) hwd hsz' hrr hre (by omega)
        rw [htl] at e1 e3 e4
        have hcl : cs.toList.length = (src.take len).length * k := by rw [Array.length_toList]; exact hre.1
        have hmul : (off + (src.take len).length) * k ≤ els.length * k := Nat.mul_le_mul_right k (by omega)
        rw [Nat.add_mul] at hmul
        have hst := run_storeC (P := P) b0 (a0 + off * k) _ fr cs.toList 0 c w hc hfr (by omega) (fun u hu => hre.one hk0 hu)
        obtain ⟨g1, g2, g3⟩ := set_obj H hq hb0 hc e2 (Nat.le_refl _) (fun _ => ⟨e1.symm, rfl⟩) (by rw [e1]; exact hsz') (H.mul _ _ _ _ _ _ _ hq hb0) hfr e3 e4
        refine upon_val ?_ ⟨_, _, _, hK, g1, .d (.v _), g2, g3⟩
        rw [hrun0]
        simp only [hst, Result.andThen_ok]
        rfl
    · exact h.elim
  · exact h.elim

theorem snd_clear {t e ty : TypeId} {z : List AV} {X : RX} {ρ : RX → AV} {K : AV → St → Prop} {vx : Value} (ht : P.underlying t = some (.slice e)) (hz : zeroAV P e = some z)
    (hk0 : 0 < z.length) (H : HRel β st w) (hx : R β st w vx (ρ X)) (h : aexec P (.clear z X) ρ st K) :
    UponOK P β st w K ((do pure (.value (← Builtin.clear_ #[t] ty #[vx])) : Sem Next).run P w) := by
  simp only [aexec] at h
  split at h
  · rename_i h1
    rw [h1] at hx
    cases hx with
    | d hx =>
      cases hx
      refine upon_val (u := .tuple #[]) (w' := w) ?_ (Good.same H h (.d (.v _)))
      simp [Builtin.clear_, run_und ht]
  · rename_i q ver off len h1
    rw [h1] at hx
    split at h
    · rename_i ver' k' tq' els hq
      obtain ⟨rfl, rfl, hol, hK⟩ := h
      obtain ⟨hle, ad, cap, rfl, hcap, hcp, hbk⟩ := R_row_inv hx hq
      rcases Nat.eq_zero_or_pos len with hl0 | hl0
      · subst hl0
        have hels : els.take off ++ (List.replicate 0 z ++ els.drop (off + 0)) = els := by simp
        have hset : st.set q (.row ver z.length tq' els) = st := by
          unfold St.set upd
          cases st
          congr 1
          funext r
          split
          · rename_i h; subst h; exact hq.symm
          · rfl
        rw [hels, hset] at hK
        refine upon_val (u := .tuple #[]) (w' := w) ?_ (Good.same H hK (.d (.v _)))
        cases ad <;> simp [Builtin.clear_, run_und ht]
      · obtain ⟨b0, a0, hb0, rfl, c, T, fr, hc, hsz⟩ := hcp (by omega)
        obtain ⟨c', fr', hc', hsz', hfr, hwd, hrr⟩ := H.row q ver _ _ els b0 a0 hq hb0
        rw [hc] at hc'
        cases hc'
        obtain ⟨zv, z1, z2⟩ := zero_RA (β := β) (st := st) (w := w) hz w
        have hre : RE β st w z.length (Builtin.zeroCells zv.cells len) (List.replicate len z) := by unfold Builtin.zeroCells; rw [z2.1]; have := RE_zero (t := e) z2 len hk0; rw [z2.1] at this; exact this
        have hrl : (List.replicate len z).length = len := by simp
        obtain ⟨e1, e2, e3, e4⟩ := RE_over (i := off) hwd hsz' hrr hre (by simp; omega)
        rw [hrl] at e1 e3 e4
        have hcl : (Builtin.zeroCells zv.cells len).toList.length = len * z.length := by rw [Array.length_toList, hre.1, hrl]
        have hmul : (off + len) * z.length ≤ els.length * z.length := Nat.mul_le_mul_right _ (by omega)
        rw [Nat.add_mul] at hmul
        have hst := run_storeC (P := P) b0 (a0 + off * z.length) _ fr (Builtin.zeroCells zv.cells len).toList 0 c w hc hfr (by omega) (fun u hu => hre.one hk0 hu)
        obtain ⟨g1, g2, g3⟩ := set_obj H hq hb0 hc e2 (Nat.le_refl _) (fun _ => ⟨e1.symm, rfl⟩) (by rw [e1]; exact hsz') (H.mul _ _ _ _ _ _ _ hq hb0) hfr e3 e4
        refine upon_val (u := .tuple #[]) ?_ ⟨_, _, _, hK, g1, .d (.v _), g2, g3⟩
        obtain ⟨m, rfl⟩ : ∃ m, len = m + 1 := ⟨len - 1, by omega⟩
        simp only [Builtin.clear_]
        simp [run_und ht, z1]
        simp [hst]
    · exact h.elim
  · exact h.elim

end Go.Eng
