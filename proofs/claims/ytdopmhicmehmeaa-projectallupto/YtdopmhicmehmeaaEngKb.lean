/-
  Part of the proof that the law ProjectAll returns true at every input of bulk at most 1048576, and leaves its arguments as they were; the whole is stated at the end of the last text.
-/
import Derived.Test.YtdopmhicmehmeaaEngK
import Derived.Lib.Builder
import Derived.Lib.UnsafeStr
import Derived.Laws.Externs
/-
  THE ENGINE, PART 11b: pointers that lose their type and get it back; bytes as a text without a copy.
-/
set_option linter.unusedVariables false
set_option linter.unusedSimpArgs false
namespace Go.Eng
open Go

variable {P : Program} {β : Emb} {st : St} {w : World}

theorem shape_of {b : Nat} {c : Array Value} {T : TypeId} {fr : Nat × Nat} (h : w.heap[b]? = some (Go.Obj.cells c T fr)) : w.shape? b = some (T, c.size) := by
  simp [World.shape?, h]

theorem snd_toU {s d e : TypeId} {X : RX} {ρ : RX → AV} {v : AV} {a : Value} {k : Nat} (hs : P.underlying s = some (.pointer e)) (hd : P.underlying d = some .unsafePointer) (he : sizeT P e = some k) (hk : 0 < k)
    (H : HRel β st w) (hx : R β st w a (ρ X)) (hv : aval (.toU X) ρ st = some v) : ∃ u, (convert s d a).run P w = .ok u w ∧ R β st w u v := by
  simp only [aval] at hv
  split at hv
  · rename_i q ver i j hρ
    split at hv
    · rename_i ver' k' tq els hq
      split at hv
      · rename_i hc
        obtain ⟨rfl, hj⟩ := hc
        cases hv
        rw [hρ] at hx
        obtain ⟨hi, _, b, o, hb, rfl⟩ := R_ptr_inv hx hq
        obtain ⟨c, fr, hcell, hsz, _⟩ := H.row q ver k' tq els b o hq hb
        obtain ⟨ie, hie, hie2⟩ := sizeT_info he
        have h1 := idx_lt hi hj
        exact ⟨_, Lib.run_to_unsafe (P := P) w _ hs hd hie (by omega) (shape_of hcell) (by simp only; omega), hx⟩
      · cases hv
    · cases hv
  · rename_i hρ
    cases hv
    rw [hρ] at hx
    have := R_v hx
    subst this
    refine ⟨.pointer none, ?_, .d (.v _)⟩
    simp [convert, run_und hs, run_und hd, Conv.unsafePointer]
  · cases hv

theorem lies_self {t : TypeId} {k : Nat} (hk : P.cellsOf t = k) (h0 : 0 < k) {n m i : Nat} (hle : (m + i + 1) * k ≤ n) : liesAt P P.depth t (n / P.cellsOf t) (m * k + i * k) t 1 = true := by
  have hd : P.depth = (2 * (P.types.size + Made.depth) + 1) + 1 := rfl
  rw [hd]
  simp only [liesAt, Bool.or_eq_true]
  left
  rw [hd]
  have e1 : (m * k + i * k) / k = m + i := by rw [← Nat.add_mul, Nat.mul_div_cancel _ h0]
  have e2 : (m * k + i * k) % k = 0 := by rw [← Nat.add_mul, Nat.mul_mod_left]
  have e3 : m + i + 1 ≤ n / k := (Nat.le_div_iff_mul_le h0).2 hle
  simp only [rowAt, hk]
  rw [if_neg (by omega)]
  simp [e1, e2, e3, sameLayout]

theorem snd_ofU {s d t : TypeId} {X : RX} {ρ : RX → AV} {v : AV} {a : Value} {k : Nat} (hs : P.underlying s = some .unsafePointer) (hd : P.underlying d = some (.pointer t)) (ht : sizeT P t = some k) (hk : 0 < k)
    (H : HRel β st w) (hx : R β st w a (ρ X)) (hv : aval (.ofU t k X) ρ st = some v) : ∃ u, (convert s d a).run P w = .ok u w ∧ R β st w u v := by
  simp only [aval] at hv
  split at hv
  · rename_i q ver i j hρ
    split at hv
    · rename_i ver' k' tq els hq
      split at hv
      · rename_i hc
        obtain ⟨rfl, rfl, rfl, rfl⟩ := hc
        cases hv
        rw [hρ] at hx
        obtain ⟨hi, _, b, o, hb, rfl⟩ := R_ptr_inv hx hq
        obtain ⟨c, fr, hcell, hsz, _⟩ := H.row q ver k t els b o hq hb
        obtain ⟨m, rfl⟩ := H.mul q ver k t els b o hq hb
        obtain ⟨ie, hie, hie2⟩ := sizeT_info ht
        have hce : P.cellsOf t = k := by simp [Program.cellsOf, hie, hie2]
        have hle : (m + i + 1) * k ≤ c.size := by
          have : (i + 1) * k ≤ els.length * k := Nat.mul_le_mul_right k (by omega)
          have e : (m + i + 1) * k = m * k + (i + 1) * k := by rw [Nat.add_assoc, Nat.add_mul]
          omega
        exact ⟨_, Lib.run_from_unsafe (P := P) w _ hs hd hie (shape_of hcell) (by simp only [Nat.add_zero]; exact lies_self hce hk hle), hx⟩
      · cases hv
    · cases hv
  · rename_i hρ
    cases hv
    rw [hρ] at hx
    have := R_v hx
    subst this
    refine ⟨.pointer none, ?_, .d (.v _)⟩
    simp [convert, run_und hs, run_und hd, Conv.unsafePointer]
  · cases hv

/-- More blocks, all else as it was. -/
theorem HRel.more (H : HRel β st w) {w' : World} (hsz : w.heap.size ≤ w'.heap.size) (hh : ∀ b, b < w.heap.size → w'.heap[b]? = w.heap[b]?) (ho : w'.os = w.os) (ht : w'.tape = w.tape) (hp : w'.output = w.output) :
    HRel β st w' ∧ Keep (Mut β st.h) w (Mut β st.h) w' := by
  have hk : Keep (Mut β st.h) w (Mut β st.h) w' := by
    refine ⟨hsz, fun b hb hm => ⟨hh b hb, hm⟩, fun b c T fr hc => ⟨c, fr, ?_, rfl⟩, ho, ht, hp⟩
    rw [hh b (Array.getElem?_eq_some_iff.1 hc).1, hc]
  refine ⟨⟨H.lt, H.apart, H.phant, fun q ver k tq els b a h1 h2 => ?_, H.width, fun x hx => ?_, fun q s p h1 => ?_, H.mul⟩, hk⟩
  · obtain ⟨c, fr, g1, g2, g3, g4, g5⟩ := H.row q ver k tq els b a h1 h2
    exact ⟨c, fr, by rw [hh b (Array.getElem?_eq_some_iff.1 g1).1, g1], g2, g3, g4, fun i j v x hi hx hv => ⟨(g5 i j v x hi hx hv).1.keep hk (Evo.refl _ _), (g5 i j v x hi hx hv).2⟩⟩
  · obtain ⟨g1, g2⟩ := H.glob x hx
    exact ⟨hk.cell g2 g1, g2⟩
  · obtain ⟨b, g1, g2⟩ := H.iter q s p h1
    exact ⟨b, g1, by rw [hh b (Array.getElem?_eq_some_iff.1 g2).1, g2]⟩

theorem snd_usd {ts : Array TypeId} {ty e : TypeId} {X : RX} {ρ : RX → AV} {K : AV → St → Prop} {a : Value} (hp : P.underlying ty = some (.pointer e)) (H : HRel β st w) (hx : R β st w a (ρ X)) (h : aexec P (.usd X) ρ st K) :
    UponOK P β st w K ((do pure (.value (← Builtin.unsafeSliceData_ ts ty #[a])) : Sem Next).run P w) := by
  simp only [aexec] at h
  split at h
  · rename_i hρ
    rw [hρ] at hx
    have := R_v hx
    subst this
    exact upon_val (Lib.run_unsafeSliceData_nil w ts ty 0 0) (Good.same H h (.d (.v _)))
  · rename_i q ver off len hρ
    split at h
    · rename_i ver' k tq els hq
      obtain ⟨rfl, h1, h2⟩ := h
      rw [hρ] at hx
      obtain ⟨hle, ad, cap, rfl, hcap, hcp, hbk⟩ := R_row_inv hx hq
      rcases Nat.eq_zero_or_pos len with hl0 | hl0
      · subst hl0
        have hK := h2 rfl
        cases ad with
        | none => exact upon_val (Lib.run_unsafeSliceData_nil w ts ty 0 cap) (Good.same H hK .anyp)
        | some x =>
          by_cases hc0 : cap = 0
          · subst hc0
            obtain ⟨c, T, fr, hc⟩ := hbk x rfl
            refine upon_val (Lib.run_unsafeSliceData_zero w ts ty e hp x 0 _ (shape_of hc)) ?_
            obtain ⟨g1, g2⟩ := H.more (w' := w.alloc (.view x e)) (by simp only [World.alloc, Array.size_push]; omega) (fun b hb => by simp only [World.alloc, Array.getElem?_push]; rw [if_neg (by omega)]) rfl rfl rfl
            exact ⟨_, _, _, hK, g1, .anyp, g2, Evo.refl _ _⟩
          · exact upon_val (Lib.run_unsafeSliceData_row w ts ty x 0 cap hc0) (Good.same H hK .anyp)
      · have hK := h1 hl0
        obtain ⟨b, o, hb, rfl, c, T, fr, hc, hsz⟩ := hcp (by omega)
        refine upon_val (Lib.run_unsafeSliceData_row w ts ty _ len cap (by omega)) (Good.same H hK ?_)
        refine .ptr (H.lt q _ hq) (fun ver' k' tq' els' hq' => ?_) (fun s p hq' => by rw [hq] at hq'; cases hq') ⟨_, rfl⟩
        rw [hq] at hq'
        cases hq'
        exact ⟨Nat.le_refl _, fun _ => ⟨by omega, Nat.zero_le _, b, o, hb, rfl⟩⟩
    · exact h.elim
  · exact h.elim

theorem lies_bytes {e : TypeId} (hc : P.cellsOf e = 1) (count off n : Nat) (hn : off + n ≤ count) : liesAt P P.depth e count off e n = true := by
  have hd : P.depth = (2 * (P.types.size + Made.depth) + 1) + 1 := rfl
  rw [hd]
  simp only [liesAt, Bool.or_eq_true]
  left
  rw [hd]
  simp [rowAt, hc, hn, sameLayout, Nat.mod_one]

theorem run_ustr {pt it ty e : TypeId} (hp : P.underlying pt = some (.pointer e)) (hc : P.cellsOf e = 1) (g off cells : Nat) (hsh : w.shape? g = some (e, cells)) (l : List UInt8) (h0 : l ≠ []) (hn : off + l.length ≤ cells) (h63 : l.length ≤ 9223372036854775807)
    (hcell : ∀ j x, l[j]? = some x → w.cell? ((⟨g, off, none⟩ : Addr).add j) = some (.int .u8 x.toNat)) :
    (Builtin.unsafeString_ #[pt, it] ty #[.pointer (some ⟨g, off, none⟩), .int .i64 l.length]).run P w = .ok (.string ⟨l.toArray⟩) (w.freeze ⟨g, off, none⟩ l.length) := by
  have hl : l.length ≠ 0 := by simpa using h0
  have hlb := Lib.run_loadBytes (P := P) w l ⟨g, off, none⟩ .empty hcell
  have hlies := lies_bytes (P := P) hc (cells / P.cellsOf e) off l.length (by rw [hc]; simpa using hn)
  have h63' : ¬ (9223372036854775807 : Int) < (l.length : Int) := by omega
  have hmax : IntKind.i64.max = 9223372036854775807 := rfl
  have hneg : ¬ (l.length : Int) < 0 := by omega
  obtain ⟨m1, m2, hdef⟩ : ∃ m1 m2 : String, Builtin.unsafeString_ #[pt, it] ty #[.pointer (some ⟨g, off, none⟩), .int .i64 l.length] =
      (do
        let n ← asInt (.int .i64 l.length)
        if n < 0 then runtimePanic (.error m1)
        if n > IntKind.i64.max then unsupported (.unsafePointer m2)
        if n = 0 then pure (.string .empty)
        else if ← variablesAt ⟨g, off, none⟩ (← elemOf pt) n.toNat then do
          let s ← loadBytes ⟨g, off, none⟩ .empty n.toNat
          freeze ⟨g, off, none⟩ n.toNat
          pure (.string s)
        else unsupported (.unsafePointer "String: not so many bytes at ptr")) := ⟨_, _, rfl⟩
  rw [hdef]
  simp [asInt, asIntOf, hmax, h63', hneg, hl, variablesAt, hsh, elemOf, run_underlying hp, hlies, hlb]

theorem freeze_other (a : Addr) (n : Nat) {b : Nat} (hb : b ≠ a.block) : (w.freeze a n).heap[b]? = w.heap[b]? := by
  unfold World.freeze
  split
  · rfl
  · simp only [Array.getElem?_modify]
    rw [if_neg (Ne.symm hb)]

theorem freeze_cells (a : Addr) (n : Nat) {b : Nat} {c : Array Value} {T : TypeId} {fr : Nat × Nat} (h : w.heap[b]? = some (Go.Obj.cells c T fr)) : ∃ fr', (w.freeze a n).heap[b]? = some (Go.Obj.cells c T fr') := by
  unfold World.freeze
  split
  · exact ⟨fr, h⟩
  · simp only [Array.getElem?_modify, h]
    split
    · exact ⟨_, rfl⟩
    · exact ⟨fr, rfl⟩

theorem freeze_size (a : Addr) (n : Nat) : (w.freeze a n).heap.size = w.heap.size := by
  unfold World.freeze; split <;> simp

theorem snd_ust {pt it ty e : TypeId} {X N : RX} {ρ : RX → AV} {K : AV → St → Prop} {a n : Value} (hp : P.underlying pt = some (.pointer e)) (hs : sizeT P e = some 1) (H : HRel β st w) (hx : R β st w a (ρ X)) (hn : R β st w n (ρ N)) (h : aexec P (.ust e X N) ρ st K) :
    UponOK P β st w K ((do pure (.value (← Builtin.unsafeString_ #[pt, it] ty #[a, n])) : Sem Next).run P w) := by
  simp only [aexec] at h
  split at h
  · rename_i m hρn
    rw [hρn] at hn
    have := R_v hn
    subst this
    split at h
    · rename_i q ver i j hρ
      split at h
      · rename_i ver' k tq els hq
        obtain ⟨rfl, rfl, rfl, rfl, l, hl0, rfl, h63, hels, hK⟩ := h
        rw [hρ] at hx
        obtain ⟨hi, _, b, o, hb, rfl⟩ := R_ptr_inv hx hq
        obtain ⟨c, fr, hcell, hsz, _, hwd, hrr⟩ := H.row q ver 1 e els b o hq hb
        have hlen : i + l.length ≤ els.length := by
          have := congrArg List.length hels
          simp [u8s_length] at this
          omega
        obtain ⟨ie, hie, hie2⟩ := sizeT_info hs
        have hce : P.cellsOf e = 1 := by simp [Program.cellsOf, hie, hie2]
        have hcl : ∀ j x, l[j]? = some x → w.cell? ((⟨b, o + i * 1 + 0, none⟩ : Addr).add j) = some (.int .u8 x.toNat) := by
          intro j x hjx
          obtain ⟨hj, rfl⟩ := List.getElem?_eq_some_iff.1 hjx
          obtain ⟨u, y, g1, g2, g3, g4⟩ := H.cell hq hb (i := i + j) (j := 0) (by omega) (by omega)
          have h1 : ((els.drop i).take l.length)[j]? = some [AV.d (.v (.int .u8 l[j].toNat))] := by rw [hels]; simp [u8s, hj]
          rw [List.getElem?_take_of_lt hj, List.getElem?_drop, List.getElem?_eq_getElem (by omega)] at h1
          have h2 := Option.some.inj h1
          rw [h2] at g1
          simp only [List.getElem?_cons_zero, Option.some.injEq] at g1
          subst g1
          have h3 := R_v g3
          subst h3
          rw [add_off, ← g2]
          congr 2
          omega
        refine upon_val (run_ustr (w := w) (it := it) (ty := ty) hp hce b (o + i * 1 + 0) c.size (shape_of hcell) l hl0 (by omega) h63 hcl) ?_
        have hmut : ∀ b', Mut β (st.del q).h b' → b' ≠ b ∧ Mut β st.h b' := by
          rintro b' ⟨r, o', a', h1, h2⟩
          simp only [St.del] at h1
          split at h1
          · cases h1
          · rename_i hne
            exact ⟨H.apart r q o' _ b' a' b o h1 hq hne h2 hb, r, o', a', h1, h2⟩
        have hk : Keep (Mut β st.h) w (Mut β (st.del q).h) (w.freeze ⟨b, o + i * 1 + 0, none⟩ l.length) := by
          refine ⟨by rw [freeze_size]; exact Nat.le_refl _, fun b' hb' hm => ⟨freeze_other _ _ (fun e => hm (by rw [e]; exact ⟨q, _, o, hq, hb⟩)), fun hm' => hm (hmut b' hm').2⟩, fun b' c' T' fr' hc' => ?_, ?_, ?_, ?_⟩
          · obtain ⟨fr2, hf⟩ := freeze_cells (w := w) ⟨b, o + i * 1 + 0, none⟩ l.length hc'
            exact ⟨c', fr2, hf, rfl⟩
          all_goals (unfold World.freeze; split <;> rfl)
        have he : Evo β st β (st.del q) := ⟨Int.le_refl _, fun r o' hr ho' => by
          simp only [St.del] at ho'
          split at ho'
          · cases ho'
          · exact ⟨o', ho', .refl _, fun _ => rfl⟩⟩
        refine ⟨_, β, _, hK, ⟨fun r o' h1 => ?_, fun r r' o1 o2 b1 a1 b2 a2 h1 h2 => ?_, fun r v k t e2 h1 => ?_, fun r v k t e2 b1 a1 h1 h2 => ?_, fun r v k t e2 h1 => ?_, fun x hx => ?_, fun r s p h1 => ?_, fun r v k t e2 b1 a1 h1 h2 => ?_⟩, .d (.v _), hk, he⟩
        · simp only [St.del] at h1
          split at h1
          · cases h1
          · exact H.lt r o' h1
        · simp only [St.del] at h1 h2
          split at h1
          · cases h1
          split at h2
          · cases h2
          exact H.apart r r' o1 o2 b1 a1 b2 a2 h1 h2
        · simp only [St.del] at h1
          split at h1
          · cases h1
          · exact H.phant r v k t e2 h1
        · have hbn := (hmut b1 ⟨r, _, a1, h1, h2⟩).1
          simp only [St.del] at h1
          split at h1
          · cases h1
          · obtain ⟨c1, fr1, g1, g2, g3, g4, g5⟩ := H.row r v k t e2 b1 a1 h1 h2
            exact ⟨c1, fr1, by rw [freeze_other _ _ hbn, g1], g2, g3, g4, fun i j v x hi hx hv => ⟨(g5 i j v x hi hx hv).1.keep hk he, (g5 i j v x hi hx hv).2⟩⟩
        · simp only [St.del] at h1
          split at h1
          · cases h1
          · exact H.width r v k t e2 h1
        · obtain ⟨g1, g2⟩ := H.glob x hx
          exact ⟨hk.cell g2 g1, fun hm => g2 (hmut _ hm).2⟩
        · have h1' := h1
          simp only [St.del] at h1
          split at h1
          · cases h1
          · obtain ⟨b1, g1, g2⟩ := H.iter r s p h1
            exact ⟨b1, g1, by rw [freeze_other _ _ (hmut b1 ⟨r, _, 0, h1', g1⟩).1, g2]⟩
        · simp only [St.del] at h1
          split at h1
          · cases h1
          · exact H.mul r v k t e2 b1 a1 h1 h2
      · exact h.elim
    · rename_i hρ
      obtain ⟨rfl, hK⟩ := h
      rw [hρ] at hx
      cases hx with
      | anyp => exact upon_val (Lib.run_unsafeString_none w pt it ty _) (Good.same H hK (.d (.v _)))
    · rename_i hρ
      obtain ⟨rfl, hK⟩ := h
      rw [hρ] at hx
      have := R_v hx
      subst this
      exact upon_val (Lib.run_unsafeString_none w pt it ty _) (Good.same H hK (.d (.v _)))
    · exact h.elim
  · exact h.elim

/-- A call that gives its argument back. -/
theorem snd_noesc {f : FuncId} {x : Operand} {ev : Operand → Value} {ρ : RX → AV} {K : AV → St → Prop} (H : HRel β st w) (hρ : ∀ x, R β st w (ev x) (ρ (rx x))) (hf : (P.funcs[f]?).any (fun fn => fn.name == "internal/abi.NoEscape" && fn.origin == "" && fn.body.isNone) = true) (h : aexec P (.mov (rx x)) ρ st K) :
    UponOK P β st w K ((callFunc f #[ev x]).run P w) := by
  obtain ⟨v, hv, hK⟩ := h
  simp only [aval, Option.some.injEq] at hv
  subst hv
  simp only [Option.any_eq_true, Bool.and_eq_true, beq_iff_eq] at hf
  obtain ⟨fn, h1, ⟨h2, ho⟩, h3⟩ := hf
  have hname : (fn.name == "runtime.NumGoroutine") = false := by rw [h2]; decide
  have hn : Extern.findNext fn = none := by
    unfold Extern.findNext
    rw [h2, ho]
    rfl
  have he : Extern.find fn = some Extern.AbiNoEscape.same := by
    unfold Extern.find
    rw [h2]
    rfl
  rw [run_callFunc_extern h1 hname h3 hn he]
  exact Good.same H hK (hρ x)

end Go.Eng
