/-
  Part of the proof that the law ProjectAll returns true at every input of bulk at most 1048576, and leaves its arguments as they were; the whole is stated at the end of the last text.
-/
import Derived.Test.YtdopmhicmehmeaaPaC
/-
  PLAIN LAW OF ProjectAll, PART 4: checks.
-/
set_option linter.unusedVariables false
set_option linter.unusedSimpArgs false
namespace Go.Eng
open Go

theorem k0_add (n : Nat) (h : n ≤ 1000) : ∃ m, K0 = m + n := ⟨K0 - n, by have := k0_le; omega⟩

theorem cont_f (s : ByteArray) (i n : Nat) (hs : s.size ≤ M) (hi : i ≤ s.size) (hn : n ≤ 4) : ∃ b, clerestoryref01_cont.f s i n = some b ∧ (b = true → i + n ≤ s.size) := by
  have hM : s.size ≤ 1048576 := hs
  unfold clerestoryref01_cont.f
  have hw : IntKind.i64.wrap ((i : Int) + (n : Int)) = ((i + n : Nat) : Int) := by rw [wrap64 (by omega) (by omega)]; omega
  rw [hw]
  by_cases h : s.size < i + n
  · rw [if_pos (by simp only [decide_eq_true_eq]; omega)]
    exact ⟨false, rfl, fun h => by cases h⟩
  · rw [if_neg (by simp only [decide_eq_true_eq]; omega)]
    have key : ∀ (d k j : Nat), d + j = i + n → d < k → ∃ b, clerestoryref01_cont.w0 s i n k j = some b := by
      intro d
      induction d with
      | zero =>
        intro k j hj hk
        obtain ⟨k, rfl⟩ : ∃ m, k = m + 1 := ⟨k - 1, by omega⟩
        rw [clerestoryref01_cont.w0, hw, if_neg (by simp only [decide_eq_true_eq]; omega)]
        exact ⟨_, rfl⟩
      | succ d ih =>
        intro k j hj hk
        obtain ⟨k, rfl⟩ : ∃ m, k = m + 1 := ⟨k - 1, by omega⟩
        have hjl : j < s.data.toList.length := by rw [size_data]; omega
        rw [clerestoryref01_cont.w0, hw, if_pos (by simp only [decide_eq_true_eq]; omega)]
        simp only [at_nat, hjl, List.getElem?_eq_getElem, Option.bind_some, wrap_succ (show j < 9223372036854775807 by omega)]
        split
        · exact ⟨_, rfl⟩
        · exact ih k (j + 1) (by omega) (by omega)
    obtain ⟨b, hb⟩ := key n K0 i (by omega) (mk0 (by unfold M; omega))
    exact ⟨b, hb, fun _ => by omega⟩

theorem one_f (s : ByteArray) (i : Nat) (hs : s.size ≤ M) (hi : i < s.size) : ∃ x, clerestoryref01_one.f s i = some x ∧ (x.Size = 1 ∨ x.Size = 2 ∨ x.Size = 3 ∨ x.Size = 4) := by
  have hM : s.size ≤ 1048576 := hs
  have hl : i < s.data.toList.length := by rw [size_data]; exact hi
  obtain ⟨m, hm⟩ := k0_add 5 (by omega)
  have hw : ∀ j : Nat, j ≤ 8 → IntKind.i64.wrap ((i : Int) + (j : Int)) = ((i + j : Nat) : Int) := fun j hj => by rw [wrap64 (by omega) (by omega)]; omega
  have w1 := hw 1 (by omega)
  have w2 := hw 2 (by omega)
  have w3 := hw 3 (by omega)
  simp only [Int.natCast_one] at w1
  have e2 : ((2 : Nat) : Int) = 2 := rfl
  have e3 : ((3 : Nat) : Int) = 3 := rfl
  rw [e2] at w2
  rw [e3] at w3
  have v2 : IntKind.i64.wrap (1 + 1) = 2 := by decide
  have v3 : IntKind.i64.wrap (2 + 1) = 3 := by decide
  have v4 : IntKind.i64.wrap (3 + 1) = 4 := by decide
  obtain ⟨b1, c1, d1⟩ := cont_f s (i + 1) 1 hs (by omega) (by omega)
  obtain ⟨b2, c2, d2⟩ := cont_f s (i + 1) 2 hs (by omega) (by omega)
  obtain ⟨b3, c3, d3⟩ := cont_f s (i + 1) 3 hs (by omega) (by omega)
  simp only [Int.natCast_one] at c1
  rw [e2] at c2
  rw [e3] at c3
  unfold clerestoryref01_one.f
  simp only [at_nat, hl, List.getElem?_eq_getElem, Option.bind_some, w1, c1, c2, c3]
  have g : ∀ j : Nat, i + j < s.size → s.data.toList[i + j]? = some (s.data.toList.getD (i + j) 0) := fun j hj => by
    have : i + j < s.data.toList.length := by rw [size_data]; exact hj
    rw [List.getElem?_eq_getElem this, List.getD_eq_getElem?_getD, List.getElem?_eq_getElem this]; rfl
  have q0 : ∀ v, b1 = true → ∃ x, clerestoryref01_one.w0 s i K0 v 1 = some x ∧ (x.Size = 1 ∨ x.Size = 2 ∨ x.Size = 3 ∨ x.Size = 4) := by
    intro v hb
    have := d1 hb
    rw [hm]
    simp only [clerestoryref01_one.w0, w1, v2, at_nat, g 1 (by omega), Option.bind_some]
    simp only [show decide ((1 : Int) ≤ 1) = true by decide, show decide ((2 : Int) ≤ 1) = false by decide, if_true, Bool.false_eq_true, if_false]
    exact ⟨_, rfl, by simp⟩
  have q1 : ∀ v, b2 = true → ∃ x, clerestoryref01_one.w1 s i K0 v 1 = some x ∧ (x.Size = 1 ∨ x.Size = 2 ∨ x.Size = 3 ∨ x.Size = 4) := by
    intro v hb
    have := d2 hb
    rw [hm]
    simp only [clerestoryref01_one.w1, w1, w2, v2, v3, at_nat, g 1 (by omega), g 2 (by omega), Option.bind_some]
    simp only [show decide ((1 : Int) ≤ 2) = true by decide, show decide ((2 : Int) ≤ 2) = true by decide, show decide ((3 : Int) ≤ 2) = false by decide, if_true, Bool.false_eq_true, if_false]
    repeat' split
    all_goals exact ⟨_, rfl, by simp⟩
  have q2 : ∀ v, b3 = true → ∃ x, clerestoryref01_one.w2 s i K0 v 1 = some x ∧ (x.Size = 1 ∨ x.Size = 2 ∨ x.Size = 3 ∨ x.Size = 4) := by
    intro v hb
    have := d3 hb
    rw [hm]
    simp only [clerestoryref01_one.w2, w1, w2, w3, v2, v3, v4, at_nat, g 1 (by omega), g 2 (by omega), g 3 (by omega), Option.bind_some]
    simp only [show decide ((1 : Int) ≤ 3) = true by decide, show decide ((2 : Int) ≤ 3) = true by decide, show decide ((3 : Int) ≤ 3) = true by decide, show decide ((4 : Int) ≤ 3) = false by decide, if_true, Bool.false_eq_true, if_false]
    repeat' split
    all_goals exact ⟨_, rfl, by simp⟩
  have q3 : ∀ v, b3 = true → ∃ x, clerestoryref01_one.w3 s i K0 v 1 = some x ∧ (x.Size = 1 ∨ x.Size = 2 ∨ x.Size = 3 ∨ x.Size = 4) := by
    intro v hb
    have := d3 hb
    rw [hm]
    simp only [clerestoryref01_one.w3, w1, w2, w3, v2, v3, v4, at_nat, g 1 (by omega), g 2 (by omega), g 3 (by omega), Option.bind_some]
    simp only [show decide ((1 : Int) ≤ 3) = true by decide, show decide ((2 : Int) ≤ 3) = true by decide, show decide ((3 : Int) ≤ 3) = true by decide, show decide ((4 : Int) ≤ 3) = false by decide, if_true, Bool.false_eq_true, if_false]
    repeat' split
    all_goals exact ⟨_, rfl, by simp⟩
  have q4 : ∀ v, b2 = true → ∃ x, clerestoryref01_one.w4 s i K0 v 1 = some x ∧ (x.Size = 1 ∨ x.Size = 2 ∨ x.Size = 3 ∨ x.Size = 4) := by
    intro v hb
    have := d2 hb
    rw [hm]
    simp only [clerestoryref01_one.w4, w1, w2, v2, v3, at_nat, g 1 (by omega), g 2 (by omega), Option.bind_some]
    simp only [show decide ((1 : Int) ≤ 2) = true by decide, show decide ((2 : Int) ≤ 2) = true by decide, show decide ((3 : Int) ≤ 2) = false by decide, if_true, Bool.false_eq_true, if_false]
    repeat' split
    all_goals exact ⟨_, rfl, by simp⟩
  have q5 : ∀ v, b3 = true → ∃ x, clerestoryref01_one.w5 s i K0 v 1 = some x ∧ (x.Size = 1 ∨ x.Size = 2 ∨ x.Size = 3 ∨ x.Size = 4) := by
    intro v hb
    have := d3 hb
    rw [hm]
    simp only [clerestoryref01_one.w5, w1, w2, w3, v2, v3, v4, at_nat, g 1 (by omega), g 2 (by omega), g 3 (by omega), Option.bind_some]
    simp only [show decide ((1 : Int) ≤ 3) = true by decide, show decide ((2 : Int) ≤ 3) = true by decide, show decide ((3 : Int) ≤ 3) = true by decide, show decide ((4 : Int) ≤ 3) = false by decide, if_true, Bool.false_eq_true, if_false]
    repeat' split
    all_goals exact ⟨_, rfl, by simp⟩
  have q6 : ∀ v, b3 = true → ∃ x, clerestoryref01_one.w6 s i K0 v 1 = some x ∧ (x.Size = 1 ∨ x.Size = 2 ∨ x.Size = 3 ∨ x.Size = 4) := by
    intro v hb
    have := d3 hb
    rw [hm]
    simp only [clerestoryref01_one.w6, w1, w2, w3, v2, v3, v4, at_nat, g 1 (by omega), g 2 (by omega), g 3 (by omega), Option.bind_some]
    simp only [show decide ((1 : Int) ≤ 3) = true by decide, show decide ((2 : Int) ≤ 3) = true by decide, show decide ((3 : Int) ≤ 3) = true by decide, show decide ((4 : Int) ≤ 3) = false by decide, if_true, Bool.false_eq_true, if_false]
    repeat' split
    all_goals exact ⟨_, rfl, by simp⟩
  repeat' split
  all_goals first
    | exact ⟨_, rfl, by simp⟩
    | exact q0 _ (by simpa using ‹¬(!b1) = true›)
    | exact q1 _ (by simpa using ‹¬(!b2) = true›)
    | exact q2 _ (by simpa using ‹¬(!b3) = true›)
    | exact q3 _ (by simpa using ‹¬(!b3) = true›)
    | exact q4 _ (by simpa using ‹¬(!b2) = true›)
    | exact q5 _ (by simpa using ‹¬(!b3) = true›)
    | exact q6 _ (by simpa using ‹¬(!b3) = true›)

theorem all_f (s : ByteArray) (hs : s.size ≤ M) : ∃ l, clerestoryref01_All.f s = some l ∧ l.length ≤ s.size := by
  have hM : s.size ≤ 1048576 := hs
  unfold clerestoryref01_All.f
  have key : ∀ (n k i : Nat) (acc : List clerestoryref01_R), s.size - i ≤ n → n < k → acc.length ≤ i → acc.length ≤ s.size → i ≤ s.size + 4 → ∃ l, clerestoryref01_All.w0 s k acc i = some l ∧ l.length ≤ s.size := by
    intro n
    induction n using Nat.strongRecOn with
    | _ n ih =>
      intro k i acc hn hk ha ha2 hi4
      obtain ⟨k, rfl⟩ : ∃ m, k = m + 1 := ⟨k - 1, by omega⟩
      rw [clerestoryref01_All.w0]
      by_cases h : i < s.size
      · rw [if_pos (by simpa using h)]
        obtain ⟨x, hx, hsz⟩ := one_f s i hs h
        rw [hx, Option.bind_some, if_pos (by simp; omega)]
        obtain ⟨m, hm, hm1, hm4⟩ : ∃ m : Nat, x.Size = m ∧ 1 ≤ m ∧ m ≤ 4 := by
          rcases hsz with h | h | h | h
          · exact ⟨1, h, by omega, by omega⟩
          · exact ⟨2, h, by omega, by omega⟩
          · exact ⟨3, h, by omega, by omega⟩
          · exact ⟨4, h, by omega, by omega⟩
        rw [hm, show IntKind.i64.wrap ((i : Int) + (m : Int)) = ((i + m : Nat) : Int) by rw [wrap64 (by omega) (by omega)]; omega]
        exact ih (n - 1) (by omega) k (i + m) _ (by omega) (by omega) (by simp; omega) (by simp; omega) (by omega)
      · rw [if_neg (by simpa using h)]
        exact ⟨acc, rfl, ha2⟩
  exact key s.size K0 0 [] (by omega) (mk0 hs) (by simp) (by simp) (by omega)

theorem letter_f (x : clerestoryref01_R) : ∃ b, clerestoryref01_Letter.f x = some b := by
  unfold clerestoryref01_Letter.f
  repeat' split
  all_goals exact ⟨_, rfl⟩

theorem lreci_ex {α R : Type} {F : Nat → α → Unit → (Unit → Option R) → Option R} {G : Unit → Option R} (hG : ∃ r, G () = some r) : ∀ (l : List α) (i : Nat), (∀ x ∈ l, ∀ i c, (∃ r, c () = some r) → ∃ r, F i x () c = some r) → ∃ r, lreci F G i l () = some r
  | [], i, _ => hG
  | x :: l, i, h => h x (by simp) i _ (lreci_ex hG l (i + 1) fun y hy => h y (by simp [hy]))

theorem name_f (s : ByteArray) (hs : s.size ≤ M) : ∃ b, clerestoryref01_Name.f s = some b := by
  unfold clerestoryref01_Name.f
  obtain ⟨l, hl, hlen⟩ := all_f s hs
  have hlM : l.length ≤ M := by omega
  rw [hl, Option.bind_some]
  rw [loop_listi (w := fun k (_ : Unit) i => clerestoryref01_Name.w0 s l k i) l
    (fun i x _ c => (clerestoryref01_Letter.f x).bind fun b => if (!b) = true then (if i = 0 then some false else if x.R < 48 then some false else if 57 < x.R then some false else c ()) else c ())
    (fun _ => if 1 ≤ s.size then some (decide ((s.size : Int) ≤ 100)) else some false) (ml hlM) ?_ ?_ (mk0 hlM) ()]
  · refine lreci_ex ?_ l 0 fun x _ i c ⟨r, hc⟩ => ?_
    · split <;> exact ⟨_, rfl⟩
    · obtain ⟨b, hb⟩ := letter_f x
      rw [hb, Option.bind_some]
      repeat' split
      all_goals first | exact ⟨_, rfl⟩ | exact ⟨r, hc⟩
  · intro k _ i hi
    rw [clerestoryref01_Name.w0]
    simp only [at_nat, hi, List.getElem?_eq_getElem, Option.bind_some, ms hlM hi]
    rw [if_pos (by simpa using hi)]
    congr 1
    funext b
    simp
  · intro k _
    rw [clerestoryref01_Name.w0]
    rw [if_neg (by simp)]
    by_cases h : 1 ≤ s.size
    · rw [if_pos (by simpa using (by omega : 1 ≤ (s.size : Int))), if_pos h]
    · rw [if_neg (by simp only [decide_eq_true_eq]; omega), if_neg h]

theorem cellCheck_f (c : api_Cell) : ∃ b, clerestoryref06_Check.f c = some b := by
  unfold clerestoryref06_Check.f
  repeat' split
  all_goals exact ⟨_, rfl⟩
theorem stamp_f (v : Int) : ∃ b, clerestoryref07_stamp.f v = some b := by
  unfold clerestoryref07_stamp.f
  split <;> exact ⟨_, rfl⟩

theorem rises_of {α : Type} {key : α → ByteArray} : ∀ {l : List α}, (∀ j, 0 < j → (h : j < l.length) → (slt (key l[j]) (key (l[j - 1]'(by omega))) || seq (key l[j]) (key (l[j - 1]'(by omega)))) = false) → rises key l = true
  | [], _ => rfl
  | [_], _ => rfl
  | x :: y :: l, h => by
    simp only [rises, Bool.and_eq_true, Bool.not_eq_true']
    refine ⟨?_, rises_of fun j h0 hj => ?_⟩
    · have := h 1 (by omega) (by simp)
      simpa using this
    · have h2 := h (j + 1) (by omega) (by simpa using hj)
      obtain ⟨i, rfl⟩ : ∃ i, j = i + 1 := ⟨j - 1, by omega⟩
      simpa using h2

theorem rowCheck_f (r : api_Row) (hc : r.Cols.length ≤ M) (hn : ∀ c ∈ r.Cols, c.Name.size ≤ M) : ∃ b, clerestoryref07_Check.f r = some b ∧ (b = true → rises api_Col.Name r.Cols = true) := by
  have hM : r.Cols.length ≤ 1048576 := hc
  have key : ∀ (n k i : Nat), i + n = r.Cols.length → n < k → ∃ b, clerestoryref07_Check.w0 r k i = some b ∧ (b = true → ∀ j, i ≤ j → 0 < j → (h : j < r.Cols.length) → (slt r.Cols[j].Name (r.Cols[j - 1]'(by omega)).Name || seq r.Cols[j].Name (r.Cols[j - 1]'(by omega)).Name) = false) := by
    intro n
    induction n with
    | zero =>
      intro k i hi hk
      obtain ⟨k, rfl⟩ : ∃ m, k = m + 1 := ⟨k - 1, by omega⟩
      have : i = r.Cols.length := by omega
      subst this
      rw [clerestoryref07_Check.w0, if_neg (by simp)]
      exact ⟨true, rfl, fun _ j h1 h2 h3 => by omega⟩
    | succ n ih =>
      intro k i hi hk
      obtain ⟨k, rfl⟩ : ∃ m, k = m + 1 := ⟨k - 1, by omega⟩
      have hil : i < r.Cols.length := by omega
      obtain ⟨b1, h1⟩ := name_f r.Cols[i].Name (hn _ (List.getElem_mem hil))
      obtain ⟨b2, h2⟩ := cellCheck_f r.Cols[i].Cell
      obtain ⟨b, hb, hr⟩ := ih k (i + 1) (by omega) (by omega)
      rw [clerestoryref07_Check.w0, if_pos (by simpa using hil)]
      simp only [at_nat, hil, List.getElem?_eq_getElem, Option.bind_some, h1, h2, ms hc hil]
      have no : ∃ b, some false = some b ∧ (b = true → ∀ j, i ≤ j → 0 < j → (h : j < r.Cols.length) → (slt r.Cols[j].Name (r.Cols[j - 1]'(by omega)).Name || seq r.Cols[j].Name (r.Cols[j - 1]'(by omega)).Name) = false) := ⟨false, rfl, fun h => by cases h⟩
      split
      · exact no
      · by_cases h0 : 0 < i
        · rw [if_pos (by simpa using h0), wrap_pred (by omega) h0]
          simp only [at_nat, show i - 1 < r.Cols.length by omega, List.getElem?_eq_getElem, Option.bind_some]
          split
          · exact no
          · rename_i hne
            split
            · exact no
            · split
              · exact no
              · refine ⟨b, hb, fun e j g1 g2 g3 => ?_⟩
                rcases Nat.eq_or_lt_of_le g1 with rfl | g1
                · simpa using hne
                · exact hr e j g1 g2 g3
        · rw [if_neg (by simpa using h0)]
          split
          · exact no
          · split
            · exact no
            · exact ⟨b, hb, fun e j g1 g2 g3 => hr e j (by omega) g2 g3⟩
  unfold clerestoryref07_Check.f
  obtain ⟨b2, h2⟩ := cellCheck_f r.Live
  obtain ⟨b3, h3⟩ := stamp_f r.Gone
  obtain ⟨b4, h4⟩ := stamp_f r.Shade
  obtain ⟨b, hb, hr⟩ := key r.Cols.length K0 0 (by omega) (mk0 hc)
  simp only [Int.natCast_zero] at hb
  simp only [h2, h3, h4, hb, Option.bind_some]
  have no : ∃ b, some false = some b ∧ (b = true → rises api_Col.Name r.Cols = true) := ⟨false, rfl, fun h => by cases h⟩
  repeat' split
  all_goals first | exact no | exact ⟨b, rfl, fun e => rises_of fun j g1 g2 => hr e j (by omega) g1 g2⟩

/-- What may be asked of a partition. -/
structure SmR (r : api_Row) : Prop where
  cols : r.Cols.length ≤ M
  names : ∀ c ∈ r.Cols, c.Name.size ≤ M
  key : r.Key.size ≤ M
structure SmP (p : api_Part) : Prop where
  rows : p.Rows.length ≤ M
  each : ∀ r ∈ p.Rows, SmR r
  key : p.Key.size ≤ M

theorem partCheck_f (p : api_Part) (hp : SmP p) : ∃ b, clerestoryref08_Check.f p = some b ∧ (b = true → ∀ r ∈ p.Rows, rises api_Col.Name r.Cols = true) := by
  have hM : p.Rows.length ≤ 1048576 := hp.rows
  have key : ∀ (n k i : Nat), i + n = p.Rows.length → n < k → ∃ b, clerestoryref08_Check.w0 p k i = some b ∧ (b = true → ∀ r ∈ p.Rows.drop i, rises api_Col.Name r.Cols = true) := by
    intro n
    induction n with
    | zero =>
      intro k i hi hk
      obtain ⟨k, rfl⟩ : ∃ m, k = m + 1 := ⟨k - 1, by omega⟩
      have : i = p.Rows.length := by omega
      subst this
      rw [clerestoryref08_Check.w0, if_neg (by simp)]
      exact ⟨true, rfl, fun _ r hr => by simp at hr⟩
    | succ n ih =>
      intro k i hi hk
      obtain ⟨k, rfl⟩ : ∃ m, k = m + 1 := ⟨k - 1, by omega⟩
      have hil : i < p.Rows.length := by omega
      have sm := hp.each _ (List.getElem_mem hil)
      obtain ⟨b1, h1, hr1⟩ := rowCheck_f p.Rows[i] sm.cols sm.names
      obtain ⟨b, hb, hr⟩ := ih k (i + 1) (by omega) (by omega)
      rw [clerestoryref08_Check.w0, if_pos (by simpa using hil), List.drop_eq_getElem_cons hil]
      simp only [at_nat, hil, List.getElem?_eq_getElem, Option.bind_some, h1, ms hp.rows hil]
      have no : ∃ b, some false = some b ∧ (b = true → ∀ r ∈ p.Rows[i] :: p.Rows.drop (i + 1), rises api_Col.Name r.Cols = true) := ⟨false, rfl, fun h => by cases h⟩
      have yes : b1 = true → ∃ b', some b = some b' ∧ (b' = true → ∀ r ∈ p.Rows[i] :: p.Rows.drop (i + 1), rises api_Col.Name r.Cols = true) := fun e => ⟨b, rfl, fun e2 r hmem => by
        rcases List.mem_cons.1 hmem with rfl | h
        · exact hr1 e
        · exact hr e2 r h⟩
      split
      · exact no
      · rename_i hb1
        have e1 : b1 = true := by simpa using hb1
        by_cases h0 : 0 < i
        · rw [if_pos (by simpa using h0), wrap_pred (by omega) h0]
          simp only [at_nat, show i - 1 < p.Rows.length by omega, List.getElem?_eq_getElem, Option.bind_some]
          split
          · exact no
          · rw [hb]; exact yes e1
        · rw [if_neg (by simpa using h0), hb]
          exact yes e1
  unfold clerestoryref08_Check.f
  obtain ⟨b, hb, hr⟩ := key p.Rows.length K0 0 (by omega) (mk0 hp.rows)
  simp only [Int.natCast_zero] at hb
  rw [hb]
  have no : ∃ b, some false = some b ∧ (b = true → ∀ r ∈ p.Rows, rises api_Col.Name r.Cols = true) := ⟨false, rfl, fun h => by cases h⟩
  repeat' split
  all_goals first | exact no | exact ⟨b, rfl, fun e r hmem => hr e r (by simpa using hmem)⟩

end Go.Eng
