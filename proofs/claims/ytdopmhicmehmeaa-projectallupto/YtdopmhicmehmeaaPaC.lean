/-
  Part of the proof that the law ProjectAll returns true at every input of bulk at most 1048576, and leaves its arguments as they were; the whole is stated at the end of the last text.
-/
import Derived.Test.YtdopmhicmehmeaaPaB
/-
  PLAIN LAW OF ProjectAll, PART 3: keys taken apart, code points.
-/
set_option linter.unusedVariables false
set_option linter.unusedSimpArgs false
namespace Go.Eng
open Go

/-- What a text is at a place, and the place behind it. -/
def gtS : List UInt8 → List UInt8 → Nat → ByteArray × Int × Int
  | [], acc, n => (bs [], 0, 8)
  | [x], acc, n => (bs [], 0, 8)
  | x :: y :: l, acc, n => if x = 0 then (if y = 255 then gtS l (acc ++ [0]) (n + 2) else if y = 1 then (bs acc, ((n + 2 : Nat) : Int), 0) else (bs [], 0, 6)) else gtS (y :: l) (acc ++ [x]) (n + 1)

theorem byte255 (x : UInt8) : ((x.toNat : Int) = 255) ↔ x = 255 := byteq x 255 (by omega)
theorem byte1 (x : UInt8) : ((x.toNat : Int) = 1) ↔ x = 1 := byteq x 1 (by omega)

theorem gt_prog (b : List UInt8) (hb : b.length ≤ M) : ∀ (n k i : Nat) (acc : List UInt8), b.length - i ≤ n → i ≤ b.length → n < k → acc.length ≤ i → order_GetText.w0 b k i acc = some (gtS (b.drop i) acc i) := by
  intro n
  induction n using Nat.strongRecOn with
  | _ n ih =>
    intro k i acc hn hi hk ha
    obtain ⟨k, rfl⟩ : ∃ m, k = m + 1 := ⟨k - 1, by omega⟩
    rw [order_GetText.w0]
    have hM : b.length ≤ 1048576 := hb
    by_cases h : i < b.length
    · rw [if_pos (by simpa using h), List.drop_eq_getElem_cons h]
      simp only [at_nat, h, List.getElem?_eq_getElem, Option.bind_some, ms hb h, decide_eq_true_eq, ne_eq, byte0, byte255, byte1]
      by_cases h0 : b[i] = 0
      · rw [if_neg (by simpa using h0)]
        by_cases h1 : i + 1 = b.length
        · rw [if_pos (by omega), List.drop_of_length_le (by omega)]; rfl
        · have h2 : i + 1 < b.length := by omega
          rw [if_neg (by omega), List.drop_eq_getElem_cons h2]
          simp only [h2, List.getElem?_eq_getElem, Option.bind_some, ms hb h2, gtS, h0, if_true]
          by_cases h3 : b[i + 1] = 255
          · rw [if_pos h3, if_pos h3, if_pos (by simp; omega)]
            exact ih (n - 2) (by omega) k (i + 2) _ (by omega) (by omega) (by omega) (by simp; omega)
          · rw [if_neg h3, if_neg h3]
            by_cases h4 : b[i + 1] = 1
            · rw [if_pos h4, if_pos h4, if_pos (by omega)]
            · rw [if_neg h4, if_neg h4]
      · rw [if_pos (by simpa using h0), if_pos (by simp; omega), ih (n - 1) (by omega) k (i + 1) _ (by omega) (by omega) (by omega) (by simp; omega)]
        congr 1
        cases hd : b.drop (i + 1) with
        | nil => rfl
        | cons y l => simp only [gtS, h0, if_false]
    · rw [if_neg (by simpa using h), List.drop_of_length_le (by omega)]; rfl

theorem gt_ref (s : ByteArray) (hs : s.size ≤ M) : ∀ (n k i : Nat) (acc : List UInt8), s.size - i ≤ n → i ≤ s.size → n < k → acc.length ≤ i → clerestoryref02_GetText.w0 s k (bs acc) i = some (gtS (s.data.toList.drop i) acc i) := by
  intro n
  induction n using Nat.strongRecOn with
  | _ n ih =>
    intro k i acc hn hi hk ha
    obtain ⟨k, rfl⟩ : ∃ m, k = m + 1 := ⟨k - 1, by omega⟩
    rw [clerestoryref02_GetText.w0]
    have hM : s.size ≤ 1048576 := hs
    by_cases h : i < s.size
    · have hl : i < s.data.toList.length := by rw [size_data]; exact h
      rw [if_pos (by simpa using h), List.drop_eq_getElem_cons hl]
      simp only [at_nat, hl, List.getElem?_eq_getElem, Option.bind_some, ms hs h, decide_eq_true_eq, ne_eq, byte0, byte255, byte1, Int.toNat_natCast, extract_one hl, bs_size, bs_app]
      by_cases h0 : s.data.toList[i] = 0
      · rw [if_neg (by simpa using h0)]
        by_cases h1 : i + 1 = s.size
        · rw [if_pos (by omega), List.drop_of_length_le (by rw [size_data]; omega)]; rfl
        · have h2 : i + 1 < s.size := by omega
          have hl2 : i + 1 < s.data.toList.length := by rw [size_data]; exact h2
          rw [if_neg (by omega), List.drop_eq_getElem_cons hl2]
          simp only [hl2, List.getElem?_eq_getElem, Option.bind_some, ms hs h2, gtS, h0, if_true]
          by_cases h4 : s.data.toList[i + 1] = 1
          · rw [if_pos h4, if_neg (by rw [h4]; decide), if_pos h4]
          · rw [if_neg h4]
            by_cases h3 : s.data.toList[i + 1] = 255
            · rw [if_neg (by simpa using h3), if_pos h3, if_pos (by simp; omega)]
              exact ih (n - 2) (by omega) k (i + 2) _ (by omega) (by omega) (by omega) (by simp; omega)
            · rw [if_pos (by simpa using h3), if_neg h3, if_neg h4]
      · rw [if_pos (by simpa using h0), if_pos (by omega), if_pos (by omega), if_pos (by simp; omega), ih (n - 1) (by omega) k (i + 1) _ (by omega) (by omega) (by omega) (by simp; omega)]
        congr 1
        cases hd : s.data.toList.drop (i + 1) with
        | nil => rfl
        | cons y l => simp only [gtS, h0, if_false]
    · rw [if_neg (by simpa using h), List.drop_of_length_le (by rw [size_data]; omega)]; rfl

theorem gtS_next : ∀ (n : Nat) (l acc : List UInt8) (i : Nat), l.length ≤ n → 0 ≤ (gtS l acc i).2.1 ∧ (gtS l acc i).2.1 ≤ ((i + l.length : Nat) : Int) := by
  intro n
  induction n with
  | zero =>
    intro l acc i h
    cases l with
    | nil => simp only [gtS]; omega
    | cons x l => simp at h
  | succ n ih =>
    intro l acc i h
    match l, h with
    | [], _ => simp only [gtS]; omega
    | [x], _ => simp only [gtS]; omega
    | x :: y :: l, h =>
      simp only [List.length_cons] at h ⊢
      simp only [gtS]
      split
      · split
        · have := ih l (acc ++ [0]) (i + 2) (by omega); omega
        · split <;> simp <;> omega
      · have := ih (y :: l) (acc ++ [x]) (i + 1) (by simp; omega)
        simp only [List.length_cons] at this
        omega

def splitS (key : ByteArray) : ByteArray × ByteArray × Bool :=
  if (gtS key.data.toList [] 0).2.2 ≠ 0 then (bs [], bs [], false) else ((gtS key.data.toList [] 0).1, key.extract (gtS key.data.toList [] 0).2.1.toNat key.size, true)

theorem split_f (key : ByteArray) (h : key.size ≤ M) : project_Split.f key = some (splitS key) := by
  unfold project_Split.f order_GetText.f
  have h1 := gt_prog key.data.toList (by rw [size_data]; exact h) key.data.toList.length K0 0 [] (by omega) (by omega) (mk0 (by rw [size_data]; exact h)) (by simp)
  simp only [List.drop_zero, Int.natCast_zero] at h1
  rw [if_neg (by simp), if_neg (by simp only [decide_eq_true_eq]; omega), h1]
  have h2 := gtS_next key.data.toList.length key.data.toList [] 0 (Nat.le_refl _)
  rw [size_data, Nat.zero_add] at h2
  simp only [Option.bind_some, splitS]
  generalize gtS key.data.toList [] 0 = r at h2 ⊢
  by_cases h3 : r.2.2 = 0
  · simp [h3, h2]
  · simp [h3]

theorem ref18_split_f (key : ByteArray) (h : key.size ≤ M) : clerestoryref18_Split.f key = some (splitS key) := by
  unfold clerestoryref18_Split.f clerestoryref02_GetText.f
  have h1 := gt_ref key h key.size K0 0 [] (by omega) (by omega) (mk0 h) (by simp)
  simp only [List.drop_zero, Int.natCast_zero] at h1
  rw [if_neg (by simp), if_neg (by simp only [decide_eq_true_eq]; omega), h1]
  have h2 := gtS_next key.data.toList.length key.data.toList [] 0 (Nat.le_refl _)
  rw [size_data, Nat.zero_add] at h2
  simp only [Option.bind_some, splitS]
  generalize gtS key.data.toList [] 0 = r at h2 ⊢
  by_cases h3 : r.2.2 = 0
  · simp [h3, h2]
  · simp [h3]

end Go.Eng
