/-
  Part of the proof that the law ProjectAll returns true at every input of bulk at most 1048576, and leaves its arguments as they were; the whole is stated at the end of the last text.
-/
import Derived.Test.YtdopmhicmehmeaaPaA
/-
  PLAIN LAW OF ProjectAll, PART 2: lists in place, keys.
-/
set_option linter.unusedVariables false
set_option linter.unusedSimpArgs false
namespace Go.Eng
open Go

theorem pick_w1 (v : api_View) (hv : v.Cols.length ≤ M) : ∀ (n k i j : Nat) (l : List api_Col), l.length ≤ M → j + n = l.length → n < k → i < j → project_pick.w1 v k i j l = some (l.take i ++ pickS v (l.drop j)) := by
  intro n
  induction n with
  | zero =>
    intro k i j l hl hj hk hij
    obtain ⟨k, rfl⟩ : ∃ m, k = m + 1 := ⟨k - 1, by omega⟩
    have : j = l.length := by omega
    subst this
    rw [project_pick.w1]
    have h1 : 0 ≤ (i : Int) ∧ (i : Int) ≤ ((l.length : Nat) : Int) := by omega
    simp only [Int.lt_irrefl, decide_false, Bool.false_eq_true, if_false, h1, and_self, if_true, Int.toNat_natCast]
    rw [if_pos (by omega)]
    simp [clr, pickS, List.take_append_of_le_length, show min i l.length = i by omega]
  | succ n ih =>
    intro k i j l hl hj hk hij
    obtain ⟨k, rfl⟩ : ∃ m, k = m + 1 := ⟨k - 1, by omega⟩
    have hjl : j < l.length := by omega
    have hil : i < l.length := by omega
    rw [project_pick.w1, List.drop_eq_getElem_cons hjl]
    simp only [at_nat, hjl, hil, List.getElem?_eq_getElem, Option.bind_some, not_f _ _ hv, ms hl hjl, ms hl hil]
    rw [if_pos (by simpa using hjl)]
    have hs : (v.Cols.any fun x => seq x l[j].Name) = inS v l[j].Name := rfl
    rw [hs]
    cases hb : inS v l[j].Name
    · simp only [Bool.not_false, Bool.not_true, Bool.false_eq_true, if_false]
      rw [ih k i (j + 1) l hl (by omega) (by omega) (by omega)]
      simp only [pickS, List.filter_cons, hb, Bool.false_eq_true, if_false]
    · simp only [Bool.not_false, Bool.not_true, if_true]
      rw [ih k (i + 1) (j + 1) _ (by simpa using hl) (by simp; omega) (by omega) (by omega)]
      congr 1
      simp only [Int.toNat_natCast, pickS, List.filter_cons, hb, if_true]
      rw [List.take_succ_eq_append_getElem (by simpa using hil), List.drop_set_of_lt (by omega)]
      simp [List.take_set_of_le]

theorem pick_f (v : api_View) (l : List api_Col) (hv : v.Cols.length ≤ M) (hl : l.length ≤ M) : project_pick.f v l = some (pickS v l) := by
  unfold project_pick.f
  rw [if_pos (by unfold M at hl; omega)]
  have key : ∀ (n k i : Nat), i + n = l.length → n < k → (∀ x ∈ l.take i, inS v x.Name = true) → project_pick.w0 v l k i = some (pickS v l) := by
    intro n
    induction n with
    | zero =>
      intro k i hi hk hp
      obtain ⟨k, rfl⟩ : ∃ m, k = m + 1 := ⟨k - 1, by omega⟩
      have : i = l.length := by omega
      subst this
      rw [project_pick.w0]
      rw [List.take_length] at hp
      have : pickS v l = l := List.filter_eq_self.2 hp
      simp [this]
    | succ n ih =>
      intro k i hi hk hp
      obtain ⟨k, rfl⟩ : ∃ m, k = m + 1 := ⟨k - 1, by omega⟩
      have hil : i < l.length := by omega
      rw [project_pick.w0]
      simp only [at_nat, hil, List.getElem?_eq_getElem, Option.bind_some, not_f _ _ hv, ms hl hil]
      rw [if_pos (by simpa using hil)]
      have hs : (v.Cols.any fun x => seq x l[i].Name) = inS v l[i].Name := rfl
      rw [hs]
      cases hb : inS v l[i].Name
      · simp only [Bool.not_false, if_true]
        rw [if_neg (by simp), pick_w1 v hv (l.length - (i + 1)) K0 i (i + 1) l hl (by omega) (mk0 (by unfold M at hl ⊢; omega)) (by omega)]
        congr 1
        have h1 : pickS v (l.take i) = l.take i := List.filter_eq_self.2 hp
        conv => rhs; rw [← List.take_append_drop i l, List.drop_eq_getElem_cons hil]
        unfold pickS at h1 ⊢
        rw [List.filter_append, h1, List.filter_cons, if_neg (by simp [hb])]
      · simp only [Bool.not_true, Bool.false_eq_true, if_false]
        refine ih k (i + 1) (by omega) (by omega) fun x hx => ?_
        rw [List.take_succ_eq_append_getElem hil] at hx
        rcases List.mem_append.1 hx with h | h
        · exact hp x h
        · rw [List.mem_singleton.1 h]; exact hb
  exact key l.length K0 0 (by omega) (mk0 hl) (by simp)

/-! ### Keys -/
def esc1 (b : UInt8) : List UInt8 := if b = 0 then [0, 255] else [b]
theorem esc1_len (b : UInt8) : (esc1 b).length ≤ 2 := by unfold esc1; split <;> simp
def keyS (part clus : ByteArray) : ByteArray := bs (part.data.toList.flatMap esc1 ++ [0, 1]) ++ clus

theorem byte0 (x : UInt8) : ((x.toNat : Int) = 0) ↔ x = 0 := by
  constructor
  · intro h; apply UInt8.toNat_inj.1; simpa using h
  · rintro rfl; rfl
theorem byteq (x : UInt8) (n : Nat) (hn : n < 256) : ((x.toNat : Int) = (n : Int)) ↔ x = UInt8.ofNat n := by
  constructor
  · intro h; apply UInt8.toNat_inj.1; simp; omega
  · rintro rfl; simp; omega

theorem esc_len (l : List UInt8) : (l.flatMap esc1).length ≤ 2 * l.length := by
  induction l with
  | nil => simp
  | cons b l ih => have := esc1_len b; rw [List.flatMap_cons, List.length_append, List.length_cons]; omega

theorem key_f (part clus : ByteArray) (hp : part.size ≤ M) (hc : clus.size ≤ M) : project_Key.f part clus = some (keyS part clus) := by
  unfold project_Key.f
  have hl : part.data.toList.length ≤ M := by simpa using hp
  rw [loop_list (w := fun k s i => project_Key.w0 part clus k s i) part.data.toList
    (fun x acc c => if (acc ++ [x]).length ≤ 4294967296 then (if x = 0 then (if ((acc ++ [x]) ++ [255]).length ≤ 4294967296 then c ((acc ++ [x]) ++ [255]) else none) else c (acc ++ [x])) else none)
    (fun acc => if (acc ++ [0, 1]).length ≤ 4294967296 then (if (bs (acc ++ [0, 1])).size + clus.size ≤ 9223372036854775807 then some (bs (acc ++ [0, 1]) ++ clus) else none) else none) (ml hl) ?_ ?_ (mk0 hl) []]
  · have he := esc_len part.data.toList
    rw [lrec_fb (f := esc1) 2 4294967296 esc1_len _ [] ?_ (by simp; unfold M at hp; omega)]
    · rw [List.nil_append, if_pos (by simp at he ⊢; unfold M at hp; omega), if_pos (by rw [bs_size]; simp at he ⊢; unfold M at hp hc; omega)]
      rfl
    · intro x _ acc c ha
      rw [if_pos (by simp; omega)]
      unfold esc1
      by_cases h : x = 0
      · rw [if_pos h, if_pos h, if_pos (by simp; omega), h]; simp
      · rw [if_neg h, if_neg h]
  · intro k s i hi
    rw [project_Key.w0]
    have hi' : i < part.size := by simpa using hi
    simp only [at_nat, hi, List.getElem?_eq_getElem, Option.bind_some, ms hp hi', byte0]
    rw [if_pos (by simpa using hi')]
    simp
  · intro k s
    rw [project_Key.w0]
    simp

theorem ref02_Text_f (s : ByteArray) (hs : s.size ≤ M) : clerestoryref02_Text.f s = some (bs (s.data.toList.flatMap esc1 ++ [0, 1])) := by
  unfold clerestoryref02_Text.f
  have hl : s.data.toList.length ≤ M := by simpa using hs
  rw [loop_listi (w := fun k a i => clerestoryref02_Text.w0 s k a i) s.data.toList
    (fun i x acc c => if acc.size + 1 ≤ 9223372036854775807 then (if x = 0 then (if (acc ++ bs [x]).size + 1 ≤ 9223372036854775807 then c (acc ++ bs [x] ++ bs [255]) else none) else c (acc ++ bs [x])) else none)
    (fun acc => if acc.size + 2 ≤ 9223372036854775807 then some (acc ++ bs [0, 1]) else none) (ml hl) ?_ ?_ (mk0 hl) (bs [])]
  · have he := esc_len s.data.toList
    rw [lreci_fb (f := esc1) 2 4294967296 esc1_len s.data.toList s.data.toList 0 (bs []) (by simp) ?_ (by rw [bs_size]; simp; unfold M at hs; omega)]
    · rw [nil_app, bs_size, if_pos (by simp at he ⊢; unfold M at hs; omega), bs_app]
    · intro i hi acc c ha
      rw [if_pos (by omega)]
      unfold esc1
      by_cases h : s.data.toList[i] = 0
      · rw [if_pos h, if_pos h, if_pos (by rw [app_size, bs_size]; simp; omega), h, app_assoc, bs_app]; rfl
      · rw [if_neg h, if_neg h]
  · intro k a i hi
    rw [clerestoryref02_Text.w0]
    have hi' : i < s.size := by simpa using hi
    simp only [at_nat, hi, List.getElem?_eq_getElem, Option.bind_some, ms hs hi', byte0, Int.toNat_natCast, extract_one hi, bs_size]
    rw [if_pos (by simpa using hi'), if_pos (by omega), if_pos (by omega)]
    simp only [List.length_cons, List.length_nil, decide_eq_true_eq]
  · intro k a
    rw [clerestoryref02_Text.w0, size_data, if_neg (by simp), bs_size]
    rfl

theorem ref18_Key_f (part clus : ByteArray) (hp : part.size ≤ M) (hc : clus.size ≤ M) : clerestoryref18_Key.f part clus = some (keyS part clus) := by
  unfold clerestoryref18_Key.f
  have he := esc_len part.data.toList
  rw [ref02_Text_f part hp, Option.bind_some, if_pos (by rw [bs_size]; simp at he ⊢; unfold M at hp hc; omega)]
  rfl

end Go.Eng
