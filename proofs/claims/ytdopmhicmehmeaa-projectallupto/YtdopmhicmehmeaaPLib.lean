/-
  Part of the proof that the law ProjectAll returns true at every input of bulk at most 1048576, and leaves its arguments as they were; the whole is stated at the end of the last text.
-/
import Derived.Test.YtdopmhicmehmeaaEngT
/-
  PLAIN LAW: loops over lists, numbers, texts.
-/
set_option linter.unusedVariables false
set_option linter.unusedSimpArgs false
namespace Go.Eng
open Go

theorem wrap_nat {n : Nat} (h : n ≤ 9223372036854775807) : IntKind.i64.wrap (n : Int) = n := wrap64 (by omega) (by omega)
theorem wrap_succ {n : Nat} (h : n < 9223372036854775807) : IntKind.i64.wrap ((n : Int) + 1) = ((n + 1 : Nat) : Int) := by rw [wrap64 (by omega) (by omega)]; rfl
theorem wrap_pred {n : Nat} (h : n ≤ 9223372036854775807) (h0 : 0 < n) : IntKind.i64.wrap ((n : Int) - 1) = ((n - 1 : Nat) : Int) := by rw [wrap64 (by omega) (by omega)]; omega
theorem at_nat {α : Type} (l : List α) (i : Nat) : at? l (i : Int) = l[i]? := by simp [at?]
theorem at_lit {α : Type} (x : α) (l : List α) : at? (x :: l) 0 = some x := by simp [at?]
theorem seq_self (a : ByteArray) : seq a a = true := by simp [seq]
theorem tl_data (a : ByteArray) : a.toList = a.data.toList := by
  have : ∀ (n i : Nat) (r : List UInt8), i + n = a.size → ByteArray.toList.loop a i r = r.reverse ++ (a.data.toList.drop i) := by
    intro n
    induction n with
    | zero =>
      intro i r h
      unfold ByteArray.toList.loop
      rw [if_neg (by omega), List.drop_of_length_le (by simp only [Array.length_toList]; show a.data.size ≤ i; have : a.size = a.data.size := rfl; omega), List.append_nil]
    | succ n ih =>
      intro i r h
      unfold ByteArray.toList.loop
      rw [if_pos (by omega), ih (i + 1) _ (by omega)]
      have hi : i < a.data.toList.length := by simp; omega
      rw [List.drop_eq_getElem_cons hi]
      have hi' : i < a.data.size := by simpa using hi
      simp only [ByteArray.get!, List.reverse_cons, List.append_assoc, List.singleton_append, Array.getElem_toList]
      rw [getElem!_pos a.data i hi']
  have h := this a.size 0 [] (by omega)
  simpa [ByteArray.toList] using h
theorem seq_iff {a b : ByteArray} : seq a b = true ↔ a = b := by
  simp only [seq, beq_iff_eq, tl_data]
  constructor
  · intro h
    apply ByteArray.ext
    exact Array.toList_inj.1 h
  · intro h; rw [h]
theorem seq_ff {a b : ByteArray} : seq a b = false ↔ a ≠ b := by rw [← Bool.not_eq_true, seq_iff]

/-! ### Loops over lists -/
def lrec {α S R : Type} (F : α → S → (S → Option R) → Option R) (G : S → Option R) : List α → S → Option R
  | [], s => G s
  | x :: l, s => F x s (lrec F G l)

theorem loop_list {α S R : Type} {w : Nat → S → Int → Option R} (l : List α) (F : α → S → (S → Option R) → Option R) (G : S → Option R) (hl : l.length ≤ 4611686018427387904)
    (hs : ∀ k s (i : Nat) (h : i < l.length), w (k + 1) s i = F l[i] s fun s' => w k s' ((i + 1 : Nat) : Int)) (he : ∀ k s, w (k + 1) s l.length = G s) {k : Nat} (hk : l.length < k) (s : S) : w k s 0 = lrec F G l s := by
  have key : ∀ (n i k : Nat) (s : S), i + n = l.length → n < k → w k s i = lrec F G (l.drop i) s := by
    intro n
    induction n with
    | zero =>
      intro i k s hi hk
      obtain ⟨k, rfl⟩ : ∃ m, k = m + 1 := ⟨k - 1, by omega⟩
      have : i = l.length := by omega
      subst this
      rw [he, List.drop_length]
      rfl
    | succ n ih =>
      intro i k s hi hk
      obtain ⟨k, rfl⟩ : ∃ m, k = m + 1 := ⟨k - 1, by omega⟩
      have h : i < l.length := by omega
      rw [hs k s i h, List.drop_eq_getElem_cons h]
      simp only [lrec]
      congr 1
      funext s'
      exact ih (i + 1) k s' (by omega) (by omega)
  have := key l.length 0 k s (by omega) hk
  simpa using this

/-- .. that look at the number too. -/
def lreci {α S R : Type} (F : Nat → α → S → (S → Option R) → Option R) (G : S → Option R) : Nat → List α → S → Option R
  | _, [], s => G s
  | i, x :: l, s => F i x s (lreci F G (i + 1) l)

theorem loop_listi {α S R : Type} {w : Nat → S → Int → Option R} (l : List α) (F : Nat → α → S → (S → Option R) → Option R) (G : S → Option R) (hl : l.length ≤ 4611686018427387904)
    (hs : ∀ k s (i : Nat) (h : i < l.length), w (k + 1) s i = F i l[i] s fun s' => w k s' ((i + 1 : Nat) : Int)) (he : ∀ k s, w (k + 1) s l.length = G s) {k : Nat} (hk : l.length < k) (s : S) : w k s 0 = lreci F G 0 l s := by
  have key : ∀ (n i k : Nat) (s : S), i + n = l.length → n < k → w k s i = lreci F G i (l.drop i) s := by
    intro n
    induction n with
    | zero =>
      intro i k s hi hk
      obtain ⟨k, rfl⟩ : ∃ m, k = m + 1 := ⟨k - 1, by omega⟩
      have : i = l.length := by omega
      subst this
      rw [he, List.drop_length]
      rfl
    | succ n ih =>
      intro i k s hi hk
      obtain ⟨k, rfl⟩ : ∃ m, k = m + 1 := ⟨k - 1, by omega⟩
      have h : i < l.length := by omega
      rw [hs k s i h, List.drop_eq_getElem_cons h]
      simp only [lreci]
      congr 1
      funext s'
      exact ih (i + 1) k s' (by omega) (by omega)
  have := key l.length 0 k s (by omega) hk
  simpa using this

theorem k0_lt {n : Nat} (h : n < 1099511627776) : n < K0 := Nat.lt_of_lt_of_le h k0_le

/-- What is collected. -/
theorem lrec_fm {α β R : Type} {F : α → List β → (List β → Option R) → Option R} {G : List β → Option R} {f : α → List β} (hf : ∀ x, (f x).length ≤ 1) : ∀ (l : List α) (acc : List β), (∀ x ∈ l, ∀ acc c, acc.length < 4294967296 → F x acc c = c (acc ++ f x)) → acc.length + l.length ≤ 4294967296 → lrec F G l acc = G (acc ++ l.flatMap f)
  | [], acc, _, _ => by simp [lrec]
  | x :: l, acc, hF, hb => by
    have h1 := hf x
    simp only [List.length_cons] at hb
    simp only [lrec]
    rw [hF x (by simp) acc _ (by omega), lrec_fm hf l (acc ++ f x) (fun y hy => hF y (by simp [hy])) (by simp; omega)]
    simp

theorem lrec_fb {α β R : Type} {F : α → List β → (List β → Option R) → Option R} {G : List β → Option R} {f : α → List β} (B N : Nat) (hf : ∀ x, (f x).length ≤ B) : ∀ (l : List α) (acc : List β), (∀ x ∈ l, ∀ acc c, acc.length + B ≤ N → F x acc c = c (acc ++ f x)) → acc.length + B * l.length ≤ N → lrec F G l acc = G (acc ++ l.flatMap f)
  | [], acc, _, _ => by simp [lrec]
  | x :: l, acc, hF, hb => by
    have h1 := hf x
    simp only [List.length_cons, Nat.mul_add, Nat.mul_one] at hb
    simp only [lrec]
    rw [hF x (by simp) acc _ (by omega), lrec_fb B N hf l (acc ++ f x) (fun y hy => hF y (by simp [hy])) (by simp; omega)]
    simp

/-! ### Texts -/
theorem bs_app (a b : List UInt8) : bs a ++ bs b = bs (a ++ b) := by
  apply ByteArray.ext
  simp [bs]
theorem bs_data (a : List UInt8) : (bs a).data.toList = a := by simp [bs]
theorem size_data (s : ByteArray) : s.data.toList.length = s.size := by simp
theorem bs_size (a : List UInt8) : (bs a).size = a.length := by rw [← size_data, bs_data]
theorem bs_toList (s : ByteArray) : bs s.data.toList = s := by
  apply ByteArray.ext
  simp [bs]
theorem app_nil (s : ByteArray) : s ++ bs [] = s := by
  apply ByteArray.ext
  simp [bs]
theorem nil_app (s : ByteArray) : bs [] ++ s = s := by
  apply ByteArray.ext
  simp [bs]
theorem app_assoc (a b c : ByteArray) : a ++ b ++ c = a ++ (b ++ c) := by
  apply ByteArray.ext
  simp
theorem app_data (a b : ByteArray) : (a ++ b).data.toList = a.data.toList ++ b.data.toList := by simp
theorem app_size (a b : ByteArray) : (a ++ b).size = a.size + b.size := by rw [← size_data, app_data, List.length_append, size_data, size_data]
theorem extract_data (s : ByteArray) (i j : Nat) : (s.extract i j).data.toList = (s.data.toList.take j).drop i := by
  simp [List.extract_eq_take_drop, List.drop_take]
theorem extract_one {s : ByteArray} {i : Nat} (h : i < s.data.toList.length) : s.extract i (i + 1) = bs [s.data.toList[i]] := by
  rw [← bs_toList (s.extract i (i + 1)), extract_data]
  congr 1
  have h' := h
  rw [size_data] at h'
  rw [List.take_succ_eq_append_getElem h, List.drop_append_of_le_length (by rw [List.length_take, size_data]; omega), List.drop_of_length_le (by rw [List.length_take]; omega)]
  rfl
theorem extract_bs (s : ByteArray) (i j : Nat) : s.extract i j = bs ((s.data.toList.take j).drop i) := by
  rw [← extract_data, bs_toList]
theorem lreci_fb {α R : Type} {F : Nat → α → ByteArray → (ByteArray → Option R) → Option R} {G : ByteArray → Option R} {f : α → List UInt8} (B N : Nat) (hf : ∀ x, (f x).length ≤ B) (L : List α) : ∀ (l : List α) (i : Nat) (acc : ByteArray), l = L.drop i →
    (∀ (i : Nat) (h : i < L.length) acc c, acc.size + B ≤ N → F i L[i] acc c = c (acc ++ bs (f L[i]))) → acc.size + B * l.length ≤ N → lreci F G i l acc = G (acc ++ bs (l.flatMap f))
  | [], i, acc, _, _, _ => by simp [lreci, app_nil]
  | x :: l, i, acc, hl, hF, hb => by
    have hi : i < L.length := by
      rcases Nat.lt_or_ge i L.length with h | h
      · exact h
      · rw [List.drop_of_length_le h] at hl; cases hl
    rw [List.drop_eq_getElem_cons hi] at hl
    obtain ⟨e1, e2⟩ := List.cons.inj hl
    subst e1
    have h1 := hf L[i]
    simp only [List.length_cons, Nat.mul_add, Nat.mul_one] at hb
    simp only [lreci]
    rw [hF i hi acc _ (by omega), lreci_fb B N hf L l (i + 1) _ e2 hF (by rw [app_size, bs_size]; omega)]
    rw [app_assoc, bs_app]
    simp

/-- What is asked of each. -/
theorem lrec_all {α R : Type} {F : α → Unit → (Unit → Option R) → Option R} {G : Unit → Option R} {p : α → Bool} {no : Option R} : ∀ (l : List α), (∀ x ∈ l, ∀ c, F x () c = if p x = true then c () else no) → lrec F G l () = if l.all p = true then G () else no
  | [], _ => by simp [lrec]
  | x :: l, hF => by
    simp only [lrec]
    rw [hF x (by simp), lrec_all l fun y hy => hF y (by simp [hy]), List.all_cons]
    cases p x
    · simp
    · simp

/-- The first that is so. -/
theorem lrec_find {α R : Type} {F : α → Unit → (Unit → Option R) → Option R} {G : Unit → Option R} {p : α → Bool} {yes : α → Option R} : ∀ (l : List α), (∀ x ∈ l, ∀ c, F x () c = if p x = true then yes x else c ()) → lrec F G l () = match l.find? p with | some x => yes x | none => G ()
  | [], _ => by simp [lrec]
  | x :: l, hF => by
    simp only [lrec]
    rw [hF x (by simp), lrec_find l fun y hy => hF y (by simp [hy]), List.find?_cons]
    cases p x <;> simp

/-! ### The order of texts -/
theorem lessT : ∀ (a b c : List UInt8), Op.bytesLess a b = true → Op.bytesLess b c = true → Op.bytesLess a c = true
  | _, [], _, h, _ => by simp [Op.bytesLess] at h
  | _, _ :: _, [], _, h => by simp [Op.bytesLess] at h
  | [], _ :: _, _ :: _, _, _ => by simp [Op.bytesLess]
  | x :: a, y :: b, z :: c, h1, h2 => by
    simp only [Op.bytesLess, Bool.or_eq_true, decide_eq_true_eq, Bool.and_eq_true, beq_iff_eq] at h1 h2 ⊢
    rcases h1 with h1 | ⟨rfl, h1⟩
    · rcases h2 with h2 | ⟨rfl, h2⟩
      · exact .inl (UInt8.lt_trans h1 h2)
      · exact .inl h1
    · rcases h2 with h2 | ⟨rfl, h2⟩
      · exact .inl h2
      · exact .inr ⟨rfl, lessT a b c h1 h2⟩
theorem lessI : ∀ a : List UInt8, Op.bytesLess a a = false
  | [] => rfl
  | x :: a => by simp [Op.bytesLess, lessI a, UInt8.lt_irrefl]
theorem lessC : ∀ a b : List UInt8, Op.bytesLess a b = false → a ≠ b → Op.bytesLess b a = true
  | [], [], _, h => (h rfl).elim
  | [], _ :: _, h, _ => by simp [Op.bytesLess] at h
  | _ :: _, [], _, _ => by simp [Op.bytesLess]
  | x :: a, y :: b, h, hne => by
    simp only [Op.bytesLess, Bool.or_eq_false_iff, decide_eq_false_iff_not, Bool.and_eq_false_iff, beq_eq_false_iff_ne] at h
    simp only [Op.bytesLess, Bool.or_eq_true, decide_eq_true_eq, Bool.and_eq_true, beq_iff_eq]
    by_cases e : x = y
    · subst e
      exact .inr ⟨rfl, lessC a b (by rcases h.2 with h | h; exact (h rfl).elim; exact h) (by simpa using hne)⟩
    · refine .inl ?_
      have h1 := h.1
      rw [UInt8.lt_iff_toNat_lt] at h1 ⊢
      have : x.toNat ≠ y.toNat := fun h => e (UInt8.toNat_inj.1 h)
      omega
theorem slt_trans {a b c : ByteArray} (h1 : slt a b = true) (h2 : slt b c = true) : slt a c = true := lessT _ _ _ h1 h2
theorem slt_irr (a : ByteArray) : slt a a = false := lessI _
/-- Not below and not the same: above. -/
theorem slt_gt {a b : ByteArray} (h : (slt a b || seq a b) = false) : slt b a = true := by
  simp only [Bool.or_eq_false_iff] at h
  refine lessC _ _ h.1 fun e => ?_
  have h2 := h.2
  simp [seq, e] at h2
theorem slt_ne {a b : ByteArray} (h : slt a b = true) : a ≠ b := by rintro rfl; rw [slt_irr] at h; cases h

/-- Neighbours that rise. -/
def rises {α : Type} (key : α → ByteArray) : List α → Bool
  | [] => true
  | [_] => true
  | x :: y :: l => !(slt (key y) (key x) || seq (key y) (key x)) && rises key (y :: l)
theorem rises_all {α : Type} {key : α → ByteArray} : ∀ {x : α} {l : List α}, rises key (x :: l) = true → ∀ y ∈ l, slt (key x) (key y) = true
  | x, [], _, y, hy => by simp at hy
  | x, z :: l, h, y, hy => by
    simp only [rises, Bool.and_eq_true, Bool.not_eq_true'] at h
    have h1 := slt_gt h.1
    rcases List.mem_cons.1 hy with rfl | hy
    · exact h1
    · exact slt_trans h1 (rises_all h.2 y hy)
theorem rises_tail {α : Type} {key : α → ByteArray} {x : α} {l : List α} (h : rises key (x :: l) = true) : rises key l = true := by
  cases l with
  | nil => rfl
  | cons y l => simp only [rises, Bool.and_eq_true] at h; exact h.2

/-- Among those that rise, the one of a name is the only one. -/
theorem rises_find {α : Type} {key : α → ByteArray} : ∀ {l : List α}, rises key l = true → ∀ x ∈ l, l.find? (fun y => seq (key y) (key x)) = some x
  | [], _, x, hx => by simp at hx
  | z :: l, h, x, hx => by
    rw [List.find?_cons]
    rcases List.mem_cons.1 hx with rfl | hx
    · rw [seq_self]
    · have h1 := rises_all h x hx
      rw [seq_ff.2 (slt_ne h1)]
      exact rises_find (rises_tail h) x hx

/-- Two lists, one by one. -/
def all2 {α β : Type} (f : α → β → Bool) : List α → List β → Bool
  | [], [] => true
  | x :: a, y :: b => f x y && all2 f a b
  | _, _ => false
theorem all2_refl {α : Type} {f : α → α → Bool} : ∀ l : List α, (∀ x ∈ l, f x x = true) → all2 f l l = true
  | [], _ => rfl
  | x :: l, h => by simp [all2, h x (by simp), all2_refl l fun y hy => h y (by simp [hy])]
theorem all2_zip {α β : Type} {f : α → β → Bool} : ∀ {a : List α} {b : List β}, a.length = b.length → all2 f a b = (a.zip b).all fun p => f p.1 p.2
  | [], [], _ => rfl
  | [], _ :: _, h => by simp at h
  | _ :: _, [], h => by simp at h
  | x :: a, y :: b, h => by simp [all2, all2_zip (a := a) (b := b) (by simpa using h)]

theorem len_fm {α β : Type} {f : α → List β} (hf : ∀ x, (f x).length ≤ 1) : ∀ l : List α, (l.flatMap f).length ≤ l.length
  | [] => by simp
  | x :: l => by have := hf x; have := len_fm hf l; rw [List.flatMap_cons, List.length_append, List.length_cons]; omega

end Go.Eng
