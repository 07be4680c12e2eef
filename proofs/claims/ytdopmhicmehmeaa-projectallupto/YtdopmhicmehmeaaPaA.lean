/-
  Part of the proof that the law ProjectAll returns true at every input of bulk at most 1048576, and leaves its arguments as they were; the whole is stated at the end of the last text.
-/
import Derived.Test.YtdopmhicmehmeaaPLib
import Derived.Test.YtdopmhicmehmeaaWalkH
/-
  PLAIN LAW OF ProjectAll, PART 1: what the functions answer.
-/
set_option linter.unusedVariables false
set_option linter.unusedSimpArgs false
namespace Go.Eng
open Go

abbrev M : Nat := 1048576
theorem mk0 {n : Nat} (h : n ≤ M) : n < K0 := k0_lt (by unfold M at h; omega)
theorem ml {n : Nat} (h : n ≤ M) : n ≤ 4611686018427387904 := by unfold M at h; omega
theorem ms {n i : Nat} (h : n ≤ M) (hi : i < n) : IntKind.i64.wrap ((i : Int) + 1) = ((i + 1 : Nat) : Int) := wrap_succ (by unfold M at h; omega)

def cellNo : api_Cell := ⟨bs [], false, 0, 0⟩
def cellS (r : api_Row) (name : ByteArray) : api_Cell := ((r.Cols.find? fun c => seq c.Name name).map (·.Cell)).getD cellNo

theorem row_Cell_f (r : api_Row) (name : ByteArray) (h : r.Cols.length ≤ M) : row_Cell.f r name = some (cellS r name) := by
  unfold row_Cell.f
  rw [loop_list (w := fun k (_ : Unit) i => row_Cell.w0 r name k i) r.Cols (fun x _ c => if seq x.Name name = true then some x.Cell else c ()) (fun _ => some cellNo) (ml h) ?_ ?_ (mk0 h) ()]
  · rw [lrec_find (p := fun c : api_Col => seq c.Name name) (yes := fun x => some x.Cell) _ fun x _ c => rfl]
    unfold cellS
    cases r.Cols.find? fun c => seq c.Name name <;> rfl
  · intro k _ i hi
    rw [row_Cell.w0]
    simp [at_nat, hi, ms h hi]
  · intro k _
    rw [row_Cell.w0]
    simp [cellNo]

theorem ref07_Cell_f (r : api_Row) (name : ByteArray) (h : r.Cols.length ≤ M) : clerestoryref07_Cell.f r name = some (cellS r name) := by
  unfold clerestoryref07_Cell.f
  rw [loop_list (w := fun k (_ : Unit) i => clerestoryref07_Cell.w0 r name k i) r.Cols (fun x _ c => if seq x.Name name = true then some x.Cell else c ()) (fun _ => some cellNo) (ml h) ?_ ?_ (mk0 h) ()]
  · rw [lrec_find (p := fun c : api_Col => seq c.Name name) (yes := fun x => some x.Cell) _ fun x _ c => rfl]
    unfold cellS
    cases r.Cols.find? fun c => seq c.Name name <;> rfl
  · intro k _ i hi
    rw [clerestoryref07_Cell.w0]
    simp [at_nat, hi, ms h hi]
  · intro k _
    rw [clerestoryref07_Cell.w0]
    simp [cellNo]

def bestOk (r : api_Row) (part : Int) (name : ByteArray) : Bool := !(cellS r name).Dead && !decide ((cellS r name).At < 1) && !decide ((cellS r name).At ≤ imax r.Gone part)
def bestS (r : api_Row) (part : Int) (name : ByteArray) : api_Cell × Bool := if bestOk r part name then (cellS r name, true) else (cellNo, false)

theorem row_Best_f (r : api_Row) (part : Int) (name : ByteArray) (h : r.Cols.length ≤ M) : row_Best.f r part name = some (bestS r part name) := by
  unfold row_Best.f row_Gone.f
  rw [row_Cell_f r name h]
  simp only [Option.bind_some, bestS, bestOk, cellNo]
  grind

theorem ref07_Best_f (r : api_Row) (part : Int) (name : ByteArray) (h : r.Cols.length ≤ M) : clerestoryref07_Best.f r part name = some (bestS r part name) := by
  unfold clerestoryref07_Best.f clerestoryref07_Gone.f
  rw [ref07_Cell_f r name h]
  simp only [Option.bind_some, bestS, bestOk, cellNo]
  grind

def inS (v : api_View) (name : ByteArray) : Bool := v.Cols.any fun c => seq c name

theorem seq_comm (a b : ByteArray) : seq a b = seq b a := by
  unfold seq
  rw [Bool.eq_iff_iff]; simp; exact eq_comm

theorem contains_f (l : List ByteArray) (x : ByteArray) (h : l.length ≤ M) : slices_Contains_project_picker_string_.f l x = some (l.any fun c => seq c x) := by
  unfold slices_Contains_project_picker_string_.f slices_Index_project_picker_string_.f
  rw [loop_listi (w := fun k (_ : Unit) i => slices_Index_project_picker_string_.w0 l x k i) l (fun i y _ c => if seq y x = true then some (i : Int) else c ()) (fun _ => some (-1)) (ml h) ?_ ?_ (mk0 h) ()]
  · have key : ∀ (l : List ByteArray) i, (lreci (fun i y _ c => if seq y x = true then some (i : Int) else c ()) (fun _ => some (-1)) i l ()).bind (fun x1 : Int => some (decide (0 ≤ x1))) = some (l.any fun c => seq c x) := by
      intro l
      induction l with
      | nil => intro i; rfl
      | cons y l ih =>
        intro i
        simp only [lreci, List.any_cons]
        cases hs : seq y x
        · simpa using ih (i + 1)
        · simp
    exact key l 0
  · intro k _ i hi
    rw [slices_Index_project_picker_string_.w0]
    simp [at_nat, hi, ms h hi, seq_comm x]
  · intro k _
    rw [slices_Index_project_picker_string_.w0]
    simp

theorem not_f (l : List ByteArray) (c : api_Col) (h : l.length ≤ M) : _project_picker__not.f l c = some (!l.any fun x => seq x c.Name) := by
  unfold _project_picker__not.f
  rw [contains_f l _ h]
  rfl

theorem ref18_in_f (v : api_View) (x : ByteArray) (h : v.Cols.length ≤ M) : clerestoryref18_in.f v x = some (inS v x) := by
  unfold clerestoryref18_in.f
  rw [loop_list (w := fun k (_ : Unit) i => clerestoryref18_in.w0 v x k i) v.Cols (fun y _ c => if seq y x = true then some true else c ()) (fun _ => some false) (ml h) ?_ ?_ (mk0 h) ()]
  · rw [lrec_find (p := fun c => seq c x) (yes := fun _ => some true) _ fun _ _ _ => rfl]
    unfold inS
    cases hf : v.Cols.find? fun c => seq c x with
    | none => simpa using hf
    | some y =>
      have := List.find?_some hf
      have hm := List.mem_of_find?_eq_some hf
      simp only [Option.some.injEq]
      symm
      exact List.any_eq_true.2 ⟨y, hm, this⟩
  · intro k _ i hi
    rw [clerestoryref18_in.w0]
    simp [at_nat, hi, ms h hi]
  · intro k _
    rw [clerestoryref18_in.w0]
    simp

def pickS (v : api_View) (l : List api_Col) : List api_Col := l.filter fun c => inS v c.Name

theorem filter_fm {α : Type} (p : α → Bool) : ∀ l : List α, l.filter p = l.flatMap fun x => if p x = true then [x] else []
  | [] => rfl
  | x :: l => by rw [List.filter_cons, List.flatMap_cons, filter_fm p l]; cases p x <;> simp

theorem ref18_pick_f (v : api_View) (l : List api_Col) (hv : v.Cols.length ≤ M) (h : l.length ≤ M) : clerestoryref18_pick.f v l = some (pickS v l) := by
  unfold clerestoryref18_pick.f
  rw [loop_list (w := fun k s i => clerestoryref18_pick.w0 v l k s i) l (fun x acc c => if inS v x.Name = true then (if (acc ++ [x]).length ≤ 4294967296 then c (acc ++ [x]) else none) else c acc) (fun acc => some acc) (ml h) ?_ ?_ (mk0 h) []]
  · rw [lrec_fm (f := fun x => if inS v x.Name = true then [x] else []) (fun x => by split <;> simp) l [] ?_ (by simp; unfold M at h; omega)]
    · simp [pickS, filter_fm]
    · intro x hx acc c ha
      cases inS v x.Name
      · simp
      · simp; omega
  · intro k s i hi
    rw [clerestoryref18_pick.w0]
    simp [at_nat, hi, ms h hi, ref18_in_f v _ hv]
  · intro k s
    rw [clerestoryref18_pick.w0]
    simp

end Go.Eng
