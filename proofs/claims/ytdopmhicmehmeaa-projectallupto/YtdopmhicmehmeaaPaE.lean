/-
  Part of the proof that the law ProjectAll returns true at every input of bulk at most 1048576, and leaves its arguments as they were; the whole is stated at the end of the last text.
-/
import Derived.Test.YtdopmhicmehmeaaPaD
/-
  PLAIN LAW OF ProjectAll, PART 5: the law.
-/
set_option linter.unusedVariables false
set_option linter.unusedSimpArgs false
namespace Go.Eng
open Go

/-! ### Sameness -/
theorem cellSame_self (c : api_Cell) : clerestoryref06_Same.f c c = some true := by
  unfold clerestoryref06_Same.f
  simp [seq_self]

theorem lrec_ok {α R : Type} {F : α → Unit → (Unit → Option R) → Option R} {G : Unit → Option R} : ∀ (l : List α), (∀ x ∈ l, ∀ c, F x () c = c ()) → lrec F G l () = G ()
  | [], _ => rfl
  | x :: l, h => by simp only [lrec]; rw [h x (by simp), lrec_ok l fun y hy => h y (by simp [hy])]

theorem sameCols_self (l : List api_Col) (h : l.length ≤ M) : clerestoryref07_SameCols.f l l = some true := by
  unfold clerestoryref07_SameCols.f
  rw [if_neg (by simp), loop_list (w := fun k (_ : Unit) i => clerestoryref07_SameCols.w0 l l k i) l (fun _ _ c => c ()) (fun _ => some true) (ml h) ?_ ?_ (mk0 h) ()]
  · exact lrec_ok l fun _ _ _ => rfl
  · intro k _ i hi
    rw [clerestoryref07_SameCols.w0, if_pos (by simpa using hi)]
    simp [at_nat, hi, ms h hi, seq_self, cellSame_self]
  · intro k _
    rw [clerestoryref07_SameCols.w0, if_neg (by simp)]

theorem rowSame_self (r : api_Row) (h : r.Cols.length ≤ M) : clerestoryref07_Same.f r r = some true := by
  unfold clerestoryref07_Same.f
  simp [seq_self, cellSame_self, sameCols_self _ h]

theorem sameRows_self (l : List api_Row) (h : l.length ≤ M) (hc : ∀ r ∈ l, r.Cols.length ≤ M) : clerestoryref08_SameRows.f l l = some true := by
  unfold clerestoryref08_SameRows.f
  rw [if_neg (by simp), loop_list (w := fun k (_ : Unit) i => clerestoryref08_SameRows.w0 l l k i) l (fun _ _ c => c ()) (fun _ => some true) (ml h) ?_ ?_ (mk0 h) ()]
  · exact lrec_ok l fun _ _ _ => rfl
  · intro k _ i hi
    rw [clerestoryref08_SameRows.w0, if_pos (by simpa using hi)]
    simp [at_nat, hi, ms h hi, rowSame_self _ (hc _ (List.getElem_mem hi))]
  · intro k _
    rw [clerestoryref08_SameRows.w0, if_neg (by simp)]

/-- Not too many rows and columns. -/
def OkP (p : api_Part) : Prop := p.Rows.length ≤ M ∧ ∀ r ∈ p.Rows, r.Cols.length ≤ M

theorem partSame_self (p : api_Part) (h : OkP p) : clerestoryref08_Same.f p p = some true := by
  unfold clerestoryref08_Same.f
  simp [seq_self, sameRows_self _ h.1 h.2]

theorem sameParts_self (l : List api_Part) (h : l.length ≤ M) (hc : ∀ p ∈ l, OkP p) : clerestorylaw00_SameParts.f l l = some true := by
  unfold clerestorylaw00_SameParts.f
  rw [if_neg (by simp), loop_list (w := fun k (_ : Unit) i => clerestorylaw00_SameParts.w0 l l k i) l (fun _ _ c => c ()) (fun _ => some true) (ml h) ?_ ?_ (mk0 h) ()]
  · exact lrec_ok l fun _ _ _ => rfl
  · intro k _ i hi
    rw [clerestorylaw00_SameParts.w0, if_pos (by simpa using hi)]
    simp [at_nat, hi, ms h hi, partSame_self _ (hc _ (List.getElem_mem hi))]
  · intro k _
    rw [clerestorylaw00_SameParts.w0, if_neg (by simp)]

/-! ### Mirrors -/
def mirS (v : api_View) (p : api_Part) (r : api_Row) : api_Part × Bool :=
  if (bestS r p.Gone v.On).2 = true ∧ (keyS p.Key r.Key).size ≤ 400 then
    (⟨(bestS r p.Gone v.On).1.Val, 0, [⟨keyS p.Key r.Key, ⟨bs [], false, (bestS r p.Gone v.On).1.At, (bestS r p.Gone v.On).1.End⟩, imax r.Gone p.Gone, 0, pickS v r.Cols⟩]⟩, true)
  else (⟨bs [], 0, []⟩, false)

theorem mir_prog (t : api_Table) (v : api_View) (p : api_Part) (r : api_Row) (hv : v.Cols.length ≤ M) (hr : SmR r) (hp : p.Key.size ≤ M) : project_Mirror.f t v p r = some (mirS v p r) := by
  unfold project_Mirror.f row_Gone.f
  rw [row_Best_f _ _ _ hr.cols, Option.bind_some, key_f _ _ hp hr.key, Option.bind_some, pick_f v _ hv hr.cols]
  simp only [Option.bind_some, at_lit, mirS]
  cases hb : (bestS r p.Gone v.On).2
  · simp
  · by_cases hk : (keyS p.Key r.Key).size ≤ 400
    · rw [if_neg (by simp), if_neg (by simp only [decide_eq_true_eq]; omega), if_pos ⟨rfl, hk⟩]
      simp
    · rw [if_neg (by simp), if_pos (by simp only [decide_eq_true_eq]; omega), if_neg (by simp [hk])]

theorem mir_ref (v : api_View) (p : api_Part) (r : api_Row) (hv : v.Cols.length ≤ M) (hr : SmR r) (hp : p.Key.size ≤ M) : clerestoryref18_Mirror.f v p r = some (mirS v p r) := by
  unfold clerestoryref18_Mirror.f clerestoryref07_Gone.f
  rw [ref07_Best_f _ _ _ hr.cols, Option.bind_some, ref18_Key_f _ _ hp hr.key, Option.bind_some, ref18_pick_f v _ hv hr.cols]
  simp only [Option.bind_some, mirS]
  cases hb : (bestS r p.Gone v.On).2
  · simp
  · by_cases hk : (keyS p.Key r.Key).size ≤ 400
    · rw [if_neg (by simp), if_neg (by simp only [decide_eq_true_eq]; omega), if_pos ⟨rfl, hk⟩]
    · rw [if_neg (by simp), if_pos (by simp only [decide_eq_true_eq]; omega), if_neg (by simp [hk])]

def full1 (v : api_View) (p : api_Part) (r : api_Row) : List api_Part := if (mirS v p r).2 = true then [(mirS v p r).1] else []
theorem full1_len (v : api_View) (p : api_Part) (r : api_Row) : (full1 v p r).length ≤ 1 := by unfold full1; split <;> simp

theorem full_prog (t : api_Table) (v : api_View) (p : api_Part) (hv : v.Cols.length ≤ M) (hp : SmP p) : project_Full.f t v p = some (p.Rows.flatMap (full1 v p)) := by
  have hM : p.Rows.length ≤ 1048576 := hp.rows
  unfold project_Full.f
  rw [loop_list (w := fun k s i => project_Full.w0 t v p k s i) p.Rows (fun x acc c => (project_Mirror.f t v p x).bind fun m => if m.2 = true then (if (acc ++ [m.1]).length ≤ 4294967296 then c (acc ++ [m.1]) else none) else c acc) (fun acc => some acc) (ml hp.rows) ?_ ?_ (mk0 hp.rows) []]
  · rw [lrec_fm (full1_len v p) p.Rows [] ?_ (by simp; omega), List.nil_append]
    intro r hr acc c ha
    rw [mir_prog t v p r hv (hp.each r hr) hp.key, Option.bind_some]
    unfold full1
    split
    · rw [if_pos (by simp; omega)]
    · simp
  · intro k s i hi
    rw [project_Full.w0, if_pos (by simpa using hi)]
    simp [at_nat, hi, ms hp.rows hi]
  · intro k s
    rw [project_Full.w0, if_neg (by simp)]

theorem full_ref (v : api_View) (p : api_Part) (hv : v.Cols.length ≤ M) (hp : SmP p) : clerestoryref18_Full.f v p = some (p.Rows.flatMap (full1 v p)) := by
  have hM : p.Rows.length ≤ 1048576 := hp.rows
  unfold clerestoryref18_Full.f
  rw [loop_list (w := fun k s i => clerestoryref18_Full.w0 v p k s i) p.Rows (fun x acc c => (clerestoryref18_Mirror.f v p x).bind fun m => if m.2 = true then (if (acc ++ [m.1]).length ≤ 4294967296 then c (acc ++ [m.1]) else none) else c acc) (fun acc => some acc) (ml hp.rows) ?_ ?_ (mk0 hp.rows) []]
  · rw [lrec_fm (full1_len v p) p.Rows [] ?_ (by simp; omega), List.nil_append]
    intro r hr acc c ha
    rw [mir_ref v p r hv (hp.each r hr) hp.key, Option.bind_some]
    unfold full1
    split
    · rw [if_pos (by simp; omega)]
    · simp
  · intro k s i hi
    rw [clerestoryref18_Full.w0, if_pos (by simpa using hi)]
    simp [at_nat, hi, ms hp.rows hi]
  · intro k s
    rw [clerestoryref18_Full.w0, if_neg (by simp)]

/-! ### What is seen -/
def cellSeen (c : api_Cell) (now : Int) : Bool := decide (0 < c.At) && !c.Dead && (decide (c.End = 0) || decide (now < c.End))
theorem cell_Seen_f (c : api_Cell) (now : Int) : cell_Seen.f c now = some (cellSeen c now) := by
  unfold cell_Seen.f cellSeen
  cases decide (0 < c.At) <;> cases c.Dead <;> cases decide (c.End = 0) <;> simp
theorem ref06_Seen_f (c : api_Cell) (now : Int) : clerestoryref06_Seen.f c now = some (cellSeen c now) := by
  unfold clerestoryref06_Seen.f cellSeen
  cases decide (0 < c.At) <;> cases c.Dead <;> cases decide (c.End = 0) <;> simp

def seen1 (r : api_Row) (part now : Int) (c : api_Col) : List api_Col := if (!c.Cell.Dead && decide (imax r.Gone part < c.Cell.At) && cellSeen c.Cell now) = true then [c] else []
theorem seen1_len (r : api_Row) (part now : Int) (c : api_Col) : (seen1 r part now c).length ≤ 1 := by unfold seen1; split <;> simp
def seenS (r : api_Row) (part now : Int) : List api_Col := r.Cols.flatMap (seen1 r part now)

theorem row_Seen_f (r : api_Row) (part now : Int) (h : r.Cols.length ≤ M) : row_Seen.f r part now = some (seenS r part now) := by
  have hM : r.Cols.length ≤ 1048576 := h
  unfold row_Seen.f
  rw [loop_list (w := fun k s i => row_Seen.w0 r part now k s i) r.Cols (fun x acc c => if (!x.Cell.Dead) = true then (if imax r.Gone part < x.Cell.At then (if cellSeen x.Cell now = true then (if (acc ++ [x]).length ≤ 4294967296 then c (acc ++ [x]) else none) else c acc) else c acc) else c acc) (fun acc => some acc) (ml h) ?_ ?_ (mk0 h) []]
  · rw [lrec_fm (seen1_len r part now) r.Cols [] ?_ (by simp; omega), List.nil_append]
    · rfl
    · intro x hx acc c ha
      rw [if_pos (show (acc ++ [x]).length ≤ 4294967296 by simp; omega)]
      unfold seen1
      cases x.Cell.Dead <;> cases cellSeen x.Cell now <;> by_cases h1 : imax r.Gone part < x.Cell.At <;> simp [h1]
  · intro k s i hi
    rw [row_Seen.w0, if_pos (by simpa using hi)]
    simp [at_nat, hi, ms h hi, cell_Seen_f, row_Gone.f]
  · intro k s
    rw [row_Seen.w0, if_neg (by simp)]

theorem cellS_of (r : api_Row) (hr : rises api_Col.Name r.Cols = true) (c : api_Col) (hc : c ∈ r.Cols) : cellS r c.Name = c.Cell := by
  unfold cellS
  rw [rises_find hr c hc]
  rfl

theorem ref07_Seen_f (r : api_Row) (part now : Int) (h : r.Cols.length ≤ M) (hr : rises api_Col.Name r.Cols = true) : clerestoryref07_Seen.f r part now = some (seenS r part now) := by
  have hM : r.Cols.length ≤ 1048576 := h
  unfold clerestoryref07_Seen.f
  rw [loop_list (w := fun k s i => clerestoryref07_Seen.w0 r part now k s i) r.Cols (fun x acc c => if (bestS r part x.Name).2 = true then (if cellSeen (bestS r part x.Name).1 now = true then (if (acc ++ [(⟨x.Name, (bestS r part x.Name).1⟩ : api_Col)]).length ≤ 4294967296 then c (acc ++ [⟨x.Name, (bestS r part x.Name).1⟩]) else none) else c acc) else c acc) (fun acc => some acc) (ml h) ?_ ?_ (mk0 h) []]
  · rw [lrec_fm (seen1_len r part now) r.Cols [] ?_ (by simp; omega), List.nil_append]
    · rfl
    · intro x hx acc c ha
      rw [if_pos (show (acc ++ [(⟨x.Name, (bestS r part x.Name).1⟩ : api_Col)]).length ≤ 4294967296 by simp; omega)]
      have hcell := cellS_of r hr x hx
      unfold seen1 bestS bestOk
      rw [hcell]
      by_cases h0 : x.Cell.At < 1
      · have : cellSeen x.Cell now = false := by unfold cellSeen; simp; intro h; omega
        simp [h0, this]
      · by_cases h1 : x.Cell.At ≤ imax r.Gone part
        · have h2 : ¬ imax r.Gone part < x.Cell.At := by omega
          simp [h0, h1, h2]
        · have h2 : imax r.Gone part < x.Cell.At := by omega
          cases x.Cell.Dead <;> simp [h0, h1, h2]
          cases cellSeen x.Cell now <;> simp
  · intro k s i hi
    rw [clerestoryref07_Seen.w0, if_pos (by simpa using hi)]
    simp [at_nat, hi, ms h hi, ref06_Seen_f, ref07_Best_f _ _ _ h]
  · intro k s
    rw [clerestoryref07_Seen.w0, if_neg (by simp)]

theorem seenS_len (r : api_Row) (part now : Int) (h : r.Cols.length ≤ M) : (seenS r part now).length ≤ M := Nat.le_trans (len_fm (seen1_len r part now) _) h

def vis1 (v : api_View) (p : api_Part) (now : Int) (r : api_Row) : List api_Part :=
  if ((bestS r p.Gone v.On).2 && decide ((keyS p.Key r.Key).size ≤ 400) && cellSeen (bestS r p.Gone v.On).1 now) = true then
    [⟨(bestS r p.Gone v.On).1.Val, 0, [⟨keyS p.Key r.Key, ⟨bs [], false, (bestS r p.Gone v.On).1.At, (bestS r p.Gone v.On).1.End⟩, 0, 0, pickS v (seenS r p.Gone now)⟩]⟩] else []
theorem vis1_len (v : api_View) (p : api_Part) (now : Int) (r : api_Row) : (vis1 v p now r).length ≤ 1 := by unfold vis1; split <;> simp

theorem best_alive (r : api_Row) (part : Int) (name : ByteArray) (h : (bestS r part name).2 = true) : (bestS r part name).1.Dead = false := by
  unfold bestS bestOk at h ⊢
  split at h
  · rename_i h1
    rw [if_pos h1]
    simp only [Bool.and_eq_true, Bool.not_eq_true'] at h1
    exact h1.1.1
  · cases h

theorem seen_prog (t : api_Table) (v : api_View) (p : api_Part) (now : Int) (hv : v.Cols.length ≤ M) (hp : SmP p) : project_Seen.f t v p now = some (p.Rows.flatMap (vis1 v p now)) := by
  have hM : p.Rows.length ≤ 1048576 := hp.rows
  unfold project_Seen.f
  rw [loop_list (w := fun k s i => project_Seen.w0 v p now k i s) p.Rows (fun x acc c =>
      (row_Seen.f x p.Gone now).bind fun x5 => (row_Best.f x p.Gone v.On).bind fun x6 => (project_Key.f p.Key x.Key).bind fun x7 =>
      if (!x6.2) = true then c acc else if (decide (400 < (x7.size : Int))) = true then c acc else (project_pick.f v x5).bind fun x8 =>
      if cellSeen ⟨bs [], false, x6.1.At, x6.1.End⟩ now = true then (if (acc ++ [(⟨x6.1.Val, 0, [(⟨x7, (⟨bs [], false, x6.1.At, x6.1.End⟩ : api_Cell), 0, 0, x8⟩ : api_Row)]⟩ : api_Part)]).length ≤ 4294967296 then c (acc ++ [(⟨x6.1.Val, 0, [(⟨x7, (⟨bs [], false, x6.1.At, x6.1.End⟩ : api_Cell), 0, 0, x8⟩ : api_Row)]⟩ : api_Part)]) else none) else c acc) (fun acc => some acc) (ml hp.rows) ?_ ?_ (mk0 hp.rows) []]
  · rw [lrec_fm (vis1_len v p now) p.Rows [] ?_ (by simp; omega), List.nil_append]
    intro r hr acc c ha
    have sm := hp.each r hr
    rw [row_Seen_f _ _ _ sm.cols, Option.bind_some, row_Best_f _ _ _ sm.cols, Option.bind_some, key_f _ _ hp.key sm.key, Option.bind_some, pick_f v _ hv (seenS_len r _ _ sm.cols), Option.bind_some]
    have hlen : ∀ y : api_Part, (acc ++ [y]).length ≤ 4294967296 := fun y => by simp; omega
    rw [if_pos (hlen _)]
    unfold vis1
    cases hb : (bestS r p.Gone v.On).2
    · simp
    · have hd := best_alive r p.Gone v.On hb
      have e : cellSeen ⟨bs [], false, (bestS r p.Gone v.On).1.At, (bestS r p.Gone v.On).1.End⟩ now = cellSeen (bestS r p.Gone v.On).1 now := by unfold cellSeen; rw [hd]
      rw [e]
      by_cases hk : (keyS p.Key r.Key).size ≤ 400
      · rw [if_neg (by simp), if_neg (by simp only [decide_eq_true_eq]; omega)]
        cases cellSeen (bestS r p.Gone v.On).1 now <;> simp [hk]
      · rw [if_neg (by simp), if_pos (by simp only [decide_eq_true_eq]; omega)]
        simp [hk]
  · intro k s i hi
    rw [project_Seen.w0, if_pos (by simpa using hi)]
    simp only [at_nat, hi, List.getElem?_eq_getElem, Option.bind_some, ms hp.rows hi, cell_Seen_f, at_lit]
  · intro k s
    rw [project_Seen.w0, if_neg (by simp)]

theorem seen_ref (v : api_View) (p : api_Part) (now : Int) (hv : v.Cols.length ≤ M) (hp : SmP p) (hr : ∀ r ∈ p.Rows, rises api_Col.Name r.Cols = true) : clerestoryref18_Seen.f v p now = some (p.Rows.flatMap (vis1 v p now)) := by
  have hM : p.Rows.length ≤ 1048576 := hp.rows
  unfold clerestoryref18_Seen.f
  rw [loop_list (w := fun k s i => clerestoryref18_Seen.w0 v p now k i s) p.Rows (fun x acc c =>
      (clerestoryref18_Mirror.f v p x).bind fun x5 => (clerestoryref07_Best.f x p.Gone v.On).bind fun x6 =>
      if (!x5.2) = true then c acc else if (!cellSeen x6.1 now) = true then c acc else (at? x5.1.Rows 0).bind fun x8 => (clerestoryref07_Seen.f x p.Gone now).bind fun x9 => (clerestoryref18_pick.f v x9).bind fun x10 =>
      if (acc ++ [(⟨x5.1.Key, 0, [(⟨x8.Key, x8.Live, 0, 0, x10⟩ : api_Row)]⟩ : api_Part)]).length ≤ 4294967296 then c (acc ++ [(⟨x5.1.Key, 0, [(⟨x8.Key, x8.Live, 0, 0, x10⟩ : api_Row)]⟩ : api_Part)]) else none) (fun acc => some acc) (ml hp.rows) ?_ ?_ (mk0 hp.rows) []]
  · rw [lrec_fm (vis1_len v p now) p.Rows [] ?_ (by simp; omega), List.nil_append]
    intro r hmem acc c ha
    have sm := hp.each r hmem
    rw [mir_ref v p r hv sm hp.key, Option.bind_some, ref07_Best_f _ _ _ sm.cols, Option.bind_some]
    simp only [ref07_Seen_f r p.Gone now sm.cols (hr r hmem), ref18_pick_f v _ hv (seenS_len r _ _ sm.cols), Option.bind_some]
    have hlen : ∀ y : api_Part, (acc ++ [y]).length ≤ 4294967296 := fun y => by simp; omega
    unfold vis1
    by_cases hb : (bestS r p.Gone v.On).2 = true ∧ (keyS p.Key r.Key).size ≤ 400
    · have hm : mirS v p r = (⟨(bestS r p.Gone v.On).1.Val, 0, [⟨keyS p.Key r.Key, ⟨bs [], false, (bestS r p.Gone v.On).1.At, (bestS r p.Gone v.On).1.End⟩, imax r.Gone p.Gone, 0, pickS v r.Cols⟩]⟩, true) := by unfold mirS; rw [if_pos hb]
      rw [hm]
      simp only [at_lit, Option.bind_some, hb.1, hb.2]
      rw [if_pos (hlen _)]
      cases cellSeen (bestS r p.Gone v.On).1 now <;> simp
    · have hm : mirS v p r = (⟨bs [], 0, []⟩, false) := by unfold mirS; rw [if_neg hb]
      rw [hm]
      have h2 : ((bestS r p.Gone v.On).2 && decide ((keyS p.Key r.Key).size ≤ 400)) = false := by
        cases h : (bestS r p.Gone v.On).2
        · rfl
        · rw [h] at hb; simpa using hb
      simp [h2]
  · intro k s i hi
    rw [clerestoryref18_Seen.w0, if_pos (by simpa using hi)]
    simp only [at_nat, hi, List.getElem?_eq_getElem, Option.bind_some, ms hp.rows hi, ref06_Seen_f]
  · intro k s
    rw [clerestoryref18_Seen.w0, if_neg (by simp)]

/-! ### The law -/
theorem few_f (v : api_View) (hv : v.Cols.length ≤ M) : ∃ b, clerestorylaw18_few.f v = some b := by
  have hM : v.Cols.length ≤ 1048576 := hv
  unfold clerestorylaw18_few.f
  rw [loop_listi (w := fun k (_ : Unit) i => clerestorylaw18_few.w0 v k i) v.Cols (fun i x _ c => if (decide ((i : Int) < 12)) = true then (if (decide (300 < (x.size : Int))) = true then some false else c ()) else if (decide ((v.Cols.length : Int) ≤ 12)) = true then some (decide ((v.On.size : Int) ≤ 300)) else some false) (fun _ => if (decide ((v.Cols.length : Int) ≤ 12)) = true then some (decide ((v.On.size : Int) ≤ 300)) else some false) (ml hv) ?_ ?_ (mk0 hv) ()]
  · refine lreci_ex ?_ _ 0 fun x _ i c ⟨r, hc⟩ => ?_
    · split <;> exact ⟨_, rfl⟩
    · repeat' split
      all_goals first | exact ⟨_, rfl⟩ | exact ⟨r, hc⟩
  · intro k _ i hi
    rw [clerestorylaw18_few.w0, if_pos (by simpa using hi)]
    simp only [at_nat, hi, List.getElem?_eq_getElem, Option.bind_some, ms hv hi]
  · intro k _
    rw [clerestorylaw18_few.w0, if_neg (by simp)]

theorem fewRow_f (r : api_Row) (h : r.Cols.length ≤ M) : ∃ b, clerestorylaw00_FewRow.f r = some b := by
  unfold clerestorylaw00_FewRow.f
  have key : ∃ b, clerestorylaw00_FewRow.w0 r K0 0 = some b := by
    have e := loop_listi (w := fun k (_ : Unit) i => clerestorylaw00_FewRow.w0 r k i) r.Cols (fun i x _ c => if (decide (300 < (x.Name.size : Int))) = true then some false else if (decide (300 < (x.Cell.Val.size : Int))) = true then some false else c ()) (fun _ => some true) (ml h) (fun k _ i hi => ?_) (fun k _ => ?_) (mk0 h) ()
    · rw [show clerestorylaw00_FewRow.w0 r K0 0 = _ from e]
      refine lreci_ex ⟨true, rfl⟩ _ 0 fun x _ i c ⟨r, hc⟩ => ?_
      repeat' split
      all_goals first | exact ⟨_, rfl⟩ | exact ⟨r, hc⟩
    · rw [clerestorylaw00_FewRow.w0, if_pos (by simpa using hi)]
      simp only [at_nat, hi, List.getElem?_eq_getElem, Option.bind_some, ms h hi]
    · rw [clerestorylaw00_FewRow.w0, if_neg (by simp)]
  obtain ⟨b, hb⟩ := key
  rw [hb]
  repeat' split
  all_goals exact ⟨_, rfl⟩

theorem fewPart_f (p : api_Part) (most : Int) (hp : SmP p) : ∃ b, clerestorylaw00_FewPart.f p most = some b := by
  unfold clerestorylaw00_FewPart.f
  have key : ∃ b, clerestorylaw00_FewPart.w0 p K0 0 = some b := by
    have e := loop_listi (w := fun k (_ : Unit) i => clerestorylaw00_FewPart.w0 p k i) p.Rows (fun i x _ c => (clerestorylaw00_FewRow.f x).bind fun x3 => if (!x3) = true then some false else c ()) (fun _ => some true) (ml hp.rows) (fun k _ i hi => ?_) (fun k _ => ?_) (mk0 hp.rows) ()
    · rw [show clerestorylaw00_FewPart.w0 p K0 0 = _ from e]
      refine lreci_ex ⟨true, rfl⟩ _ 0 fun x hx i c ⟨r, hc⟩ => ?_
      obtain ⟨b, hb⟩ := fewRow_f x (hp.each x hx).cols
      rw [hb, Option.bind_some]
      repeat' split
      all_goals first | exact ⟨_, rfl⟩ | exact ⟨r, hc⟩
    · rw [clerestorylaw00_FewPart.w0, if_pos (by simpa using hi)]
      simp only [at_nat, hi, List.getElem?_eq_getElem, Option.bind_some, ms hp.rows hi]
    · rw [clerestorylaw00_FewPart.w0, if_neg (by simp)]
  obtain ⟨b, hb⟩ := key
  rw [hb]
  repeat' split
  all_goals exact ⟨_, rfl⟩

theorem awake_f : clerestorylaw18_awake.f = some true := by
  unfold clerestorylaw18_awake.f clerestorylaw00_View.f clerestorylaw00_View_1.f
  simp only [Option.bind_some]
  rw [mir_prog _ _ _ _ (by decide) ⟨by decide, by simp, by decide⟩ (by decide), Option.bind_some, key_f _ _ (by decide) (by decide), Option.bind_some, split_f _ (by rw [keyS, app_size, bs_size]; decide)]
  have e1 : keyS (bs [120]) (bs [121]) = bs [120, 0, 1, 121] := by
    unfold keyS
    rw [bs_app]; rfl
  have e2 : splitS (bs [120, 0, 1, 121]) = (bs [120], bs [121], true) := by
    unfold splitS
    rw [bs_data, extract_bs, bs_data]
    rfl
  rw [e1, e2, Option.bind_some]
  have e3 : (bestS (⟨bs [107], ⟨bs [], false, 0, 0⟩, 0, 0, []⟩ : api_Row) 0 (bs [97])).2 = false := by
    simp [bestS, bestOk, cellS, cellNo]
  have e4 : (mirS ⟨bs [118], 2, bs [116], bs [97], [bs [98], bs [100]]⟩ ⟨bs [109], 0, []⟩ ⟨bs [107], ⟨bs [], false, 0, 0⟩, 0, 0, []⟩).2 = false := by
    unfold mirS
    rw [if_neg]
    intro h
    have := h.1
    rw [e3] at this
    cases this
  rw [e4]
  simp [seq_self]

theorem law_rows (v : api_View) (p : api_Part) (now : Int) (x7 : api_Table × api_View) (hv : v.Cols.length ≤ M) (hp : SmP p) (hr : ∀ r ∈ p.Rows, rises api_Col.Name r.Cols = true) : clerestorylaw18_ProjectAll.w0 v p now x7 K0 0 = some true := by
  have hM : p.Rows.length ≤ 1048576 := hp.rows
  have hok : ∀ r ∈ p.Rows, OkP (mirS v p r).1 := by
    intro r hmem
    unfold mirS OkP
    split
    · refine ⟨by simp [M], fun r' h' => ?_⟩
      have : r' = _ := List.mem_singleton.1 h'
      subst this
      exact Nat.le_trans (List.length_filter_le _ _) (hp.each r hmem).cols
    · exact ⟨by simp, fun r' h' => by simp at h'⟩
  have hokv : ∀ r ∈ p.Rows, ∀ x ∈ vis1 v p now r, OkP x := by
    intro r hmem x hx
    unfold vis1 at hx
    split at hx
    · have : x = _ := List.mem_singleton.1 hx
      subst this
      refine ⟨by simp [M], fun r' h' => ?_⟩
      have : r' = _ := List.mem_singleton.1 h'
      subst this
      exact Nat.le_trans (List.length_filter_le _ _) (seenS_len r _ _ (hp.each r hmem).cols)
    · simp at hx
  have e := loop_listi (w := fun k (_ : Unit) i => clerestorylaw18_ProjectAll.w0 v p now x7 k i) p.Rows (fun i x _ c => (clerestoryref08_Same.f (mirS v p x).1 (mirS v p x).1).bind fun x18 => if (!x18) = true then some false else c ())
    (fun _ => some true) (ml hp.rows) (fun k _ i hi => ?_) (fun k _ => ?_) (mk0 hp.rows) ()
  · rw [show clerestorylaw18_ProjectAll.w0 v p now x7 K0 0 = _ from e]
    have key : ∀ (l : List api_Row) (i : Nat), (∀ r ∈ l, r ∈ p.Rows) → lreci (fun i x (_ : Unit) c => (clerestoryref08_Same.f (mirS v p x).1 (mirS v p x).1).bind fun x18 => if (!x18) = true then some false else c ()) (fun _ => some true) i l () = some true := by
      intro l
      induction l with
      | nil => intro i _; rfl
      | cons r l ih =>
        intro i h
        simp only [lreci]
        rw [partSame_self _ (hok r (h r (by simp))), Option.bind_some, if_neg (by simp)]
        exact ih (i + 1) fun y hy => h y (by simp [hy])
    exact key p.Rows 0 fun r h => h
  · have hmem := List.getElem_mem hi
    rw [clerestorylaw18_ProjectAll.w0, if_pos (by simpa using hi)]
    simp only [at_nat, hi, List.getElem?_eq_getElem, Option.bind_some, ms hp.rows hi, mir_prog _ v p _ hv (hp.each _ hmem) hp.key, mir_ref v p _ hv (hp.each _ hmem) hp.key]
    congr 1
    funext b
    simp
  · rw [clerestorylaw18_ProjectAll.w0, if_neg (by simp), full_prog _ v p hv hp, full_ref v p hv hp, seen_prog _ v p now hv hp, seen_ref v p now hv hp hr]
    simp only [Option.bind_some]
    rw [sameParts_self _ (Nat.le_trans (len_fm (full1_len v p) _) hp.rows) ?_, sameParts_self _ (Nat.le_trans (len_fm (vis1_len v p now) _) hp.rows) ?_, awake_f]
    · rfl
    · intro x hx
      obtain ⟨r, hmem, hx⟩ := List.mem_flatMap.1 hx
      exact hokv r hmem x hx
    · intro x hx
      obtain ⟨r, hmem, hx⟩ := List.mem_flatMap.1 hx
      unfold full1 at hx
      split at hx
      · rw [List.mem_singleton.1 hx]; exact hok r hmem
      · simp at hx

theorem projectAll_true (v : api_View) (p : api_Part) (now : Int) (key clus : ByteArray) (hv : v.Cols.length ≤ M) (hp : SmP p) (hk : key.size ≤ M) (hc : clus.size ≤ M) : clerestorylaw18_ProjectAll.f v p now key clus = some true := by
  unfold clerestorylaw18_ProjectAll.f
  obtain ⟨b1, h1⟩ := few_f v hv
  obtain ⟨b2, h2⟩ := fewPart_f p 20 hp
  obtain ⟨b3, h3, hr⟩ := partCheck_f p hp
  rw [h1, h2]
  simp only [Option.bind_some, awake_f, split_f key hk, ref18_split_f key hk, key_f key clus hk hc, ref18_Key_f key clus hk hc, h3, seq_self]
  have hview : clerestorylaw00_View.f = some (⟨bs [116], 1, ⟨bs [112], 1⟩, ⟨bs [107], 2⟩, [⟨bs [97], 1⟩, ⟨bs [98], 1⟩, ⟨bs [99], 1⟩, ⟨bs [100], 1⟩]⟩, ⟨bs [118], 2, bs [116], bs [97], [bs [98], bs [100]]⟩) := rfl
  rw [hview]
  simp only [Option.bind_some]
  repeat' split
  all_goals first
    | rfl
    | (rename_i hb; exact law_rows v p now _ hv hp (hr (by simpa using hb)))
    | (exfalso; simp_all; done)
    | skip

end Go.Eng
