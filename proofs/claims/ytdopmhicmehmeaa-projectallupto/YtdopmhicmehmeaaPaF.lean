/-
  Part of the proof that the law ProjectAll returns true at every input of bulk at most 1048576, and leaves its arguments as they were; the whole is stated at the end of the last text.
-/
import Derived.Test.YtdopmhicmehmeaaRows
import Derived.WalkKit
import Derived.ProofKit
import Derived.OpenShut
import Derived.JoinedCond
import Derived.Test.YtdopmhicmehmeaaEngV
import Derived.Test.YtdopmhicmehmeaaPaE
import Derived.Test.YtdopmhicmehmeaaWalkH
set_option linter.unusedVariables false
set_option linter.unusedSimpArgs false
namespace Go.Eng
open Go
def api_View.sz (x : api_View) : Nat := (szS x.Name + 1) + ((sz0 x.ID + 1) + ((szS x.Table + 1) + ((szS x.On + 1) + (((lsz szS) x.Cols + 1) + 0))))
def api_View.ok (x : api_View) : Prop := okT x.Name ∧ okI x.ID ∧ okT x.Table ∧ okT x.On ∧ (fun l => ∀ x ∈ l, okT x) x.Cols ∧ True
theorem api_View.opens : Opens prog 24 api_View.d api_View.sz api_View.ok := by
  have h : OpensF prog [(9, 0, 1), (3, 1, 1), (9, 2, 1), (9, 3, 1), (22, 4, 1)] 0 5 _ _ _ := (opensF_cons (opens_str (by kernel_rfl)) (opensF_cons (opens_int (by kernel_rfl)) (opensF_cons (opens_str (by kernel_rfl)) (opensF_cons (opens_str (by kernel_rfl)) (opensF_cons (opens_slice (e := 9) (k := 1) (enc := strD) (sz := szS) (ok := okT) (by kernel_rfl) (by kernel_rfl) (fun _ => rfl) (opens_str (by kernel_rfl))) opensF_nil)))))
  exact opens_struct (by kernel_rfl) (fun x => (⟨x.1, x.2.1, x.2.2.1, x.2.2.2.1, x.2.2.2.2.1⟩ : api_View)) h (fun _ => rfl) (fun _ => rfl) (fun _ h => by exact h)

def api_Cell.sz (x : api_Cell) : Nat := (szS x.Val + 1) + ((sz0 x.Dead + 1) + ((sz0 x.At + 1) + ((sz0 x.End + 1) + 0)))
def api_Cell.ok (x : api_Cell) : Prop := okT x.Val ∧ okT x.Dead ∧ okI x.At ∧ okI x.End ∧ True
theorem api_Cell.opens : Opens prog 45 api_Cell.d api_Cell.sz api_Cell.ok := by
  have h : OpensF prog [(9, 0, 1), (4, 1, 1), (3, 2, 1), (3, 3, 1)] 0 4 _ _ _ := (opensF_cons (opens_str (by kernel_rfl)) (opensF_cons (opens_bool (by kernel_rfl)) (opensF_cons (opens_int (by kernel_rfl)) (opensF_cons (opens_int (by kernel_rfl)) opensF_nil))))
  exact opens_struct (by kernel_rfl) (fun x => (⟨x.1, x.2.1, x.2.2.1, x.2.2.2.1⟩ : api_Cell)) h (fun _ => rfl) (fun _ => rfl) (fun _ h => by exact h)

def api_Col.sz (x : api_Col) : Nat := (szS x.Name + 1) + ((api_Cell.sz x.Cell + 1) + 0)
def api_Col.ok (x : api_Col) : Prop := okT x.Name ∧ api_Cell.ok x.Cell ∧ True
theorem api_Col.opens : Opens prog 76 api_Col.d api_Col.sz api_Col.ok := by
  have h : OpensF prog [(9, 0, 1), (45, 1, 4)] 0 5 _ _ _ := (opensF_cons (opens_str (by kernel_rfl)) (opensF_cons api_Cell.opens opensF_nil))
  exact opens_struct (by kernel_rfl) (fun x => (⟨x.1, x.2.1⟩ : api_Col)) h (fun _ => rfl) (fun _ => rfl) (fun _ h => by exact h)

def api_Row.sz (x : api_Row) : Nat := (szS x.Key + 1) + ((api_Cell.sz x.Live + 1) + ((sz0 x.Gone + 1) + ((sz0 x.Shade + 1) + (((lsz api_Col.sz) x.Cols + 1) + 0))))
def api_Row.ok (x : api_Row) : Prop := okT x.Key ∧ api_Cell.ok x.Live ∧ okI x.Gone ∧ okI x.Shade ∧ (fun l => ∀ x ∈ l, api_Col.ok x) x.Cols ∧ True
theorem api_Row.opens : Opens prog 48 api_Row.d api_Row.sz api_Row.ok := by
  have h : OpensF prog [(9, 0, 1), (45, 1, 4), (3, 5, 1), (3, 6, 1), (46, 7, 1)] 0 8 _ _ _ := (opensF_cons (opens_str (by kernel_rfl)) (opensF_cons api_Cell.opens (opensF_cons (opens_int (by kernel_rfl)) (opensF_cons (opens_int (by kernel_rfl)) (opensF_cons (opens_slice (e := 76) (k := 5) (enc := api_Col.d) (sz := api_Col.sz) (ok := api_Col.ok) (by kernel_rfl) (by kernel_rfl) (fun _ => rfl) api_Col.opens) opensF_nil)))))
  exact opens_struct (by kernel_rfl) (fun x => (⟨x.1, x.2.1, x.2.2.1, x.2.2.2.1, x.2.2.2.2.1⟩ : api_Row)) h (fun _ => rfl) (fun _ => rfl) (fun _ h => by exact h)

def api_Part.sz (x : api_Part) : Nat := (szS x.Key + 1) + ((sz0 x.Gone + 1) + (((lsz api_Row.sz) x.Rows + 1) + 0))
def api_Part.ok (x : api_Part) : Prop := okT x.Key ∧ okI x.Gone ∧ (fun l => ∀ x ∈ l, api_Row.ok x) x.Rows ∧ True
theorem api_Part.opens : Opens prog 27 api_Part.d api_Part.sz api_Part.ok := by
  have h : OpensF prog [(9, 0, 1), (3, 1, 1), (25, 2, 1)] 0 3 _ _ _ := (opensF_cons (opens_str (by kernel_rfl)) (opensF_cons (opens_int (by kernel_rfl)) (opensF_cons (opens_slice (e := 48) (k := 8) (enc := api_Row.d) (sz := api_Row.sz) (ok := api_Row.ok) (by kernel_rfl) (by kernel_rfl) (fun _ => rfl) api_Row.opens) opensF_nil)))
  exact opens_struct (by kernel_rfl) (fun x => (⟨x.1, x.2.1, x.2.2.1⟩ : api_Part)) h (fun _ => rfl) (fun _ => rfl) (fun _ h => by exact h)

theorem colsV {v : api_View} (h : api_View.sz v ≤ M) : v.Cols.length ≤ M := by
  have := lsz_len szS v.Cols
  simp only [api_View.sz] at h
  omega
theorem smR_of {r : api_Row} (h : api_Row.sz r ≤ M) : SmR r := by
  simp only [api_Row.sz, szS] at h
  refine ⟨?_, fun c hc => ?_, by omega⟩
  · have := lsz_len api_Col.sz r.Cols
    omega
  · have := lsz_mem (sz := api_Col.sz) hc
    simp only [api_Col.sz, szS] at this
    omega
theorem smP_of {p : api_Part} (h : api_Part.sz p ≤ M) : SmP p := by
  simp only [api_Part.sz, szS] at h
  refine ⟨?_, fun r hr => smR_of ?_, by omega⟩
  · have := lsz_len api_Row.sz p.Rows
    omega
  · have := lsz_mem (sz := api_Row.sz) hr
    omega

end Go.Eng

namespace Go.Proofs.Ytdopmhicmehmeaa.projectAll
open Go.ChangeShapes Go.WideShapes Go.ChangeAt Go.RowKit Go.Eng

theorem own : ownKnob Try.prog.godebug = none := by kernel_rfl
theorem laid : laidOutB Try.prog = true := by kernel_rfl

theorem bulkOK {H : Type} : BulkOK (Rows.uptoBulk (H := H)) Rows.uptoBulkAll where
  str := fun s => by simp only [Rows.uptoBulk]
  one := fun d => by unfold Rows.uptoBulk; split <;> omega
  sl := fun x y => by simp only [Rows.uptoBulk]
  agg := fun x => by simp only [Rows.uptoBulk]
  nil := by simp only [Rows.uptoBulkAll]
  cons := fun d l => by simp only [Rows.uptoBulkAll]

set_option maxRecDepth 100000 in
theorem contract (H : Type) (enc : TypeId × Value → H) (W : World) (base : Nat) (args : Array Value) (ds gs : List (DataW H)) (before : List MemPlace)
    (hval : ∀ (j : Nat) t v, Try.f3.params[j]? = some t → args[j]? = some v → Value.okWide Try.prog W .any base t v)
    (hW : DataW.Whole enc Try.prog Try.f3.params.toList Rows.projectAllSpec.vars false W args.toList ds gs before) (hk : Rows.uptoSmall H (ds ++ gs) = true) :
    Calls Try.prog 3 args W fun e W' => ∃ v, e = .returned v ∧ Rows.projectAllSpec.post enc Try.prog Try.f3 false true false false W args v W' := by
  have hW' := hW
  obtain ⟨p, q, hA0, hV, rfl, hfz, hnd⟩ := hW
  have hA : DataW.TrodAll enc Try.prog W 0 (fun _ => true) true Try.f3.params.toList args.toList ds p := hA0
  rw [Try.params3] at hA hval
  obtain ⟨v0, vs0, d0, ds0, p0, q0, hargs, rfl, rfl, ⟨n0, h0⟩, r0⟩ := trodAll_cons hA
  obtain ⟨v1, vs1, d1, ds1, p1, q1, rfl, rfl, rfl, ⟨n1, h1⟩, r1⟩ := trodAll_cons r0
  obtain ⟨v2, vs2, d2, ds2, p2, q2, rfl, rfl, rfl, ⟨n2, h2⟩, r2⟩ := trodAll_cons r1
  obtain ⟨v3, vs3, d3, ds3, p3, q3, rfl, rfl, rfl, ⟨n3, h3⟩, r3⟩ := trodAll_cons r2
  obtain ⟨v4, vs4, d4, ds4, p4, q4, rfl, rfl, rfl, ⟨n4, h4⟩, r4⟩ := trodAll_cons r3
  obtain ⟨rfl, rfl, rfl⟩ := trodAll_nil r4
  obtain rfl : args = #[v0, v1, v2, v3, v4] := by cases args; simp_all
  obtain ⟨rfl, rfl⟩ := trodVars_none hV
  clear hA0
  obtain ⟨x0, g0, s0, o0⟩ := api_View.opens H enc Rows.uptoBulk Rows.uptoBulkAll bulkOK W _ _ _ n0 _ _ _ h0
  have y0 : R be0 st0 W v0 (agd (api_View.d x0)) := by
    obtain ⟨c, rfl, _⟩ := okWide_struct Try.underlying24 (hval 0 24 v0 (by simp) (by simp))
    exact r0_agg (by simpa [Value.cells] using g0)
  obtain ⟨x1, g1, s1, o1⟩ := api_Part.opens H enc Rows.uptoBulk Rows.uptoBulkAll bulkOK W _ _ _ n1 _ _ _ h1
  have y1 : R be0 st0 W v1 (agd (api_Part.d x1)) := by
    obtain ⟨c, rfl, _⟩ := okWide_struct Try.underlying27 (hval 1 27 v1 (by simp) (by simp))
    exact r0_agg (by simpa [Value.cells] using g1)
  obtain ⟨x2, g2, s2, o2⟩ := (opens_int (P := Try.prog) (t := 3) (by kernel_rfl)) H enc Rows.uptoBulk Rows.uptoBulkAll bulkOK W _ _ _ n2 _ _ _ h2
  have y2 : R be0 st0 W v2 (cI x2) := by
    obtain ⟨_, rfl⟩ := okWide_int Try.underlying3 (hval 2 3 v2 (by simp) (by simp))
    exact r0_one (by simpa [Value.cells, strD, intD, booD, slD, sD, iD, bD] using g2)
  obtain ⟨x3, g3, s3, o3⟩ := (opens_str (P := Try.prog) (t := 9) (by kernel_rfl)) H enc Rows.uptoBulk Rows.uptoBulkAll bulkOK W _ _ _ n3 _ _ _ h3
  have y3 : R be0 st0 W v3 (cS x3) := by
    obtain ⟨_, rfl⟩ := okWide_string Try.underlying9 (hval 3 9 v3 (by simp) (by simp))
    exact r0_one (by simpa [Value.cells, strD, intD, booD, slD, sD, iD, bD] using g3)
  obtain ⟨x4, g4, s4, o4⟩ := (opens_str (P := Try.prog) (t := 9) (by kernel_rfl)) H enc Rows.uptoBulk Rows.uptoBulkAll bulkOK W _ _ _ n4 _ _ _ h4
  have y4 : R be0 st0 W v4 (cS x4) := by
    obtain ⟨_, rfl⟩ := okWide_string Try.underlying9 (hval 4 9 v4 (by simp) (by simp))
    exact r0_one (by simpa [Value.cells, strD, intD, booD, slD, sD, iD, bD] using g4)
  have hb := of_decide_eq_true hk
  simp only [Rows.uptoBulkAll, List.append_nil] at hb
  refine (call0 (clerestorylaw18_ProjectAll.pure x0 x1 x2 x3 x4 true (projectAll_true x0 x1 x2 x3 x4 (colsV (by unfold M; omega)) (smP_of (by unfold M; omega)) (by simp only [szS] at s3; unfold M; omega) (by simp only [szS] at s4; unfold M; omega))) rfl (fun i h1 h2 => ?_)).mono fun e W' h => ?_
  · match i, h1, h2 with
    | 0, _, _ => exact y0
    | 1, _, _ => exact y1
    | 2, _, _ => exact y2
    | 3, _, _ => exact y3
    | 4, _, _ => exact y4
    | i + 5, h1, _ => exact absurd h1 (by simp)
  · exact ⟨_, h.1, law_post (tb := 4) hW' rfl rfl laid (by kernel_rfl) (by kernel_rfl) Try.underlying4 h.2⟩

set_option maxRecDepth 100000 in
theorem lifted (os : Os) (started : os.Started) (H : Type) (enc : TypeId × Value → H) (F : Stop.Interp) :
    ReturnsInHanded {} Try.checked os 3 .any ((Rows.OpenSpec.upto Rows.projectAllSpec).pre6 enc Try.prog Try.f3 Rows.projectAllUptoRow.domain false) (((Rows.OpenSpec.upto Rows.projectAllSpec).at F).post enc Try.prog Try.f3 false true false false) := by
  refine returnsInHanded_of_cond (C := Try.checked) (s := Rows.OpenSpec.upto Rows.projectAllSpec) (k := Rows.uptoSmall) rfl own started (by kernel_rfl) Try.func3
    (OpenSpec.witness (enc := enc) (C := Try.checked) (s := Rows.OpenSpec.upto Rows.projectAllSpec) (k := Rows.uptoSmall) rfl false ⟨#[], #[.agg #[.string ⟨#[]⟩, .int .i64 0, .string ⟨#[]⟩, .string ⟨#[]⟩, .slice none 0 0], .agg #[.string ⟨#[]⟩, .int .i64 0, .slice none 0 0], .int .i64 0, .string ⟨#[]⟩, .string ⟨#[]⟩], []⟩ 8 (by kernel_rfl) (by kernel_rfl) (by kernel_rfl)
      (x := ([.agg [.lit (.string []), .lit (.int .i64 0), .lit (.string []), .lit (.string []), .nil], .agg [.lit (.string []), .lit (.int .i64 0), .nil], .lit (.int .i64 0), .lit (.string []), .lit (.string [])], [], [])) (by kernel_rfl) rfl (by kernel_rfl)) ?_
  intro W base args ds gs before hval hW _ hk _
  exact contract H enc W base args ds gs before hval hW hk

theorem over : Rows.projectAllUptoRow.holds Try.pinned (Rows.OpenSpec.upto Rows.projectAllSpec) :=
  OpenClaim.holds_of_cond 3 Try.f3 rfl rfl rfl rfl rfl rfl rfl ⟨rfl, rfl, rfl, rfl, rfl⟩ rfl rfl rfl rfl rfl (by kernel_rfl) Try.func3 (by kernel_rfl)
    (of_decide_eq_true (by kernel_rfl)) (by unfold Func.isWrapper; first | (rw [if_pos (by decide +kernel)]; kernel_rfl) | (rw [if_neg (by decide +kernel)]; exact ⟨rfl, rfl⟩))
    (fun os started H enc _ F => lifted os started H enc F)

theorem proved : Rows.ProjectAllUptoSaid :=
  over
end Go.Proofs.Ytdopmhicmehmeaa.projectAll
