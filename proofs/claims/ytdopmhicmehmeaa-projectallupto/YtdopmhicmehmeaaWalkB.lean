/-
  Part of the proof that the law ProjectAll returns true at every input of bulk at most 1048576, and leaves its arguments as they were; the whole is stated at the end of the last text.
-/
import Derived.Test.YtdopmhicmehmeaaData
import Derived.Test.YtdopmhicmehmeaaCode
import Derived.Test.YtdopmhicmehmeaaWalkA
set_option maxRecDepth 100000
set_option linter.unusedVariables false
set_option linter.unusedSimpArgs false
namespace Go.Eng
open Go
noncomputable def project_pick.w1 (v : api_View) : Nat → Int → Int → List api_Col → Option (List api_Col)
  | 0, _, _, _ => none
  | k1 + 1, v4, v5, v6 =>
    if (decide (v5 < (v6.length : Int))) = true then
      (at? v6 v5).bind fun x7 =>
      (_project_picker__not.f v.Cols x7).bind fun x8 =>
      if (!x8) = true then
        (at? v6 v4).bind fun x9 =>
        project_pick.w1 v k1 (IntKind.i64.wrap (v4 + 1)) (IntKind.i64.wrap (v5 + 1)) (v6.set v4.toNat x7)
      else
      project_pick.w1 v k1 v4 (IntKind.i64.wrap (v5 + 1)) v6
    else
    if 0 ≤ v4 ∧ v4 ≤ ((v6.length : Nat) : Int) then
    if v4.toNat + (v6.length - v4.toNat) ≤ v6.length then
    some (((clr v6 v4.toNat (v6.length - v4.toNat) (⟨(bs []), (⟨(bs []), false, 0, 0⟩ : api_Cell)⟩ : api_Col)).drop 0).take v4.toNat)
    else none
    else none

noncomputable def project_pick.w0 (v : api_View) (l : List api_Col) : Nat → Int → Option (List api_Col)
  | 0, _ => none
  | k0 + 1, v1 =>
    if (decide (v1 < (l.length : Int))) = true then
      (at? l v1).bind fun x2 =>
      (_project_picker__not.f v.Cols x2).bind fun x3 =>
      if (x3) = true then
        if (decide (v1 = (-1))) = true then
          some l
        else
        project_pick.w1 v K0 v1 (IntKind.i64.wrap (v1 + 1)) l
      else
      project_pick.w0 v l k0 (IntKind.i64.wrap (v1 + 1))
    else
    some l

noncomputable def project_pick.f (v : api_View) (l : List api_Col) : Option (List api_Col) :=
  if l.length ≤ 4294967296 then
  project_pick.w0 v l K0 0
  else none

set_option maxHeartbeats 4000000 in
theorem project_pick.pure (v : api_View) (l : List api_Col) (res : List api_Col) (hf : project_pick.f v l = some res) : Pure prog F.project_pick [(agd (api_View.d v)), (.d (.sl 5 (l.map api_Col.d)))] (.d (.sl 5 (res.map api_Col.d))) := by
  refine pure_fn project_pick.res (Nat.le_of_ble_eq_true rfl) (fun _ => rfl) (fun _ => rfl) fun B hp g hB wf => ?_
  rw [project_pick.f] at hf
  conv => whnf
  refine cut_go ?_
  conv => whnf
  refine at_go ?_
  conv => whnf
  refine cut_go ?_
  conv => whnf
  refine ⟨⟨rfl, Nat.le_of_ble_eq_true rfl⟩, ?_⟩
  conv => whnf
  refine ⟨rfl, ⟨_, rfl, ?_⟩⟩
  conv => whnf
  refine at_go ?_
  conv => whnf
  refine cut_go ?_
  conv => whnf
  obtain ⟨h1, hf⟩ := grd hf
  refine veq_intro (dataRow api_Col.d l) (sl_row _ _) ⟨row_wid (enc := api_Col.d) (fun _ => rfl) _, ?_⟩
  conv => whnf
  refine ⟨by simpa using h1, veq_intro l.length (by simp) ?_⟩
  conv => whnf
  refine inline_fn slices_DeleteFunc___api_Col_api_Col_.res (Nat.le_of_ble_eq_true rfl) (fun B1 hB1 => ?_)
  conv => whnf
  refine cut_go ?_
  conv => whnf
  refine at_go ?_
  conv => whnf
  refine cut_go ?_
  conv => whnf
  refine inline_fn slices_IndexFunc___api_Col_api_Col_.res (Nat.le_of_ble_eq_true rfl) (fun B2 hB2 => ?_)
  conv => whnf
  refine cut_go ?_
  conv => whnf
  refine at_go ?_
  conv => whnf
  refine cut_go ?_
  conv => whnf
  refine cut_go ?_
  conv => whnf
  refine ⟨rfl, ?_⟩
  conv => whnf
  refine at_go ?_
  conv => whnf
  refine loop_sub (env' := [(0, (.row 1 0 0 l.length)), (1, (.fn (.func F._project_picker__not) [(.d (.sl 1 (v.Cols.map strD)))] [])), (7, (cI (l.length : Int))), (8, (cI 0))]) (st' := ⟨(upd hp 1 (.row 0 5 T.api_Col (dataRow api_Col.d l))), 2, g⟩) (sk hB2 (fwD (fw0 wf (by rfl) (fun _ => by rfl)) rfl rfl rfl (fun _ => rfl)) (by rfl) (by rfl) ⟨cv rfl rfl, cv rfl rfl, cv rfl rfl, cv rfl rfl, trivial⟩) ?_
  refine loop_f (α := Int) (γ := Unit) (fun (_ : Unit) v1 => [(0, (.row 1 0 0 l.length)), (1, (.fn (.func F._project_picker__not) [(.d (.sl 1 (v.Cols.map strD)))] [])), (7, (cI (l.length : Int))), (8, (cI v1))]) (fun (_ : Unit) v1 => ⟨(upd hp 1 (.row 0 5 T.api_Col (dataRow api_Col.d l))), 2, g⟩) (fun k s => project_pick.w0 v l k s) (fun _ => rfl) ?_ K0 0 () hf
  intro k0 v1 gg hf
  replace hf : project_pick.w0 v l (k0 + 1) v1 = some _ := hf
  rw [project_pick.w0] at hf
  try dsimp only
  conv => whnf
  refine cut_go ?_
  conv => whnf
  refine at_go ?_
  conv => whnf
  refine cut_go ?_
  conv => whnf
  refine vcond_intro (t := decide (v1 < (l.length : Int))) (fun h2 => ?_) (fun h3 => ?_)
  · replace hf := ifT h2 hf
    conv => whnf
    refine at_go ?_
    conv => whnf
    refine cut_go ?_
    conv => whnf
    refine cut_go ?_
    conv => whnf
    refine at_sub (env' := [(0, (.row 1 0 0 l.length)), (1, (.fn (.func F._project_picker__not) [(.d (.sl 1 (v.Cols.map strD)))] [])), (5, (cI v1)), (7, (cI (l.length : Int))), (8, (cI v1))]) (st' := ⟨(upd hp 1 (.row 0 5 T.api_Col (dataRow api_Col.d l))), 2, g⟩) (sk hB2 (fwD (fw0 wf (by rfl) (fun _ => by rfl)) rfl rfl rfl (fun _ => rfl)) (by rfl) (by rfl) ⟨cv rfl rfl, cv rfl rfl, cv rfl rfl, cv rfl rfl, cv rfl rfl, trivial⟩) ?_
    refine at_go ?_
    conv => whnf
    refine cut_go ?_
    obtain ⟨x2, h4, hf⟩ := bnd hf
    conv => whnf
    refine ⟨⟨rfl, rfl⟩, ⟨at_nn h4, at_lt h4⟩, veq_intro v1.toNat (Nat.zero_add _) ?_⟩
    conv => whnf
    refine ⟨rfl, ⟨_, row_get (at_get h4), ?_⟩⟩
    obtain ⟨x3, h5, hf⟩ := bnd hf
    conv => whnf
    refine (_project_picker__not.pure v.Cols x2 x3 h5).call ?_
    conv => whnf
    refine at_go ?_
    conv => whnf
    refine vcond_intro (t := x3) (fun h6 => ?_) (fun h7 => ?_)
    · replace hf := ifT h6 hf
      conv => whnf
      refine cut_go ?_
      conv => whnf
      refine at_go ?_
      conv => whnf
      refine ret_now ?_
      conv => whnf
      refine at_go ?_
      conv => whnf
      refine cut_go ?_
      conv => whnf
      refine cut_go ?_
      conv => whnf
      refine at_sub (env' := [(0, (.row 1 0 0 l.length)), (1, (.fn (.func F._project_picker__not) [(.d (.sl 1 (v.Cols.map strD)))] [])), (5, (cI v1)), (12, (cB (decide (v1 = (-1)))))]) (st' := ⟨(upd hp 1 (.row 0 5 T.api_Col (dataRow api_Col.d l))), 2, g⟩) (sk hB1 (fwD (fw0 wf (by rfl) (fun _ => by rfl)) rfl rfl rfl (fun _ => rfl)) (by rfl) (by rfl) ⟨cv rfl rfl, cv rfl rfl, cv rfl rfl, cv rfl rfl, trivial⟩) ?_
      refine at_go ?_
      conv => whnf
      refine vcond_intro (t := decide (v1 = (-1))) (fun h8 => ?_) (fun h9 => ?_)
      · replace hf := ifT h8 hf
        conv => whnf
        refine cut_go ?_
        conv => whnf
        refine at_go ?_
        conv => whnf
        refine ret_now ?_
        conv => whnf
        refine at_sub (env' := [(4, (.row 1 0 0 l.length))]) (st' := ⟨(upd hp 1 (.row 0 5 T.api_Col (dataRow api_Col.d l))), 2, g⟩) (sk hB (fwD (fw0 wf (by rfl) (fun _ => by rfl)) rfl rfl rfl (fun _ => rfl)) (by rfl) (by rfl) ⟨cv rfl rfl, trivial⟩) ?_
        refine at_go ?_
        conv => whnf
        obtain rfl := Option.some.inj hf
        refine ret_c hB wf (fun _ => by rfl) ?_
        exact cvz (enc := api_Col.d) (l := l) rfl (wfn wf (by rfl)) rfl rfl
      · replace hf := ifF h9 hf
        conv => whnf
        refine at_go ?_
        conv => whnf
        refine cut_go ?_
        conv => whnf
        refine cut_go ?_
        conv => whnf
        refine veq_intro (IntKind.i64.wrap (v1 + 1)) rfl ?_
        conv => whnf
        refine at_go ?_
        conv => whnf
        refine loop_sub (env' := [(0, (.row 1 0 0 l.length)), (1, (.fn (.func F._project_picker__not) [(.d (.sl 1 (v.Cols.map strD)))] [])), (5, (cI v1)), (6, (cI (IntKind.i64.wrap (v1 + 1))))]) (st' := ⟨(upd hp 1 (.row 0 5 T.api_Col (dataRow api_Col.d l))), 2, g⟩) (sk hB1 (fwD (fw0 wf (by rfl) (fun _ => by rfl)) rfl rfl rfl (fun _ => rfl)) (by rfl) (by rfl) ⟨cv rfl rfl, cv rfl rfl, cv rfl rfl, cv rfl rfl, trivial⟩) ?_
        refine loop_f (α := Int × Int × (List api_Col)) (γ := Unit) (fun (_ : Unit) (v4, v5, v6) => [(0, (.row 1 0 0 v6.length)), (1, (.fn (.func F._project_picker__not) [(.d (.sl 1 (v.Cols.map strD)))] [])), (5, (cI v4)), (6, (cI v5))]) (fun (_ : Unit) (v4, v5, v6) => ⟨(upd hp 1 (.row 0 5 T.api_Col (dataRow api_Col.d v6))), 2, g⟩) (fun k s => project_pick.w1 v k s.1 s.2.1 s.2.2) (fun _ => rfl) ?_ K0 (v1, IntKind.i64.wrap (v1 + 1), l) () hf
        intro k1 y gg hf
        obtain ⟨v4, v5, v6⟩ := y
        replace hf : project_pick.w1 v (k1 + 1) v4 v5 v6 = some _ := hf
        rw [project_pick.w1] at hf
        try dsimp only
        conv => whnf
        refine cut_go ?_
        conv => whnf
        refine cut_go ?_
        conv => whnf
        refine ⟨rfl, ?_⟩
        conv => whnf
        refine at_go ?_
        conv => whnf
        refine vcond_intro (t := decide (v5 < (v6.length : Int))) (fun h10 => ?_) (fun h11 => ?_)
        · replace hf := ifT h10 hf
          conv => whnf
          refine at_go ?_
          conv => whnf
          refine cut_go ?_
          conv => whnf
          refine cut_go ?_
          obtain ⟨x7, h12, hf⟩ := bnd hf
          conv => whnf
          refine ⟨⟨rfl, rfl⟩, ⟨at_nn h12, at_lt h12⟩, veq_intro v5.toNat (Nat.zero_add _) ?_⟩
          conv => whnf
          refine ⟨rfl, ⟨_, row_get (at_get h12), ?_⟩⟩
          conv => whnf
          refine ⟨⟨rfl, rfl⟩, ⟨_, rfl, Nat.le_of_ble_eq_true rfl, veq_intro [[(cS x7.Name), (cS x7.Cell.Val), (cB x7.Cell.Dead), (cI x7.Cell.At), (cI x7.Cell.End)]] rfl ?_⟩⟩
          conv => whnf
          refine at_sub (env' := [(0, (.row 1 0 0 v6.length)), (1, (.fn (.func F._project_picker__not) [(.d (.sl 1 (v.Cols.map strD)))] [])), (5, (cI v4)), (6, (cI v5)), (7, (.ptr 2 0 0 0))]) (st' := ⟨(upd (upd hp 1 (.row 0 5 T.api_Col (dataRow api_Col.d v6))) 2 (.row 0 5 T.api_Col [[(cS x7.Name), (cS x7.Cell.Val), (cB x7.Cell.Dead), (cI x7.Cell.At), (cI x7.Cell.End)]])), 3, g⟩) (sk hB1 (fwE (fwD (fw0 wf (by rfl) (fun _ => by rfl)) rfl rfl rfl (fun _ => rfl)) rfl rfl rfl) (by rfl) (by rfl) ⟨cv rfl rfl, cv rfl rfl, cv rfl rfl, cv rfl rfl, cv rfl rfl, trivial⟩) ?_
          refine at_go ?_
          conv => whnf
          refine cut_go ?_
          conv => whnf
          refine ⟨rfl, ⟨_, rfl, ?_⟩⟩
          obtain ⟨x8, h13, hf⟩ := bnd hf
          conv => whnf
          refine (_project_picker__not.pure v.Cols x7 x8 h13).call ?_
          conv => whnf
          refine at_go ?_
          conv => whnf
          refine vcond_intro (t := !x8) (fun h14 => ?_) (fun h15 => ?_)
          · replace hf := ifT h14 hf
            conv => whnf
            refine cut_go ?_
            conv => whnf
            refine ⟨rfl, ⟨_, rfl, ?_⟩⟩
            obtain ⟨x9, h16, hf⟩ := bnd hf
            conv => whnf
            refine ⟨⟨rfl, rfl⟩, ⟨at_nn h16, at_lt h16⟩, veq_intro v4.toNat (Nat.zero_add _) ?_⟩
            conv => whnf
            refine ⟨⟨rfl, rfl⟩, ⟨_, row_get (at_get h16), Nat.le_of_ble_eq_true rfl, veq_intro (dataRow api_Col.d (v6.set v4.toNat x7)) (row_set rfl) ?_⟩⟩
            conv => whnf
            refine at_go ?_
            conv => whnf
            refine veq_intro (IntKind.i64.wrap (v4 + 1)) rfl ?_
            conv => whnf
            refine at_sub (env' := [(0, (.row 1 0 0 v6.length)), (1, (.fn (.func F._project_picker__not) [(.d (.sl 1 (v.Cols.map strD)))] [])), (5, (cI (IntKind.i64.wrap (v4 + 1)))), (6, (cI v5))]) (st' := ⟨(upd hp 1 (.row 0 5 T.api_Col (dataRow api_Col.d (v6.set v4.toNat x7)))), 2, g⟩) (sk hB1 (fwD (fw0 wf (by rfl) (fun _ => by rfl)) rfl rfl rfl (fun _ => rfl)) (by rfl) (by rfl) ⟨cv rfl rfl, cv rfl rfl, cv rfl rfl, cv rfl rfl, trivial⟩) ?_
            refine at_go ?_
            conv => whnf
            refine veq_intro (IntKind.i64.wrap (v5 + 1)) rfl ?_
            conv => whnf
            exact ⟨(IntKind.i64.wrap (v4 + 1), IntKind.i64.wrap (v5 + 1), (v6.set v4.toNat x7)), hf, (), sk hB1 (fwD (fw0 wf (by rfl) (fun _ => by rfl)) rfl rfl rfl (fun _ => rfl)) (by rfl) (by rfl) ⟨cv (x := (.row 1 0 0 v6.length)) (by simp) rfl, cv rfl rfl, cv rfl rfl, cv rfl rfl, trivial⟩⟩
          · replace hf := ifF h15 hf
            conv => whnf
            refine at_go ?_
            conv => whnf
            refine veq_intro (IntKind.i64.wrap (v5 + 1)) rfl ?_
            conv => whnf
            exact ⟨(v4, IntKind.i64.wrap (v5 + 1), v6), hf, (), sk hB1 (fwD (fw0 wf (by rfl) (fun _ => by rfl)) rfl rfl rfl (fun _ => rfl)) (by rfl) (by rfl) ⟨cv rfl rfl, cv rfl rfl, cv rfl rfl, cv rfl rfl, trivial⟩⟩
        · replace hf := ifF h11 hf
          conv => whnf
          refine at_go ?_
          conv => whnf
          refine cut_go ?_
          conv => whnf
          refine ⟨⟨rfl, rfl⟩, ?_⟩
          obtain ⟨h17, hf⟩ := grd hf
          conv => whnf
          refine ⟨h17, ?_⟩
          conv => whnf
          refine veq_intro v4.toNat (by simp) (veq_intro (v6.length - v4.toNat) (by simp) ?_)
          obtain ⟨h18, hf⟩ := grd hf
          conv => whnf
          refine ⟨⟨rfl, rfl⟩, (by simpa using h18), veq_intro (dataRow api_Col.d (clr v6 v4.toNat (v6.length - v4.toNat) (⟨(bs []), (⟨(bs []), false, 0, 0⟩ : api_Cell)⟩ : api_Col))) (clr_row _ _ _ _ rfl) ?_⟩
          conv => whnf
          refine at_sub (env' := [(0, (.row 1 0 0 v6.length)), (5, (cI v4))]) (st' := ⟨(upd hp 1 (.row 0 5 T.api_Col (dataRow api_Col.d (clr v6 v4.toNat (v6.length - v4.toNat) (⟨(bs []), (⟨(bs []), false, 0, 0⟩ : api_Cell)⟩ : api_Col))))), 2, g⟩) (sk hB1 (fwD (fw0 wf (by rfl) (fun _ => by rfl)) rfl rfl rfl (fun _ => rfl)) (by rfl) (by rfl) ⟨cv rfl rfl, cv rfl rfl, trivial⟩) ?_
          refine at_go ?_
          conv => whnf
          refine cut_go ?_
          conv => whnf
          refine ⟨⟨rfl, rfl⟩, ?_⟩
          conv => whnf
          refine ⟨h17, ?_⟩
          conv => whnf
          refine veq_intro 0 (by simp) (veq_intro v4.toNat (by simp) ?_)
          conv => whnf
          refine at_go ?_
          conv => whnf
          refine ret_now ?_
          conv => whnf
          refine at_sub (env' := [(4, (.row 1 0 0 v4.toNat))]) (st' := ⟨(upd hp 1 (.row 0 5 T.api_Col (dataRow api_Col.d (clr v6 v4.toNat (v6.length - v4.toNat) (⟨(bs []), (⟨(bs []), false, 0, 0⟩ : api_Cell)⟩ : api_Col))))), 2, g⟩) (sk hB (fwD (fw0 wf (by rfl) (fun _ => by rfl)) rfl rfl rfl (fun _ => rfl)) (by rfl) (by rfl) ⟨cv rfl rfl, trivial⟩) ?_
          refine at_go ?_
          conv => whnf
          obtain rfl := Option.some.inj hf
          refine ret_c hB wf (fun _ => by rfl) ?_
          exact cvy (enc := api_Col.d) (l := clr v6 v4.toNat (v6.length - v4.toNat) (⟨(bs []), (⟨(bs []), false, 0, 0⟩ : api_Cell)⟩ : api_Col)) rfl (wfn wf (by rfl)) rfl rfl
    · replace hf := ifF h7 hf
      conv => whnf
      refine at_go ?_
      conv => whnf
      refine veq_intro (IntKind.i64.wrap (v1 + 1)) rfl ?_
      conv => whnf
      exact ⟨IntKind.i64.wrap (v1 + 1), hf, (), sk hB2 (fwD (fw0 wf (by rfl) (fun _ => by rfl)) rfl rfl rfl (fun _ => rfl)) (by rfl) (by rfl) ⟨cv rfl rfl, cv rfl rfl, cv rfl rfl, cv rfl rfl, trivial⟩⟩
  · replace hf := ifF h3 hf
    conv => whnf
    refine at_go ?_
    conv => whnf
    refine cut_go ?_
    conv => whnf
    refine at_sub (env' := [(4, (cI (-1)))]) (st' := ⟨(upd hp 1 (.row 0 5 T.api_Col (dataRow api_Col.d l))), 2, g⟩) (sk hB2 (fwD (fw0 wf (by rfl) (fun _ => by rfl)) rfl rfl rfl (fun _ => rfl)) (by rfl) (by rfl) ⟨cv rfl rfl, trivial⟩) ?_
    refine at_go ?_
    conv => whnf
    refine ret_now ?_
    conv => whnf
    refine at_go ?_
    conv => whnf
    refine cut_go ?_
    conv => whnf
    refine cut_go ?_
    conv => whnf
    refine at_sub (env' := [(0, (.row 1 0 0 l.length)), (1, (.fn (.func F._project_picker__not) [(.d (.sl 1 (v.Cols.map strD)))] [])), (5, (cI (-1))), (12, (cB true))]) (st' := ⟨(upd hp 1 (.row 0 5 T.api_Col (dataRow api_Col.d l))), 2, g⟩) (sk hB1 (fwD (fw0 wf (by rfl) (fun _ => by rfl)) rfl rfl rfl (fun _ => rfl)) (by rfl) (by rfl) ⟨cv rfl rfl, cv rfl rfl, cv rfl rfl, cv rfl rfl, trivial⟩) ?_
    refine at_go ?_
    conv => whnf
    refine vcT rfl ?_
    conv => whnf
    refine cut_go ?_
    conv => whnf
    refine at_go ?_
    conv => whnf
    refine ret_now ?_
    conv => whnf
    refine at_sub (env' := [(4, (.row 1 0 0 l.length))]) (st' := ⟨(upd hp 1 (.row 0 5 T.api_Col (dataRow api_Col.d l))), 2, g⟩) (sk hB (fwD (fw0 wf (by rfl) (fun _ => by rfl)) rfl rfl rfl (fun _ => rfl)) (by rfl) (by rfl) ⟨cv rfl rfl, trivial⟩) ?_
    refine at_go ?_
    conv => whnf
    obtain rfl := Option.some.inj hf
    refine ret_c hB wf (fun _ => by rfl) ?_
    exact cvz (enc := api_Col.d) (l := l) rfl (wfn wf (by rfl)) rfl rfl

noncomputable def project_of.f (v : api_View) (p : api_Part) (r : api_Row) (cols : List api_Col) : Option (api_Part × Bool) :=
  (row_Best.f r p.Gone v.On).bind fun x1 =>
  (project_Key.f p.Key r.Key).bind fun x2 =>
  if (!x1.2) = true then
    some ((⟨(bs []), 0, ([] : List api_Row)⟩ : api_Part), false)
  else
  if (decide (400 < (x2.size : Int))) = true then
    some ((⟨(bs []), 0, ([] : List api_Row)⟩ : api_Part), false)
  else
  (project_pick.f v cols).bind fun x3 =>
  some ((⟨x1.1.Val, 0, [(⟨x2, (⟨(bs []), false, x1.1.At, x1.1.End⟩ : api_Cell), 0, 0, x3⟩ : api_Row)]⟩ : api_Part), true)

set_option maxHeartbeats 4000000 in
theorem project_of.pure (v : api_View) (p : api_Part) (r : api_Row) (cols : List api_Col) (res : api_Part × Bool) (hf : project_of.f v p r cols = some res) : Pure prog F.project_of [(agd (api_View.d v)), (agd (api_Part.d p)), (agd (api_Row.d r)), (.d (.sl 5 (cols.map api_Col.d)))] (.tup [(agd (api_Part.d res.1)), (cB res.2)]) := by
  refine pure_fn project_of.res (Nat.le_of_ble_eq_true rfl) (fun _ => rfl) (fun _ => rfl) fun B hp g hB wf => ?_
  rw [project_of.f] at hf
  conv => whnf
  refine cut_go ?_
  conv => whnf
  refine at_go ?_
  conv => whnf
  refine cut_go ?_
  conv => whnf
  refine ⟨rfl, ⟨_, rfl, ?_⟩⟩
  conv => whnf
  refine ⟨⟨rfl, Nat.le_of_ble_eq_true rfl⟩, ?_⟩
  conv => whnf
  refine ⟨rfl, ⟨_, rfl, ?_⟩⟩
  conv => whnf
  refine ⟨⟨rfl, Nat.le_of_ble_eq_true rfl⟩, ?_⟩
  conv => whnf
  refine ⟨rfl, ⟨_, rfl, ?_⟩⟩
  obtain ⟨x1, h1, hf⟩ := bnd hf
  conv => whnf
  refine (row_Best.pure r p.Gone v.On x1 h1).call ?_
  conv => whnf
  refine ⟨⟨rfl, rfl⟩, ⟨_, rfl, Nat.le_of_ble_eq_true rfl, veq_intro [[(cS x1.1.Val), (cB x1.1.Dead), (cI x1.1.At), (cI x1.1.End)]] rfl ?_⟩⟩
  conv => whnf
  refine at_go ?_
  conv => whnf
  refine cut_go ?_
  conv => whnf
  refine ⟨⟨rfl, Nat.le_of_ble_eq_true rfl⟩, ?_⟩
  conv => whnf
  refine ⟨rfl, ⟨_, rfl, ?_⟩⟩
  conv => whnf
  refine ⟨⟨rfl, Nat.le_of_ble_eq_true rfl⟩, ?_⟩
  conv => whnf
  refine ⟨rfl, ⟨_, rfl, ?_⟩⟩
  obtain ⟨x2, h2, hf⟩ := bnd hf
  conv => whnf
  refine (project_Key.pure p.Key r.Key x2 h2).call ?_
  conv => whnf
  refine at_sub (env' := [(3, (.d (.sl 5 (cols.map api_Col.d)))), (4, (.ptr 0 0 0 0)), (8, (.ptr 3 0 0 0)), (10, (.ptr 4 0 0 0)), (11, (cB x1.2)), (12, (cS x2))]) (st' := ⟨(upd (upd (upd hp 0 (.row 0 5 T.api_View [[(cS v.Name), (cI v.ID), (cS v.Table), (cS v.On), (.d (.sl 1 (v.Cols.map strD)))]])) 3 (.row 0 3 T.api_Part [[(cS (bs [])), (cI 0), nilS]])) 4 (.row 0 4 T.api_Cell [[(cS x1.1.Val), (cB x1.1.Dead), (cI x1.1.At), (cI x1.1.End)]])), 5, g⟩) (sk hB (fwE (fwE (fwE (fw0 wf (by rfl) (fun _ => by rfl)) rfl rfl rfl) rfl rfl rfl) rfl rfl rfl) (by rfl) (by rfl) ⟨cv rfl rfl, cv rfl rfl, cv rfl rfl, cv rfl rfl, cv rfl rfl, cv rfl rfl, trivial⟩) ?_
  refine at_go ?_
  conv => whnf
  refine cut_go ?_
  conv => whnf
  refine cut_go ?_
  conv => whnf
  refine vcond_intro (t := !x1.2) (fun h3 => ?_) (fun h4 => ?_)
  · replace hf := ifT h3 hf
    conv => whnf
    refine vcT rfl ?_
    conv => whnf
    refine vcT rfl ?_
    conv => whnf
    refine vcT rfl ?_
    conv => whnf
    refine at_go ?_
    conv => whnf
    refine vcT rfl ?_
    conv => whnf
    refine cut_go ?_
    conv => whnf
    refine ⟨⟨rfl, rfl⟩, ⟨_, rfl, Nat.le_of_ble_eq_true rfl, veq_intro [[(cS (bs [])), (cI 0), nilS]] rfl ?_⟩⟩
    conv => whnf
    refine at_go ?_
    conv => whnf
    obtain rfl := Option.some.inj hf
    refine ret_c hB wf (fun _ => by rfl) ?_
    exact conv_tup ⟨conv_agg ⟨cv rfl rfl, cv rfl rfl, .nil, trivial⟩, cv rfl rfl, trivial⟩
  · replace hf := ifF h4 hf
    conv => whnf
    refine vcF rfl ?_
    conv => whnf
    refine vcF rfl ?_
    conv => whnf
    refine vcF rfl ?_
    conv => whnf
    refine at_go ?_
    conv => whnf
    refine vcond_intro (t := decide (400 < (x2.size : Int))) (fun h5 => ?_) (fun h6 => ?_)
    · replace hf := ifT h5 hf
      conv => whnf
      refine cut_go ?_
      conv => whnf
      refine ⟨⟨rfl, rfl⟩, ⟨_, rfl, Nat.le_of_ble_eq_true rfl, veq_intro [[(cS (bs [])), (cI 0), nilS]] rfl ?_⟩⟩
      conv => whnf
      refine at_go ?_
      conv => whnf
      obtain rfl := Option.some.inj hf
      refine ret_c hB wf (fun _ => by rfl) ?_
      exact conv_tup ⟨conv_agg ⟨cv rfl rfl, cv rfl rfl, .nil, trivial⟩, cv rfl rfl, trivial⟩
    · replace hf := ifF h6 hf
      conv => whnf
      refine at_go ?_
      conv => whnf
      refine cut_go ?_
      conv => whnf
      refine ⟨⟨rfl, Nat.le_of_ble_eq_true rfl⟩, ?_⟩
      conv => whnf
      refine ⟨rfl, ⟨_, rfl, ?_⟩⟩
      conv => whnf
      refine ⟨⟨rfl, Nat.le_of_ble_eq_true rfl⟩, ?_⟩
      conv => whnf
      refine ⟨rfl, ⟨_, rfl, ?_⟩⟩
      conv => whnf
      refine ⟨⟨rfl, Nat.le_of_ble_eq_true rfl⟩, ?_⟩
      conv => whnf
      refine ⟨rfl, ⟨_, rfl, ?_⟩⟩
      conv => whnf
      refine ⟨rfl, ⟨_, rfl, ?_⟩⟩
      obtain ⟨x3, h7, hf⟩ := bnd hf
      conv => whnf
      refine (project_pick.pure v cols x3 h7).call ?_
      conv => whnf
      refine ⟨rfl, ?_⟩
      conv => whnf
      refine ⟨rfl, ⟨_, rfl, ?_⟩⟩
      conv => whnf
      refine ⟨rfl, ?_⟩
      conv => whnf
      refine ⟨rfl, ?_⟩
      conv => whnf
      refine ⟨⟨rfl, Nat.le_of_ble_eq_true rfl⟩, ?_⟩
      conv => whnf
      refine ⟨rfl, ?_⟩
      conv => whnf
      refine ⟨rfl, ?_⟩
      conv => whnf
      refine ⟨rfl, ⟨_, rfl, ?_⟩⟩
      conv => whnf
      refine ⟨rfl, ?_⟩
      conv => whnf
      refine ⟨rfl, ?_⟩
      conv => whnf
      refine ⟨⟨rfl, Nat.le_of_ble_eq_true rfl⟩, ?_⟩
      conv => whnf
      refine ⟨rfl, ?_⟩
      conv => whnf
      refine ⟨rfl, ?_⟩
      conv => whnf
      refine ⟨rfl, ⟨_, rfl, ?_⟩⟩
      conv => whnf
      refine ⟨rfl, ?_⟩
      conv => whnf
      refine ⟨rfl, ?_⟩
      conv => whnf
      refine ⟨⟨rfl, Nat.le_of_ble_eq_true rfl⟩, ?_⟩
      conv => whnf
      refine ⟨rfl, ?_⟩
      conv => whnf
      refine veq_intro (dataRow api_Row.d [(⟨x2, (⟨(bs []), false, x1.1.At, x1.1.End⟩ : api_Cell), 0, 0, x3⟩ : api_Row)]) rfl ?_
      conv => whnf
      refine ⟨rfl, ?_⟩
      conv => whnf
      refine ⟨rfl, ⟨_, rfl, ?_⟩⟩
      conv => whnf
      refine ⟨rfl, ?_⟩
      conv => whnf
      refine ⟨rfl, ?_⟩
      conv => whnf
      refine ⟨⟨rfl, Nat.le_of_ble_eq_true rfl⟩, ?_⟩
      conv => whnf
      refine ⟨rfl, ?_⟩
      conv => whnf
      refine ⟨⟨rfl, rfl⟩, ⟨_, rfl, Nat.le_of_ble_eq_true rfl, veq_intro [[(cS x1.1.Val), (cI 0), (.row 5 0 0 1)]] rfl ?_⟩⟩
      conv => whnf
      refine at_sub (env' := [(8, (.ptr 3 0 0 0)), (9, (cB true))]) (st' := ⟨(upd (upd hp 3 (.row 0 3 T.api_Part [[(cS x1.1.Val), (cI 0), (.row 5 0 0 1)]])) 5 (.row 0 8 T.api_Row (dataRow api_Row.d [(⟨x2, (⟨(bs []), false, x1.1.At, x1.1.End⟩ : api_Cell), 0, 0, x3⟩ : api_Row)]))), 6, g⟩) (sk hB (fwD (fwE (fw0 wf (by rfl) (fun _ => by rfl)) rfl rfl rfl) rfl rfl rfl (fun _ => rfl)) (by rfl) (by rfl) ⟨cv rfl rfl, cv rfl rfl, trivial⟩) ?_
      refine at_go ?_
      conv => whnf
      obtain rfl := Option.some.inj hf
      refine ret_c hB wf (fun _ => by rfl) ?_
      exact conv_tup ⟨conv_agg ⟨cv rfl rfl, cv rfl rfl, cvz (enc := api_Row.d) (l := [(⟨x2, (⟨(bs []), false, x1.1.At, x1.1.End⟩ : api_Cell), 0, 0, x3⟩ : api_Row)]) rfl (wfn wf (by rfl)) rfl rfl, trivial⟩, cv rfl rfl, trivial⟩

noncomputable def project_Mirror.f (t : api_Table) (v : api_View) (p : api_Part) (r : api_Row) : Option (api_Part × Bool) :=
  (row_Best.f r p.Gone v.On).bind fun x1 =>
  (project_Key.f p.Key r.Key).bind fun x2 =>
  if (!x1.2) = true then
    some ((⟨(bs []), 0, ([] : List api_Row)⟩ : api_Part), false)
  else
  if (decide (400 < (x2.size : Int))) = true then
    some ((⟨(bs []), 0, ([] : List api_Row)⟩ : api_Part), false)
  else
  (project_pick.f v r.Cols).bind fun x3 =>
  (row_Gone.f r p.Gone).bind fun x4 =>
  (at? [(⟨x2, (⟨(bs []), false, x1.1.At, x1.1.End⟩ : api_Cell), 0, 0, x3⟩ : api_Row)] 0).bind fun x5 =>
  some ((⟨x1.1.Val, 0, (([(⟨x2, (⟨(bs []), false, x1.1.At, x1.1.End⟩ : api_Cell), 0, 0, x3⟩ : api_Row)].set 0 (⟨x5.Key, x5.Live, x4, x5.Shade, x5.Cols⟩ : api_Row)).drop 0).take 1⟩ : api_Part), true)

set_option maxHeartbeats 4000000 in
theorem project_Mirror.pure (t : api_Table) (v : api_View) (p : api_Part) (r : api_Row) (res : api_Part × Bool) (hf : project_Mirror.f t v p r = some res) : Pure prog F.project_Mirror [(agd (api_Table.d t)), (agd (api_View.d v)), (agd (api_Part.d p)), (agd (api_Row.d r))] (.tup [(agd (api_Part.d res.1)), (cB res.2)]) := by
  refine pure_fn project_Mirror.res (Nat.le_of_ble_eq_true rfl) (fun _ => rfl) (fun _ => rfl) fun B hp g hB wf => ?_
  rw [project_Mirror.f] at hf
  conv => whnf
  refine cut_go ?_
  conv => whnf
  refine at_go ?_
  conv => whnf
  refine cut_go ?_
  conv => whnf
  refine ⟨rfl, ⟨_, rfl, ?_⟩⟩
  conv => whnf
  refine ⟨rfl, ⟨_, rfl, ?_⟩⟩
  conv => whnf
  refine ⟨rfl, ⟨_, rfl, ?_⟩⟩
  conv => whnf
  refine ⟨⟨rfl, Nat.le_of_ble_eq_true rfl⟩, ?_⟩
  conv => whnf
  refine ⟨rfl, ⟨_, rfl, ?_⟩⟩
  conv => whnf
  refine inline_fn project_of.res (Nat.le_of_ble_eq_true rfl) (fun B1 hB1 => ?_)
  conv => whnf
  refine cut_go ?_
  conv => whnf
  refine at_go ?_
  conv => whnf
  refine cut_go ?_
  conv => whnf
  refine ⟨rfl, ⟨_, rfl, ?_⟩⟩
  conv => whnf
  refine ⟨⟨rfl, Nat.le_of_ble_eq_true rfl⟩, ?_⟩
  conv => whnf
  refine ⟨rfl, ⟨_, rfl, ?_⟩⟩
  conv => whnf
  refine ⟨⟨rfl, Nat.le_of_ble_eq_true rfl⟩, ?_⟩
  conv => whnf
  refine ⟨rfl, ⟨_, rfl, ?_⟩⟩
  obtain ⟨x1, h1, hf⟩ := bnd hf
  conv => whnf
  refine (row_Best.pure r p.Gone v.On x1 h1).call ?_
  conv => whnf
  refine ⟨⟨rfl, rfl⟩, ⟨_, rfl, Nat.le_of_ble_eq_true rfl, veq_intro [[(cS x1.1.Val), (cB x1.1.Dead), (cI x1.1.At), (cI x1.1.End)]] rfl ?_⟩⟩
  conv => whnf
  refine at_go ?_
  conv => whnf
  refine cut_go ?_
  conv => whnf
  refine ⟨⟨rfl, Nat.le_of_ble_eq_true rfl⟩, ?_⟩
  conv => whnf
  refine ⟨rfl, ⟨_, rfl, ?_⟩⟩
  conv => whnf
  refine ⟨⟨rfl, Nat.le_of_ble_eq_true rfl⟩, ?_⟩
  conv => whnf
  refine ⟨rfl, ⟨_, rfl, ?_⟩⟩
  obtain ⟨x2, h2, hf⟩ := bnd hf
  conv => whnf
  refine (project_Key.pure p.Key r.Key x2 h2).call ?_
  conv => whnf
  refine at_sub (env' := [(3, (.d (.sl 5 (r.Cols.map api_Col.d)))), (4, (.ptr 5 0 0 0)), (8, (.ptr 8 0 0 0)), (10, (.ptr 9 0 0 0)), (11, (cB x1.2)), (12, (cS x2))]) (st' := ⟨(upd (upd (upd (upd (upd (upd (upd hp 1 (.row 0 5 T.api_View [[(cS v.Name), (cI v.ID), (cS v.Table), (cS v.On), (.d (.sl 1 (v.Cols.map strD)))]])) 2 (.row 0 3 T.api_Part [[(cS p.Key), (cI p.Gone), (.d (.sl 8 (p.Rows.map api_Row.d)))]])) 3 (.row 0 8 T.api_Row [[(cS r.Key), (cS r.Live.Val), (cB r.Live.Dead), (cI r.Live.At), (cI r.Live.End), (cI r.Gone), (cI r.Shade), (.d (.sl 5 (r.Cols.map api_Col.d)))]])) 4 (.row 0 3 T.api_Part [[(cS (bs [])), (cI 0), nilS]])) 5 (.row 0 5 T.api_View [[(cS v.Name), (cI v.ID), (cS v.Table), (cS v.On), (.d (.sl 1 (v.Cols.map strD)))]])) 8 (.row 0 3 T.api_Part [[(cS (bs [])), (cI 0), nilS]])) 9 (.row 0 4 T.api_Cell [[(cS x1.1.Val), (cB x1.1.Dead), (cI x1.1.At), (cI x1.1.End)]])), 10, g⟩) (sk hB1 (fwE (fwE (fwE (fwE (fwE (fwE (fwE (fw0 wf (by rfl) (fun _ => by rfl)) rfl rfl rfl) rfl rfl rfl) rfl rfl rfl) rfl rfl rfl) rfl rfl rfl) rfl rfl rfl) rfl rfl rfl) (by rfl) (by rfl) ⟨cv rfl rfl, cv rfl rfl, cv rfl rfl, cv rfl rfl, cv rfl rfl, cv rfl rfl, trivial⟩) ?_
  refine at_go ?_
  conv => whnf
  refine cut_go ?_
  conv => whnf
  refine cut_go ?_
  conv => whnf
  refine vcond_intro (t := !x1.2) (fun h3 => ?_) (fun h4 => ?_)
  · replace hf := ifT h3 hf
    conv => whnf
    refine vcT rfl ?_
    conv => whnf
    refine vcT rfl ?_
    conv => whnf
    refine vcT rfl ?_
    conv => whnf
    refine at_go ?_
    conv => whnf
    refine vcT rfl ?_
    conv => whnf
    refine cut_go ?_
    conv => whnf
    refine ⟨⟨rfl, rfl⟩, ⟨_, rfl, Nat.le_of_ble_eq_true rfl, veq_intro [[(cS (bs [])), (cI 0), nilS]] rfl ?_⟩⟩
    conv => whnf
    refine at_go ?_
    conv => whnf
    refine ret_now ?_
    conv => whnf
    refine ⟨⟨rfl, rfl⟩, ⟨_, rfl, Nat.le_of_ble_eq_true rfl, veq_intro [[(cS (bs [])), (cI 0), nilS]] rfl ?_⟩⟩
    conv => whnf
    refine at_go ?_
    conv => whnf
    refine cut_go ?_
    conv => whnf
    refine cut_go ?_
    conv => whnf
    refine at_sub (env' := [(6, (.ptr 2 0 0 0)), (7, (.ptr 3 0 0 0)), (8, (.ptr 4 0 0 0)), (10, (.ptr 10 0 0 0)), (22, (cB true))]) (st' := ⟨(upd (upd (upd (upd hp 2 (.row 0 3 T.api_Part [[(cS p.Key), (cI p.Gone), (.d (.sl 8 (p.Rows.map api_Row.d)))]])) 3 (.row 0 8 T.api_Row [[(cS r.Key), (cS r.Live.Val), (cB r.Live.Dead), (cI r.Live.At), (cI r.Live.End), (cI r.Gone), (cI r.Shade), (.d (.sl 5 (r.Cols.map api_Col.d)))]])) 4 (.row 0 3 T.api_Part [[(cS (bs [])), (cI 0), nilS]])) 10 (.row 0 3 T.api_Part [[(cS (bs [])), (cI 0), nilS]])), 11, g⟩) (sk hB (fwE (fwE (fwE (fwE (fw0 wf (by rfl) (fun _ => by rfl)) rfl rfl rfl) rfl rfl rfl) rfl rfl rfl) rfl rfl rfl) (by rfl) (by rfl) ⟨cv rfl rfl, cv rfl rfl, cv rfl rfl, cv rfl rfl, cv rfl rfl, trivial⟩) ?_
    refine at_go ?_
    conv => whnf
    refine vcT rfl ?_
    conv => whnf
    refine cut_go ?_
    conv => whnf
    refine ⟨⟨rfl, rfl⟩, ⟨_, rfl, Nat.le_of_ble_eq_true rfl, veq_intro [[(cS (bs [])), (cI 0), nilS]] rfl ?_⟩⟩
    conv => whnf
    refine at_go ?_
    conv => whnf
    obtain rfl := Option.some.inj hf
    refine ret_c hB wf (fun _ => by rfl) ?_
    exact conv_tup ⟨conv_agg ⟨cv rfl rfl, cv rfl rfl, .nil, trivial⟩, cv rfl rfl, trivial⟩
  · replace hf := ifF h4 hf
    conv => whnf
    refine vcF rfl ?_
    conv => whnf
    refine vcF rfl ?_
    conv => whnf
    refine vcF rfl ?_
    conv => whnf
    refine at_go ?_
    conv => whnf
    refine vcond_intro (t := decide (400 < (x2.size : Int))) (fun h5 => ?_) (fun h6 => ?_)
    · replace hf := ifT h5 hf
      conv => whnf
      refine cut_go ?_
      conv => whnf
      refine ⟨⟨rfl, rfl⟩, ⟨_, rfl, Nat.le_of_ble_eq_true rfl, veq_intro [[(cS (bs [])), (cI 0), nilS]] rfl ?_⟩⟩
      conv => whnf
      refine at_go ?_
      conv => whnf
      refine ret_now ?_
      conv => whnf
      refine ⟨⟨rfl, rfl⟩, ⟨_, rfl, Nat.le_of_ble_eq_true rfl, veq_intro [[(cS (bs [])), (cI 0), nilS]] rfl ?_⟩⟩
      conv => whnf
      refine at_go ?_
      conv => whnf
      refine cut_go ?_
      conv => whnf
      refine cut_go ?_
      conv => whnf
      refine at_sub (env' := [(6, (.ptr 2 0 0 0)), (7, (.ptr 3 0 0 0)), (8, (.ptr 4 0 0 0)), (10, (.ptr 10 0 0 0)), (22, (cB true))]) (st' := ⟨(upd (upd (upd (upd hp 2 (.row 0 3 T.api_Part [[(cS p.Key), (cI p.Gone), (.d (.sl 8 (p.Rows.map api_Row.d)))]])) 3 (.row 0 8 T.api_Row [[(cS r.Key), (cS r.Live.Val), (cB r.Live.Dead), (cI r.Live.At), (cI r.Live.End), (cI r.Gone), (cI r.Shade), (.d (.sl 5 (r.Cols.map api_Col.d)))]])) 4 (.row 0 3 T.api_Part [[(cS (bs [])), (cI 0), nilS]])) 10 (.row 0 3 T.api_Part [[(cS (bs [])), (cI 0), nilS]])), 11, g⟩) (sk hB (fwE (fwE (fwE (fwE (fw0 wf (by rfl) (fun _ => by rfl)) rfl rfl rfl) rfl rfl rfl) rfl rfl rfl) rfl rfl rfl) (by rfl) (by rfl) ⟨cv rfl rfl, cv rfl rfl, cv rfl rfl, cv rfl rfl, cv rfl rfl, trivial⟩) ?_
      refine at_go ?_
      conv => whnf
      refine vcT rfl ?_
      conv => whnf
      refine cut_go ?_
      conv => whnf
      refine ⟨⟨rfl, rfl⟩, ⟨_, rfl, Nat.le_of_ble_eq_true rfl, veq_intro [[(cS (bs [])), (cI 0), nilS]] rfl ?_⟩⟩
      conv => whnf
      refine at_go ?_
      conv => whnf
      obtain rfl := Option.some.inj hf
      refine ret_c hB wf (fun _ => by rfl) ?_
      exact conv_tup ⟨conv_agg ⟨cv rfl rfl, cv rfl rfl, .nil, trivial⟩, cv rfl rfl, trivial⟩
    · replace hf := ifF h6 hf
      conv => whnf
      refine at_go ?_
      conv => whnf
      refine cut_go ?_
      conv => whnf
      refine ⟨⟨rfl, Nat.le_of_ble_eq_true rfl⟩, ?_⟩
      conv => whnf
      refine ⟨rfl, ⟨_, rfl, ?_⟩⟩
      conv => whnf
      refine ⟨⟨rfl, Nat.le_of_ble_eq_true rfl⟩, ?_⟩
      conv => whnf
      refine ⟨rfl, ⟨_, rfl, ?_⟩⟩
      conv => whnf
      refine ⟨⟨rfl, Nat.le_of_ble_eq_true rfl⟩, ?_⟩
      conv => whnf
      refine ⟨rfl, ⟨_, rfl, ?_⟩⟩
      conv => whnf
      refine ⟨rfl, ⟨_, rfl, ?_⟩⟩
      obtain ⟨x3, h7, hf⟩ := bnd hf
      conv => whnf
      refine (project_pick.pure v r.Cols x3 h7).call ?_
      conv => whnf
      refine ⟨rfl, ?_⟩
      conv => whnf
      refine ⟨rfl, ⟨_, rfl, ?_⟩⟩
      conv => whnf
      refine ⟨rfl, ?_⟩
      conv => whnf
      refine ⟨rfl, ?_⟩
      conv => whnf
      refine ⟨⟨rfl, Nat.le_of_ble_eq_true rfl⟩, ?_⟩
      conv => whnf
      refine ⟨rfl, ?_⟩
      conv => whnf
      refine ⟨rfl, ?_⟩
      conv => whnf
      refine ⟨rfl, ⟨_, rfl, ?_⟩⟩
      conv => whnf
      refine ⟨rfl, ?_⟩
      conv => whnf
      refine ⟨rfl, ?_⟩
      conv => whnf
      refine ⟨⟨rfl, Nat.le_of_ble_eq_true rfl⟩, ?_⟩
      conv => whnf
      refine ⟨rfl, ?_⟩
      conv => whnf
      refine ⟨rfl, ?_⟩
      conv => whnf
      refine ⟨rfl, ⟨_, rfl, ?_⟩⟩
      conv => whnf
      refine ⟨rfl, ?_⟩
      conv => whnf
      refine ⟨rfl, ?_⟩
      conv => whnf
      refine ⟨⟨rfl, Nat.le_of_ble_eq_true rfl⟩, ?_⟩
      conv => whnf
      refine ⟨rfl, ?_⟩
      conv => whnf
      refine veq_intro (dataRow api_Row.d [(⟨x2, (⟨(bs []), false, x1.1.At, x1.1.End⟩ : api_Cell), 0, 0, x3⟩ : api_Row)]) rfl ?_
      conv => whnf
      refine ⟨rfl, ?_⟩
      conv => whnf
      refine ⟨rfl, ⟨_, rfl, ?_⟩⟩
      conv => whnf
      refine ⟨rfl, ?_⟩
      conv => whnf
      refine ⟨rfl, ?_⟩
      conv => whnf
      refine ⟨⟨rfl, Nat.le_of_ble_eq_true rfl⟩, ?_⟩
      conv => whnf
      refine ⟨rfl, ?_⟩
      conv => whnf
      refine ⟨⟨rfl, rfl⟩, ⟨_, rfl, Nat.le_of_ble_eq_true rfl, veq_intro [[(cS x1.1.Val), (cI 0), (.row 10 0 0 1)]] rfl ?_⟩⟩
      conv => whnf
      refine at_sub (env' := [(8, (.ptr 8 0 0 0)), (9, (cB true))]) (st' := ⟨(upd (upd (upd (upd (upd (upd hp 1 (.row 0 5 T.api_View [[(cS v.Name), (cI v.ID), (cS v.Table), (cS v.On), (.d (.sl 1 (v.Cols.map strD)))]])) 2 (.row 0 3 T.api_Part [[(cS p.Key), (cI p.Gone), (.d (.sl 8 (p.Rows.map api_Row.d)))]])) 3 (.row 0 8 T.api_Row [[(cS r.Key), (cS r.Live.Val), (cB r.Live.Dead), (cI r.Live.At), (cI r.Live.End), (cI r.Gone), (cI r.Shade), (.d (.sl 5 (r.Cols.map api_Col.d)))]])) 4 (.row 0 3 T.api_Part [[(cS (bs [])), (cI 0), nilS]])) 8 (.row 0 3 T.api_Part [[(cS x1.1.Val), (cI 0), (.row 10 0 0 1)]])) 10 (.row 0 8 T.api_Row (dataRow api_Row.d [(⟨x2, (⟨(bs []), false, x1.1.At, x1.1.End⟩ : api_Cell), 0, 0, x3⟩ : api_Row)]))), 11, g⟩) (sk hB1 (fwD (fwE (fwE (fwE (fwE (fwE (fw0 wf (by rfl) (fun _ => by rfl)) rfl rfl rfl) rfl rfl rfl) rfl rfl rfl) rfl rfl rfl) rfl rfl rfl) rfl rfl rfl (fun _ => rfl)) (by rfl) (by rfl) ⟨cv rfl rfl, cv rfl rfl, trivial⟩) ?_
      refine at_go ?_
      conv => whnf
      refine ret_now ?_
      conv => whnf
      refine ⟨⟨rfl, rfl⟩, ⟨_, rfl, Nat.le_of_ble_eq_true rfl, veq_intro [[(cS x1.1.Val), (cI 0), (.row 10 0 0 1)]] rfl ?_⟩⟩
      conv => whnf
      refine at_go ?_
      conv => whnf
      refine cut_go ?_
      conv => whnf
      refine cut_go ?_
      conv => whnf
      refine at_sub (env' := [(6, (.ptr 2 0 0 0)), (7, (.ptr 3 0 0 0)), (8, (.ptr 4 0 0 0)), (10, (.ptr 11 0 0 0)), (22, (cB false))]) (st' := ⟨(upd (upd (upd (upd (upd hp 2 (.row 0 3 T.api_Part [[(cS p.Key), (cI p.Gone), (.d (.sl 8 (p.Rows.map api_Row.d)))]])) 3 (.row 0 8 T.api_Row [[(cS r.Key), (cS r.Live.Val), (cB r.Live.Dead), (cI r.Live.At), (cI r.Live.End), (cI r.Gone), (cI r.Shade), (.d (.sl 5 (r.Cols.map api_Col.d)))]])) 4 (.row 0 3 T.api_Part [[(cS (bs [])), (cI 0), nilS]])) 10 (.row 0 8 T.api_Row (dataRow api_Row.d [(⟨x2, (⟨(bs []), false, x1.1.At, x1.1.End⟩ : api_Cell), 0, 0, x3⟩ : api_Row)]))) 11 (.row 0 3 T.api_Part [[(cS x1.1.Val), (cI 0), (.row 10 0 0 1)]])), 12, g⟩) (sk hB (fwE (fwD (fwE (fwE (fwE (fw0 wf (by rfl) (fun _ => by rfl)) rfl rfl rfl) rfl rfl rfl) rfl rfl rfl) rfl rfl rfl (fun _ => rfl)) rfl rfl rfl) (by rfl) (by rfl) ⟨cv rfl rfl, cv rfl rfl, cv rfl rfl, cv rfl rfl, cv rfl rfl, trivial⟩) ?_
      refine at_go ?_
      conv => whnf
      refine vcF rfl ?_
      conv => whnf
      refine at_go ?_
      conv => whnf
      refine cut_go ?_
      conv => whnf
      refine ⟨⟨rfl, Nat.le_of_ble_eq_true rfl⟩, ?_⟩
      conv => whnf
      refine ⟨rfl, ⟨_, rfl, ?_⟩⟩
      conv => whnf
      refine ⟨rfl, ⟨_, rfl, ?_⟩⟩
      conv => whnf
      refine ⟨⟨rfl, Nat.le_of_ble_eq_true rfl⟩, ?_⟩
      conv => whnf
      refine ⟨rfl, ⟨_, rfl, ?_⟩⟩
      obtain ⟨x4, h8, hf⟩ := bnd hf
      conv => whnf
      refine (row_Gone.pure r p.Gone x4 h8).call ?_
      conv => whnf
      refine ⟨rfl, ?_⟩
      conv => whnf
      refine ⟨rfl, ⟨_, rfl, ?_⟩⟩
      conv => whnf
      refine ⟨rfl, ?_⟩
      conv => whnf
      refine ⟨rfl, ?_⟩
      conv => whnf
      refine ⟨⟨rfl, Nat.le_of_ble_eq_true rfl⟩, ?_⟩
      conv => whnf
      refine ⟨rfl, ?_⟩
      conv => whnf
      refine ⟨⟨rfl, rfl⟩, (by decide), veq_intro 0 (Nat.zero_add _) ?_⟩
      conv => whnf
      refine ⟨⟨rfl, Nat.le_of_ble_eq_true rfl⟩, ?_⟩
      obtain ⟨x5, h9, hf⟩ := bnd hf
      conv => whnf
      refine ⟨⟨rfl, rfl⟩, ⟨_, row_get (at_get h9), Nat.le_of_ble_eq_true rfl, veq_intro (dataRow api_Row.d ([(⟨x2, (⟨(bs []), false, x1.1.At, x1.1.End⟩ : api_Cell), 0, 0, x3⟩ : api_Row)].set 0 (⟨x5.Key, x5.Live, x4, x5.Shade, x5.Cols⟩ : api_Row))) (row_set rfl) ?_⟩⟩
      conv => whnf
      refine at_go ?_
      conv => whnf
      refine cut_go ?_
      conv => whnf
      refine ⟨rfl, ⟨_, rfl, ?_⟩⟩
      conv => whnf
      refine ⟨⟨rfl, rfl⟩, ⟨_, rfl, Nat.le_of_ble_eq_true rfl, veq_intro [[(cS x1.1.Val), (cI 0), (.row 10 0 0 1)]] rfl ?_⟩⟩
      conv => whnf
      refine at_sub (env' := [(8, (.ptr 4 0 0 0)), (9, (cB true))]) (st' := ⟨(upd (upd hp 4 (.row 0 3 T.api_Part [[(cS x1.1.Val), (cI 0), (.row 10 0 0 1)]])) 10 (.row 0 8 T.api_Row (dataRow api_Row.d ([(⟨x2, (⟨(bs []), false, x1.1.At, x1.1.End⟩ : api_Cell), 0, 0, x3⟩ : api_Row)].set 0 (⟨x5.Key, x5.Live, x4, x5.Shade, x5.Cols⟩ : api_Row))))), 11, g⟩) (sk hB (fwD (fwE (fw0 wf (by rfl) (fun _ => by rfl)) rfl rfl rfl) rfl rfl rfl (fun _ => rfl)) (by rfl) (by rfl) ⟨cv rfl rfl, cv rfl rfl, trivial⟩) ?_
      refine at_go ?_
      conv => whnf
      obtain rfl := Option.some.inj hf
      refine ret_c hB wf (fun _ => by rfl) ?_
      exact conv_tup ⟨conv_agg ⟨cv rfl rfl, cv rfl rfl, cvy (enc := api_Row.d) (l := ([(⟨x2, (⟨(bs []), false, x1.1.At, x1.1.End⟩ : api_Cell), 0, 0, x3⟩ : api_Row)].set 0 (⟨x5.Key, x5.Live, x4, x5.Shade, x5.Cols⟩ : api_Row))) rfl (wfn wf (by rfl)) rfl rfl, trivial⟩, cv rfl rfl, trivial⟩

noncomputable def clerestorylaw18_awake.f : Option (Bool) :=
  (clerestorylaw00_View.f).bind fun x1 =>
  (project_Mirror.f x1.1 x1.2 (⟨(bs [109]), 0, ([] : List api_Row)⟩ : api_Part) (⟨(bs [107]), (⟨(bs []), false, 0, 0⟩ : api_Cell), 0, 0, ([] : List api_Col)⟩ : api_Row)).bind fun x2 =>
  (project_Key.f (bs [120]) (bs [121])).bind fun x3 =>
  (project_Split.f x3).bind fun x4 =>
  if (!x2.2) = true then
    if (seq x4.1 (bs [120])) = true then
      if (seq x4.2.1 (bs [121])) = true then
        some x4.2.2
      else
      some false
    else
    some false
  else
  some false

set_option maxHeartbeats 4000000 in
theorem clerestorylaw18_awake.pure (res : Bool) (hf : clerestorylaw18_awake.f = some res) : Pure prog F.clerestorylaw18_awake [] (cB res) := by
  refine pure_fn clerestorylaw18_awake.res (Nat.le_of_ble_eq_true rfl) (fun _ => rfl) (fun _ => rfl) fun B hp g hB wf => ?_
  rw [clerestorylaw18_awake.f] at hf
  conv => whnf
  refine cut_go ?_
  conv => whnf
  refine at_go ?_
  conv => whnf
  refine cut_go ?_
  obtain ⟨x1, h1, hf⟩ := bnd hf
  conv => whnf
  refine (clerestorylaw00_View.pure x1 h1).call ?_
  conv => whnf
  refine ⟨⟨rfl, rfl⟩, ⟨_, rfl, Nat.le_of_ble_eq_true rfl, veq_intro [[(cS x1.1.Name), (cI x1.1.ID), (cS x1.1.Part.Name), (cI x1.1.Part.Type_), (cS x1.1.Clus.Name), (cI x1.1.Clus.Type_), (.d (.sl 2 (x1.1.Cols.map api_Column.d)))]] rfl ?_⟩⟩
  conv => whnf
  refine ⟨⟨rfl, rfl⟩, ⟨_, rfl, Nat.le_of_ble_eq_true rfl, veq_intro [[(cS x1.2.Name), (cI x1.2.ID), (cS x1.2.Table), (cS x1.2.On), (.d (.sl 1 (x1.2.Cols.map strD)))]] rfl ?_⟩⟩
  conv => whnf
  refine at_go ?_
  conv => whnf
  refine cut_go ?_
  conv => whnf
  refine ⟨rfl, ⟨_, rfl, ?_⟩⟩
  conv => whnf
  refine ⟨rfl, ⟨_, rfl, ?_⟩⟩
  obtain ⟨x2, h2, hf⟩ := bnd hf
  conv => whnf
  refine (project_Mirror.pure x1.1 x1.2 (⟨(bs [109]), 0, ([] : List api_Row)⟩ : api_Part) (⟨(bs [107]), (⟨(bs []), false, 0, 0⟩ : api_Cell), 0, 0, ([] : List api_Col)⟩ : api_Row) x2 h2).callc ⟨cv rfl rfl, cv rfl rfl, conv_agg ⟨cv rfl rfl, cv rfl rfl, .nil, trivial⟩, conv_agg ⟨cv rfl rfl, cv rfl rfl, cv rfl rfl, cv rfl rfl, cv rfl rfl, cv rfl rfl, cv rfl rfl, .nil, trivial⟩, trivial⟩ ?_
  conv => whnf
  refine ⟨⟨rfl, rfl⟩, ⟨_, rfl, Nat.le_of_ble_eq_true rfl, veq_intro [[(cS x2.1.Key), (cI x2.1.Gone), (.d (.sl 8 (x2.1.Rows.map api_Row.d)))]] rfl ?_⟩⟩
  conv => whnf
  refine at_sub (env' := [(4, (cB x2.2))]) (st' := ⟨hp, 0, g⟩) (sk hB (fw0 wf (by rfl) (fun _ => by rfl)) (by rfl) (by rfl) ⟨cv rfl rfl, trivial⟩) ?_
  refine at_go ?_
  conv => whnf
  refine cut_go ?_
  obtain ⟨x3, h3, hf⟩ := bnd hf
  conv => whnf
  refine (project_Key.pure (bs [120]) (bs [121]) x3 h3).call ?_
  obtain ⟨x4, h4, hf⟩ := bnd hf
  conv => whnf
  refine (project_Split.pure x3 x4 h4).call ?_
  conv => whnf
  refine at_go ?_
  conv => whnf
  refine cut_go ?_
  conv => whnf
  refine vcond_intro (t := !x2.2) (fun h5 => ?_) (fun h6 => ?_)
  · replace hf := ifT h5 hf
    conv => whnf
    refine vcT rfl ?_
    conv => whnf
    refine vcT rfl ?_
    conv => whnf
    refine vcond_intro (t := seq x4.1 (bs [120])) (fun h7 => ?_) (fun h8 => ?_)
    · replace hf := ifT h7 hf
      conv => whnf
      refine vcT rfl ?_
      conv => whnf
      refine vcT rfl ?_
      conv => whnf
      refine vcond_intro (t := seq x4.2.1 (bs [121])) (fun h9 => ?_) (fun h10 => ?_)
      · replace hf := ifT h9 hf
        conv => whnf
        refine vcT rfl ?_
        conv => whnf
        refine at_go ?_
        conv => whnf
        obtain rfl := Option.some.inj hf
        refine ret_c hB wf (fun _ => by rfl) ?_
        exact cv rfl rfl
      · replace hf := ifF h10 hf
        conv => whnf
        refine vcF rfl ?_
        conv => whnf
        refine at_go ?_
        conv => whnf
        obtain rfl := Option.some.inj hf
        refine ret_c hB wf (fun _ => by rfl) ?_
        exact cv rfl rfl
    · replace hf := ifF h8 hf
      conv => whnf
      refine vcF rfl ?_
      conv => whnf
      refine vcF rfl ?_
      conv => whnf
      refine vcF rfl ?_
      conv => whnf
      refine vcF rfl ?_
      conv => whnf
      refine at_go ?_
      conv => whnf
      obtain rfl := Option.some.inj hf
      refine ret_c hB wf (fun _ => by rfl) ?_
      exact cv rfl rfl
  · replace hf := ifF h6 hf
    conv => whnf
    refine vcF rfl ?_
    conv => whnf
    refine vcF rfl ?_
    conv => whnf
    refine vcF rfl ?_
    conv => whnf
    refine vcF rfl ?_
    conv => whnf
    refine vcF rfl ?_
    conv => whnf
    refine vcF rfl ?_
    conv => whnf
    refine vcF rfl ?_
    conv => whnf
    refine at_go ?_
    conv => whnf
    obtain rfl := Option.some.inj hf
    refine ret_c hB wf (fun _ => by rfl) ?_
    exact cv rfl rfl

noncomputable def clerestoryref02_GetText.w0 (s_ : ByteArray) : Nat → ByteArray → Int → Option (ByteArray × Int × Int)
  | 0, _, _ => none
  | k0 + 1, v1, v2 =>
    if (decide (v2 < (s_.size : Int))) = true then
      (at? s_.data.toList v2).bind fun x3 =>
      if (decide ((x3.toNat : Int) ≠ 0)) = true then
        if 0 ≤ (IntKind.i64.wrap (v2 + 1)) ∧ (IntKind.i64.wrap (v2 + 1)) ≤ ((s_.size : Nat) : Int) then
        if 0 ≤ v2 ∧ v2 ≤ (((IntKind.i64.wrap (v2 + 1)).toNat : Nat) : Int) then
        if v1.size + (s_.extract v2.toNat ((IntKind.i64.wrap (v2 + 1)).toNat)).size ≤ 9223372036854775807 then
        clerestoryref02_GetText.w0 s_ k0 (v1 ++ (s_.extract v2.toNat ((IntKind.i64.wrap (v2 + 1)).toNat))) (IntKind.i64.wrap (v2 + 1))
        else none
        else none
        else none
      else
      if (decide ((s_.size : Int) ≤ (IntKind.i64.wrap (v2 + 1)))) = true then
        some ((bs []), 0, 8)
      else
      (at? s_.data.toList (IntKind.i64.wrap (v2 + 1))).bind fun x4 =>
      if (decide ((x4.toNat : Int) = 1)) = true then
        some (v1, IntKind.i64.wrap ((IntKind.i64.wrap (v2 + 1)) + 1), 0)
      else
      if (decide ((x4.toNat : Int) ≠ 255)) = true then
        some ((bs []), 0, 6)
      else
      if v1.size + (bs [0]).size ≤ 9223372036854775807 then
      clerestoryref02_GetText.w0 s_ k0 (v1 ++ (bs [0])) (IntKind.i64.wrap ((IntKind.i64.wrap (v2 + 1)) + 1))
      else none
    else
    some ((bs []), 0, 8)

noncomputable def clerestoryref02_GetText.f (s_ : ByteArray) (at_ : Int) : Option (ByteArray × Int × Int) :=
  if (decide (at_ < 0)) = true then
    some ((bs []), 0, 1)
  else
  if (decide ((s_.size : Int) < at_)) = true then
    some ((bs []), 0, 1)
  else
  clerestoryref02_GetText.w0 s_ K0 (bs []) at_

set_option maxHeartbeats 4000000 in
theorem clerestoryref02_GetText.pure (s_ : ByteArray) (at_ : Int) (res : ByteArray × Int × Int) (hf : clerestoryref02_GetText.f s_ at_ = some res) : Pure prog F.clerestoryref02_GetText [(cS s_), (cI at_)] (.tup [(cS res.1), (cI res.2.1), (cI res.2.2)]) := by
  refine pure_fn clerestoryref02_GetText.res (Nat.le_of_ble_eq_true rfl) (fun _ => rfl) (fun _ => rfl) fun B hp g hB wf => ?_
  rw [clerestoryref02_GetText.f] at hf
  conv => whnf
  refine cut_go ?_
  conv => whnf
  refine at_go ?_
  conv => whnf
  refine cut_go ?_
  conv => whnf
  refine cut_go ?_
  conv => whnf
  refine vcond_intro (t := decide (at_ < 0)) (fun h1 => ?_) (fun h2 => ?_)
  · replace hf := ifT h1 hf
    conv => whnf
    refine vcT rfl ?_
    conv => whnf
    refine vcT rfl ?_
    conv => whnf
    refine vcT rfl ?_
    conv => whnf
    refine vcT rfl ?_
    conv => whnf
    refine at_go ?_
    conv => whnf
    refine vcT rfl ?_
    conv => whnf
    refine cut_go ?_
    conv => whnf
    refine at_sub (env' := [(4, (cS (bs []))), (5, (cI 0)), (6, (cI 1))]) (st' := ⟨hp, 0, g⟩) (sk hB (fw0 wf (by rfl) (fun _ => by rfl)) (by rfl) (by rfl) ⟨cv rfl rfl, cv rfl rfl, cv rfl rfl, trivial⟩) ?_
    refine at_go ?_
    conv => whnf
    obtain rfl := Option.some.inj hf
    refine ret_c hB wf (fun _ => by rfl) ?_
    exact cv rfl rfl
  · replace hf := ifF h2 hf
    conv => whnf
    refine vcF rfl ?_
    conv => whnf
    refine vcF rfl ?_
    conv => whnf
    refine vcF rfl ?_
    conv => whnf
    refine vcF rfl ?_
    conv => whnf
    refine at_go ?_
    conv => whnf
    refine vcond_intro (t := decide ((s_.size : Int) < at_)) (fun h3 => ?_) (fun h4 => ?_)
    · replace hf := ifT h3 hf
      conv => whnf
      refine cut_go ?_
      conv => whnf
      refine at_sub (env' := [(4, (cS (bs []))), (5, (cI 0)), (6, (cI 1))]) (st' := ⟨hp, 0, g⟩) (sk hB (fw0 wf (by rfl) (fun _ => by rfl)) (by rfl) (by rfl) ⟨cv rfl rfl, cv rfl rfl, cv rfl rfl, trivial⟩) ?_
      refine at_go ?_
      conv => whnf
      obtain rfl := Option.some.inj hf
      refine ret_c hB wf (fun _ => by rfl) ?_
      exact cv rfl rfl
    · replace hf := ifF h4 hf
      conv => whnf
      refine at_sub (env' := [(0, (cS s_)), (1, (cI at_)), (16, (cB (decide ((s_.size : Int) < at_))))]) (st' := ⟨hp, 0, g⟩) (sk hB (fw0 wf (by rfl) (fun _ => by rfl)) (by rfl) (by rfl) ⟨cv rfl rfl, cv rfl rfl, cv rfl rfl, trivial⟩) ?_
      refine at_go ?_
      conv => whnf
      refine cut_go ?_
      conv => whnf
      refine at_go ?_
      conv => whnf
      refine cut_go ?_
      conv => whnf
      refine cut_go ?_
      conv => whnf
      refine at_go ?_
      conv => whnf
      refine loop_sub (env' := [(0, (cS s_)), (7, (cS (bs []))), (8, (cI at_))]) (st' := ⟨hp, 0, g⟩) (sk hB (fw0 wf (by rfl) (fun _ => by rfl)) (by rfl) (by rfl) ⟨cv rfl rfl, cv rfl rfl, cv rfl rfl, trivial⟩) ?_
      refine loop_f (α := ByteArray × Int) (γ := Unit) (fun (_ : Unit) (v1, v2) => [(0, (cS s_)), (7, (cS v1)), (8, (cI v2))]) (fun (_ : Unit) (v1, v2) => ⟨hp, 0, g⟩) (fun k s => clerestoryref02_GetText.w0 s_ k s.1 s.2) (fun _ => rfl) ?_ K0 ((bs []), at_) () hf
      intro k0 y gg hf
      obtain ⟨v1, v2⟩ := y
      replace hf : clerestoryref02_GetText.w0 s_ (k0 + 1) v1 v2 = some _ := hf
      rw [clerestoryref02_GetText.w0] at hf
      try dsimp only
      conv => whnf
      refine cut_go ?_
      conv => whnf
      refine cut_go ?_
      conv => whnf
      refine at_go ?_
      conv => whnf
      refine vcond_intro (t := decide (v2 < (s_.size : Int))) (fun h5 => ?_) (fun h6 => ?_)
      · replace hf := ifT h5 hf
        conv => whnf
        refine at_go ?_
        conv => whnf
        refine cut_go ?_
        conv => whnf
        refine cut_go ?_
        conv => whnf
        refine cut_go ?_
        obtain ⟨x3, h7, hf⟩ := bnd hf
        conv => whnf
        refine ⟨at_nn h7, ⟨_, at_get h7, ?_⟩⟩
        conv => whnf
        refine at_sub (env' := [(0, (cS s_)), (7, (cS v1)), (8, (cI v2)), (27, (cB (decide ((x3.toNat : Int) ≠ 0))))]) (st' := ⟨hp, 0, g⟩) (sk hB (fw0 wf (by rfl) (fun _ => by rfl)) (by rfl) (by rfl) ⟨cv rfl rfl, cv rfl rfl, cv rfl rfl, cv rfl rfl, trivial⟩) ?_
        refine at_go ?_
        conv => whnf
        refine vcond_intro (t := decide ((x3.toNat : Int) ≠ 0)) (fun h8 => ?_) (fun h9 => ?_)
        · replace hf := ifT h8 hf
          conv => whnf
          refine cut_go ?_
          conv => whnf
          refine veq_intro (IntKind.i64.wrap (v2 + 1)) rfl ?_
          obtain ⟨h10, hf⟩ := grd hf
          conv => whnf
          refine ⟨h10, ?_⟩
          obtain ⟨h11, hf⟩ := grd hf
          conv => whnf
          refine ⟨h11, ?_⟩
          obtain ⟨h12, hf⟩ := grd hf
          conv => whnf
          refine ⟨h12, ?_⟩
          conv => whnf
          refine at_go ?_
          conv => whnf
          refine at_go ?_
          conv => whnf
          refine veq_intro (IntKind.i64.wrap (v2 + 1)) rfl ?_
          conv => whnf
          exact ⟨(v1 ++ (s_.extract v2.toNat ((IntKind.i64.wrap (v2 + 1)).toNat)), IntKind.i64.wrap (v2 + 1)), hf, (), sk hB (fw0 wf (by rfl) (fun _ => by rfl)) (by rfl) (by rfl) ⟨cv rfl rfl, cv rfl rfl, cv rfl rfl, trivial⟩⟩
        · replace hf := ifF h9 hf
          conv => whnf
          refine at_go ?_
          conv => whnf
          refine cut_go ?_
          conv => whnf
          refine veq_intro (IntKind.i64.wrap (v2 + 1)) rfl ?_
          conv => whnf
          refine at_go ?_
          conv => whnf
          refine cut_go ?_
          conv => whnf
          refine cut_go ?_
          conv => whnf
          refine at_sub (env' := [(0, (cS s_)), (7, (cS v1)), (8, (cI (IntKind.i64.wrap (v2 + 1)))), (37, (cB (decide ((s_.size : Int) ≤ (IntKind.i64.wrap (v2 + 1))))))]) (st' := ⟨hp, 0, g⟩) (sk hB (fw0 wf (by rfl) (fun _ => by rfl)) (by rfl) (by rfl) ⟨cv rfl rfl, cv rfl rfl, cv rfl rfl, cv rfl rfl, trivial⟩) ?_
          refine at_go ?_
          conv => whnf
          refine vcond_intro (t := decide ((s_.size : Int) ≤ (IntKind.i64.wrap (v2 + 1)))) (fun h13 => ?_) (fun h14 => ?_)
          · replace hf := ifT h13 hf
            conv => whnf
            refine cut_go ?_
            conv => whnf
            refine at_go ?_
            conv => whnf
            obtain rfl := Option.some.inj hf
            refine ret_c hB wf (fun _ => by rfl) ?_
            exact cv rfl rfl
          · replace hf := ifF h14 hf
            conv => whnf
            refine cut_go ?_
            obtain ⟨x4, h15, hf⟩ := bnd hf
            conv => whnf
            refine ⟨at_nn h15, ⟨_, at_get h15, ?_⟩⟩
            conv => whnf
            refine at_go ?_
            conv => whnf
            refine vcond_intro (t := decide ((x4.toNat : Int) = 1)) (fun h16 => ?_) (fun h17 => ?_)
            · replace hf := ifT h16 hf
              conv => whnf
              refine cut_go ?_
              conv => whnf
              refine veq_intro (IntKind.i64.wrap ((IntKind.i64.wrap (v2 + 1)) + 1)) rfl ?_
              conv => whnf
              refine at_go ?_
              conv => whnf
              obtain rfl := Option.some.inj hf
              refine ret_c hB wf (fun _ => by rfl) ?_
              exact cv rfl rfl
            · replace hf := ifF h17 hf
              conv => whnf
              refine cut_go ?_
              conv => whnf
              refine ⟨at_nn h15, ⟨_, at_get h15, ?_⟩⟩
              conv => whnf
              refine at_go ?_
              conv => whnf
              refine vcond_intro (t := decide ((x4.toNat : Int) ≠ 255)) (fun h18 => ?_) (fun h19 => ?_)
              · replace hf := ifT h18 hf
                conv => whnf
                refine cut_go ?_
                conv => whnf
                refine at_sub (env' := [(4, (cS (bs []))), (5, (cI 0)), (6, (cI 6))]) (st' := ⟨hp, 0, g⟩) (sk hB (fw0 wf (by rfl) (fun _ => by rfl)) (by rfl) (by rfl) ⟨cv rfl rfl, cv rfl rfl, cv rfl rfl, trivial⟩) ?_
                refine at_go ?_
                conv => whnf
                obtain rfl := Option.some.inj hf
                refine ret_c hB wf (fun _ => by rfl) ?_
                exact cv rfl rfl
              · replace hf := ifF h19 hf
                conv => whnf
                refine at_sub (env' := [(0, (cS s_)), (7, (cS v1)), (8, (cI (IntKind.i64.wrap (v2 + 1)))), (50, (cB (decide ((x4.toNat : Int) ≠ 255))))]) (st' := ⟨hp, 0, g⟩) (sk hB (fw0 wf (by rfl) (fun _ => by rfl)) (by rfl) (by rfl) ⟨cv rfl rfl, cv rfl rfl, cv rfl rfl, cv rfl rfl, trivial⟩) ?_
                refine at_go ?_
                obtain ⟨h20, hf⟩ := grd hf
                conv => whnf
                refine ⟨h20, ?_⟩
                conv => whnf
                refine at_go ?_
                conv => whnf
                refine veq_intro (IntKind.i64.wrap ((IntKind.i64.wrap (v2 + 1)) + 1)) rfl ?_
                conv => whnf
                exact ⟨(v1 ++ (bs [0]), IntKind.i64.wrap ((IntKind.i64.wrap (v2 + 1)) + 1)), hf, (), sk hB (fw0 wf (by rfl) (fun _ => by rfl)) (by rfl) (by rfl) ⟨cv rfl rfl, cv rfl rfl, cv rfl rfl, trivial⟩⟩
      · replace hf := ifF h6 hf
        conv => whnf
        refine at_go ?_
        conv => whnf
        refine cut_go ?_
        conv => whnf
        refine at_sub (env' := [(4, (cS (bs []))), (5, (cI 0)), (6, (cI 8))]) (st' := ⟨hp, 0, g⟩) (sk hB (fw0 wf (by rfl) (fun _ => by rfl)) (by rfl) (by rfl) ⟨cv rfl rfl, cv rfl rfl, cv rfl rfl, trivial⟩) ?_
        refine at_go ?_
        conv => whnf
        obtain rfl := Option.some.inj hf
        refine ret_c hB wf (fun _ => by rfl) ?_
        exact cv rfl rfl

noncomputable def clerestoryref18_Split.f (key : ByteArray) : Option (ByteArray × ByteArray × Bool) :=
  (clerestoryref02_GetText.f key 0).bind fun x1 =>
  if (decide (x1.2.2 ≠ 0)) = true then
    some ((bs []), (bs []), false)
  else
  if 0 ≤ x1.2.1 ∧ x1.2.1 ≤ ((key.size : Nat) : Int) then
  some (x1.1, key.extract x1.2.1.toNat key.size, true)
  else none

set_option maxHeartbeats 4000000 in
theorem clerestoryref18_Split.pure (key : ByteArray) (res : ByteArray × ByteArray × Bool) (hf : clerestoryref18_Split.f key = some res) : Pure prog F.clerestoryref18_Split [(cS key)] (.tup [(cS res.1), (cS res.2.1), (cB res.2.2)]) := by
  refine pure_fn clerestoryref18_Split.res (Nat.le_of_ble_eq_true rfl) (fun _ => rfl) (fun _ => rfl) fun B hp g hB wf => ?_
  rw [clerestoryref18_Split.f] at hf
  conv => whnf
  refine cut_go ?_
  conv => whnf
  refine at_go ?_
  conv => whnf
  refine cut_go ?_
  obtain ⟨x1, h1, hf⟩ := bnd hf
  conv => whnf
  refine (clerestoryref02_GetText.pure key 0 x1 h1).call ?_
  conv => whnf
  refine at_go ?_
  conv => whnf
  refine cut_go ?_
  conv => whnf
  refine cut_go ?_
  conv => whnf
  refine at_sub (env' := [(0, (cS key)), (5, (cS x1.1)), (6, (cI x1.2.1)), (15, (cB (decide (x1.2.2 ≠ 0))))]) (st' := ⟨hp, 0, g⟩) (sk hB (fw0 wf (by rfl) (fun _ => by rfl)) (by rfl) (by rfl) ⟨cv rfl rfl, cv rfl rfl, cv rfl rfl, cv rfl rfl, trivial⟩) ?_
  refine at_go ?_
  conv => whnf
  refine vcond_intro (t := decide (x1.2.2 ≠ 0)) (fun h2 => ?_) (fun h3 => ?_)
  · replace hf := ifT h2 hf
    conv => whnf
    refine cut_go ?_
    conv => whnf
    refine at_go ?_
    conv => whnf
    obtain rfl := Option.some.inj hf
    refine ret_c hB wf (fun _ => by rfl) ?_
    exact cv rfl rfl
  · replace hf := ifF h3 hf
    conv => whnf
    refine at_go ?_
    conv => whnf
    refine cut_go ?_
    obtain ⟨h4, hf⟩ := grd hf
    conv => whnf
    refine ⟨h4, ?_⟩
    conv => whnf
    refine at_go ?_
    conv => whnf
    obtain rfl := Option.some.inj hf
    refine ret_c hB wf (fun _ => by rfl) ?_
    exact cv rfl rfl

noncomputable def clerestoryref02_Text.w0 (s_ : ByteArray) : Nat → ByteArray → Int → Option (ByteArray)
  | 0, _, _ => none
  | k0 + 1, v1, v2 =>
    if (decide (v2 < (s_.size : Int))) = true then
      if 0 ≤ (IntKind.i64.wrap (v2 + 1)) ∧ (IntKind.i64.wrap (v2 + 1)) ≤ ((s_.size : Nat) : Int) then
      if 0 ≤ v2 ∧ v2 ≤ (((IntKind.i64.wrap (v2 + 1)).toNat : Nat) : Int) then
      if v1.size + (s_.extract v2.toNat ((IntKind.i64.wrap (v2 + 1)).toNat)).size ≤ 9223372036854775807 then
      (at? s_.data.toList v2).bind fun x3 =>
      if (decide ((x3.toNat : Int) = 0)) = true then
        if (v1 ++ (s_.extract v2.toNat ((IntKind.i64.wrap (v2 + 1)).toNat))).size + (bs [255]).size ≤ 9223372036854775807 then
        clerestoryref02_Text.w0 s_ k0 ((v1 ++ (s_.extract v2.toNat ((IntKind.i64.wrap (v2 + 1)).toNat))) ++ (bs [255])) (IntKind.i64.wrap (v2 + 1))
        else none
      else
      clerestoryref02_Text.w0 s_ k0 (v1 ++ (s_.extract v2.toNat ((IntKind.i64.wrap (v2 + 1)).toNat))) (IntKind.i64.wrap (v2 + 1))
      else none
      else none
      else none
    else
    if v1.size + (bs [0, 1]).size ≤ 9223372036854775807 then
    some (v1 ++ (bs [0, 1]))
    else none

noncomputable def clerestoryref02_Text.f (s_ : ByteArray) : Option (ByteArray) :=
  clerestoryref02_Text.w0 s_ K0 (bs []) 0

set_option maxHeartbeats 4000000 in
theorem clerestoryref02_Text.pure (s_ : ByteArray) (res : ByteArray) (hf : clerestoryref02_Text.f s_ = some res) : Pure prog F.clerestoryref02_Text [(cS s_)] (cS res) := by
  refine pure_fn clerestoryref02_Text.res (Nat.le_of_ble_eq_true rfl) (fun _ => rfl) (fun _ => rfl) fun B hp g hB wf => ?_
  rw [clerestoryref02_Text.f] at hf
  conv => whnf
  refine cut_go ?_
  conv => whnf
  refine at_go ?_
  conv => whnf
  refine cut_go ?_
  conv => whnf
  refine at_go ?_
  conv => whnf
  refine cut_go ?_
  conv => whnf
  refine cut_go ?_
  conv => whnf
  refine at_sub (env' := [(0, (cS s_)), (3, (cS (bs []))), (4, (cI 0))]) (st' := ⟨hp, 0, g⟩) (sk hB (fw0 wf (by rfl) (fun _ => by rfl)) (by rfl) (by rfl) ⟨cv rfl rfl, cv rfl rfl, cv rfl rfl, trivial⟩) ?_
  refine at_go ?_
  conv => whnf
  refine loop_sub (env' := [(0, (cS s_)), (3, (cS (bs []))), (4, (cI 0))]) (st' := ⟨hp, 0, g⟩) (sk hB (fw0 wf (by rfl) (fun _ => by rfl)) (by rfl) (by rfl) ⟨cv rfl rfl, cv rfl rfl, cv rfl rfl, trivial⟩) ?_
  refine loop_f (α := ByteArray × Int) (γ := Unit) (fun (_ : Unit) (v1, v2) => [(0, (cS s_)), (3, (cS v1)), (4, (cI v2))]) (fun (_ : Unit) (v1, v2) => ⟨hp, 0, g⟩) (fun k s => clerestoryref02_Text.w0 s_ k s.1 s.2) (fun _ => rfl) ?_ K0 ((bs []), 0) () hf
  intro k0 y gg hf
  obtain ⟨v1, v2⟩ := y
  replace hf : clerestoryref02_Text.w0 s_ (k0 + 1) v1 v2 = some _ := hf
  rw [clerestoryref02_Text.w0] at hf
  try dsimp only
  conv => whnf
  refine cut_go ?_
  conv => whnf
  refine cut_go ?_
  conv => whnf
  refine at_go ?_
  conv => whnf
  refine vcond_intro (t := decide (v2 < (s_.size : Int))) (fun h1 => ?_) (fun h2 => ?_)
  · replace hf := ifT h1 hf
    conv => whnf
    refine at_go ?_
    conv => whnf
    refine cut_go ?_
    conv => whnf
    refine cut_go ?_
    conv => whnf
    refine veq_intro (IntKind.i64.wrap (v2 + 1)) rfl ?_
    obtain ⟨h3, hf⟩ := grd hf
    conv => whnf
    refine ⟨h3, ?_⟩
    obtain ⟨h4, hf⟩ := grd hf
    conv => whnf
    refine ⟨h4, ?_⟩
    obtain ⟨h5, hf⟩ := grd hf
    conv => whnf
    refine ⟨h5, ?_⟩
    conv => whnf
    refine at_sub (env' := [(0, (cS s_)), (3, (cS (v1 ++ (s_.extract v2.toNat ((IntKind.i64.wrap (v2 + 1)).toNat))))), (4, (cI v2))]) (st' := ⟨hp, 0, g⟩) (sk hB (fw0 wf (by rfl) (fun _ => by rfl)) (by rfl) (by rfl) ⟨cv rfl rfl, cv rfl rfl, cv rfl rfl, trivial⟩) ?_
    refine at_go ?_
    conv => whnf
    refine cut_go ?_
    obtain ⟨x3, h6, hf⟩ := bnd hf
    conv => whnf
    refine ⟨at_nn h6, ⟨_, at_get h6, ?_⟩⟩
    conv => whnf
    refine at_go ?_
    conv => whnf
    refine vcond_intro (t := decide ((x3.toNat : Int) = 0)) (fun h7 => ?_) (fun h8 => ?_)
    · replace hf := ifT h7 hf
      obtain ⟨h9, hf⟩ := grd hf
      conv => whnf
      refine ⟨h9, ?_⟩
      conv => whnf
      refine at_go ?_
      conv => whnf
      refine veq_intro (IntKind.i64.wrap (v2 + 1)) rfl ?_
      conv => whnf
      exact ⟨((v1 ++ (s_.extract v2.toNat ((IntKind.i64.wrap (v2 + 1)).toNat))) ++ (bs [255]), IntKind.i64.wrap (v2 + 1)), hf, (), sk hB (fw0 wf (by rfl) (fun _ => by rfl)) (by rfl) (by rfl) ⟨cv rfl rfl, cv rfl rfl, cv rfl rfl, trivial⟩⟩
    · replace hf := ifF h8 hf
      conv => whnf
      refine at_go ?_
      conv => whnf
      refine veq_intro (IntKind.i64.wrap (v2 + 1)) rfl ?_
      conv => whnf
      exact ⟨(v1 ++ (s_.extract v2.toNat ((IntKind.i64.wrap (v2 + 1)).toNat)), IntKind.i64.wrap (v2 + 1)), hf, (), sk hB (fw0 wf (by rfl) (fun _ => by rfl)) (by rfl) (by rfl) ⟨cv rfl rfl, cv rfl rfl, cv rfl rfl, trivial⟩⟩
  · replace hf := ifF h2 hf
    conv => whnf
    refine at_go ?_
    conv => whnf
    refine cut_go ?_
    obtain ⟨h10, hf⟩ := grd hf
    conv => whnf
    refine ⟨h10, ?_⟩
    conv => whnf
    refine at_sub (env' := [(2, (cS (v1 ++ (bs [0, 1]))))]) (st' := ⟨hp, 0, g⟩) (sk hB (fw0 wf (by rfl) (fun _ => by rfl)) (by rfl) (by rfl) ⟨cv rfl rfl, trivial⟩) ?_
    refine at_go ?_
    conv => whnf
    obtain rfl := Option.some.inj hf
    refine ret_c hB wf (fun _ => by rfl) ?_
    exact cv rfl rfl

noncomputable def clerestoryref18_Key.f (part : ByteArray) (clus : ByteArray) : Option (ByteArray) :=
  (clerestoryref02_Text.f part).bind fun x1 =>
  if x1.size + clus.size ≤ 9223372036854775807 then
  some (x1 ++ clus)
  else none

set_option maxHeartbeats 4000000 in
theorem clerestoryref18_Key.pure (part : ByteArray) (clus : ByteArray) (res : ByteArray) (hf : clerestoryref18_Key.f part clus = some res) : Pure prog F.clerestoryref18_Key [(cS part), (cS clus)] (cS res) := by
  refine pure_fn clerestoryref18_Key.res (Nat.le_of_ble_eq_true rfl) (fun _ => rfl) (fun _ => rfl) fun B hp g hB wf => ?_
  rw [clerestoryref18_Key.f] at hf
  conv => whnf
  refine cut_go ?_
  conv => whnf
  refine at_go ?_
  conv => whnf
  refine cut_go ?_
  obtain ⟨x1, h1, hf⟩ := bnd hf
  conv => whnf
  refine (clerestoryref02_Text.pure part x1 h1).call ?_
  obtain ⟨h2, hf⟩ := grd hf
  conv => whnf
  refine ⟨h2, ?_⟩
  conv => whnf
  refine at_go ?_
  conv => whnf
  obtain rfl := Option.some.inj hf
  refine ret_c hB wf (fun _ => by rfl) ?_
  exact cv rfl rfl

noncomputable def clerestoryref06_Check.f (c : api_Cell) : Option (Bool) :=
  if (decide (c.At < 0)) = true then
    some false
  else
  if (decide (1099511627776 < c.At)) = true then
    some false
  else
  if (decide (c.At = 0)) = true then
    if (seq c.Val (bs [])) = true then
      if (decide (c.End = 0)) = true then
        if (decide (0 < c.At)) = true then
          some true
        else
        some (!c.Dead)
      else
      some false
    else
    some false
  else
  if (c.Dead) = true then
    if (seq c.Val (bs [])) = true then
      if (decide (c.End = 0)) = true then
        if (decide (0 < c.At)) = true then
          some true
        else
        some (!c.Dead)
      else
      some false
    else
    some false
  else
  if (decide ((c.Val.size : Int) ≤ 100)) = true then
    if (decide (0 ≤ c.End)) = true then
      some (decide (c.End ≤ 1099511627776))
    else
    some false
  else
  some false

set_option maxHeartbeats 4000000 in
theorem clerestoryref06_Check.pure (c : api_Cell) (res : Bool) (hf : clerestoryref06_Check.f c = some res) : Pure prog F.clerestoryref06_Check [(agd (api_Cell.d c))] (cB res) := by
  refine pure_fn clerestoryref06_Check.res (Nat.le_of_ble_eq_true rfl) (fun _ => rfl) (fun _ => rfl) fun B hp g hB wf => ?_
  rw [clerestoryref06_Check.f] at hf
  conv => whnf
  refine cut_go ?_
  conv => whnf
  refine at_go ?_
  conv => whnf
  refine cut_go ?_
  conv => whnf
  refine cut_go ?_
  conv => whnf
  refine ⟨⟨rfl, Nat.le_of_ble_eq_true rfl⟩, ?_⟩
  conv => whnf
  refine ⟨rfl, ⟨_, rfl, ?_⟩⟩
  conv => whnf
  refine vcond_intro (t := decide (c.At < 0)) (fun h1 => ?_) (fun h2 => ?_)
  · replace hf := ifT h1 hf
    conv => whnf
    refine vcT rfl ?_
    conv => whnf
    refine vcT rfl ?_
    conv => whnf
    refine vcT rfl ?_
    conv => whnf
    refine at_go ?_
    conv => whnf
    refine vcT rfl ?_
    conv => whnf
    refine cut_go ?_
    conv => whnf
    refine at_sub (env' := [(2, (cB false))]) (st' := ⟨hp, 0, g⟩) (sk hB (fw0 wf (by rfl) (fun _ => by rfl)) (by rfl) (by rfl) ⟨cv rfl rfl, trivial⟩) ?_
    refine at_go ?_
    conv => whnf
    obtain rfl := Option.some.inj hf
    refine ret_c hB wf (fun _ => by rfl) ?_
    exact cv rfl rfl
  · replace hf := ifF h2 hf
    conv => whnf
    refine ⟨⟨rfl, Nat.le_of_ble_eq_true rfl⟩, ?_⟩
    conv => whnf
    refine vcF rfl ?_
    conv => whnf
    refine ⟨rfl, ⟨_, rfl, ?_⟩⟩
    conv => whnf
    refine vcF rfl ?_
    conv => whnf
    refine vcF rfl ?_
    conv => whnf
    refine at_go ?_
    conv => whnf
    refine vcond_intro (t := decide (1099511627776 < c.At)) (fun h3 => ?_) (fun h4 => ?_)
    · replace hf := ifT h3 hf
      conv => whnf
      refine cut_go ?_
      conv => whnf
      refine at_sub (env' := [(2, (cB false))]) (st' := ⟨hp, 0, g⟩) (sk hB (fw0 wf (by rfl) (fun _ => by rfl)) (by rfl) (by rfl) ⟨cv rfl rfl, trivial⟩) ?_
      refine at_go ?_
      conv => whnf
      obtain rfl := Option.some.inj hf
      refine ret_c hB wf (fun _ => by rfl) ?_
      exact cv rfl rfl
    · replace hf := ifF h4 hf
      conv => whnf
      refine cut_go ?_
      conv => whnf
      refine ⟨⟨rfl, Nat.le_of_ble_eq_true rfl⟩, ?_⟩
      conv => whnf
      refine ⟨rfl, ⟨_, rfl, ?_⟩⟩
      conv => whnf
      refine vcond_intro (t := decide (c.At = 0)) (fun h5 => ?_) (fun h6 => ?_)
      · replace hf := ifT h5 hf
        conv => whnf
        refine vcT rfl ?_
        conv => whnf
        refine vcT rfl ?_
        conv => whnf
        refine at_sub (env' := [(1, (.ptr 0 0 0 0)), (12, (cB true))]) (st' := ⟨(upd hp 0 (.row 0 4 T.api_Cell [[(cS c.Val), (cB c.Dead), (cI c.At), (cI c.End)]])), 1, g⟩) (sk hB (fwE (fw0 wf (by rfl) (fun _ => by rfl)) rfl rfl rfl) (by rfl) (by rfl) ⟨cv rfl rfl, cv rfl rfl, trivial⟩) ?_
        refine at_go ?_
        conv => whnf
        refine vcT rfl ?_
        conv => whnf
        refine cut_go ?_
        conv => whnf
        refine ⟨⟨rfl, Nat.le_of_ble_eq_true rfl⟩, ?_⟩
        conv => whnf
        refine ⟨rfl, ⟨_, rfl, ?_⟩⟩
        conv => whnf
        refine vcond_intro (t := seq c.Val (bs [])) (fun h7 => ?_) (fun h8 => ?_)
        · replace hf := ifT h7 hf
          conv => whnf
          refine ⟨⟨rfl, Nat.le_of_ble_eq_true rfl⟩, ?_⟩
          conv => whnf
          refine vcT rfl ?_
          conv => whnf
          refine ⟨rfl, ⟨_, rfl, ?_⟩⟩
          conv => whnf
          refine vcT rfl ?_
          conv => whnf
          refine vcT rfl ?_
          conv => whnf
          refine vcond_intro (t := decide (c.End = 0)) (fun h9 => ?_) (fun h10 => ?_)
          · replace hf := ifT h9 hf
            conv => whnf
            refine ⟨⟨rfl, Nat.le_of_ble_eq_true rfl⟩, ?_⟩
            conv => whnf
            refine vcT rfl ?_
            conv => whnf
            refine ⟨rfl, ⟨_, rfl, ?_⟩⟩
            conv => whnf
            refine vcT rfl ?_
            conv => whnf
            refine vcT rfl ?_
            conv => whnf
            refine vcond_intro (t := decide (0 < c.At)) (fun h11 => ?_) (fun h12 => ?_)
            · replace hf := ifT h11 hf
              conv => whnf
              refine vcT rfl ?_
              conv => whnf
              refine vcT rfl ?_
              conv => whnf
              refine vcT rfl ?_
              conv => whnf
              refine vcT rfl ?_
              conv => whnf
              refine vcT rfl ?_
              conv => whnf
              refine at_go ?_
              conv => whnf
              obtain rfl := Option.some.inj hf
              refine ret_c hB wf (fun _ => by rfl) ?_
              exact cv rfl rfl
            · replace hf := ifF h12 hf
              conv => whnf
              refine ⟨⟨rfl, Nat.le_of_ble_eq_true rfl⟩, ?_⟩
              conv => whnf
              refine vcF rfl ?_
              conv => whnf
              refine ⟨rfl, ⟨_, rfl, ?_⟩⟩
              conv => whnf
              refine vcF rfl ?_
              conv => whnf
              refine vcT rfl ?_
              conv => whnf
              refine vcF rfl ?_
              conv => whnf
              refine vcT rfl ?_
              conv => whnf
              refine at_go ?_
              conv => whnf
              obtain rfl := Option.some.inj hf
              refine ret_c hB wf (fun _ => by rfl) ?_
              exact cv rfl rfl
          · replace hf := ifF h10 hf
            conv => whnf
            refine vcF rfl ?_
            conv => whnf
            refine vcF rfl ?_
            conv => whnf
            refine vcF rfl ?_
            conv => whnf
            refine vcF rfl ?_
            conv => whnf
            refine vcF rfl ?_
            conv => whnf
            refine at_go ?_
            conv => whnf
            obtain rfl := Option.some.inj hf
            refine ret_c hB wf (fun _ => by rfl) ?_
            exact cv rfl rfl
        · replace hf := ifF h8 hf
          conv => whnf
          refine vcF rfl ?_
          conv => whnf
          refine vcF rfl ?_
          conv => whnf
          refine vcF rfl ?_
          conv => whnf
          refine vcF rfl ?_
          conv => whnf
          refine vcF rfl ?_
          conv => whnf
          refine vcF rfl ?_
          conv => whnf
          refine vcF rfl ?_
          conv => whnf
          refine vcF rfl ?_
          conv => whnf
          refine vcF rfl ?_
          conv => whnf
          refine at_go ?_
          conv => whnf
          obtain rfl := Option.some.inj hf
          refine ret_c hB wf (fun _ => by rfl) ?_
          exact cv rfl rfl
      · replace hf := ifF h6 hf
        conv => whnf
        refine ⟨⟨rfl, Nat.le_of_ble_eq_true rfl⟩, ?_⟩
        conv => whnf
        refine vcF rfl ?_
        conv => whnf
        refine ⟨rfl, ⟨_, rfl, ?_⟩⟩
        conv => whnf
        refine vcF rfl ?_
        conv => whnf
        refine at_sub (env' := [(1, (.ptr 0 0 0 0)), (12, (cB c.Dead))]) (st' := ⟨(upd hp 0 (.row 0 4 T.api_Cell [[(cS c.Val), (cB c.Dead), (cI c.At), (cI c.End)]])), 1, g⟩) (sk hB (fwE (fw0 wf (by rfl) (fun _ => by rfl)) rfl rfl rfl) (by rfl) (by rfl) ⟨cv rfl rfl, cv rfl rfl, trivial⟩) ?_
        refine at_go ?_
        conv => whnf
        refine vcond_intro (t := c.Dead) (fun h13 => ?_) (fun h14 => ?_)
        · replace hf := ifT h13 hf
          conv => whnf
          refine cut_go ?_
          conv => whnf
          refine ⟨⟨rfl, Nat.le_of_ble_eq_true rfl⟩, ?_⟩
          conv => whnf
          refine ⟨rfl, ⟨_, rfl, ?_⟩⟩
          conv => whnf
          refine vcond_intro (t := seq c.Val (bs [])) (fun h15 => ?_) (fun h16 => ?_)
          · replace hf := ifT h15 hf
            conv => whnf
            refine ⟨⟨rfl, Nat.le_of_ble_eq_true rfl⟩, ?_⟩
            conv => whnf
            refine vcT rfl ?_
            conv => whnf
            refine ⟨rfl, ⟨_, rfl, ?_⟩⟩
            conv => whnf
            refine vcT rfl ?_
            conv => whnf
            refine vcT rfl ?_
            conv => whnf
            refine vcond_intro (t := decide (c.End = 0)) (fun h17 => ?_) (fun h18 => ?_)
            · replace hf := ifT h17 hf
              conv => whnf
              refine ⟨⟨rfl, Nat.le_of_ble_eq_true rfl⟩, ?_⟩
              conv => whnf
              refine vcT rfl ?_
              conv => whnf
              refine ⟨rfl, ⟨_, rfl, ?_⟩⟩
              conv => whnf
              refine vcT rfl ?_
              conv => whnf
              refine vcT rfl ?_
              conv => whnf
              refine vcond_intro (t := decide (0 < c.At)) (fun h19 => ?_) (fun h20 => ?_)
              · replace hf := ifT h19 hf
                conv => whnf
                refine vcT rfl ?_
                conv => whnf
                refine vcT rfl ?_
                conv => whnf
                refine vcT rfl ?_
                conv => whnf
                refine vcT rfl ?_
                conv => whnf
                refine vcT rfl ?_
                conv => whnf
                refine at_go ?_
                conv => whnf
                obtain rfl := Option.some.inj hf
                refine ret_c hB wf (fun _ => by rfl) ?_
                exact cv rfl rfl
              · replace hf := ifF h20 hf
                conv => whnf
                refine ⟨⟨rfl, Nat.le_of_ble_eq_true rfl⟩, ?_⟩
                conv => whnf
                refine vcF rfl ?_
                conv => whnf
                refine ⟨rfl, ⟨_, rfl, ?_⟩⟩
                conv => whnf
                refine vcF rfl ?_
                conv => whnf
                refine vcT rfl ?_
                conv => whnf
                refine vcF rfl ?_
                conv => whnf
                refine vcT rfl ?_
                conv => whnf
                refine at_go ?_
                conv => whnf
                obtain rfl := Option.some.inj hf
                refine ret_c hB wf (fun _ => by rfl) ?_
                exact cv rfl rfl
            · replace hf := ifF h18 hf
              conv => whnf
              refine vcF rfl ?_
              conv => whnf
              refine vcF rfl ?_
              conv => whnf
              refine vcF rfl ?_
              conv => whnf
              refine vcF rfl ?_
              conv => whnf
              refine vcF rfl ?_
              conv => whnf
              refine at_go ?_
              conv => whnf
              obtain rfl := Option.some.inj hf
              refine ret_c hB wf (fun _ => by rfl) ?_
              exact cv rfl rfl
          · replace hf := ifF h16 hf
            conv => whnf
            refine vcF rfl ?_
            conv => whnf
            refine vcF rfl ?_
            conv => whnf
            refine vcF rfl ?_
            conv => whnf
            refine vcF rfl ?_
            conv => whnf
            refine vcF rfl ?_
            conv => whnf
            refine vcF rfl ?_
            conv => whnf
            refine vcF rfl ?_
            conv => whnf
            refine vcF rfl ?_
            conv => whnf
            refine vcF rfl ?_
            conv => whnf
            refine at_go ?_
            conv => whnf
            obtain rfl := Option.some.inj hf
            refine ret_c hB wf (fun _ => by rfl) ?_
            exact cv rfl rfl
        · replace hf := ifF h14 hf
          conv => whnf
          refine at_go ?_
          conv => whnf
          refine cut_go ?_
          conv => whnf
          refine ⟨⟨rfl, Nat.le_of_ble_eq_true rfl⟩, ?_⟩
          conv => whnf
          refine ⟨rfl, ⟨_, rfl, ?_⟩⟩
          conv => whnf
          refine vcond_intro (t := decide ((c.Val.size : Int) ≤ 100)) (fun h21 => ?_) (fun h22 => ?_)
          · replace hf := ifT h21 hf
            conv => whnf
            refine ⟨⟨rfl, Nat.le_of_ble_eq_true rfl⟩, ?_⟩
            conv => whnf
            refine vcT rfl ?_
            conv => whnf
            refine ⟨rfl, ⟨_, rfl, ?_⟩⟩
            conv => whnf
            refine vcT rfl ?_
            conv => whnf
            refine vcT rfl ?_
            conv => whnf
            refine vcond_intro (t := decide (0 ≤ c.End)) (fun h23 => ?_) (fun h24 => ?_)
            · replace hf := ifT h23 hf
              conv => whnf
              refine ⟨⟨rfl, Nat.le_of_ble_eq_true rfl⟩, ?_⟩
              conv => whnf
              refine vcT rfl ?_
              conv => whnf
              refine ⟨rfl, ⟨_, rfl, ?_⟩⟩
              conv => whnf
              refine vcT rfl ?_
              conv => whnf
              refine vcT rfl ?_
              conv => whnf
              refine at_go ?_
              conv => whnf
              obtain rfl := Option.some.inj hf
              refine ret_c hB wf (fun _ => by rfl) ?_
              exact cv rfl rfl
            · replace hf := ifF h24 hf
              conv => whnf
              refine vcF rfl ?_
              conv => whnf
              refine vcF rfl ?_
              conv => whnf
              refine vcF rfl ?_
              conv => whnf
              refine at_go ?_
              conv => whnf
              obtain rfl := Option.some.inj hf
              refine ret_c hB wf (fun _ => by rfl) ?_
              exact cv rfl rfl
          · replace hf := ifF h22 hf
            conv => whnf
            refine vcF rfl ?_
            conv => whnf
            refine vcF rfl ?_
            conv => whnf
            refine vcF rfl ?_
            conv => whnf
            refine vcF rfl ?_
            conv => whnf
            refine vcF rfl ?_
            conv => whnf
            refine vcF rfl ?_
            conv => whnf
            refine vcF rfl ?_
            conv => whnf
            refine at_go ?_
            conv => whnf
            obtain rfl := Option.some.inj hf
            refine ret_c hB wf (fun _ => by rfl) ?_
            exact cv rfl rfl

noncomputable def clerestoryref07_stamp.f (v : Int) : Option (Bool) :=
  if (decide (0 ≤ v)) = true then
    some (decide (v ≤ 1099511627776))
  else
  some false

set_option maxHeartbeats 4000000 in
theorem clerestoryref07_stamp.pure (v : Int) (res : Bool) (hf : clerestoryref07_stamp.f v = some res) : Pure prog F.clerestoryref07_stamp [(cI v)] (cB res) := by
  refine pure_fn clerestoryref07_stamp.res (Nat.le_of_ble_eq_true rfl) (fun _ => rfl) (fun _ => rfl) fun B hp g hB wf => ?_
  rw [clerestoryref07_stamp.f] at hf
  conv => whnf
  refine cut_go ?_
  conv => whnf
  refine at_go ?_
  conv => whnf
  refine cut_go ?_
  conv => whnf
  refine vcond_intro (t := decide (0 ≤ v)) (fun h1 => ?_) (fun h2 => ?_)
  · replace hf := ifT h1 hf
    conv => whnf
    refine vcT rfl ?_
    conv => whnf
    refine vcT rfl ?_
    conv => whnf
    refine at_go ?_
    conv => whnf
    obtain rfl := Option.some.inj hf
    refine ret_c hB wf (fun _ => by rfl) ?_
    exact cv rfl rfl
  · replace hf := ifF h2 hf
    conv => whnf
    refine vcF rfl ?_
    conv => whnf
    refine vcF rfl ?_
    conv => whnf
    refine at_go ?_
    conv => whnf
    obtain rfl := Option.some.inj hf
    refine ret_c hB wf (fun _ => by rfl) ?_
    exact cv rfl rfl

noncomputable def clerestoryref01_cont.w0 (s_ : ByteArray) (at_ : Int) (n : Int) : Nat → Int → Option (Bool)
  | 0, _ => none
  | k0 + 1, v1 =>
    if (decide (v1 < (IntKind.i64.wrap (at_ + n)))) = true then
      (at? s_.data.toList v1).bind fun x2 =>
      if (decide ((iand .u8 (x2.toNat : Int) 192) ≠ 128)) = true then
        some false
      else
      clerestoryref01_cont.w0 s_ at_ n k0 (IntKind.i64.wrap (v1 + 1))
    else
    some true

noncomputable def clerestoryref01_cont.f (s_ : ByteArray) (at_ : Int) (n : Int) : Option (Bool) :=
  if (decide ((s_.size : Int) < (IntKind.i64.wrap (at_ + n)))) = true then
    some false
  else
  clerestoryref01_cont.w0 s_ at_ n K0 at_

set_option maxHeartbeats 4000000 in
theorem clerestoryref01_cont.pure (s_ : ByteArray) (at_ : Int) (n : Int) (res : Bool) (hf : clerestoryref01_cont.f s_ at_ n = some res) : Pure prog F.clerestoryref01_cont [(cS s_), (cI at_), (cI n)] (cB res) := by
  refine pure_fn clerestoryref01_cont.res (Nat.le_of_ble_eq_true rfl) (fun _ => rfl) (fun _ => rfl) fun B hp g hB wf => ?_
  rw [clerestoryref01_cont.f] at hf
  conv => whnf
  refine cut_go ?_
  conv => whnf
  refine at_go ?_
  conv => whnf
  refine cut_go ?_
  conv => whnf
  refine cut_go ?_
  conv => whnf
  refine veq_intro (IntKind.i64.wrap (at_ + n)) rfl ?_
  conv => whnf
  refine at_go ?_
  conv => whnf
  refine vcond_intro (t := decide ((s_.size : Int) < (IntKind.i64.wrap (at_ + n)))) (fun h1 => ?_) (fun h2 => ?_)
  · replace hf := ifT h1 hf
    conv => whnf
    refine cut_go ?_
    conv => whnf
    refine at_sub (env' := [(6, (cB false))]) (st' := ⟨hp, 0, g⟩) (sk hB (fw0 wf (by rfl) (fun _ => by rfl)) (by rfl) (by rfl) ⟨cv rfl rfl, trivial⟩) ?_
    refine at_go ?_
    conv => whnf
    obtain rfl := Option.some.inj hf
    refine ret_c hB wf (fun _ => by rfl) ?_
    exact cv rfl rfl
  · replace hf := ifF h2 hf
    conv => whnf
    refine at_sub (env' := [(0, (cS s_)), (1, (cI at_)), (2, (cI n)), (13, (cB (decide ((s_.size : Int) < (IntKind.i64.wrap (at_ + n))))))]) (st' := ⟨hp, 0, g⟩) (sk hB (fw0 wf (by rfl) (fun _ => by rfl)) (by rfl) (by rfl) ⟨cv rfl rfl, cv rfl rfl, cv rfl rfl, cv rfl rfl, trivial⟩) ?_
    refine at_go ?_
    conv => whnf
    refine cut_go ?_
    conv => whnf
    refine cut_go ?_
    conv => whnf
    refine at_go ?_
    conv => whnf
    refine loop_sub (env' := [(0, (cS s_)), (1, (cI at_)), (2, (cI n)), (7, (cI at_))]) (st' := ⟨hp, 0, g⟩) (sk hB (fw0 wf (by rfl) (fun _ => by rfl)) (by rfl) (by rfl) ⟨cv rfl rfl, cv rfl rfl, cv rfl rfl, cv rfl rfl, trivial⟩) ?_
    refine loop_f (α := Int) (γ := Unit) (fun (_ : Unit) v1 => [(0, (cS s_)), (1, (cI at_)), (2, (cI n)), (7, (cI v1))]) (fun (_ : Unit) v1 => ⟨hp, 0, g⟩) (fun k s => clerestoryref01_cont.w0 s_ at_ n k s) (fun _ => rfl) ?_ K0 at_ () hf
    intro k0 v1 gg hf
    replace hf : clerestoryref01_cont.w0 s_ at_ n (k0 + 1) v1 = some _ := hf
    rw [clerestoryref01_cont.w0] at hf
    try dsimp only
    conv => whnf
    refine cut_go ?_
    conv => whnf
    refine cut_go ?_
    conv => whnf
    refine veq_intro (IntKind.i64.wrap (at_ + n)) rfl ?_
    conv => whnf
    refine at_go ?_
    conv => whnf
    refine vcond_intro (t := decide (v1 < (IntKind.i64.wrap (at_ + n)))) (fun h3 => ?_) (fun h4 => ?_)
    · replace hf := ifT h3 hf
      conv => whnf
      refine at_go ?_
      conv => whnf
      refine cut_go ?_
      conv => whnf
      refine cut_go ?_
      obtain ⟨x2, h5, hf⟩ := bnd hf
      conv => whnf
      refine ⟨at_nn h5, ⟨_, at_get h5, ?_⟩⟩
      conv => whnf
      refine veq_intro (iand .u8 (x2.toNat : Int) 192) rfl ?_
      conv => whnf
      refine at_sub (env' := [(0, (cS s_)), (1, (cI at_)), (2, (cI n)), (7, (cI v1)), (26, (cB (decide ((iand .u8 (x2.toNat : Int) 192) ≠ 128))))]) (st' := ⟨hp, 0, g⟩) (sk hB (fw0 wf (by rfl) (fun _ => by rfl)) (by rfl) (by rfl) ⟨cv rfl rfl, cv rfl rfl, cv rfl rfl, cv rfl rfl, cv rfl rfl, trivial⟩) ?_
      refine at_go ?_
      conv => whnf
      refine vcond_intro (t := decide ((iand .u8 (x2.toNat : Int) 192) ≠ 128)) (fun h6 => ?_) (fun h7 => ?_)
      · replace hf := ifT h6 hf
        conv => whnf
        refine cut_go ?_
        conv => whnf
        refine at_go ?_
        conv => whnf
        obtain rfl := Option.some.inj hf
        refine ret_c hB wf (fun _ => by rfl) ?_
        exact cv rfl rfl
      · replace hf := ifF h7 hf
        conv => whnf
        refine at_go ?_
        conv => whnf
        refine veq_intro (IntKind.i64.wrap (v1 + 1)) rfl ?_
        conv => whnf
        exact ⟨IntKind.i64.wrap (v1 + 1), hf, (), sk hB (fw0 wf (by rfl) (fun _ => by rfl)) (by rfl) (by rfl) ⟨cv rfl rfl, cv rfl rfl, cv rfl rfl, cv rfl rfl, trivial⟩⟩
    · replace hf := ifF h4 hf
      conv => whnf
      refine at_go ?_
      conv => whnf
      refine cut_go ?_
      conv => whnf
      refine at_sub (env' := [(6, (cB true))]) (st' := ⟨hp, 0, g⟩) (sk hB (fw0 wf (by rfl) (fun _ => by rfl)) (by rfl) (by rfl) ⟨cv rfl rfl, trivial⟩) ?_
      refine at_go ?_
      conv => whnf
      obtain rfl := Option.some.inj hf
      refine ret_c hB wf (fun _ => by rfl) ?_
      exact cv rfl rfl

end Go.Eng
