/-
  Part of the proof that the law ProjectAll returns true at every input of bulk at most 1048576, and leaves its arguments as they were; the whole is stated at the end of the last text.
-/
import Derived.Test.YtdopmhicmehmeaaData
import Derived.Test.YtdopmhicmehmeaaCode
import Derived.Test.YtdopmhicmehmeaaWalkE
set_option maxRecDepth 100000
set_option linter.unusedVariables false
set_option linter.unusedSimpArgs false
namespace Go.Eng
open Go
noncomputable def project_Seen.w0 (v : api_View) (p : api_Part) (now : Int) : Nat → Int → List api_Part → Option (List api_Part)
  | 0, _, _ => none
  | k0 + 1, v1, v2 =>
    if (decide (v1 < (p.Rows.length : Int))) = true then
      (at? p.Rows v1).bind fun x4 =>
      (row_Seen.f x4 p.Gone now).bind fun x5 =>
      (row_Best.f x4 p.Gone v.On).bind fun x6 =>
      (project_Key.f p.Key x4.Key).bind fun x7 =>
      if (!x6.2) = true then
        project_Seen.w0 v p now k0 (IntKind.i64.wrap (v1 + 1)) v2
      else
      if (decide (400 < (x7.size : Int))) = true then
        project_Seen.w0 v p now k0 (IntKind.i64.wrap (v1 + 1)) v2
      else
      (project_pick.f v x5).bind fun x8 =>
      (at? [(⟨x7, (⟨(bs []), false, x6.1.At, x6.1.End⟩ : api_Cell), 0, 0, x8⟩ : api_Row)] 0).bind fun x9 =>
      (cell_Seen.f x9.Live now).bind fun x10 =>
      if (x10) = true then
        if (v2 ++ [(⟨x6.1.Val, 0, [(⟨x7, (⟨(bs []), false, x6.1.At, x6.1.End⟩ : api_Cell), 0, 0, x8⟩ : api_Row)]⟩ : api_Part)]).length ≤ 4294967296 then
        project_Seen.w0 v p now k0 (IntKind.i64.wrap (v1 + 1)) (v2 ++ [(⟨x6.1.Val, 0, [(⟨x7, (⟨(bs []), false, x6.1.At, x6.1.End⟩ : api_Cell), 0, 0, x8⟩ : api_Row)]⟩ : api_Part)])
        else none
      else
      project_Seen.w0 v p now k0 (IntKind.i64.wrap (v1 + 1)) v2
    else
    some v2

noncomputable def project_Seen.f (t : api_Table) (v : api_View) (p : api_Part) (now : Int) : Option (List api_Part) :=
  project_Seen.w0 v p now K0 0 ([] : List api_Part)

set_option maxHeartbeats 4000000 in
theorem project_Seen.pure (t : api_Table) (v : api_View) (p : api_Part) (now : Int) (res : List api_Part) (hf : project_Seen.f t v p now = some res) : Pure prog F.project_Seen [(agd (api_Table.d t)), (agd (api_View.d v)), (agd (api_Part.d p)), (cI now)] (.d (.sl 3 (res.map api_Part.d))) := by
  refine pure_fn project_Seen.res (Nat.le_of_ble_eq_true rfl) (fun _ => rfl) (fun _ => rfl) fun B hp g hB wf => ?_
  rw [project_Seen.f] at hf
  conv => whnf
  refine cut_go ?_
  conv => whnf
  refine at_go ?_
  conv => whnf
  refine cut_go ?_
  conv => whnf
  refine at_go ?_
  conv => whnf
  refine cut_go ?_
  conv => whnf
  refine cut_go ?_
  conv => whnf
  refine ⟨⟨rfl, Nat.le_of_ble_eq_true rfl⟩, ?_⟩
  conv => whnf
  refine ⟨rfl, ⟨_, rfl, ?_⟩⟩
  conv => whnf
  refine veq_intro p.Rows.length (by simp) ?_
  conv => whnf
  refine at_sub (env' := [(3, (cI now)), (5, (.ptr 1 0 0 0)), (6, (.ptr 2 0 0 0)), (9, nilS), (15, (.d (.sl 8 (p.Rows.map api_Row.d)))), (16, (cI (p.Rows.length : Int))), (17, (cI 0))]) (st' := ⟨(upd (upd hp 1 (.row 0 5 T.api_View [[(cS v.Name), (cI v.ID), (cS v.Table), (cS v.On), (.d (.sl 1 (v.Cols.map strD)))]])) 2 (.row 0 3 T.api_Part [[(cS p.Key), (cI p.Gone), (.d (.sl 8 (p.Rows.map api_Row.d)))]])), 3, g⟩) (sk hB (fwE (fwE (fw0 wf (by rfl) (fun _ => by rfl)) rfl rfl rfl) rfl rfl rfl) (by rfl) (by rfl) ⟨cv rfl rfl, cv rfl rfl, cv rfl rfl, cv rfl rfl, cv rfl rfl, cv rfl rfl, cv rfl rfl, trivial⟩) ?_
  refine at_go ?_
  conv => whnf
  refine loop_sub (sph 0 3 T.api_Part) ?_
  refine loop_sub (env' := [(3, (cI now)), (5, (.ptr 1 0 0 0)), (6, (.ptr 2 0 0 0)), (9, (.row 3 0 0 ([] : List api_Part).length)), (15, (.d (.sl 8 (p.Rows.map api_Row.d)))), (16, (cI (p.Rows.length : Int))), (17, (cI 0))]) (st' := ⟨(upd (upd (upd hp 1 (.row 0 5 T.api_View [[(cS v.Name), (cI v.ID), (cS v.Table), (cS v.On), (.d (.sl 1 (v.Cols.map strD)))]])) 2 (.row 0 3 T.api_Part [[(cS p.Key), (cI p.Gone), (.d (.sl 8 (p.Rows.map api_Row.d)))]])) 3 (.row 0 3 T.api_Part (dataRow api_Part.d ([] : List api_Part)))), 4, g⟩) (sk hB (fwD (fwE (fwE (fw0 wf (by rfl) (fun _ => by rfl)) rfl rfl rfl) rfl rfl rfl) rfl rfl rfl (fun _ => rfl)) (by rfl) (by rfl) ⟨cv rfl rfl, cv rfl rfl, cv rfl rfl, .ph (of_decide_eq_true rfl) rfl (Nat.zero_le _), cv rfl rfl, cv rfl rfl, cv rfl rfl, trivial⟩) ?_
  refine loop_f (α := Int × (List api_Part)) (γ := Nat) (fun v3 (v1, v2) => [(3, (cI now)), (5, (.ptr 1 0 0 0)), (6, (.ptr 2 0 0 0)), (9, (.row 3 v3 0 v2.length)), (15, (.d (.sl 8 (p.Rows.map api_Row.d)))), (16, (cI (p.Rows.length : Int))), (17, (cI v1))]) (fun v3 (v1, v2) => ⟨(upd (upd (upd hp 1 (.row 0 5 T.api_View [[(cS v.Name), (cI v.ID), (cS v.Table), (cS v.On), (.d (.sl 1 (v.Cols.map strD)))]])) 2 (.row 0 3 T.api_Part [[(cS p.Key), (cI p.Gone), (.d (.sl 8 (p.Rows.map api_Row.d)))]])) 3 (.row v3 3 T.api_Part (dataRow api_Part.d v2))), 4, g⟩) (fun k s => project_Seen.w0 v p now k s.1 s.2) (fun _ => rfl) ?_ K0 (0, ([] : List api_Part)) 0 hf
  intro k0 y v3 hf
  obtain ⟨v1, v2⟩ := y
  replace hf : project_Seen.w0 v p now (k0 + 1) v1 v2 = some _ := hf
  rw [project_Seen.w0] at hf
  try dsimp only
  conv => whnf
  refine cut_go ?_
  conv => whnf
  refine at_go ?_
  conv => whnf
  refine cut_go ?_
  conv => whnf
  refine vcond_intro (t := decide (v1 < (p.Rows.length : Int))) (fun h1 => ?_) (fun h2 => ?_)
  · replace hf := ifT h1 hf
    conv => whnf
    refine at_go ?_
    conv => whnf
    refine cut_go ?_
    conv => whnf
    refine cut_go ?_
    obtain ⟨x4, h3, hf⟩ := bnd hf
    conv => whnf
    refine ⟨⟨rfl, Nat.zero_lt_succ _⟩, at_nn h3, ⟨_, map_get (at_get h3), ?_⟩⟩
    conv => whnf
    refine ⟨⟨rfl, rfl⟩, ⟨_, rfl, Nat.le_of_ble_eq_true rfl, veq_intro [[(cS x4.Key), (cS x4.Live.Val), (cB x4.Live.Dead), (cI x4.Live.At), (cI x4.Live.End), (cI x4.Gone), (cI x4.Shade), (.d (.sl 5 (x4.Cols.map api_Col.d)))]] rfl ?_⟩⟩
    conv => whnf
    refine at_sub (env' := [(3, (cI now)), (5, (.ptr 1 0 0 0)), (6, (.ptr 2 0 0 0)), (9, (.row 3 v3 0 v2.length)), (11, (.ptr 4 0 0 0)), (15, (.d (.sl 8 (p.Rows.map api_Row.d)))), (16, (cI (p.Rows.length : Int))), (17, (cI v1))]) (st' := ⟨(upd (upd (upd (upd hp 1 (.row 0 5 T.api_View [[(cS v.Name), (cI v.ID), (cS v.Table), (cS v.On), (.d (.sl 1 (v.Cols.map strD)))]])) 2 (.row 0 3 T.api_Part [[(cS p.Key), (cI p.Gone), (.d (.sl 8 (p.Rows.map api_Row.d)))]])) 3 (.row v3 3 T.api_Part (dataRow api_Part.d v2))) 4 (.row 0 8 T.api_Row [[(cS x4.Key), (cS x4.Live.Val), (cB x4.Live.Dead), (cI x4.Live.At), (cI x4.Live.End), (cI x4.Gone), (cI x4.Shade), (.d (.sl 5 (x4.Cols.map api_Col.d)))]])), 5, g⟩) (sk hB (fwE (fwD (fwE (fwE (fw0 wf (by rfl) (fun _ => by rfl)) rfl rfl rfl) rfl rfl rfl) rfl rfl rfl (fun _ => rfl)) rfl rfl rfl) (by rfl) (by rfl) ⟨cv rfl rfl, cv rfl rfl, cv rfl rfl, cv rfl rfl, cv rfl rfl, cv rfl rfl, cv rfl rfl, cv rfl rfl, trivial⟩) ?_
    refine at_go ?_
    conv => whnf
    refine cut_go ?_
    conv => whnf
    refine ⟨rfl, ⟨_, rfl, ?_⟩⟩
    conv => whnf
    refine ⟨rfl, ⟨_, rfl, ?_⟩⟩
    conv => whnf
    refine ⟨rfl, ⟨_, rfl, ?_⟩⟩
    conv => whnf
    refine ⟨rfl, ⟨_, rfl, ?_⟩⟩
    conv => whnf
    refine ⟨⟨rfl, Nat.le_of_ble_eq_true rfl⟩, ?_⟩
    conv => whnf
    refine ⟨rfl, ⟨_, rfl, ?_⟩⟩
    conv => whnf
    refine ⟨?_, ?_⟩
    · obtain ⟨x5, h4, hf⟩ := bnd hf
      conv => whnf
      refine (row_Seen.pure x4 p.Gone now x5 h4).call ?_
      conv => whnf
      refine ⟨rfl, ?_⟩
      conv => whnf
      refine ⟨rfl, ⟨_, rfl, ?_⟩⟩
      conv => whnf
      refine ⟨rfl, ?_⟩
      conv => whnf
      refine ⟨rfl, ?_⟩
      conv => whnf
      refine ⟨rfl, ⟨_, rfl, ?_⟩⟩
      conv => whnf
      refine ⟨rfl, ?_⟩
      conv => whnf
      refine ⟨rfl, ?_⟩
      conv => whnf
      refine ⟨rfl, ⟨_, rfl, ?_⟩⟩
      conv => whnf
      refine ⟨rfl, ?_⟩
      conv => whnf
      refine ⟨?_, ?_⟩
      · conv => whnf
        refine inline_fn project_of.res (Nat.le_of_ble_eq_true rfl) (fun B1 hB1 => ?_)
        conv => whnf
        refine cut_go ?_
        conv => whnf
        refine at_go ?_
        conv => whnf
        refine cut_go ?_
        conv => whnf
        refine ⟨rfl, ⟨_, rfl, ?_⟩⟩
        conv => whnf
        refine ⟨⟨rfl, Nat.le_of_ble_eq_true rfl⟩, ?_⟩
        conv => whnf
        refine ⟨rfl, ⟨_, rfl, ?_⟩⟩
        conv => whnf
        refine ⟨⟨rfl, Nat.le_of_ble_eq_true rfl⟩, ?_⟩
        conv => whnf
        refine ⟨rfl, ⟨_, rfl, ?_⟩⟩
        obtain ⟨x6, h5, hf⟩ := bnd hf
        conv => whnf
        refine (row_Best.pure x4 p.Gone v.On x6 h5).call ?_
        conv => whnf
        refine ⟨⟨rfl, rfl⟩, ⟨_, rfl, Nat.le_of_ble_eq_true rfl, veq_intro [[(cS x6.1.Val), (cB x6.1.Dead), (cI x6.1.At), (cI x6.1.End)]] rfl ?_⟩⟩
        conv => whnf
        refine at_go ?_
        conv => whnf
        refine cut_go ?_
        conv => whnf
        refine ⟨⟨rfl, Nat.le_of_ble_eq_true rfl⟩, ?_⟩
        conv => whnf
        refine ⟨rfl, ⟨_, rfl, ?_⟩⟩
        conv => whnf
        refine ⟨⟨rfl, Nat.le_of_ble_eq_true rfl⟩, ?_⟩
        conv => whnf
        refine ⟨rfl, ⟨_, rfl, ?_⟩⟩
        obtain ⟨x7, h6, hf⟩ := bnd hf
        conv => whnf
        refine (project_Key.pure p.Key x4.Key x7 h6).call ?_
        conv => whnf
        refine at_sub (env' := [(3, (.d (.sl 5 (x5.map api_Col.d)))), (4, (.ptr 5 0 0 0)), (8, (.ptr 8 0 0 0)), (10, (.ptr 9 0 0 0)), (11, (cB x6.2)), (12, (cS x7))]) (st' := ⟨(upd (upd (upd (upd (upd (upd (upd hp 1 (.row 0 5 T.api_View [[(cS v.Name), (cI v.ID), (cS v.Table), (cS v.On), (.d (.sl 1 (v.Cols.map strD)))]])) 2 (.row 0 3 T.api_Part [[(cS p.Key), (cI p.Gone), (.d (.sl 8 (p.Rows.map api_Row.d)))]])) 3 (.row v3 3 T.api_Part (dataRow api_Part.d v2))) 4 (.row 0 8 T.api_Row [[(cS x4.Key), (cS x4.Live.Val), (cB x4.Live.Dead), (cI x4.Live.At), (cI x4.Live.End), (cI x4.Gone), (cI x4.Shade), (.d (.sl 5 (x4.Cols.map api_Col.d)))]])) 5 (.row 0 5 T.api_View [[(cS v.Name), (cI v.ID), (cS v.Table), (cS v.On), (.d (.sl 1 (v.Cols.map strD)))]])) 8 (.row 0 3 T.api_Part [[(cS (bs [])), (cI 0), nilS]])) 9 (.row 0 4 T.api_Cell [[(cS x6.1.Val), (cB x6.1.Dead), (cI x6.1.At), (cI x6.1.End)]])), 10, g⟩) (sk hB1 (fwE (fwE (fwE (fwE (fwD (fwE (fwE (fw0 wf (by rfl) (fun _ => by rfl)) rfl rfl rfl) rfl rfl rfl) rfl rfl rfl (fun _ => rfl)) rfl rfl rfl) rfl rfl rfl) rfl rfl rfl) rfl rfl rfl) (by rfl) (by rfl) ⟨cv rfl rfl, cv rfl rfl, cv rfl rfl, cv rfl rfl, cv rfl rfl, cv rfl rfl, trivial⟩) ?_
        refine at_go ?_
        conv => whnf
        refine cut_go ?_
        conv => whnf
        refine cut_go ?_
        conv => whnf
        refine vcond_intro (t := !x6.2) (fun h7 => ?_) (fun h8 => ?_)
        · replace hf := ifT h7 hf
          conv => whnf
          refine vcT rfl ?_
          conv => whnf
          refine vcT rfl ?_
          conv => whnf
          refine vcT rfl ?_
          conv => whnf
          refine at_go ?_
          conv => whnf
          refine vcT rfl ?_
          conv => whnf
          refine cut_go ?_
          conv => whnf
          refine ⟨⟨rfl, rfl⟩, ⟨_, rfl, Nat.le_of_ble_eq_true rfl, veq_intro [[(cS (bs [])), (cI 0), nilS]] rfl ?_⟩⟩
          conv => whnf
          refine at_go ?_
          conv => whnf
          refine ret_now ?_
          conv => whnf
          refine ⟨⟨rfl, rfl⟩, ⟨_, rfl, Nat.le_of_ble_eq_true rfl, veq_intro [[(cS (bs [])), (cI 0), nilS]] rfl ?_⟩⟩
          conv => whnf
          refine at_go ?_
          conv => whnf
          refine cut_go ?_
          conv => whnf
          refine vcF rfl ?_
          conv => whnf
          refine vcF rfl ?_
          conv => whnf
          refine vcF rfl ?_
          conv => whnf
          refine vcF rfl ?_
          conv => whnf
          refine vcF rfl ?_
          conv => whnf
          refine vcF rfl ?_
          conv => whnf
          refine vcF rfl ?_
          conv => whnf
          refine vcF rfl ?_
          conv => whnf
          refine at_go ?_
          conv => whnf
          refine vcF rfl ?_
          conv => whnf
          refine at_sub (env' := [(3, (cI now)), (5, (.ptr 1 0 0 0)), (6, (.ptr 2 0 0 0)), (9, (.row 3 v3 0 v2.length)), (12, (.ptr 10 0 0 0)), (15, (.d (.sl 8 (p.Rows.map api_Row.d)))), (16, (cI (p.Rows.length : Int))), (17, (cI v1)), (42, (cB false))]) (st' := ⟨(upd (upd (upd (upd hp 1 (.row 0 5 T.api_View [[(cS v.Name), (cI v.ID), (cS v.Table), (cS v.On), (.d (.sl 1 (v.Cols.map strD)))]])) 2 (.row 0 3 T.api_Part [[(cS p.Key), (cI p.Gone), (.d (.sl 8 (p.Rows.map api_Row.d)))]])) 3 (.row v3 3 T.api_Part (dataRow api_Part.d v2))) 10 (.row 0 3 T.api_Part [[(cS (bs [])), (cI 0), nilS]])), 11, g⟩) (sk hB (fwE (fwD (fwE (fwE (fw0 wf (by rfl) (fun _ => by rfl)) rfl rfl rfl) rfl rfl rfl) rfl rfl rfl (fun _ => rfl)) rfl rfl rfl) (by rfl) (by rfl) ⟨cv rfl rfl, cv rfl rfl, cv rfl rfl, cv rfl rfl, cv rfl rfl, cv rfl rfl, cv rfl rfl, cv rfl rfl, cv rfl rfl, trivial⟩) ?_
          refine at_go ?_
          conv => whnf
          refine veq_intro (IntKind.i64.wrap (v1 + 1)) rfl ?_
          conv => whnf
          exact ⟨(IntKind.i64.wrap (v1 + 1), v2), hf, v3, sk hB (fwD (fwE (fwE (fw0 wf (by rfl) (fun _ => by rfl)) rfl rfl rfl) rfl rfl rfl) rfl rfl rfl (fun _ => rfl)) (by rfl) (by rfl) ⟨cv rfl rfl, cv rfl rfl, cv rfl rfl, cv rfl rfl, cv rfl rfl, cv rfl rfl, cv rfl rfl, trivial⟩⟩
        · replace hf := ifF h8 hf
          conv => whnf
          refine vcF rfl ?_
          conv => whnf
          refine vcF rfl ?_
          conv => whnf
          refine vcF rfl ?_
          conv => whnf
          refine at_go ?_
          conv => whnf
          refine vcond_intro (t := decide (400 < (x7.size : Int))) (fun h9 => ?_) (fun h10 => ?_)
          · replace hf := ifT h9 hf
            conv => whnf
            refine cut_go ?_
            conv => whnf
            refine ⟨⟨rfl, rfl⟩, ⟨_, rfl, Nat.le_of_ble_eq_true rfl, veq_intro [[(cS (bs [])), (cI 0), nilS]] rfl ?_⟩⟩
            conv => whnf
            refine at_go ?_
            conv => whnf
            refine ret_now ?_
            conv => whnf
            refine ⟨⟨rfl, rfl⟩, ⟨_, rfl, Nat.le_of_ble_eq_true rfl, veq_intro [[(cS (bs [])), (cI 0), nilS]] rfl ?_⟩⟩
            conv => whnf
            refine at_go ?_
            conv => whnf
            refine cut_go ?_
            conv => whnf
            refine vcF rfl ?_
            conv => whnf
            refine vcF rfl ?_
            conv => whnf
            refine vcF rfl ?_
            conv => whnf
            refine vcF rfl ?_
            conv => whnf
            refine vcF rfl ?_
            conv => whnf
            refine vcF rfl ?_
            conv => whnf
            refine vcF rfl ?_
            conv => whnf
            refine vcF rfl ?_
            conv => whnf
            refine at_go ?_
            conv => whnf
            refine vcF rfl ?_
            conv => whnf
            refine at_sub (env' := [(3, (cI now)), (5, (.ptr 1 0 0 0)), (6, (.ptr 2 0 0 0)), (9, (.row 3 v3 0 v2.length)), (12, (.ptr 10 0 0 0)), (15, (.d (.sl 8 (p.Rows.map api_Row.d)))), (16, (cI (p.Rows.length : Int))), (17, (cI v1)), (42, (cB false))]) (st' := ⟨(upd (upd (upd (upd hp 1 (.row 0 5 T.api_View [[(cS v.Name), (cI v.ID), (cS v.Table), (cS v.On), (.d (.sl 1 (v.Cols.map strD)))]])) 2 (.row 0 3 T.api_Part [[(cS p.Key), (cI p.Gone), (.d (.sl 8 (p.Rows.map api_Row.d)))]])) 3 (.row v3 3 T.api_Part (dataRow api_Part.d v2))) 10 (.row 0 3 T.api_Part [[(cS (bs [])), (cI 0), nilS]])), 11, g⟩) (sk hB (fwE (fwD (fwE (fwE (fw0 wf (by rfl) (fun _ => by rfl)) rfl rfl rfl) rfl rfl rfl) rfl rfl rfl (fun _ => rfl)) rfl rfl rfl) (by rfl) (by rfl) ⟨cv rfl rfl, cv rfl rfl, cv rfl rfl, cv rfl rfl, cv rfl rfl, cv rfl rfl, cv rfl rfl, cv rfl rfl, cv rfl rfl, trivial⟩) ?_
            refine at_go ?_
            conv => whnf
            refine veq_intro (IntKind.i64.wrap (v1 + 1)) rfl ?_
            conv => whnf
            exact ⟨(IntKind.i64.wrap (v1 + 1), v2), hf, v3, sk hB (fwD (fwE (fwE (fw0 wf (by rfl) (fun _ => by rfl)) rfl rfl rfl) rfl rfl rfl) rfl rfl rfl (fun _ => rfl)) (by rfl) (by rfl) ⟨cv rfl rfl, cv rfl rfl, cv rfl rfl, cv rfl rfl, cv rfl rfl, cv rfl rfl, cv rfl rfl, trivial⟩⟩
          · replace hf := ifF h10 hf
            conv => whnf
            refine at_go ?_
            conv => whnf
            refine cut_go ?_
            conv => whnf
            refine ⟨⟨rfl, Nat.le_of_ble_eq_true rfl⟩, ?_⟩
            conv => whnf
            refine ⟨rfl, ⟨_, rfl, ?_⟩⟩
            conv => whnf
            refine ⟨⟨rfl, Nat.le_of_ble_eq_true rfl⟩, ?_⟩
            conv => whnf
            refine ⟨rfl, ⟨_, rfl, ?_⟩⟩
            conv => whnf
            refine ⟨⟨rfl, Nat.le_of_ble_eq_true rfl⟩, ?_⟩
            conv => whnf
            refine ⟨rfl, ⟨_, rfl, ?_⟩⟩
            conv => whnf
            refine ⟨rfl, ⟨_, rfl, ?_⟩⟩
            obtain ⟨x8, h11, hf⟩ := bnd hf
            conv => whnf
            refine (project_pick.pure v x5 x8 h11).call ?_
            conv => whnf
            refine ⟨rfl, ?_⟩
            conv => whnf
            refine ⟨rfl, ⟨_, rfl, ?_⟩⟩
            conv => whnf
            refine ⟨rfl, ?_⟩
            conv => whnf
            refine ⟨rfl, ?_⟩
            conv => whnf
            refine ⟨⟨rfl, Nat.le_of_ble_eq_true rfl⟩, ?_⟩
            conv => whnf
            refine ⟨rfl, ?_⟩
            conv => whnf
            refine ⟨rfl, ?_⟩
            conv => whnf
            refine ⟨rfl, ⟨_, rfl, ?_⟩⟩
            conv => whnf
            refine ⟨rfl, ?_⟩
            conv => whnf
            refine ⟨rfl, ?_⟩
            conv => whnf
            refine ⟨⟨rfl, Nat.le_of_ble_eq_true rfl⟩, ?_⟩
            conv => whnf
            refine ⟨rfl, ?_⟩
            conv => whnf
            refine ⟨rfl, ?_⟩
            conv => whnf
            refine ⟨rfl, ⟨_, rfl, ?_⟩⟩
            conv => whnf
            refine ⟨rfl, ?_⟩
            conv => whnf
            refine ⟨rfl, ?_⟩
            conv => whnf
            refine ⟨⟨rfl, Nat.le_of_ble_eq_true rfl⟩, ?_⟩
            conv => whnf
            refine ⟨rfl, ?_⟩
            conv => whnf
            refine veq_intro (dataRow api_Row.d [(⟨x7, (⟨(bs []), false, x6.1.At, x6.1.End⟩ : api_Cell), 0, 0, x8⟩ : api_Row)]) rfl ?_
            conv => whnf
            refine ⟨rfl, ?_⟩
            conv => whnf
            refine ⟨rfl, ⟨_, rfl, ?_⟩⟩
            conv => whnf
            refine ⟨rfl, ?_⟩
            conv => whnf
            refine ⟨rfl, ?_⟩
            conv => whnf
            refine ⟨⟨rfl, Nat.le_of_ble_eq_true rfl⟩, ?_⟩
            conv => whnf
            refine ⟨rfl, ?_⟩
            conv => whnf
            refine ⟨⟨rfl, rfl⟩, ⟨_, rfl, Nat.le_of_ble_eq_true rfl, veq_intro [[(cS x6.1.Val), (cI 0), (.row 10 0 0 1)]] rfl ?_⟩⟩
            conv => whnf
            refine at_sub (env' := [(8, (.ptr 8 0 0 0)), (9, (cB true))]) (st' := ⟨(upd (upd (upd (upd (upd (upd hp 1 (.row 0 5 T.api_View [[(cS v.Name), (cI v.ID), (cS v.Table), (cS v.On), (.d (.sl 1 (v.Cols.map strD)))]])) 2 (.row 0 3 T.api_Part [[(cS p.Key), (cI p.Gone), (.d (.sl 8 (p.Rows.map api_Row.d)))]])) 3 (.row v3 3 T.api_Part (dataRow api_Part.d v2))) 4 (.row 0 8 T.api_Row [[(cS x4.Key), (cS x4.Live.Val), (cB x4.Live.Dead), (cI x4.Live.At), (cI x4.Live.End), (cI x4.Gone), (cI x4.Shade), (.d (.sl 5 (x4.Cols.map api_Col.d)))]])) 8 (.row 0 3 T.api_Part [[(cS x6.1.Val), (cI 0), (.row 10 0 0 1)]])) 10 (.row 0 8 T.api_Row (dataRow api_Row.d [(⟨x7, (⟨(bs []), false, x6.1.At, x6.1.End⟩ : api_Cell), 0, 0, x8⟩ : api_Row)]))), 11, g⟩) (sk hB1 (fwD (fwE (fwE (fwD (fwE (fwE (fw0 wf (by rfl) (fun _ => by rfl)) rfl rfl rfl) rfl rfl rfl) rfl rfl rfl (fun _ => rfl)) rfl rfl rfl) rfl rfl rfl) rfl rfl rfl (fun _ => rfl)) (by rfl) (by rfl) ⟨cv rfl rfl, cv rfl rfl, trivial⟩) ?_
            refine at_go ?_
            conv => whnf
            refine ret_now ?_
            conv => whnf
            refine ⟨⟨rfl, rfl⟩, ⟨_, rfl, Nat.le_of_ble_eq_true rfl, veq_intro [[(cS x6.1.Val), (cI 0), (.row 10 0 0 1)]] rfl ?_⟩⟩
            conv => whnf
            refine at_go ?_
            conv => whnf
            refine cut_go ?_
            conv => whnf
            refine vcT rfl ?_
            conv => whnf
            refine ⟨⟨rfl, Nat.le_of_ble_eq_true rfl⟩, ?_⟩
            conv => whnf
            refine vcT rfl ?_
            conv => whnf
            refine ⟨rfl, ⟨_, rfl, ?_⟩⟩
            conv => whnf
            refine vcT rfl ?_
            conv => whnf
            refine ⟨⟨rfl, rfl⟩, (by decide), veq_intro 0 (Nat.zero_add _) ?_⟩
            conv => whnf
            refine vcT rfl ?_
            conv => whnf
            refine ⟨⟨rfl, Nat.le_of_ble_eq_true rfl⟩, ?_⟩
            conv => whnf
            refine vcT rfl ?_
            obtain ⟨x9, h12, hf⟩ := bnd hf
            conv => whnf
            refine ⟨rfl, ⟨_, row_get (at_get h12), ?_⟩⟩
            conv => whnf
            refine vcT rfl ?_
            conv => whnf
            refine vcT rfl ?_
            obtain ⟨x10, h13, hf⟩ := bnd hf
            conv => whnf
            refine (cell_Seen.pure x9.Live now x10 h13).call ?_
            conv => whnf
            refine vcT rfl ?_
            conv => whnf
            refine at_go ?_
            conv => whnf
            refine vcond_intro (t := x10) (fun h14 => ?_) (fun h15 => ?_)
            · replace hf := ifT h14 hf
              conv => whnf
              refine ⟨rfl, ⟨_, rfl, ?_⟩⟩
              conv => whnf
              refine veq_intro _ rfl ?_
              conv => whnf
              refine ⟨rfl, ?_⟩
              obtain ⟨h16, hf⟩ := grd hf
              conv => whnf
              refine veq_intro [[(cS x6.1.Val), (cI 0), (.row 10 0 0 1)]] rfl ⟨wid_ex (by rfl), ?_⟩
              conv => whnf
              refine ⟨⟨rfl, rfl, rfl⟩, row_len _ _, (by simpa using h16), veq_intro (dataRow api_Part.d v2 ++ [[(cS x6.1.Val), (cI 0), (.row 10 0 0 1)]]) rfl (veq_intro (v2 ++ [(⟨x6.1.Val, 0, [(⟨x7, (⟨(bs []), false, x6.1.At, x6.1.End⟩ : api_Cell), 0, 0, x8⟩ : api_Row)]⟩ : api_Part)]).length (by simp) ?_)⟩
              conv => whnf
              refine at_sub (env' := [(3, (cI now)), (5, (.ptr 1 0 0 0)), (6, (.ptr 2 0 0 0)), (9, (.row 3 (v3 + 1) 0 (v2 ++ [(⟨x6.1.Val, 0, [(⟨x7, (⟨(bs []), false, x6.1.At, x6.1.End⟩ : api_Cell), 0, 0, x8⟩ : api_Row)]⟩ : api_Part)]).length)), (15, (.d (.sl 8 (p.Rows.map api_Row.d)))), (16, (cI (p.Rows.length : Int))), (17, (cI v1))]) (st' := ⟨(upd (upd (upd (upd (upd (upd (upd hp 1 (.row 0 5 T.api_View [[(cS v.Name), (cI v.ID), (cS v.Table), (cS v.On), (.d (.sl 1 (v.Cols.map strD)))]])) 2 (.row 0 3 T.api_Part [[(cS p.Key), (cI p.Gone), (.d (.sl 8 (p.Rows.map api_Row.d)))]])) 3 (.row (v3 + 1) 3 T.api_Part (dataRow api_Part.d (v2 ++ [(⟨x6.1.Val, 0, [(⟨x7, (⟨(bs []), false, x6.1.At, x6.1.End⟩ : api_Cell), 0, 0, x8⟩ : api_Row)]⟩ : api_Part)])))) 4 (.row 0 8 T.api_Row [[(cS x4.Key), (cS x4.Live.Val), (cB x4.Live.Dead), (cI x4.Live.At), (cI x4.Live.End), (cI x4.Gone), (cI x4.Shade), (.d (.sl 5 (x4.Cols.map api_Col.d)))]])) 8 (.row 0 3 T.api_Part [[(cS x6.1.Val), (cI 0), (.d (.sl 8 ([(⟨x7, (⟨(bs []), false, x6.1.At, x6.1.End⟩ : api_Cell), 0, 0, x8⟩ : api_Row)].map api_Row.d)))]])) 11 (.row 0 3 T.api_Part [[(cS x6.1.Val), (cI 0), (.d (.sl 8 ([(⟨x7, (⟨(bs []), false, x6.1.At, x6.1.End⟩ : api_Cell), 0, 0, x8⟩ : api_Row)].map api_Row.d)))]])) 12 (.row 0 3 T.api_Part (dataRow api_Part.d [(⟨x6.1.Val, 0, [(⟨x7, (⟨(bs []), false, x6.1.At, x6.1.End⟩ : api_Cell), 0, 0, x8⟩ : api_Row)]⟩ : api_Part)]))), 13, g⟩) (sk hB (fwC (els' := dataRow api_Part.d [(⟨x6.1.Val, 0, [(⟨x7, (⟨(bs []), false, x6.1.At, x6.1.End⟩ : api_Cell), 0, 0, x8⟩ : api_Row)]⟩ : api_Part)]) (fwC (fwC (fwE (fwA (enc := api_Part.d) (l := v2) (m := [(⟨x6.1.Val, 0, [(⟨x7, (⟨(bs []), false, x6.1.At, x6.1.End⟩ : api_Cell), 0, 0, x8⟩ : api_Row)]⟩ : api_Part)]) (fwE (fwE (fw0 wf (by rfl) (fun _ => by rfl)) rfl rfl rfl) rfl rfl rfl) rfl rfl ⟨⟨cv rfl rfl, cv rfl rfl, cvz (enc := api_Row.d) (l := [(⟨x7, (⟨(bs []), false, x6.1.At, x6.1.End⟩ : api_Cell), 0, 0, x8⟩ : api_Row)]) rfl (wfn wf (by rfl)) rfl rfl, trivial⟩, trivial⟩ (fun _ => rfl)) rfl rfl rfl) rfl rfl ⟨⟨cv rfl rfl, cv rfl rfl, cvz (enc := api_Row.d) (l := [(⟨x7, (⟨(bs []), false, x6.1.At, x6.1.End⟩ : api_Cell), 0, 0, x8⟩ : api_Row)]) rfl (wfn wf (by rfl)) rfl rfl, trivial⟩, trivial⟩ rfl) rfl rfl ⟨⟨cv rfl rfl, cv rfl rfl, cvz (enc := api_Row.d) (l := [(⟨x7, (⟨(bs []), false, x6.1.At, x6.1.End⟩ : api_Cell), 0, 0, x8⟩ : api_Row)]) rfl (wfn wf (by rfl)) rfl rfl, trivial⟩, trivial⟩ rfl) rfl rfl ⟨⟨cv rfl rfl, cv rfl rfl, cvz (enc := api_Row.d) (l := [(⟨x7, (⟨(bs []), false, x6.1.At, x6.1.End⟩ : api_Cell), 0, 0, x8⟩ : api_Row)]) rfl (wfn wf (by rfl)) rfl rfl, trivial⟩, trivial⟩ (by rfl)) (by rfl) (by rfl) ⟨cv rfl rfl, cv rfl rfl, cv rfl rfl, cv rfl rfl, cv rfl rfl, cv rfl rfl, cv rfl rfl, trivial⟩) ?_
              refine at_sub (env' := [(3, (cI now)), (5, (.ptr 1 0 0 0)), (6, (.ptr 2 0 0 0)), (9, (.row 3 (v3 + 1) 0 (v2 ++ [(⟨x6.1.Val, 0, [(⟨x7, (⟨(bs []), false, x6.1.At, x6.1.End⟩ : api_Cell), 0, 0, x8⟩ : api_Row)]⟩ : api_Part)]).length)), (15, (.d (.sl 8 (p.Rows.map api_Row.d)))), (16, (cI (p.Rows.length : Int))), (17, (cI v1))]) (st' := ⟨(upd (upd (upd hp 1 (.row 0 5 T.api_View [[(cS v.Name), (cI v.ID), (cS v.Table), (cS v.On), (.d (.sl 1 (v.Cols.map strD)))]])) 2 (.row 0 3 T.api_Part [[(cS p.Key), (cI p.Gone), (.d (.sl 8 (p.Rows.map api_Row.d)))]])) 3 (.row (v3 + 1) 3 T.api_Part (dataRow api_Part.d (v2 ++ [(⟨x6.1.Val, 0, [(⟨x7, (⟨(bs []), false, x6.1.At, x6.1.End⟩ : api_Cell), 0, 0, x8⟩ : api_Row)]⟩ : api_Part)])))), 4, g⟩) (sk hB (fwD (fwE (fwE (fw0 wf (by rfl) (fun _ => by rfl)) rfl rfl rfl) rfl rfl rfl) rfl rfl rfl (fun _ => rfl)) (by rfl) (by rfl) ⟨cv rfl rfl, cv rfl rfl, cv rfl rfl, cv rfl rfl, cv rfl rfl, cv rfl rfl, cv rfl rfl, trivial⟩) ?_
              refine at_go ?_
              conv => whnf
              refine veq_intro (IntKind.i64.wrap (v1 + 1)) rfl ?_
              conv => whnf
              exact ⟨(IntKind.i64.wrap (v1 + 1), v2 ++ [(⟨x6.1.Val, 0, [(⟨x7, (⟨(bs []), false, x6.1.At, x6.1.End⟩ : api_Cell), 0, 0, x8⟩ : api_Row)]⟩ : api_Part)]), hf, (v3 + 1), sk hB (fwD (fwE (fwE (fw0 wf (by rfl) (fun _ => by rfl)) rfl rfl rfl) rfl rfl rfl) rfl rfl rfl (fun _ => rfl)) (by rfl) (by rfl) ⟨cv rfl rfl, cv rfl rfl, cv rfl rfl, cv rfl rfl, cv rfl rfl, cv rfl rfl, cv rfl rfl, trivial⟩⟩
            · replace hf := ifF h15 hf
              conv => whnf
              refine at_sub (env' := [(3, (cI now)), (5, (.ptr 1 0 0 0)), (6, (.ptr 2 0 0 0)), (9, (.row 3 v3 0 v2.length)), (12, (.ptr 11 0 0 0)), (15, (.d (.sl 8 (p.Rows.map api_Row.d)))), (16, (cI (p.Rows.length : Int))), (17, (cI v1)), (42, (cB x10))]) (st' := ⟨(upd (upd (upd (upd (upd hp 1 (.row 0 5 T.api_View [[(cS v.Name), (cI v.ID), (cS v.Table), (cS v.On), (.d (.sl 1 (v.Cols.map strD)))]])) 2 (.row 0 3 T.api_Part [[(cS p.Key), (cI p.Gone), (.d (.sl 8 (p.Rows.map api_Row.d)))]])) 3 (.row v3 3 T.api_Part (dataRow api_Part.d v2))) 10 (.row 0 8 T.api_Row (dataRow api_Row.d [(⟨x7, (⟨(bs []), false, x6.1.At, x6.1.End⟩ : api_Cell), 0, 0, x8⟩ : api_Row)]))) 11 (.row 0 3 T.api_Part [[(cS x6.1.Val), (cI 0), (.row 10 0 0 1)]])), 12, g⟩) (sk hB (fwE (fwD (fwD (fwE (fwE (fw0 wf (by rfl) (fun _ => by rfl)) rfl rfl rfl) rfl rfl rfl) rfl rfl rfl (fun _ => rfl)) rfl rfl rfl (fun _ => rfl)) rfl rfl rfl) (by rfl) (by rfl) ⟨cv rfl rfl, cv rfl rfl, cv rfl rfl, cv rfl rfl, cv rfl rfl, cv rfl rfl, cv rfl rfl, cv rfl rfl, cv rfl rfl, trivial⟩) ?_
              refine at_go ?_
              conv => whnf
              refine veq_intro (IntKind.i64.wrap (v1 + 1)) rfl ?_
              conv => whnf
              exact ⟨(IntKind.i64.wrap (v1 + 1), v2), hf, v3, sk hB (fwD (fwE (fwE (fw0 wf (by rfl) (fun _ => by rfl)) rfl rfl rfl) rfl rfl rfl) rfl rfl rfl (fun _ => rfl)) (by rfl) (by rfl) ⟨cv rfl rfl, cv rfl rfl, cv rfl rfl, cv rfl rfl, cv rfl rfl, cv rfl rfl, cv rfl rfl, trivial⟩⟩
      · conv => whnf
        refine ⟨rfl, ?_⟩
        conv => whnf
        refine ⟨rfl, ⟨_, rfl, ?_⟩⟩
        conv => whnf
        refine ⟨rfl, ?_⟩
        conv => whnf
        refine ⟨rfl, ?_⟩
        conv => whnf
        refine ⟨rfl, ⟨_, rfl, ?_⟩⟩
        conv => whnf
        refine ⟨rfl, ?_⟩
        conv => whnf
        refine ⟨rfl, ?_⟩
        conv => whnf
        refine ⟨rfl, ⟨_, rfl, ?_⟩⟩
        conv => whnf
        refine ⟨rfl, ?_⟩
        conv => whnf
        refine inline_fn project_of.res (Nat.le_of_ble_eq_true rfl) (fun B1 hB1 => ?_)
        conv => whnf
        refine cut_go ?_
        conv => whnf
        refine at_go ?_
        conv => whnf
        refine cut_go ?_
        conv => whnf
        refine ⟨rfl, ⟨_, rfl, ?_⟩⟩
        conv => whnf
        refine ⟨⟨rfl, Nat.le_of_ble_eq_true rfl⟩, ?_⟩
        conv => whnf
        refine ⟨rfl, ⟨_, rfl, ?_⟩⟩
        conv => whnf
        refine ⟨⟨rfl, Nat.le_of_ble_eq_true rfl⟩, ?_⟩
        conv => whnf
        refine ⟨rfl, ⟨_, rfl, ?_⟩⟩
        obtain ⟨x6, h17, hf⟩ := bnd hf
        conv => whnf
        refine (row_Best.pure x4 p.Gone v.On x6 h17).call ?_
        conv => whnf
        refine ⟨⟨rfl, rfl⟩, ⟨_, rfl, Nat.le_of_ble_eq_true rfl, veq_intro [[(cS x6.1.Val), (cB x6.1.Dead), (cI x6.1.At), (cI x6.1.End)]] rfl ?_⟩⟩
        conv => whnf
        refine at_go ?_
        conv => whnf
        refine cut_go ?_
        conv => whnf
        refine ⟨⟨rfl, Nat.le_of_ble_eq_true rfl⟩, ?_⟩
        conv => whnf
        refine ⟨rfl, ⟨_, rfl, ?_⟩⟩
        conv => whnf
        refine ⟨⟨rfl, Nat.le_of_ble_eq_true rfl⟩, ?_⟩
        conv => whnf
        refine ⟨rfl, ⟨_, rfl, ?_⟩⟩
        obtain ⟨x7, h18, hf⟩ := bnd hf
        conv => whnf
        refine (project_Key.pure p.Key x4.Key x7 h18).call ?_
        conv => whnf
        refine at_sub (env' := [(3, (.d (.sl 5 (x5.map api_Col.d)))), (4, (.ptr 6 0 0 0)), (8, (.ptr 9 0 0 0)), (10, (.ptr 10 0 0 0)), (11, (cB x6.2)), (12, (cS x7))]) (st' := ⟨(upd (upd (upd (upd (upd (upd (upd (upd hp 1 (.row 0 5 T.api_View [[(cS v.Name), (cI v.ID), (cS v.Table), (cS v.On), (.d (.sl 1 (v.Cols.map strD)))]])) 2 (.row 0 3 T.api_Part [[(cS p.Key), (cI p.Gone), (.d (.sl 8 (p.Rows.map api_Row.d)))]])) 3 (.row v3 3 T.api_Part (dataRow api_Part.d v2))) 4 (.row 0 8 T.api_Row [[(cS x4.Key), (cS x4.Live.Val), (cB x4.Live.Dead), (cI x4.Live.At), (cI x4.Live.End), (cI x4.Gone), (cI x4.Shade), (.d (.sl 5 (x4.Cols.map api_Col.d)))]])) 5 (.row 0 3 T.api_Part [[(cS (bs [])), (cI 0), nilS]])) 6 (.row 0 5 T.api_View [[(cS v.Name), (cI v.ID), (cS v.Table), (cS v.On), (.d (.sl 1 (v.Cols.map strD)))]])) 9 (.row 0 3 T.api_Part [[(cS (bs [])), (cI 0), nilS]])) 10 (.row 0 4 T.api_Cell [[(cS x6.1.Val), (cB x6.1.Dead), (cI x6.1.At), (cI x6.1.End)]])), 11, g⟩) (sk hB1 (fwE (fwE (fwE (fwE (fwE (fwD (fwE (fwE (fw0 wf (by rfl) (fun _ => by rfl)) rfl rfl rfl) rfl rfl rfl) rfl rfl rfl (fun _ => rfl)) rfl rfl rfl) rfl rfl rfl) rfl rfl rfl) rfl rfl rfl) rfl rfl rfl) (by rfl) (by rfl) ⟨cv rfl rfl, cv rfl rfl, cv rfl rfl, cv rfl rfl, cv rfl rfl, cv rfl rfl, trivial⟩) ?_
        refine at_go ?_
        conv => whnf
        refine cut_go ?_
        conv => whnf
        refine cut_go ?_
        conv => whnf
        refine vcond_intro (t := !x6.2) (fun h19 => ?_) (fun h20 => ?_)
        · replace hf := ifT h19 hf
          conv => whnf
          refine vcT rfl ?_
          conv => whnf
          refine vcT rfl ?_
          conv => whnf
          refine vcT rfl ?_
          conv => whnf
          refine at_go ?_
          conv => whnf
          refine vcT rfl ?_
          conv => whnf
          refine cut_go ?_
          conv => whnf
          refine ⟨⟨rfl, rfl⟩, ⟨_, rfl, Nat.le_of_ble_eq_true rfl, veq_intro [[(cS (bs [])), (cI 0), nilS]] rfl ?_⟩⟩
          conv => whnf
          refine at_go ?_
          conv => whnf
          refine ret_now ?_
          conv => whnf
          refine ⟨⟨rfl, rfl⟩, ⟨_, rfl, Nat.le_of_ble_eq_true rfl, veq_intro [[(cS (bs [])), (cI 0), nilS]] rfl ?_⟩⟩
          conv => whnf
          refine at_go ?_
          conv => whnf
          refine cut_go ?_
          conv => whnf
          refine vcF rfl ?_
          conv => whnf
          refine vcF rfl ?_
          conv => whnf
          refine vcF rfl ?_
          conv => whnf
          refine vcF rfl ?_
          conv => whnf
          refine vcF rfl ?_
          conv => whnf
          refine vcF rfl ?_
          conv => whnf
          refine vcF rfl ?_
          conv => whnf
          refine vcF rfl ?_
          conv => whnf
          refine at_go ?_
          conv => whnf
          refine vcF rfl ?_
          conv => whnf
          refine at_sub (env' := [(3, (cI now)), (5, (.ptr 1 0 0 0)), (6, (.ptr 2 0 0 0)), (9, (.row 3 v3 0 v2.length)), (12, (.ptr 5 0 0 0)), (15, (.d (.sl 8 (p.Rows.map api_Row.d)))), (16, (cI (p.Rows.length : Int))), (17, (cI v1)), (42, (cB false))]) (st' := ⟨(upd (upd (upd (upd hp 1 (.row 0 5 T.api_View [[(cS v.Name), (cI v.ID), (cS v.Table), (cS v.On), (.d (.sl 1 (v.Cols.map strD)))]])) 2 (.row 0 3 T.api_Part [[(cS p.Key), (cI p.Gone), (.d (.sl 8 (p.Rows.map api_Row.d)))]])) 3 (.row v3 3 T.api_Part (dataRow api_Part.d v2))) 5 (.row 0 3 T.api_Part [[(cS (bs [])), (cI 0), nilS]])), 6, g⟩) (sk hB (fwE (fwD (fwE (fwE (fw0 wf (by rfl) (fun _ => by rfl)) rfl rfl rfl) rfl rfl rfl) rfl rfl rfl (fun _ => rfl)) rfl rfl rfl) (by rfl) (by rfl) ⟨cv rfl rfl, cv rfl rfl, cv rfl rfl, cv rfl rfl, cv rfl rfl, cv rfl rfl, cv rfl rfl, cv rfl rfl, cv rfl rfl, trivial⟩) ?_
          refine at_go ?_
          conv => whnf
          refine veq_intro (IntKind.i64.wrap (v1 + 1)) rfl ?_
          conv => whnf
          exact ⟨(IntKind.i64.wrap (v1 + 1), v2), hf, v3, sk hB (fwD (fwE (fwE (fw0 wf (by rfl) (fun _ => by rfl)) rfl rfl rfl) rfl rfl rfl) rfl rfl rfl (fun _ => rfl)) (by rfl) (by rfl) ⟨cv rfl rfl, cv rfl rfl, cv rfl rfl, cv rfl rfl, cv rfl rfl, cv rfl rfl, cv rfl rfl, trivial⟩⟩
        · replace hf := ifF h20 hf
          conv => whnf
          refine vcF rfl ?_
          conv => whnf
          refine vcF rfl ?_
          conv => whnf
          refine vcF rfl ?_
          conv => whnf
          refine at_go ?_
          conv => whnf
          refine vcond_intro (t := decide (400 < (x7.size : Int))) (fun h21 => ?_) (fun h22 => ?_)
          · replace hf := ifT h21 hf
            conv => whnf
            refine cut_go ?_
            conv => whnf
            refine ⟨⟨rfl, rfl⟩, ⟨_, rfl, Nat.le_of_ble_eq_true rfl, veq_intro [[(cS (bs [])), (cI 0), nilS]] rfl ?_⟩⟩
            conv => whnf
            refine at_go ?_
            conv => whnf
            refine ret_now ?_
            conv => whnf
            refine ⟨⟨rfl, rfl⟩, ⟨_, rfl, Nat.le_of_ble_eq_true rfl, veq_intro [[(cS (bs [])), (cI 0), nilS]] rfl ?_⟩⟩
            conv => whnf
            refine at_go ?_
            conv => whnf
            refine cut_go ?_
            conv => whnf
            refine vcF rfl ?_
            conv => whnf
            refine vcF rfl ?_
            conv => whnf
            refine vcF rfl ?_
            conv => whnf
            refine vcF rfl ?_
            conv => whnf
            refine vcF rfl ?_
            conv => whnf
            refine vcF rfl ?_
            conv => whnf
            refine vcF rfl ?_
            conv => whnf
            refine vcF rfl ?_
            conv => whnf
            refine at_go ?_
            conv => whnf
            refine vcF rfl ?_
            conv => whnf
            refine at_sub (env' := [(3, (cI now)), (5, (.ptr 1 0 0 0)), (6, (.ptr 2 0 0 0)), (9, (.row 3 v3 0 v2.length)), (12, (.ptr 5 0 0 0)), (15, (.d (.sl 8 (p.Rows.map api_Row.d)))), (16, (cI (p.Rows.length : Int))), (17, (cI v1)), (42, (cB false))]) (st' := ⟨(upd (upd (upd (upd hp 1 (.row 0 5 T.api_View [[(cS v.Name), (cI v.ID), (cS v.Table), (cS v.On), (.d (.sl 1 (v.Cols.map strD)))]])) 2 (.row 0 3 T.api_Part [[(cS p.Key), (cI p.Gone), (.d (.sl 8 (p.Rows.map api_Row.d)))]])) 3 (.row v3 3 T.api_Part (dataRow api_Part.d v2))) 5 (.row 0 3 T.api_Part [[(cS (bs [])), (cI 0), nilS]])), 6, g⟩) (sk hB (fwE (fwD (fwE (fwE (fw0 wf (by rfl) (fun _ => by rfl)) rfl rfl rfl) rfl rfl rfl) rfl rfl rfl (fun _ => rfl)) rfl rfl rfl) (by rfl) (by rfl) ⟨cv rfl rfl, cv rfl rfl, cv rfl rfl, cv rfl rfl, cv rfl rfl, cv rfl rfl, cv rfl rfl, cv rfl rfl, cv rfl rfl, trivial⟩) ?_
            refine at_go ?_
            conv => whnf
            refine veq_intro (IntKind.i64.wrap (v1 + 1)) rfl ?_
            conv => whnf
            exact ⟨(IntKind.i64.wrap (v1 + 1), v2), hf, v3, sk hB (fwD (fwE (fwE (fw0 wf (by rfl) (fun _ => by rfl)) rfl rfl rfl) rfl rfl rfl) rfl rfl rfl (fun _ => rfl)) (by rfl) (by rfl) ⟨cv rfl rfl, cv rfl rfl, cv rfl rfl, cv rfl rfl, cv rfl rfl, cv rfl rfl, cv rfl rfl, trivial⟩⟩
          · replace hf := ifF h22 hf
            conv => whnf
            refine at_go ?_
            conv => whnf
            refine cut_go ?_
            conv => whnf
            refine ⟨⟨rfl, Nat.le_of_ble_eq_true rfl⟩, ?_⟩
            conv => whnf
            refine ⟨rfl, ⟨_, rfl, ?_⟩⟩
            conv => whnf
            refine ⟨⟨rfl, Nat.le_of_ble_eq_true rfl⟩, ?_⟩
            conv => whnf
            refine ⟨rfl, ⟨_, rfl, ?_⟩⟩
            conv => whnf
            refine ⟨⟨rfl, Nat.le_of_ble_eq_true rfl⟩, ?_⟩
            conv => whnf
            refine ⟨rfl, ⟨_, rfl, ?_⟩⟩
            conv => whnf
            refine ⟨rfl, ⟨_, rfl, ?_⟩⟩
            obtain ⟨x8, h23, hf⟩ := bnd hf
            conv => whnf
            refine (project_pick.pure v x5 x8 h23).call ?_
            conv => whnf
            refine ⟨rfl, ?_⟩
            conv => whnf
            refine ⟨rfl, ⟨_, rfl, ?_⟩⟩
            conv => whnf
            refine ⟨rfl, ?_⟩
            conv => whnf
            refine ⟨rfl, ?_⟩
            conv => whnf
            refine ⟨⟨rfl, Nat.le_of_ble_eq_true rfl⟩, ?_⟩
            conv => whnf
            refine ⟨rfl, ?_⟩
            conv => whnf
            refine ⟨rfl, ?_⟩
            conv => whnf
            refine ⟨rfl, ⟨_, rfl, ?_⟩⟩
            conv => whnf
            refine ⟨rfl, ?_⟩
            conv => whnf
            refine ⟨rfl, ?_⟩
            conv => whnf
            refine ⟨⟨rfl, Nat.le_of_ble_eq_true rfl⟩, ?_⟩
            conv => whnf
            refine ⟨rfl, ?_⟩
            conv => whnf
            refine ⟨rfl, ?_⟩
            conv => whnf
            refine ⟨rfl, ⟨_, rfl, ?_⟩⟩
            conv => whnf
            refine ⟨rfl, ?_⟩
            conv => whnf
            refine ⟨rfl, ?_⟩
            conv => whnf
            refine ⟨⟨rfl, Nat.le_of_ble_eq_true rfl⟩, ?_⟩
            conv => whnf
            refine ⟨rfl, ?_⟩
            conv => whnf
            refine veq_intro (dataRow api_Row.d [(⟨x7, (⟨(bs []), false, x6.1.At, x6.1.End⟩ : api_Cell), 0, 0, x8⟩ : api_Row)]) rfl ?_
            conv => whnf
            refine ⟨rfl, ?_⟩
            conv => whnf
            refine ⟨rfl, ⟨_, rfl, ?_⟩⟩
            conv => whnf
            refine ⟨rfl, ?_⟩
            conv => whnf
            refine ⟨rfl, ?_⟩
            conv => whnf
            refine ⟨⟨rfl, Nat.le_of_ble_eq_true rfl⟩, ?_⟩
            conv => whnf
            refine ⟨rfl, ?_⟩
            conv => whnf
            refine ⟨⟨rfl, rfl⟩, ⟨_, rfl, Nat.le_of_ble_eq_true rfl, veq_intro [[(cS x6.1.Val), (cI 0), (.row 11 0 0 1)]] rfl ?_⟩⟩
            conv => whnf
            refine at_sub (env' := [(8, (.ptr 9 0 0 0)), (9, (cB true))]) (st' := ⟨(upd (upd (upd (upd (upd (upd (upd hp 1 (.row 0 5 T.api_View [[(cS v.Name), (cI v.ID), (cS v.Table), (cS v.On), (.d (.sl 1 (v.Cols.map strD)))]])) 2 (.row 0 3 T.api_Part [[(cS p.Key), (cI p.Gone), (.d (.sl 8 (p.Rows.map api_Row.d)))]])) 3 (.row v3 3 T.api_Part (dataRow api_Part.d v2))) 4 (.row 0 8 T.api_Row [[(cS x4.Key), (cS x4.Live.Val), (cB x4.Live.Dead), (cI x4.Live.At), (cI x4.Live.End), (cI x4.Gone), (cI x4.Shade), (.d (.sl 5 (x4.Cols.map api_Col.d)))]])) 5 (.row 0 3 T.api_Part [[(cS (bs [])), (cI 0), nilS]])) 9 (.row 0 3 T.api_Part [[(cS x6.1.Val), (cI 0), (.row 11 0 0 1)]])) 11 (.row 0 8 T.api_Row (dataRow api_Row.d [(⟨x7, (⟨(bs []), false, x6.1.At, x6.1.End⟩ : api_Cell), 0, 0, x8⟩ : api_Row)]))), 12, g⟩) (sk hB1 (fwD (fwE (fwE (fwE (fwD (fwE (fwE (fw0 wf (by rfl) (fun _ => by rfl)) rfl rfl rfl) rfl rfl rfl) rfl rfl rfl (fun _ => rfl)) rfl rfl rfl) rfl rfl rfl) rfl rfl rfl) rfl rfl rfl (fun _ => rfl)) (by rfl) (by rfl) ⟨cv rfl rfl, cv rfl rfl, trivial⟩) ?_
            refine at_go ?_
            conv => whnf
            refine ret_now ?_
            conv => whnf
            refine ⟨⟨rfl, rfl⟩, ⟨_, rfl, Nat.le_of_ble_eq_true rfl, veq_intro [[(cS x6.1.Val), (cI 0), (.row 11 0 0 1)]] rfl ?_⟩⟩
            conv => whnf
            refine at_go ?_
            conv => whnf
            refine cut_go ?_
            conv => whnf
            refine vcT rfl ?_
            conv => whnf
            refine ⟨⟨rfl, Nat.le_of_ble_eq_true rfl⟩, ?_⟩
            conv => whnf
            refine vcT rfl ?_
            conv => whnf
            refine ⟨rfl, ⟨_, rfl, ?_⟩⟩
            conv => whnf
            refine vcT rfl ?_
            conv => whnf
            refine ⟨⟨rfl, rfl⟩, (by decide), veq_intro 0 (Nat.zero_add _) ?_⟩
            conv => whnf
            refine vcT rfl ?_
            conv => whnf
            refine ⟨⟨rfl, Nat.le_of_ble_eq_true rfl⟩, ?_⟩
            conv => whnf
            refine vcT rfl ?_
            obtain ⟨x9, h24, hf⟩ := bnd hf
            conv => whnf
            refine ⟨rfl, ⟨_, row_get (at_get h24), ?_⟩⟩
            conv => whnf
            refine vcT rfl ?_
            conv => whnf
            refine vcT rfl ?_
            obtain ⟨x10, h25, hf⟩ := bnd hf
            conv => whnf
            refine (cell_Seen.pure x9.Live now x10 h25).call ?_
            conv => whnf
            refine vcT rfl ?_
            conv => whnf
            refine at_go ?_
            conv => whnf
            refine vcond_intro (t := x10) (fun h26 => ?_) (fun h27 => ?_)
            · replace hf := ifT h26 hf
              conv => whnf
              refine ⟨rfl, ⟨_, rfl, ?_⟩⟩
              conv => whnf
              refine veq_intro _ rfl ?_
              conv => whnf
              refine ⟨rfl, ?_⟩
              obtain ⟨h28, hf⟩ := grd hf
              conv => whnf
              refine veq_intro [[(cS x6.1.Val), (cI 0), (.row 11 0 0 1)]] rfl ⟨wid_ex (by rfl), ?_⟩
              conv => whnf
              refine ⟨⟨rfl, rfl, rfl⟩, row_len _ _, (by simpa using h28), veq_intro (dataRow api_Part.d v2 ++ [[(cS x6.1.Val), (cI 0), (.row 11 0 0 1)]]) rfl (veq_intro (v2 ++ [(⟨x6.1.Val, 0, [(⟨x7, (⟨(bs []), false, x6.1.At, x6.1.End⟩ : api_Cell), 0, 0, x8⟩ : api_Row)]⟩ : api_Part)]).length (by simp) ?_)⟩
              conv => whnf
              refine at_sub (env' := [(3, (cI now)), (5, (.ptr 1 0 0 0)), (6, (.ptr 2 0 0 0)), (9, (.row 3 (v3 + 1) 0 (v2 ++ [(⟨x6.1.Val, 0, [(⟨x7, (⟨(bs []), false, x6.1.At, x6.1.End⟩ : api_Cell), 0, 0, x8⟩ : api_Row)]⟩ : api_Part)]).length)), (15, (.d (.sl 8 (p.Rows.map api_Row.d)))), (16, (cI (p.Rows.length : Int))), (17, (cI v1))]) (st' := ⟨(upd (upd (upd (upd (upd (upd (upd hp 1 (.row 0 5 T.api_View [[(cS v.Name), (cI v.ID), (cS v.Table), (cS v.On), (.d (.sl 1 (v.Cols.map strD)))]])) 2 (.row 0 3 T.api_Part [[(cS p.Key), (cI p.Gone), (.d (.sl 8 (p.Rows.map api_Row.d)))]])) 3 (.row (v3 + 1) 3 T.api_Part (dataRow api_Part.d (v2 ++ [(⟨x6.1.Val, 0, [(⟨x7, (⟨(bs []), false, x6.1.At, x6.1.End⟩ : api_Cell), 0, 0, x8⟩ : api_Row)]⟩ : api_Part)])))) 4 (.row 0 8 T.api_Row [[(cS x4.Key), (cS x4.Live.Val), (cB x4.Live.Dead), (cI x4.Live.At), (cI x4.Live.End), (cI x4.Gone), (cI x4.Shade), (.d (.sl 5 (x4.Cols.map api_Col.d)))]])) 5 (.row 0 3 T.api_Part [[(cS x6.1.Val), (cI 0), (.d (.sl 8 ([(⟨x7, (⟨(bs []), false, x6.1.At, x6.1.End⟩ : api_Cell), 0, 0, x8⟩ : api_Row)].map api_Row.d)))]])) 9 (.row 0 3 T.api_Part [[(cS x6.1.Val), (cI 0), (.d (.sl 8 ([(⟨x7, (⟨(bs []), false, x6.1.At, x6.1.End⟩ : api_Cell), 0, 0, x8⟩ : api_Row)].map api_Row.d)))]])) 12 (.row 0 3 T.api_Part (dataRow api_Part.d [(⟨x6.1.Val, 0, [(⟨x7, (⟨(bs []), false, x6.1.At, x6.1.End⟩ : api_Cell), 0, 0, x8⟩ : api_Row)]⟩ : api_Part)]))), 13, g⟩) (sk hB (fwC (els' := dataRow api_Part.d [(⟨x6.1.Val, 0, [(⟨x7, (⟨(bs []), false, x6.1.At, x6.1.End⟩ : api_Cell), 0, 0, x8⟩ : api_Row)]⟩ : api_Part)]) (fwC (fwC (fwE (fwA (enc := api_Part.d) (l := v2) (m := [(⟨x6.1.Val, 0, [(⟨x7, (⟨(bs []), false, x6.1.At, x6.1.End⟩ : api_Cell), 0, 0, x8⟩ : api_Row)]⟩ : api_Part)]) (fwE (fwE (fw0 wf (by rfl) (fun _ => by rfl)) rfl rfl rfl) rfl rfl rfl) rfl rfl ⟨⟨cv rfl rfl, cv rfl rfl, cvz (enc := api_Row.d) (l := [(⟨x7, (⟨(bs []), false, x6.1.At, x6.1.End⟩ : api_Cell), 0, 0, x8⟩ : api_Row)]) rfl (wfn wf (by rfl)) rfl rfl, trivial⟩, trivial⟩ (fun _ => rfl)) rfl rfl rfl) rfl rfl ⟨⟨cv rfl rfl, cv rfl rfl, cvz (enc := api_Row.d) (l := [(⟨x7, (⟨(bs []), false, x6.1.At, x6.1.End⟩ : api_Cell), 0, 0, x8⟩ : api_Row)]) rfl (wfn wf (by rfl)) rfl rfl, trivial⟩, trivial⟩ rfl) rfl rfl ⟨⟨cv rfl rfl, cv rfl rfl, cvz (enc := api_Row.d) (l := [(⟨x7, (⟨(bs []), false, x6.1.At, x6.1.End⟩ : api_Cell), 0, 0, x8⟩ : api_Row)]) rfl (wfn wf (by rfl)) rfl rfl, trivial⟩, trivial⟩ rfl) rfl rfl ⟨⟨cv rfl rfl, cv rfl rfl, cvz (enc := api_Row.d) (l := [(⟨x7, (⟨(bs []), false, x6.1.At, x6.1.End⟩ : api_Cell), 0, 0, x8⟩ : api_Row)]) rfl (wfn wf (by rfl)) rfl rfl, trivial⟩, trivial⟩ (by rfl)) (by rfl) (by rfl) ⟨cv rfl rfl, cv rfl rfl, cv rfl rfl, cv rfl rfl, cv rfl rfl, cv rfl rfl, cv rfl rfl, trivial⟩) ?_
              refine at_sub (env' := [(3, (cI now)), (5, (.ptr 1 0 0 0)), (6, (.ptr 2 0 0 0)), (9, (.row 3 (v3 + 1) 0 (v2 ++ [(⟨x6.1.Val, 0, [(⟨x7, (⟨(bs []), false, x6.1.At, x6.1.End⟩ : api_Cell), 0, 0, x8⟩ : api_Row)]⟩ : api_Part)]).length)), (15, (.d (.sl 8 (p.Rows.map api_Row.d)))), (16, (cI (p.Rows.length : Int))), (17, (cI v1))]) (st' := ⟨(upd (upd (upd hp 1 (.row 0 5 T.api_View [[(cS v.Name), (cI v.ID), (cS v.Table), (cS v.On), (.d (.sl 1 (v.Cols.map strD)))]])) 2 (.row 0 3 T.api_Part [[(cS p.Key), (cI p.Gone), (.d (.sl 8 (p.Rows.map api_Row.d)))]])) 3 (.row (v3 + 1) 3 T.api_Part (dataRow api_Part.d (v2 ++ [(⟨x6.1.Val, 0, [(⟨x7, (⟨(bs []), false, x6.1.At, x6.1.End⟩ : api_Cell), 0, 0, x8⟩ : api_Row)]⟩ : api_Part)])))), 4, g⟩) (sk hB (fwD (fwE (fwE (fw0 wf (by rfl) (fun _ => by rfl)) rfl rfl rfl) rfl rfl rfl) rfl rfl rfl (fun _ => rfl)) (by rfl) (by rfl) ⟨cv rfl rfl, cv rfl rfl, cv rfl rfl, cv rfl rfl, cv rfl rfl, cv rfl rfl, cv rfl rfl, trivial⟩) ?_
              refine at_go ?_
              conv => whnf
              refine veq_intro (IntKind.i64.wrap (v1 + 1)) rfl ?_
              conv => whnf
              exact ⟨(IntKind.i64.wrap (v1 + 1), v2 ++ [(⟨x6.1.Val, 0, [(⟨x7, (⟨(bs []), false, x6.1.At, x6.1.End⟩ : api_Cell), 0, 0, x8⟩ : api_Row)]⟩ : api_Part)]), hf, (v3 + 1), sk hB (fwD (fwE (fwE (fw0 wf (by rfl) (fun _ => by rfl)) rfl rfl rfl) rfl rfl rfl) rfl rfl rfl (fun _ => rfl)) (by rfl) (by rfl) ⟨cv rfl rfl, cv rfl rfl, cv rfl rfl, cv rfl rfl, cv rfl rfl, cv rfl rfl, cv rfl rfl, trivial⟩⟩
            · replace hf := ifF h27 hf
              conv => whnf
              refine at_sub (env' := [(3, (cI now)), (5, (.ptr 1 0 0 0)), (6, (.ptr 2 0 0 0)), (9, (.row 3 v3 0 v2.length)), (12, (.ptr 5 0 0 0)), (15, (.d (.sl 8 (p.Rows.map api_Row.d)))), (16, (cI (p.Rows.length : Int))), (17, (cI v1)), (42, (cB x10))]) (st' := ⟨(upd (upd (upd (upd (upd hp 1 (.row 0 5 T.api_View [[(cS v.Name), (cI v.ID), (cS v.Table), (cS v.On), (.d (.sl 1 (v.Cols.map strD)))]])) 2 (.row 0 3 T.api_Part [[(cS p.Key), (cI p.Gone), (.d (.sl 8 (p.Rows.map api_Row.d)))]])) 3 (.row v3 3 T.api_Part (dataRow api_Part.d v2))) 5 (.row 0 3 T.api_Part [[(cS x6.1.Val), (cI 0), (.row 11 0 0 1)]])) 11 (.row 0 8 T.api_Row (dataRow api_Row.d [(⟨x7, (⟨(bs []), false, x6.1.At, x6.1.End⟩ : api_Cell), 0, 0, x8⟩ : api_Row)]))), 12, g⟩) (sk hB (fwD (fwE (fwD (fwE (fwE (fw0 wf (by rfl) (fun _ => by rfl)) rfl rfl rfl) rfl rfl rfl) rfl rfl rfl (fun _ => rfl)) rfl rfl rfl) rfl rfl rfl (fun _ => rfl)) (by rfl) (by rfl) ⟨cv rfl rfl, cv rfl rfl, cv rfl rfl, cv rfl rfl, cv rfl rfl, cv rfl rfl, cv rfl rfl, cv rfl rfl, cv rfl rfl, trivial⟩) ?_
              refine at_go ?_
              conv => whnf
              refine veq_intro (IntKind.i64.wrap (v1 + 1)) rfl ?_
              conv => whnf
              exact ⟨(IntKind.i64.wrap (v1 + 1), v2), hf, v3, sk hB (fwD (fwE (fwE (fw0 wf (by rfl) (fun _ => by rfl)) rfl rfl rfl) rfl rfl rfl) rfl rfl rfl (fun _ => rfl)) (by rfl) (by rfl) ⟨cv rfl rfl, cv rfl rfl, cv rfl rfl, cv rfl rfl, cv rfl rfl, cv rfl rfl, cv rfl rfl, trivial⟩⟩
    · conv => whnf
      refine ⟨rfl, ?_⟩
      conv => whnf
      refine ⟨rfl, ⟨_, rfl, ?_⟩⟩
      conv => whnf
      refine ⟨rfl, ?_⟩
      conv => whnf
      refine ⟨rfl, ?_⟩
      conv => whnf
      refine ⟨⟨rfl, Nat.le_of_ble_eq_true rfl⟩, ?_⟩
      conv => whnf
      refine ⟨rfl, ?_⟩
      conv => whnf
      refine ⟨rfl, ?_⟩
      conv => whnf
      refine ⟨rfl, ⟨_, rfl, ?_⟩⟩
      conv => whnf
      refine ⟨rfl, ?_⟩
      conv => whnf
      refine ⟨rfl, ?_⟩
      conv => whnf
      refine ⟨rfl, ⟨_, rfl, ?_⟩⟩
      conv => whnf
      refine ⟨rfl, ?_⟩
      conv => whnf
      refine ⟨rfl, ?_⟩
      conv => whnf
      refine ⟨rfl, ⟨_, rfl, ?_⟩⟩
      conv => whnf
      refine ⟨rfl, ?_⟩
      conv => whnf
      refine ⟨rfl, ?_⟩
      conv => whnf
      refine ⟨rfl, ⟨_, rfl, ?_⟩⟩
      conv => whnf
      refine ⟨rfl, ?_⟩
      obtain ⟨x5, h29, hf⟩ := bnd hf
      conv => whnf
      refine (row_Seen.pure x4 p.Gone now x5 h29).call ?_
      conv => whnf
      refine ⟨rfl, ?_⟩
      conv => whnf
      refine ⟨rfl, ⟨_, rfl, ?_⟩⟩
      conv => whnf
      refine ⟨rfl, ?_⟩
      conv => whnf
      refine ⟨rfl, ?_⟩
      conv => whnf
      refine ⟨rfl, ⟨_, rfl, ?_⟩⟩
      conv => whnf
      refine ⟨rfl, ?_⟩
      conv => whnf
      refine ⟨rfl, ?_⟩
      conv => whnf
      refine ⟨rfl, ⟨_, rfl, ?_⟩⟩
      conv => whnf
      refine ⟨rfl, ?_⟩
      conv => whnf
      refine inline_fn project_of.res (Nat.le_of_ble_eq_true rfl) (fun B1 hB1 => ?_)
      conv => whnf
      refine cut_go ?_
      conv => whnf
      refine at_go ?_
      conv => whnf
      refine cut_go ?_
      conv => whnf
      refine ⟨rfl, ⟨_, rfl, ?_⟩⟩
      conv => whnf
      refine ⟨⟨rfl, Nat.le_of_ble_eq_true rfl⟩, ?_⟩
      conv => whnf
      refine ⟨rfl, ⟨_, rfl, ?_⟩⟩
      conv => whnf
      refine ⟨⟨rfl, Nat.le_of_ble_eq_true rfl⟩, ?_⟩
      conv => whnf
      refine ⟨rfl, ⟨_, rfl, ?_⟩⟩
      obtain ⟨x6, h30, hf⟩ := bnd hf
      conv => whnf
      refine (row_Best.pure x4 p.Gone v.On x6 h30).call ?_
      conv => whnf
      refine ⟨⟨rfl, rfl⟩, ⟨_, rfl, Nat.le_of_ble_eq_true rfl, veq_intro [[(cS x6.1.Val), (cB x6.1.Dead), (cI x6.1.At), (cI x6.1.End)]] rfl ?_⟩⟩
      conv => whnf
      refine at_go ?_
      conv => whnf
      refine cut_go ?_
      conv => whnf
      refine ⟨⟨rfl, Nat.le_of_ble_eq_true rfl⟩, ?_⟩
      conv => whnf
      refine ⟨rfl, ⟨_, rfl, ?_⟩⟩
      conv => whnf
      refine ⟨⟨rfl, Nat.le_of_ble_eq_true rfl⟩, ?_⟩
      conv => whnf
      refine ⟨rfl, ⟨_, rfl, ?_⟩⟩
      obtain ⟨x7, h31, hf⟩ := bnd hf
      conv => whnf
      refine (project_Key.pure p.Key x4.Key x7 h31).call ?_
      conv => whnf
      refine at_sub (env' := [(3, (.d (.sl 5 (x5.map api_Col.d)))), (4, (.ptr 6 0 0 0)), (8, (.ptr 9 0 0 0)), (10, (.ptr 10 0 0 0)), (11, (cB x6.2)), (12, (cS x7))]) (st' := ⟨(upd (upd (upd (upd (upd (upd (upd (upd hp 1 (.row 0 5 T.api_View [[(cS v.Name), (cI v.ID), (cS v.Table), (cS v.On), (.d (.sl 1 (v.Cols.map strD)))]])) 2 (.row 0 3 T.api_Part [[(cS p.Key), (cI p.Gone), (.d (.sl 8 (p.Rows.map api_Row.d)))]])) 3 (.row v3 3 T.api_Part (dataRow api_Part.d v2))) 4 (.row 0 8 T.api_Row [[(cS x4.Key), (cS x4.Live.Val), (cB x4.Live.Dead), (cI x4.Live.At), (cI x4.Live.End), (cI x4.Gone), (cI x4.Shade), (.d (.sl 5 (x4.Cols.map api_Col.d)))]])) 5 (.row 0 3 T.api_Part [[(cS (bs [])), (cI 0), nilS]])) 6 (.row 0 5 T.api_View [[(cS v.Name), (cI v.ID), (cS v.Table), (cS v.On), (.d (.sl 1 (v.Cols.map strD)))]])) 9 (.row 0 3 T.api_Part [[(cS (bs [])), (cI 0), nilS]])) 10 (.row 0 4 T.api_Cell [[(cS x6.1.Val), (cB x6.1.Dead), (cI x6.1.At), (cI x6.1.End)]])), 11, g⟩) (sk hB1 (fwE (fwE (fwE (fwE (fwE (fwD (fwE (fwE (fw0 wf (by rfl) (fun _ => by rfl)) rfl rfl rfl) rfl rfl rfl) rfl rfl rfl (fun _ => rfl)) rfl rfl rfl) rfl rfl rfl) rfl rfl rfl) rfl rfl rfl) rfl rfl rfl) (by rfl) (by rfl) ⟨cv rfl rfl, cv rfl rfl, cv rfl rfl, cv rfl rfl, cv rfl rfl, cv rfl rfl, trivial⟩) ?_
      refine at_go ?_
      conv => whnf
      refine cut_go ?_
      conv => whnf
      refine cut_go ?_
      conv => whnf
      refine vcond_intro (t := !x6.2) (fun h32 => ?_) (fun h33 => ?_)
      · replace hf := ifT h32 hf
        conv => whnf
        refine vcT rfl ?_
        conv => whnf
        refine vcT rfl ?_
        conv => whnf
        refine vcT rfl ?_
        conv => whnf
        refine at_go ?_
        conv => whnf
        refine vcT rfl ?_
        conv => whnf
        refine cut_go ?_
        conv => whnf
        refine ⟨⟨rfl, rfl⟩, ⟨_, rfl, Nat.le_of_ble_eq_true rfl, veq_intro [[(cS (bs [])), (cI 0), nilS]] rfl ?_⟩⟩
        conv => whnf
        refine at_go ?_
        conv => whnf
        refine ret_now ?_
        conv => whnf
        refine ⟨⟨rfl, rfl⟩, ⟨_, rfl, Nat.le_of_ble_eq_true rfl, veq_intro [[(cS (bs [])), (cI 0), nilS]] rfl ?_⟩⟩
        conv => whnf
        refine at_go ?_
        conv => whnf
        refine cut_go ?_
        conv => whnf
        refine vcF rfl ?_
        conv => whnf
        refine vcF rfl ?_
        conv => whnf
        refine vcF rfl ?_
        conv => whnf
        refine vcF rfl ?_
        conv => whnf
        refine vcF rfl ?_
        conv => whnf
        refine vcF rfl ?_
        conv => whnf
        refine vcF rfl ?_
        conv => whnf
        refine vcF rfl ?_
        conv => whnf
        refine at_go ?_
        conv => whnf
        refine vcF rfl ?_
        conv => whnf
        refine at_sub (env' := [(3, (cI now)), (5, (.ptr 1 0 0 0)), (6, (.ptr 2 0 0 0)), (9, (.row 3 v3 0 v2.length)), (12, (.ptr 5 0 0 0)), (15, (.d (.sl 8 (p.Rows.map api_Row.d)))), (16, (cI (p.Rows.length : Int))), (17, (cI v1)), (42, (cB false))]) (st' := ⟨(upd (upd (upd (upd hp 1 (.row 0 5 T.api_View [[(cS v.Name), (cI v.ID), (cS v.Table), (cS v.On), (.d (.sl 1 (v.Cols.map strD)))]])) 2 (.row 0 3 T.api_Part [[(cS p.Key), (cI p.Gone), (.d (.sl 8 (p.Rows.map api_Row.d)))]])) 3 (.row v3 3 T.api_Part (dataRow api_Part.d v2))) 5 (.row 0 3 T.api_Part [[(cS (bs [])), (cI 0), nilS]])), 6, g⟩) (sk hB (fwE (fwD (fwE (fwE (fw0 wf (by rfl) (fun _ => by rfl)) rfl rfl rfl) rfl rfl rfl) rfl rfl rfl (fun _ => rfl)) rfl rfl rfl) (by rfl) (by rfl) ⟨cv rfl rfl, cv rfl rfl, cv rfl rfl, cv rfl rfl, cv rfl rfl, cv rfl rfl, cv rfl rfl, cv rfl rfl, cv rfl rfl, trivial⟩) ?_
        refine at_go ?_
        conv => whnf
        refine veq_intro (IntKind.i64.wrap (v1 + 1)) rfl ?_
        conv => whnf
        exact ⟨(IntKind.i64.wrap (v1 + 1), v2), hf, v3, sk hB (fwD (fwE (fwE (fw0 wf (by rfl) (fun _ => by rfl)) rfl rfl rfl) rfl rfl rfl) rfl rfl rfl (fun _ => rfl)) (by rfl) (by rfl) ⟨cv rfl rfl, cv rfl rfl, cv rfl rfl, cv rfl rfl, cv rfl rfl, cv rfl rfl, cv rfl rfl, trivial⟩⟩
      · replace hf := ifF h33 hf
        conv => whnf
        refine vcF rfl ?_
        conv => whnf
        refine vcF rfl ?_
        conv => whnf
        refine vcF rfl ?_
        conv => whnf
        refine at_go ?_
        conv => whnf
        refine vcond_intro (t := decide (400 < (x7.size : Int))) (fun h34 => ?_) (fun h35 => ?_)
        · replace hf := ifT h34 hf
          conv => whnf
          refine cut_go ?_
          conv => whnf
          refine ⟨⟨rfl, rfl⟩, ⟨_, rfl, Nat.le_of_ble_eq_true rfl, veq_intro [[(cS (bs [])), (cI 0), nilS]] rfl ?_⟩⟩
          conv => whnf
          refine at_go ?_
          conv => whnf
          refine ret_now ?_
          conv => whnf
          refine ⟨⟨rfl, rfl⟩, ⟨_, rfl, Nat.le_of_ble_eq_true rfl, veq_intro [[(cS (bs [])), (cI 0), nilS]] rfl ?_⟩⟩
          conv => whnf
          refine at_go ?_
          conv => whnf
          refine cut_go ?_
          conv => whnf
          refine vcF rfl ?_
          conv => whnf
          refine vcF rfl ?_
          conv => whnf
          refine vcF rfl ?_
          conv => whnf
          refine vcF rfl ?_
          conv => whnf
          refine vcF rfl ?_
          conv => whnf
          refine vcF rfl ?_
          conv => whnf
          refine vcF rfl ?_
          conv => whnf
          refine vcF rfl ?_
          conv => whnf
          refine at_go ?_
          conv => whnf
          refine vcF rfl ?_
          conv => whnf
          refine at_sub (env' := [(3, (cI now)), (5, (.ptr 1 0 0 0)), (6, (.ptr 2 0 0 0)), (9, (.row 3 v3 0 v2.length)), (12, (.ptr 5 0 0 0)), (15, (.d (.sl 8 (p.Rows.map api_Row.d)))), (16, (cI (p.Rows.length : Int))), (17, (cI v1)), (42, (cB false))]) (st' := ⟨(upd (upd (upd (upd hp 1 (.row 0 5 T.api_View [[(cS v.Name), (cI v.ID), (cS v.Table), (cS v.On), (.d (.sl 1 (v.Cols.map strD)))]])) 2 (.row 0 3 T.api_Part [[(cS p.Key), (cI p.Gone), (.d (.sl 8 (p.Rows.map api_Row.d)))]])) 3 (.row v3 3 T.api_Part (dataRow api_Part.d v2))) 5 (.row 0 3 T.api_Part [[(cS (bs [])), (cI 0), nilS]])), 6, g⟩) (sk hB (fwE (fwD (fwE (fwE (fw0 wf (by rfl) (fun _ => by rfl)) rfl rfl rfl) rfl rfl rfl) rfl rfl rfl (fun _ => rfl)) rfl rfl rfl) (by rfl) (by rfl) ⟨cv rfl rfl, cv rfl rfl, cv rfl rfl, cv rfl rfl, cv rfl rfl, cv rfl rfl, cv rfl rfl, cv rfl rfl, cv rfl rfl, trivial⟩) ?_
          refine at_go ?_
          conv => whnf
          refine veq_intro (IntKind.i64.wrap (v1 + 1)) rfl ?_
          conv => whnf
          exact ⟨(IntKind.i64.wrap (v1 + 1), v2), hf, v3, sk hB (fwD (fwE (fwE (fw0 wf (by rfl) (fun _ => by rfl)) rfl rfl rfl) rfl rfl rfl) rfl rfl rfl (fun _ => rfl)) (by rfl) (by rfl) ⟨cv rfl rfl, cv rfl rfl, cv rfl rfl, cv rfl rfl, cv rfl rfl, cv rfl rfl, cv rfl rfl, trivial⟩⟩
        · replace hf := ifF h35 hf
          conv => whnf
          refine at_go ?_
          conv => whnf
          refine cut_go ?_
          conv => whnf
          refine ⟨⟨rfl, Nat.le_of_ble_eq_true rfl⟩, ?_⟩
          conv => whnf
          refine ⟨rfl, ⟨_, rfl, ?_⟩⟩
          conv => whnf
          refine ⟨⟨rfl, Nat.le_of_ble_eq_true rfl⟩, ?_⟩
          conv => whnf
          refine ⟨rfl, ⟨_, rfl, ?_⟩⟩
          conv => whnf
          refine ⟨⟨rfl, Nat.le_of_ble_eq_true rfl⟩, ?_⟩
          conv => whnf
          refine ⟨rfl, ⟨_, rfl, ?_⟩⟩
          conv => whnf
          refine ⟨rfl, ⟨_, rfl, ?_⟩⟩
          obtain ⟨x8, h36, hf⟩ := bnd hf
          conv => whnf
          refine (project_pick.pure v x5 x8 h36).call ?_
          conv => whnf
          refine ⟨rfl, ?_⟩
          conv => whnf
          refine ⟨rfl, ⟨_, rfl, ?_⟩⟩
          conv => whnf
          refine ⟨rfl, ?_⟩
          conv => whnf
          refine ⟨rfl, ?_⟩
          conv => whnf
          refine ⟨⟨rfl, Nat.le_of_ble_eq_true rfl⟩, ?_⟩
          conv => whnf
          refine ⟨rfl, ?_⟩
          conv => whnf
          refine ⟨rfl, ?_⟩
          conv => whnf
          refine ⟨rfl, ⟨_, rfl, ?_⟩⟩
          conv => whnf
          refine ⟨rfl, ?_⟩
          conv => whnf
          refine ⟨rfl, ?_⟩
          conv => whnf
          refine ⟨⟨rfl, Nat.le_of_ble_eq_true rfl⟩, ?_⟩
          conv => whnf
          refine ⟨rfl, ?_⟩
          conv => whnf
          refine ⟨rfl, ?_⟩
          conv => whnf
          refine ⟨rfl, ⟨_, rfl, ?_⟩⟩
          conv => whnf
          refine ⟨rfl, ?_⟩
          conv => whnf
          refine ⟨rfl, ?_⟩
          conv => whnf
          refine ⟨⟨rfl, Nat.le_of_ble_eq_true rfl⟩, ?_⟩
          conv => whnf
          refine ⟨rfl, ?_⟩
          conv => whnf
          refine veq_intro (dataRow api_Row.d [(⟨x7, (⟨(bs []), false, x6.1.At, x6.1.End⟩ : api_Cell), 0, 0, x8⟩ : api_Row)]) rfl ?_
          conv => whnf
          refine ⟨rfl, ?_⟩
          conv => whnf
          refine ⟨rfl, ⟨_, rfl, ?_⟩⟩
          conv => whnf
          refine ⟨rfl, ?_⟩
          conv => whnf
          refine ⟨rfl, ?_⟩
          conv => whnf
          refine ⟨⟨rfl, Nat.le_of_ble_eq_true rfl⟩, ?_⟩
          conv => whnf
          refine ⟨rfl, ?_⟩
          conv => whnf
          refine ⟨⟨rfl, rfl⟩, ⟨_, rfl, Nat.le_of_ble_eq_true rfl, veq_intro [[(cS x6.1.Val), (cI 0), (.row 11 0 0 1)]] rfl ?_⟩⟩
          conv => whnf
          refine at_sub (env' := [(8, (.ptr 9 0 0 0)), (9, (cB true))]) (st' := ⟨(upd (upd (upd (upd (upd (upd (upd hp 1 (.row 0 5 T.api_View [[(cS v.Name), (cI v.ID), (cS v.Table), (cS v.On), (.d (.sl 1 (v.Cols.map strD)))]])) 2 (.row 0 3 T.api_Part [[(cS p.Key), (cI p.Gone), (.d (.sl 8 (p.Rows.map api_Row.d)))]])) 3 (.row v3 3 T.api_Part (dataRow api_Part.d v2))) 4 (.row 0 8 T.api_Row [[(cS x4.Key), (cS x4.Live.Val), (cB x4.Live.Dead), (cI x4.Live.At), (cI x4.Live.End), (cI x4.Gone), (cI x4.Shade), (.d (.sl 5 (x4.Cols.map api_Col.d)))]])) 5 (.row 0 3 T.api_Part [[(cS (bs [])), (cI 0), nilS]])) 9 (.row 0 3 T.api_Part [[(cS x6.1.Val), (cI 0), (.row 11 0 0 1)]])) 11 (.row 0 8 T.api_Row (dataRow api_Row.d [(⟨x7, (⟨(bs []), false, x6.1.At, x6.1.End⟩ : api_Cell), 0, 0, x8⟩ : api_Row)]))), 12, g⟩) (sk hB1 (fwD (fwE (fwE (fwE (fwD (fwE (fwE (fw0 wf (by rfl) (fun _ => by rfl)) rfl rfl rfl) rfl rfl rfl) rfl rfl rfl (fun _ => rfl)) rfl rfl rfl) rfl rfl rfl) rfl rfl rfl) rfl rfl rfl (fun _ => rfl)) (by rfl) (by rfl) ⟨cv rfl rfl, cv rfl rfl, trivial⟩) ?_
          refine at_go ?_
          conv => whnf
          refine ret_now ?_
          conv => whnf
          refine ⟨⟨rfl, rfl⟩, ⟨_, rfl, Nat.le_of_ble_eq_true rfl, veq_intro [[(cS x6.1.Val), (cI 0), (.row 11 0 0 1)]] rfl ?_⟩⟩
          conv => whnf
          refine at_go ?_
          conv => whnf
          refine cut_go ?_
          conv => whnf
          refine vcT rfl ?_
          conv => whnf
          refine ⟨⟨rfl, Nat.le_of_ble_eq_true rfl⟩, ?_⟩
          conv => whnf
          refine vcT rfl ?_
          conv => whnf
          refine ⟨rfl, ⟨_, rfl, ?_⟩⟩
          conv => whnf
          refine vcT rfl ?_
          conv => whnf
          refine ⟨⟨rfl, rfl⟩, (by decide), veq_intro 0 (Nat.zero_add _) ?_⟩
          conv => whnf
          refine vcT rfl ?_
          conv => whnf
          refine ⟨⟨rfl, Nat.le_of_ble_eq_true rfl⟩, ?_⟩
          conv => whnf
          refine vcT rfl ?_
          obtain ⟨x9, h37, hf⟩ := bnd hf
          conv => whnf
          refine ⟨rfl, ⟨_, row_get (at_get h37), ?_⟩⟩
          conv => whnf
          refine vcT rfl ?_
          conv => whnf
          refine vcT rfl ?_
          obtain ⟨x10, h38, hf⟩ := bnd hf
          conv => whnf
          refine (cell_Seen.pure x9.Live now x10 h38).call ?_
          conv => whnf
          refine vcT rfl ?_
          conv => whnf
          refine at_go ?_
          conv => whnf
          refine vcond_intro (t := x10) (fun h39 => ?_) (fun h40 => ?_)
          · replace hf := ifT h39 hf
            conv => whnf
            refine ⟨rfl, ⟨_, rfl, ?_⟩⟩
            conv => whnf
            refine veq_intro _ rfl ?_
            conv => whnf
            refine ⟨rfl, ?_⟩
            obtain ⟨h41, hf⟩ := grd hf
            conv => whnf
            refine veq_intro [[(cS x6.1.Val), (cI 0), (.row 11 0 0 1)]] rfl ⟨wid_ex (by rfl), ?_⟩
            conv => whnf
            refine ⟨⟨rfl, rfl, rfl⟩, row_len _ _, (by simpa using h41), veq_intro (dataRow api_Part.d v2 ++ [[(cS x6.1.Val), (cI 0), (.row 11 0 0 1)]]) rfl (veq_intro (v2 ++ [(⟨x6.1.Val, 0, [(⟨x7, (⟨(bs []), false, x6.1.At, x6.1.End⟩ : api_Cell), 0, 0, x8⟩ : api_Row)]⟩ : api_Part)]).length (by simp) ?_)⟩
            conv => whnf
            refine at_sub (env' := [(3, (cI now)), (5, (.ptr 1 0 0 0)), (6, (.ptr 2 0 0 0)), (9, (.row 3 (v3 + 1) 0 (v2 ++ [(⟨x6.1.Val, 0, [(⟨x7, (⟨(bs []), false, x6.1.At, x6.1.End⟩ : api_Cell), 0, 0, x8⟩ : api_Row)]⟩ : api_Part)]).length)), (15, (.d (.sl 8 (p.Rows.map api_Row.d)))), (16, (cI (p.Rows.length : Int))), (17, (cI v1))]) (st' := ⟨(upd (upd (upd (upd (upd (upd (upd hp 1 (.row 0 5 T.api_View [[(cS v.Name), (cI v.ID), (cS v.Table), (cS v.On), (.d (.sl 1 (v.Cols.map strD)))]])) 2 (.row 0 3 T.api_Part [[(cS p.Key), (cI p.Gone), (.d (.sl 8 (p.Rows.map api_Row.d)))]])) 3 (.row (v3 + 1) 3 T.api_Part (dataRow api_Part.d (v2 ++ [(⟨x6.1.Val, 0, [(⟨x7, (⟨(bs []), false, x6.1.At, x6.1.End⟩ : api_Cell), 0, 0, x8⟩ : api_Row)]⟩ : api_Part)])))) 4 (.row 0 8 T.api_Row [[(cS x4.Key), (cS x4.Live.Val), (cB x4.Live.Dead), (cI x4.Live.At), (cI x4.Live.End), (cI x4.Gone), (cI x4.Shade), (.d (.sl 5 (x4.Cols.map api_Col.d)))]])) 5 (.row 0 3 T.api_Part [[(cS x6.1.Val), (cI 0), (.d (.sl 8 ([(⟨x7, (⟨(bs []), false, x6.1.At, x6.1.End⟩ : api_Cell), 0, 0, x8⟩ : api_Row)].map api_Row.d)))]])) 9 (.row 0 3 T.api_Part [[(cS x6.1.Val), (cI 0), (.d (.sl 8 ([(⟨x7, (⟨(bs []), false, x6.1.At, x6.1.End⟩ : api_Cell), 0, 0, x8⟩ : api_Row)].map api_Row.d)))]])) 12 (.row 0 3 T.api_Part (dataRow api_Part.d [(⟨x6.1.Val, 0, [(⟨x7, (⟨(bs []), false, x6.1.At, x6.1.End⟩ : api_Cell), 0, 0, x8⟩ : api_Row)]⟩ : api_Part)]))), 13, g⟩) (sk hB (fwC (els' := dataRow api_Part.d [(⟨x6.1.Val, 0, [(⟨x7, (⟨(bs []), false, x6.1.At, x6.1.End⟩ : api_Cell), 0, 0, x8⟩ : api_Row)]⟩ : api_Part)]) (fwC (fwC (fwE (fwA (enc := api_Part.d) (l := v2) (m := [(⟨x6.1.Val, 0, [(⟨x7, (⟨(bs []), false, x6.1.At, x6.1.End⟩ : api_Cell), 0, 0, x8⟩ : api_Row)]⟩ : api_Part)]) (fwE (fwE (fw0 wf (by rfl) (fun _ => by rfl)) rfl rfl rfl) rfl rfl rfl) rfl rfl ⟨⟨cv rfl rfl, cv rfl rfl, cvz (enc := api_Row.d) (l := [(⟨x7, (⟨(bs []), false, x6.1.At, x6.1.End⟩ : api_Cell), 0, 0, x8⟩ : api_Row)]) rfl (wfn wf (by rfl)) rfl rfl, trivial⟩, trivial⟩ (fun _ => rfl)) rfl rfl rfl) rfl rfl ⟨⟨cv rfl rfl, cv rfl rfl, cvz (enc := api_Row.d) (l := [(⟨x7, (⟨(bs []), false, x6.1.At, x6.1.End⟩ : api_Cell), 0, 0, x8⟩ : api_Row)]) rfl (wfn wf (by rfl)) rfl rfl, trivial⟩, trivial⟩ rfl) rfl rfl ⟨⟨cv rfl rfl, cv rfl rfl, cvz (enc := api_Row.d) (l := [(⟨x7, (⟨(bs []), false, x6.1.At, x6.1.End⟩ : api_Cell), 0, 0, x8⟩ : api_Row)]) rfl (wfn wf (by rfl)) rfl rfl, trivial⟩, trivial⟩ rfl) rfl rfl ⟨⟨cv rfl rfl, cv rfl rfl, cvz (enc := api_Row.d) (l := [(⟨x7, (⟨(bs []), false, x6.1.At, x6.1.End⟩ : api_Cell), 0, 0, x8⟩ : api_Row)]) rfl (wfn wf (by rfl)) rfl rfl, trivial⟩, trivial⟩ (by rfl)) (by rfl) (by rfl) ⟨cv rfl rfl, cv rfl rfl, cv rfl rfl, cv rfl rfl, cv rfl rfl, cv rfl rfl, cv rfl rfl, trivial⟩) ?_
            refine at_sub (env' := [(3, (cI now)), (5, (.ptr 1 0 0 0)), (6, (.ptr 2 0 0 0)), (9, (.row 3 (v3 + 1) 0 (v2 ++ [(⟨x6.1.Val, 0, [(⟨x7, (⟨(bs []), false, x6.1.At, x6.1.End⟩ : api_Cell), 0, 0, x8⟩ : api_Row)]⟩ : api_Part)]).length)), (15, (.d (.sl 8 (p.Rows.map api_Row.d)))), (16, (cI (p.Rows.length : Int))), (17, (cI v1))]) (st' := ⟨(upd (upd (upd hp 1 (.row 0 5 T.api_View [[(cS v.Name), (cI v.ID), (cS v.Table), (cS v.On), (.d (.sl 1 (v.Cols.map strD)))]])) 2 (.row 0 3 T.api_Part [[(cS p.Key), (cI p.Gone), (.d (.sl 8 (p.Rows.map api_Row.d)))]])) 3 (.row (v3 + 1) 3 T.api_Part (dataRow api_Part.d (v2 ++ [(⟨x6.1.Val, 0, [(⟨x7, (⟨(bs []), false, x6.1.At, x6.1.End⟩ : api_Cell), 0, 0, x8⟩ : api_Row)]⟩ : api_Part)])))), 4, g⟩) (sk hB (fwD (fwE (fwE (fw0 wf (by rfl) (fun _ => by rfl)) rfl rfl rfl) rfl rfl rfl) rfl rfl rfl (fun _ => rfl)) (by rfl) (by rfl) ⟨cv rfl rfl, cv rfl rfl, cv rfl rfl, cv rfl rfl, cv rfl rfl, cv rfl rfl, cv rfl rfl, trivial⟩) ?_
            refine at_go ?_
            conv => whnf
            refine veq_intro (IntKind.i64.wrap (v1 + 1)) rfl ?_
            conv => whnf
            exact ⟨(IntKind.i64.wrap (v1 + 1), v2 ++ [(⟨x6.1.Val, 0, [(⟨x7, (⟨(bs []), false, x6.1.At, x6.1.End⟩ : api_Cell), 0, 0, x8⟩ : api_Row)]⟩ : api_Part)]), hf, (v3 + 1), sk hB (fwD (fwE (fwE (fw0 wf (by rfl) (fun _ => by rfl)) rfl rfl rfl) rfl rfl rfl) rfl rfl rfl (fun _ => rfl)) (by rfl) (by rfl) ⟨cv rfl rfl, cv rfl rfl, cv rfl rfl, cv rfl rfl, cv rfl rfl, cv rfl rfl, cv rfl rfl, trivial⟩⟩
          · replace hf := ifF h40 hf
            conv => whnf
            refine at_sub (env' := [(3, (cI now)), (5, (.ptr 1 0 0 0)), (6, (.ptr 2 0 0 0)), (9, (.row 3 v3 0 v2.length)), (12, (.ptr 5 0 0 0)), (15, (.d (.sl 8 (p.Rows.map api_Row.d)))), (16, (cI (p.Rows.length : Int))), (17, (cI v1)), (42, (cB x10))]) (st' := ⟨(upd (upd (upd (upd (upd hp 1 (.row 0 5 T.api_View [[(cS v.Name), (cI v.ID), (cS v.Table), (cS v.On), (.d (.sl 1 (v.Cols.map strD)))]])) 2 (.row 0 3 T.api_Part [[(cS p.Key), (cI p.Gone), (.d (.sl 8 (p.Rows.map api_Row.d)))]])) 3 (.row v3 3 T.api_Part (dataRow api_Part.d v2))) 5 (.row 0 3 T.api_Part [[(cS x6.1.Val), (cI 0), (.row 11 0 0 1)]])) 11 (.row 0 8 T.api_Row (dataRow api_Row.d [(⟨x7, (⟨(bs []), false, x6.1.At, x6.1.End⟩ : api_Cell), 0, 0, x8⟩ : api_Row)]))), 12, g⟩) (sk hB (fwD (fwE (fwD (fwE (fwE (fw0 wf (by rfl) (fun _ => by rfl)) rfl rfl rfl) rfl rfl rfl) rfl rfl rfl (fun _ => rfl)) rfl rfl rfl) rfl rfl rfl (fun _ => rfl)) (by rfl) (by rfl) ⟨cv rfl rfl, cv rfl rfl, cv rfl rfl, cv rfl rfl, cv rfl rfl, cv rfl rfl, cv rfl rfl, cv rfl rfl, cv rfl rfl, trivial⟩) ?_
            refine at_go ?_
            conv => whnf
            refine veq_intro (IntKind.i64.wrap (v1 + 1)) rfl ?_
            conv => whnf
            exact ⟨(IntKind.i64.wrap (v1 + 1), v2), hf, v3, sk hB (fwD (fwE (fwE (fw0 wf (by rfl) (fun _ => by rfl)) rfl rfl rfl) rfl rfl rfl) rfl rfl rfl (fun _ => rfl)) (by rfl) (by rfl) ⟨cv rfl rfl, cv rfl rfl, cv rfl rfl, cv rfl rfl, cv rfl rfl, cv rfl rfl, cv rfl rfl, trivial⟩⟩
  · replace hf := ifF h2 hf
    conv => whnf
    refine at_go ?_
    conv => whnf
    refine cut_go ?_
    conv => whnf
    refine at_sub (env' := [(8, (.row 3 v3 0 v2.length))]) (st' := ⟨(upd hp 3 (.row v3 3 T.api_Part (dataRow api_Part.d v2))), 4, g⟩) (sk hB (fwD (fw0 wf (by rfl) (fun _ => by rfl)) rfl rfl rfl (fun _ => rfl)) (by rfl) (by rfl) ⟨cv rfl rfl, trivial⟩) ?_
    refine at_go ?_
    conv => whnf
    obtain rfl := Option.some.inj hf
    refine ret_c hB wf (fun _ => by rfl) ?_
    exact cvz (enc := api_Part.d) (l := v2) rfl (wfn wf (by rfl)) rfl rfl

noncomputable def clerestoryref06_Seen.f (c : api_Cell) (now : Int) : Option (Bool) :=
  if (decide (0 < c.At)) = true then
    if (!c.Dead) = true then
      if (decide (c.End = 0)) = true then
        some true
      else
      some (decide (now < c.End))
    else
    some false
  else
  some false

set_option maxHeartbeats 4000000 in
theorem clerestoryref06_Seen.pure (c : api_Cell) (now : Int) (res : Bool) (hf : clerestoryref06_Seen.f c now = some res) : Pure prog F.clerestoryref06_Seen [(agd (api_Cell.d c)), (cI now)] (cB res) := by
  refine pure_fn clerestoryref06_Seen.res (Nat.le_of_ble_eq_true rfl) (fun _ => rfl) (fun _ => rfl) fun B hp g hB wf => ?_
  rw [clerestoryref06_Seen.f] at hf
  conv => whnf
  refine cut_go ?_
  conv => whnf
  refine at_go ?_
  conv => whnf
  refine cut_go ?_
  conv => whnf
  refine ⟨⟨rfl, Nat.le_of_ble_eq_true rfl⟩, ?_⟩
  conv => whnf
  refine ⟨rfl, ⟨_, rfl, ?_⟩⟩
  conv => whnf
  refine vcond_intro (t := decide (0 < c.At)) (fun h1 => ?_) (fun h2 => ?_)
  · replace hf := ifT h1 hf
    conv => whnf
    refine ⟨⟨rfl, Nat.le_of_ble_eq_true rfl⟩, ?_⟩
    conv => whnf
    refine vcT rfl ?_
    conv => whnf
    refine ⟨rfl, ⟨_, rfl, ?_⟩⟩
    conv => whnf
    refine vcT rfl ?_
    conv => whnf
    refine vcT rfl ?_
    conv => whnf
    refine vcond_intro (t := !c.Dead) (fun h3 => ?_) (fun h4 => ?_)
    · replace hf := ifT h3 hf
      conv => whnf
      refine ⟨⟨rfl, Nat.le_of_ble_eq_true rfl⟩, ?_⟩
      conv => whnf
      refine vcT rfl ?_
      conv => whnf
      refine ⟨rfl, ⟨_, rfl, ?_⟩⟩
      conv => whnf
      refine vcT rfl ?_
      conv => whnf
      refine vcT rfl ?_
      conv => whnf
      refine vcond_intro (t := decide (c.End = 0)) (fun h5 => ?_) (fun h6 => ?_)
      · replace hf := ifT h5 hf
        conv => whnf
        refine vcT rfl ?_
        conv => whnf
        refine vcT rfl ?_
        conv => whnf
        refine vcT rfl ?_
        conv => whnf
        refine vcT rfl ?_
        conv => whnf
        refine vcT rfl ?_
        conv => whnf
        refine vcT rfl ?_
        conv => whnf
        refine at_go ?_
        conv => whnf
        obtain rfl := Option.some.inj hf
        refine ret_c hB wf (fun _ => by rfl) ?_
        exact cv rfl rfl
      · replace hf := ifF h6 hf
        conv => whnf
        refine ⟨⟨rfl, Nat.le_of_ble_eq_true rfl⟩, ?_⟩
        conv => whnf
        refine vcF rfl ?_
        conv => whnf
        refine ⟨rfl, ⟨_, rfl, ?_⟩⟩
        conv => whnf
        refine vcF rfl ?_
        conv => whnf
        refine vcF rfl ?_
        conv => whnf
        refine vcT rfl ?_
        conv => whnf
        refine vcF rfl ?_
        conv => whnf
        refine vcT rfl ?_
        conv => whnf
        refine at_go ?_
        conv => whnf
        obtain rfl := Option.some.inj hf
        refine ret_c hB wf (fun _ => by rfl) ?_
        exact cv rfl rfl
    · replace hf := ifF h4 hf
      conv => whnf
      refine vcF rfl ?_
      conv => whnf
      refine vcF rfl ?_
      conv => whnf
      refine vcF rfl ?_
      conv => whnf
      refine vcF rfl ?_
      conv => whnf
      refine vcF rfl ?_
      conv => whnf
      refine at_go ?_
      conv => whnf
      obtain rfl := Option.some.inj hf
      refine ret_c hB wf (fun _ => by rfl) ?_
      exact cv rfl rfl
  · replace hf := ifF h2 hf
    conv => whnf
    refine vcF rfl ?_
    conv => whnf
    refine vcF rfl ?_
    conv => whnf
    refine vcF rfl ?_
    conv => whnf
    refine vcF rfl ?_
    conv => whnf
    refine vcF rfl ?_
    conv => whnf
    refine vcF rfl ?_
    conv => whnf
    refine vcF rfl ?_
    conv => whnf
    refine vcF rfl ?_
    conv => whnf
    refine vcF rfl ?_
    conv => whnf
    refine at_go ?_
    conv => whnf
    obtain rfl := Option.some.inj hf
    refine ret_c hB wf (fun _ => by rfl) ?_
    exact cv rfl rfl

noncomputable def clerestoryref07_Seen.w0 (r : api_Row) (part : Int) (now : Int) : Nat → List api_Col → Int → Option (List api_Col)
  | 0, _, _ => none
  | k0 + 1, v1, v3 =>
    if (decide (v3 < (r.Cols.length : Int))) = true then
      (at? r.Cols v3).bind fun x4 =>
      (clerestoryref07_Best.f r part x4.Name).bind fun x5 =>
      if (x5.2) = true then
        (clerestoryref06_Seen.f x5.1 now).bind fun x6 =>
        if (x6) = true then
          if (v1 ++ [(⟨x4.Name, x5.1⟩ : api_Col)]).length ≤ 4294967296 then
          clerestoryref07_Seen.w0 r part now k0 (v1 ++ [(⟨x4.Name, x5.1⟩ : api_Col)]) (IntKind.i64.wrap (v3 + 1))
          else none
        else
        clerestoryref07_Seen.w0 r part now k0 v1 (IntKind.i64.wrap (v3 + 1))
      else
      clerestoryref07_Seen.w0 r part now k0 v1 (IntKind.i64.wrap (v3 + 1))
    else
    some v1

noncomputable def clerestoryref07_Seen.f (r : api_Row) (part : Int) (now : Int) : Option (List api_Col) :=
  clerestoryref07_Seen.w0 r part now K0 ([] : List api_Col) 0

set_option maxHeartbeats 4000000 in
theorem clerestoryref07_Seen.pure (r : api_Row) (part : Int) (now : Int) (res : List api_Col) (hf : clerestoryref07_Seen.f r part now = some res) : Pure prog F.clerestoryref07_Seen [(agd (api_Row.d r)), (cI part), (cI now)] (.d (.sl 5 (res.map api_Col.d))) := by
  refine pure_fn clerestoryref07_Seen.res (Nat.le_of_ble_eq_true rfl) (fun _ => rfl) (fun _ => rfl) fun B hp g hB wf => ?_
  rw [clerestoryref07_Seen.f] at hf
  conv => whnf
  refine cut_go ?_
  conv => whnf
  refine at_go ?_
  conv => whnf
  refine cut_go ?_
  conv => whnf
  refine at_go ?_
  conv => whnf
  refine cut_go ?_
  conv => whnf
  refine cut_go ?_
  conv => whnf
  refine at_sub (env' := [(1, (cI part)), (2, (cI now)), (3, (.ptr 0 0 0 0)), (7, nilS), (8, (cI 0))]) (st' := ⟨(upd hp 0 (.row 0 8 T.api_Row [[(cS r.Key), (cS r.Live.Val), (cB r.Live.Dead), (cI r.Live.At), (cI r.Live.End), (cI r.Gone), (cI r.Shade), (.d (.sl 5 (r.Cols.map api_Col.d)))]])), 1, g⟩) (sk hB (fwE (fw0 wf (by rfl) (fun _ => by rfl)) rfl rfl rfl) (by rfl) (by rfl) ⟨cv rfl rfl, cv rfl rfl, cv rfl rfl, cv rfl rfl, cv rfl rfl, trivial⟩) ?_
  refine at_go ?_
  conv => whnf
  refine loop_sub (sph 0 5 T.api_Col) ?_
  refine loop_sub (env' := [(1, (cI part)), (2, (cI now)), (3, (.ptr 0 0 0 0)), (7, (.row 1 0 0 ([] : List api_Col).length)), (8, (cI 0))]) (st' := ⟨(upd (upd hp 0 (.row 0 8 T.api_Row [[(cS r.Key), (cS r.Live.Val), (cB r.Live.Dead), (cI r.Live.At), (cI r.Live.End), (cI r.Gone), (cI r.Shade), (.d (.sl 5 (r.Cols.map api_Col.d)))]])) 1 (.row 0 5 T.api_Col (dataRow api_Col.d ([] : List api_Col)))), 2, g⟩) (sk hB (fwD (fwE (fw0 wf (by rfl) (fun _ => by rfl)) rfl rfl rfl) rfl rfl rfl (fun _ => rfl)) (by rfl) (by rfl) ⟨cv rfl rfl, cv rfl rfl, cv rfl rfl, .ph (of_decide_eq_true rfl) rfl (Nat.zero_le _), cv rfl rfl, trivial⟩) ?_
  refine loop_f (α := (List api_Col) × Int) (γ := Nat) (fun v2 (v1, v3) => [(1, (cI part)), (2, (cI now)), (3, (.ptr 0 0 0 0)), (7, (.row 1 v2 0 v1.length)), (8, (cI v3))]) (fun v2 (v1, v3) => ⟨(upd (upd hp 0 (.row 0 8 T.api_Row [[(cS r.Key), (cS r.Live.Val), (cB r.Live.Dead), (cI r.Live.At), (cI r.Live.End), (cI r.Gone), (cI r.Shade), (.d (.sl 5 (r.Cols.map api_Col.d)))]])) 1 (.row v2 5 T.api_Col (dataRow api_Col.d v1))), 2, g⟩) (fun k s => clerestoryref07_Seen.w0 r part now k s.1 s.2) (fun _ => rfl) ?_ K0 (([] : List api_Col), 0) 0 hf
  intro k0 y v2 hf
  obtain ⟨v1, v3⟩ := y
  replace hf : clerestoryref07_Seen.w0 r part now (k0 + 1) v1 v3 = some _ := hf
  rw [clerestoryref07_Seen.w0] at hf
  try dsimp only
  conv => whnf
  refine cut_go ?_
  conv => whnf
  refine cut_go ?_
  conv => whnf
  refine ⟨⟨rfl, Nat.le_of_ble_eq_true rfl⟩, ?_⟩
  conv => whnf
  refine ⟨rfl, ⟨_, rfl, ?_⟩⟩
  conv => whnf
  refine veq_intro r.Cols.length (by simp) ?_
  conv => whnf
  refine at_go ?_
  conv => whnf
  refine vcond_intro (t := decide (v3 < (r.Cols.length : Int))) (fun h1 => ?_) (fun h2 => ?_)
  · replace hf := ifT h1 hf
    conv => whnf
    refine at_go ?_
    conv => whnf
    refine cut_go ?_
    conv => whnf
    refine cut_go ?_
    conv => whnf
    refine ⟨rfl, ⟨_, rfl, ?_⟩⟩
    conv => whnf
    refine ⟨⟨rfl, Nat.le_of_ble_eq_true rfl⟩, ?_⟩
    conv => whnf
    refine ⟨rfl, ⟨_, rfl, ?_⟩⟩
    obtain ⟨x4, h3, hf⟩ := bnd hf
    conv => whnf
    refine ⟨⟨rfl, Nat.zero_lt_succ _⟩, at_nn h3, ⟨_, map_get (at_get h3), ?_⟩⟩
    conv => whnf
    refine ⟨Nat.le_of_ble_eq_true rfl, ?_⟩
    conv => whnf
    refine ⟨?_, ?_⟩
    · obtain ⟨x5, h4, hf⟩ := bnd hf
      conv => whnf
      refine (clerestoryref07_Best.pure r part x4.Name x5 h4).call ?_
      conv => whnf
      refine ⟨⟨rfl, rfl⟩, ⟨_, rfl, Nat.le_of_ble_eq_true rfl, veq_intro [[(cS x5.1.Val), (cB x5.1.Dead), (cI x5.1.At), (cI x5.1.End)]] rfl ?_⟩⟩
      conv => whnf
      refine at_sub (env' := [(1, (cI part)), (2, (cI now)), (3, (.ptr 0 0 0 0)), (7, (.row 1 v2 0 v1.length)), (8, (cI v3)), (9, (.ptr 2 0 0 0)), (10, (cB x5.2))]) (st' := ⟨(upd (upd (upd hp 0 (.row 0 8 T.api_Row [[(cS r.Key), (cS r.Live.Val), (cB r.Live.Dead), (cI r.Live.At), (cI r.Live.End), (cI r.Gone), (cI r.Shade), (.d (.sl 5 (r.Cols.map api_Col.d)))]])) 1 (.row v2 5 T.api_Col (dataRow api_Col.d v1))) 2 (.row 0 4 T.api_Cell [[(cS x5.1.Val), (cB x5.1.Dead), (cI x5.1.At), (cI x5.1.End)]])), 3, g⟩) (sk hB (fwE (fwD (fwE (fw0 wf (by rfl) (fun _ => by rfl)) rfl rfl rfl) rfl rfl rfl (fun _ => rfl)) rfl rfl rfl) (by rfl) (by rfl) ⟨cv rfl rfl, cv rfl rfl, cv rfl rfl, cv rfl rfl, cv rfl rfl, cv rfl rfl, cv rfl rfl, trivial⟩) ?_
      refine at_go ?_
      conv => whnf
      refine cut_go ?_
      conv => whnf
      refine vcond_intro (t := x5.2) (fun h5 => ?_) (fun h6 => ?_)
      · replace hf := ifT h5 hf
        conv => whnf
        refine ⟨rfl, ⟨_, rfl, ?_⟩⟩
        conv => whnf
        refine vcT rfl ?_
        conv => whnf
        refine vcT rfl ?_
        obtain ⟨x6, h7, hf⟩ := bnd hf
        conv => whnf
        refine (clerestoryref06_Seen.pure x5.1 now x6 h7).call ?_
        conv => whnf
        refine vcT rfl ?_
        conv => whnf
        refine at_go ?_
        conv => whnf
        refine vcond_intro (t := x6) (fun h8 => ?_) (fun h9 => ?_)
        · replace hf := ifT h8 hf
          conv => whnf
          refine ⟨⟨rfl, Nat.le_of_ble_eq_true rfl⟩, ?_⟩
          conv => whnf
          refine ⟨rfl, ⟨_, rfl, ?_⟩⟩
          conv => whnf
          refine ⟨⟨rfl, Nat.zero_lt_succ _⟩, at_nn h3, ⟨_, map_get (at_get h3), ?_⟩⟩
          conv => whnf
          refine ⟨Nat.le_of_ble_eq_true rfl, ?_⟩
          conv => whnf
          refine ⟨rfl, ⟨_, rfl, ?_⟩⟩
          conv => whnf
          refine veq_intro (dataRow api_Col.d [(⟨x4.Name, x5.1⟩ : api_Col)]) rfl ?_
          conv => whnf
          refine ⟨rfl, ?_⟩
          obtain ⟨h10, hf⟩ := grd hf
          conv => whnf
          refine veq_intro (dataRow api_Col.d [(⟨x4.Name, x5.1⟩ : api_Col)]) rfl ⟨row_wid (enc := api_Col.d) (fun _ => rfl) _, ?_⟩
          conv => whnf
          refine ⟨⟨rfl, rfl, rfl⟩, row_len _ _, by simpa using h10, veq_intro (dataRow api_Col.d (v1 ++ [(⟨x4.Name, x5.1⟩ : api_Col)])) (row_app _ _ _) (veq_intro (v1 ++ [(⟨x4.Name, x5.1⟩ : api_Col)]).length (row_appl _ _ _) ?_)⟩
          conv => whnf
          refine at_go ?_
          conv => whnf
          refine veq_intro (IntKind.i64.wrap (v3 + 1)) rfl ?_
          conv => whnf
          exact ⟨(v1 ++ [(⟨x4.Name, x5.1⟩ : api_Col)], IntKind.i64.wrap (v3 + 1)), hf, (v2 + 1), sk hB (fwD (fwE (fw0 wf (by rfl) (fun _ => by rfl)) rfl rfl rfl) rfl rfl rfl (fun _ => rfl)) (by rfl) (by rfl) ⟨cv rfl rfl, cv rfl rfl, cv rfl rfl, cv rfl rfl, cv rfl rfl, trivial⟩⟩
        · replace hf := ifF h9 hf
          conv => whnf
          refine at_go ?_
          conv => whnf
          refine veq_intro (IntKind.i64.wrap (v3 + 1)) rfl ?_
          conv => whnf
          exact ⟨(v1, IntKind.i64.wrap (v3 + 1)), hf, v2, sk hB (fwD (fwE (fw0 wf (by rfl) (fun _ => by rfl)) rfl rfl rfl) rfl rfl rfl (fun _ => rfl)) (by rfl) (by rfl) ⟨cv rfl rfl, cv rfl rfl, cv rfl rfl, cv rfl rfl, cv rfl rfl, trivial⟩⟩
      · replace hf := ifF h6 hf
        conv => whnf
        refine vcF rfl ?_
        conv => whnf
        refine vcF rfl ?_
        conv => whnf
        refine vcF rfl ?_
        conv => whnf
        refine at_go ?_
        conv => whnf
        refine vcF rfl ?_
        conv => whnf
        refine at_go ?_
        conv => whnf
        refine veq_intro (IntKind.i64.wrap (v3 + 1)) rfl ?_
        conv => whnf
        exact ⟨(v1, IntKind.i64.wrap (v3 + 1)), hf, v2, sk hB (fwD (fwE (fw0 wf (by rfl) (fun _ => by rfl)) rfl rfl rfl) rfl rfl rfl (fun _ => rfl)) (by rfl) (by rfl) ⟨cv rfl rfl, cv rfl rfl, cv rfl rfl, cv rfl rfl, cv rfl rfl, trivial⟩⟩
    · conv => whnf
      refine ⟨rfl, ?_⟩
      conv => whnf
      refine ⟨rfl, ?_⟩
      conv => whnf
      refine ⟨rfl, ?_⟩
      conv => whnf
      refine ⟨Nat.le_of_ble_eq_true rfl, ?_⟩
      conv => whnf
      refine ⟨rfl, ?_⟩
      conv => whnf
      refine ⟨rfl, ?_⟩
      conv => whnf
      refine ⟨⟨rfl, Nat.zero_lt_succ _⟩, at_nn h3, ⟨_, map_get (at_get h3), ?_⟩⟩
      conv => whnf
      refine ⟨rfl, ?_⟩
      conv => whnf
      refine ⟨rfl, ?_⟩
      conv => whnf
      refine ⟨rfl, ⟨_, rfl, ?_⟩⟩
      conv => whnf
      refine ⟨rfl, ?_⟩
      conv => whnf
      refine ⟨rfl, ?_⟩
      conv => whnf
      refine ⟨⟨rfl, Nat.le_of_ble_eq_true rfl⟩, ?_⟩
      conv => whnf
      refine ⟨rfl, ?_⟩
      conv => whnf
      refine ⟨rfl, ?_⟩
      conv => whnf
      refine ⟨rfl, ⟨_, rfl, ?_⟩⟩
      conv => whnf
      refine ⟨rfl, ?_⟩
      obtain ⟨x5, h11, hf⟩ := bnd hf
      conv => whnf
      refine (clerestoryref07_Best.pure r part x4.Name x5 h11).call ?_
      conv => whnf
      refine ⟨⟨rfl, rfl⟩, ⟨_, rfl, Nat.le_of_ble_eq_true rfl, veq_intro [[(cS x5.1.Val), (cB x5.1.Dead), (cI x5.1.At), (cI x5.1.End)]] rfl ?_⟩⟩
      conv => whnf
      refine at_sub (env' := [(1, (cI part)), (2, (cI now)), (3, (.ptr 0 0 0 0)), (7, (.row 1 v2 0 v1.length)), (8, (cI v3)), (9, (.ptr 2 0 0 0)), (10, (cB x5.2))]) (st' := ⟨(upd (upd (upd hp 0 (.row 0 8 T.api_Row [[(cS r.Key), (cS r.Live.Val), (cB r.Live.Dead), (cI r.Live.At), (cI r.Live.End), (cI r.Gone), (cI r.Shade), (.d (.sl 5 (r.Cols.map api_Col.d)))]])) 1 (.row v2 5 T.api_Col (dataRow api_Col.d v1))) 2 (.row 0 4 T.api_Cell [[(cS x5.1.Val), (cB x5.1.Dead), (cI x5.1.At), (cI x5.1.End)]])), 3, g⟩) (sk hB (fwE (fwD (fwE (fw0 wf (by rfl) (fun _ => by rfl)) rfl rfl rfl) rfl rfl rfl (fun _ => rfl)) rfl rfl rfl) (by rfl) (by rfl) ⟨cv rfl rfl, cv rfl rfl, cv rfl rfl, cv rfl rfl, cv rfl rfl, cv rfl rfl, cv rfl rfl, trivial⟩) ?_
      refine at_go ?_
      conv => whnf
      refine cut_go ?_
      conv => whnf
      refine vcond_intro (t := x5.2) (fun h12 => ?_) (fun h13 => ?_)
      · replace hf := ifT h12 hf
        conv => whnf
        refine ⟨rfl, ⟨_, rfl, ?_⟩⟩
        conv => whnf
        refine vcT rfl ?_
        conv => whnf
        refine vcT rfl ?_
        obtain ⟨x6, h14, hf⟩ := bnd hf
        conv => whnf
        refine (clerestoryref06_Seen.pure x5.1 now x6 h14).call ?_
        conv => whnf
        refine vcT rfl ?_
        conv => whnf
        refine at_go ?_
        conv => whnf
        refine vcond_intro (t := x6) (fun h15 => ?_) (fun h16 => ?_)
        · replace hf := ifT h15 hf
          conv => whnf
          refine ⟨⟨rfl, Nat.le_of_ble_eq_true rfl⟩, ?_⟩
          conv => whnf
          refine ⟨rfl, ⟨_, rfl, ?_⟩⟩
          conv => whnf
          refine ⟨⟨rfl, Nat.zero_lt_succ _⟩, at_nn h3, ⟨_, map_get (at_get h3), ?_⟩⟩
          conv => whnf
          refine ⟨Nat.le_of_ble_eq_true rfl, ?_⟩
          conv => whnf
          refine ⟨rfl, ⟨_, rfl, ?_⟩⟩
          conv => whnf
          refine veq_intro (dataRow api_Col.d [(⟨x4.Name, x5.1⟩ : api_Col)]) rfl ?_
          conv => whnf
          refine ⟨rfl, ?_⟩
          obtain ⟨h17, hf⟩ := grd hf
          conv => whnf
          refine veq_intro (dataRow api_Col.d [(⟨x4.Name, x5.1⟩ : api_Col)]) rfl ⟨row_wid (enc := api_Col.d) (fun _ => rfl) _, ?_⟩
          conv => whnf
          refine ⟨⟨rfl, rfl, rfl⟩, row_len _ _, by simpa using h17, veq_intro (dataRow api_Col.d (v1 ++ [(⟨x4.Name, x5.1⟩ : api_Col)])) (row_app _ _ _) (veq_intro (v1 ++ [(⟨x4.Name, x5.1⟩ : api_Col)]).length (row_appl _ _ _) ?_)⟩
          conv => whnf
          refine at_go ?_
          conv => whnf
          refine veq_intro (IntKind.i64.wrap (v3 + 1)) rfl ?_
          conv => whnf
          exact ⟨(v1 ++ [(⟨x4.Name, x5.1⟩ : api_Col)], IntKind.i64.wrap (v3 + 1)), hf, (v2 + 1), sk hB (fwD (fwE (fw0 wf (by rfl) (fun _ => by rfl)) rfl rfl rfl) rfl rfl rfl (fun _ => rfl)) (by rfl) (by rfl) ⟨cv rfl rfl, cv rfl rfl, cv rfl rfl, cv rfl rfl, cv rfl rfl, trivial⟩⟩
        · replace hf := ifF h16 hf
          conv => whnf
          refine at_go ?_
          conv => whnf
          refine veq_intro (IntKind.i64.wrap (v3 + 1)) rfl ?_
          conv => whnf
          exact ⟨(v1, IntKind.i64.wrap (v3 + 1)), hf, v2, sk hB (fwD (fwE (fw0 wf (by rfl) (fun _ => by rfl)) rfl rfl rfl) rfl rfl rfl (fun _ => rfl)) (by rfl) (by rfl) ⟨cv rfl rfl, cv rfl rfl, cv rfl rfl, cv rfl rfl, cv rfl rfl, trivial⟩⟩
      · replace hf := ifF h13 hf
        conv => whnf
        refine vcF rfl ?_
        conv => whnf
        refine vcF rfl ?_
        conv => whnf
        refine vcF rfl ?_
        conv => whnf
        refine at_go ?_
        conv => whnf
        refine vcF rfl ?_
        conv => whnf
        refine at_go ?_
        conv => whnf
        refine veq_intro (IntKind.i64.wrap (v3 + 1)) rfl ?_
        conv => whnf
        exact ⟨(v1, IntKind.i64.wrap (v3 + 1)), hf, v2, sk hB (fwD (fwE (fw0 wf (by rfl) (fun _ => by rfl)) rfl rfl rfl) rfl rfl rfl (fun _ => rfl)) (by rfl) (by rfl) ⟨cv rfl rfl, cv rfl rfl, cv rfl rfl, cv rfl rfl, cv rfl rfl, trivial⟩⟩
  · replace hf := ifF h2 hf
    conv => whnf
    refine at_go ?_
    conv => whnf
    refine cut_go ?_
    conv => whnf
    refine at_sub (env' := [(6, (.row 1 v2 0 v1.length))]) (st' := ⟨(upd hp 1 (.row v2 5 T.api_Col (dataRow api_Col.d v1))), 2, g⟩) (sk hB (fwD (fw0 wf (by rfl) (fun _ => by rfl)) rfl rfl rfl (fun _ => rfl)) (by rfl) (by rfl) ⟨cv rfl rfl, trivial⟩) ?_
    refine at_go ?_
    conv => whnf
    obtain rfl := Option.some.inj hf
    refine ret_c hB wf (fun _ => by rfl) ?_
    exact cvz (enc := api_Col.d) (l := v1) rfl (wfn wf (by rfl)) rfl rfl

end Go.Eng
