/-
  Part of the proof that the law ProjectAll returns true at every input of bulk at most 1048576, and leaves its arguments as they were; the whole is stated at the end of the last text.
-/
import Derived.Test.YtdopmhicmehmeaaData
import Derived.Test.YtdopmhicmehmeaaCode
import Derived.Test.YtdopmhicmehmeaaWalkF
set_option maxRecDepth 100000
set_option linter.unusedVariables false
set_option linter.unusedSimpArgs false
namespace Go.Eng
open Go
noncomputable def clerestoryref18_Seen.w0 (v : api_View) (p : api_Part) (now : Int) : Nat → Int → List api_Part → Option (List api_Part)
  | 0, _, _ => none
  | k0 + 1, v1, v2 =>
    if (decide (v1 < (p.Rows.length : Int))) = true then
      (at? p.Rows v1).bind fun x4 =>
      (clerestoryref18_Mirror.f v p x4).bind fun x5 =>
      (clerestoryref07_Best.f x4 p.Gone v.On).bind fun x6 =>
      if (!x5.2) = true then
        clerestoryref18_Seen.w0 v p now k0 (IntKind.i64.wrap (v1 + 1)) v2
      else
      (clerestoryref06_Seen.f x6.1 now).bind fun x7 =>
      if (!x7) = true then
        clerestoryref18_Seen.w0 v p now k0 (IntKind.i64.wrap (v1 + 1)) v2
      else
      (at? x5.1.Rows 0).bind fun x8 =>
      (clerestoryref07_Seen.f x4 p.Gone now).bind fun x9 =>
      (clerestoryref18_pick.f v x9).bind fun x10 =>
      if (v2 ++ [(⟨x5.1.Key, 0, [(⟨x8.Key, x8.Live, 0, 0, x10⟩ : api_Row)]⟩ : api_Part)]).length ≤ 4294967296 then
      clerestoryref18_Seen.w0 v p now k0 (IntKind.i64.wrap (v1 + 1)) (v2 ++ [(⟨x5.1.Key, 0, [(⟨x8.Key, x8.Live, 0, 0, x10⟩ : api_Row)]⟩ : api_Part)])
      else none
    else
    some v2

noncomputable def clerestoryref18_Seen.f (v : api_View) (p : api_Part) (now : Int) : Option (List api_Part) :=
  clerestoryref18_Seen.w0 v p now K0 0 ([] : List api_Part)

set_option maxHeartbeats 4000000 in
theorem clerestoryref18_Seen.pure (v : api_View) (p : api_Part) (now : Int) (res : List api_Part) (hf : clerestoryref18_Seen.f v p now = some res) : Pure prog F.clerestoryref18_Seen [(agd (api_View.d v)), (agd (api_Part.d p)), (cI now)] (.d (.sl 3 (res.map api_Part.d))) := by
  refine pure_fn clerestoryref18_Seen.res (Nat.le_of_ble_eq_true rfl) (fun _ => rfl) (fun _ => rfl) fun B hp g hB wf => ?_
  rw [clerestoryref18_Seen.f] at hf
  conv => whnf
  refine cut_go ?_
  conv => whnf
  refine at_go ?_
  conv => whnf
  refine cut_go ?_
  conv => whnf
  refine at_go ?_
  conv => whnf
  refine cut_go ?_
  conv => whnf
  refine cut_go ?_
  conv => whnf
  refine at_sub (env' := [(2, (cI now)), (3, (.ptr 0 0 0 0)), (4, (.ptr 1 0 0 0)), (7, nilS), (8, (cI 0))]) (st' := ⟨(upd (upd hp 0 (.row 0 5 T.api_View [[(cS v.Name), (cI v.ID), (cS v.Table), (cS v.On), (.d (.sl 1 (v.Cols.map strD)))]])) 1 (.row 0 3 T.api_Part [[(cS p.Key), (cI p.Gone), (.d (.sl 8 (p.Rows.map api_Row.d)))]])), 2, g⟩) (sk hB (fwE (fwE (fw0 wf (by rfl) (fun _ => by rfl)) rfl rfl rfl) rfl rfl rfl) (by rfl) (by rfl) ⟨cv rfl rfl, cv rfl rfl, cv rfl rfl, cv rfl rfl, cv rfl rfl, trivial⟩) ?_
  refine at_go ?_
  conv => whnf
  refine loop_sub (sph 0 3 T.api_Part) ?_
  refine loop_sub (env' := [(2, (cI now)), (3, (.ptr 0 0 0 0)), (4, (.ptr 1 0 0 0)), (7, (.row 2 0 0 ([] : List api_Part).length)), (8, (cI 0))]) (st' := ⟨(upd (upd (upd hp 0 (.row 0 5 T.api_View [[(cS v.Name), (cI v.ID), (cS v.Table), (cS v.On), (.d (.sl 1 (v.Cols.map strD)))]])) 1 (.row 0 3 T.api_Part [[(cS p.Key), (cI p.Gone), (.d (.sl 8 (p.Rows.map api_Row.d)))]])) 2 (.row 0 3 T.api_Part (dataRow api_Part.d ([] : List api_Part)))), 3, g⟩) (sk hB (fwD (fwE (fwE (fw0 wf (by rfl) (fun _ => by rfl)) rfl rfl rfl) rfl rfl rfl) rfl rfl rfl (fun _ => rfl)) (by rfl) (by rfl) ⟨cv rfl rfl, cv rfl rfl, cv rfl rfl, .ph (of_decide_eq_true rfl) rfl (Nat.zero_le _), cv rfl rfl, trivial⟩) ?_
  refine loop_f (α := Int × (List api_Part)) (γ := Nat) (fun v3 (v1, v2) => [(2, (cI now)), (3, (.ptr 0 0 0 0)), (4, (.ptr 1 0 0 0)), (7, (.row 2 v3 0 v2.length)), (8, (cI v1))]) (fun v3 (v1, v2) => ⟨(upd (upd (upd hp 0 (.row 0 5 T.api_View [[(cS v.Name), (cI v.ID), (cS v.Table), (cS v.On), (.d (.sl 1 (v.Cols.map strD)))]])) 1 (.row 0 3 T.api_Part [[(cS p.Key), (cI p.Gone), (.d (.sl 8 (p.Rows.map api_Row.d)))]])) 2 (.row v3 3 T.api_Part (dataRow api_Part.d v2))), 3, g⟩) (fun k s => clerestoryref18_Seen.w0 v p now k s.1 s.2) (fun _ => rfl) ?_ K0 (0, ([] : List api_Part)) 0 hf
  intro k0 y v3 hf
  obtain ⟨v1, v2⟩ := y
  replace hf : clerestoryref18_Seen.w0 v p now (k0 + 1) v1 v2 = some _ := hf
  rw [clerestoryref18_Seen.w0] at hf
  try dsimp only
  conv => whnf
  refine cut_go ?_
  conv => whnf
  refine cut_go ?_
  conv => whnf
  refine ⟨⟨rfl, Nat.le_of_ble_eq_true rfl⟩, ?_⟩
  conv => whnf
  refine ⟨rfl, ⟨_, rfl, ?_⟩⟩
  conv => whnf
  refine veq_intro p.Rows.length (by simp) ?_
  conv => whnf
  refine at_go ?_
  conv => whnf
  refine vcond_intro (t := decide (v1 < (p.Rows.length : Int))) (fun h1 => ?_) (fun h2 => ?_)
  · replace hf := ifT h1 hf
    conv => whnf
    refine at_go ?_
    conv => whnf
    refine cut_go ?_
    conv => whnf
    refine cut_go ?_
    conv => whnf
    refine ⟨⟨rfl, Nat.le_of_ble_eq_true rfl⟩, ?_⟩
    conv => whnf
    refine ⟨rfl, ⟨_, rfl, ?_⟩⟩
    obtain ⟨x4, h3, hf⟩ := bnd hf
    conv => whnf
    refine ⟨⟨rfl, Nat.zero_lt_succ _⟩, at_nn h3, ⟨_, map_get (at_get h3), ?_⟩⟩
    conv => whnf
    refine ⟨⟨rfl, rfl⟩, ⟨_, rfl, Nat.le_of_ble_eq_true rfl, veq_intro [[(cS x4.Key), (cS x4.Live.Val), (cB x4.Live.Dead), (cI x4.Live.At), (cI x4.Live.End), (cI x4.Gone), (cI x4.Shade), (.d (.sl 5 (x4.Cols.map api_Col.d)))]] rfl ?_⟩⟩
    conv => whnf
    refine at_sub (env' := [(2, (cI now)), (3, (.ptr 0 0 0 0)), (4, (.ptr 1 0 0 0)), (7, (.row 2 v3 0 v2.length)), (8, (cI v1)), (9, (.ptr 3 0 0 0))]) (st' := ⟨(upd (upd (upd (upd hp 0 (.row 0 5 T.api_View [[(cS v.Name), (cI v.ID), (cS v.Table), (cS v.On), (.d (.sl 1 (v.Cols.map strD)))]])) 1 (.row 0 3 T.api_Part [[(cS p.Key), (cI p.Gone), (.d (.sl 8 (p.Rows.map api_Row.d)))]])) 2 (.row v3 3 T.api_Part (dataRow api_Part.d v2))) 3 (.row 0 8 T.api_Row [[(cS x4.Key), (cS x4.Live.Val), (cB x4.Live.Dead), (cI x4.Live.At), (cI x4.Live.End), (cI x4.Gone), (cI x4.Shade), (.d (.sl 5 (x4.Cols.map api_Col.d)))]])), 4, g⟩) (sk hB (fwE (fwD (fwE (fwE (fw0 wf (by rfl) (fun _ => by rfl)) rfl rfl rfl) rfl rfl rfl) rfl rfl rfl (fun _ => rfl)) rfl rfl rfl) (by rfl) (by rfl) ⟨cv rfl rfl, cv rfl rfl, cv rfl rfl, cv rfl rfl, cv rfl rfl, cv rfl rfl, trivial⟩) ?_
    refine at_go ?_
    conv => whnf
    refine cut_go ?_
    conv => whnf
    refine ⟨rfl, ⟨_, rfl, ?_⟩⟩
    conv => whnf
    refine ⟨rfl, ⟨_, rfl, ?_⟩⟩
    conv => whnf
    refine ⟨rfl, ⟨_, rfl, ?_⟩⟩
    obtain ⟨x5, h4, hf⟩ := bnd hf
    conv => whnf
    refine (clerestoryref18_Mirror.pure v p x4 x5 h4).call ?_
    conv => whnf
    refine ⟨⟨rfl, rfl⟩, ⟨_, rfl, Nat.le_of_ble_eq_true rfl, veq_intro [[(cS x5.1.Key), (cI x5.1.Gone), (.d (.sl 8 (x5.1.Rows.map api_Row.d)))]] rfl ?_⟩⟩
    conv => whnf
    refine at_go ?_
    conv => whnf
    refine cut_go ?_
    conv => whnf
    refine ⟨rfl, ⟨_, rfl, ?_⟩⟩
    conv => whnf
    refine ⟨⟨rfl, Nat.le_of_ble_eq_true rfl⟩, ?_⟩
    conv => whnf
    refine ⟨rfl, ⟨_, rfl, ?_⟩⟩
    conv => whnf
    refine ⟨⟨rfl, Nat.le_of_ble_eq_true rfl⟩, ?_⟩
    conv => whnf
    refine ⟨rfl, ⟨_, rfl, ?_⟩⟩
    obtain ⟨x6, h5, hf⟩ := bnd hf
    conv => whnf
    refine (clerestoryref07_Best.pure x4 p.Gone v.On x6 h5).call ?_
    conv => whnf
    refine ⟨⟨rfl, rfl⟩, ⟨_, rfl, Nat.le_of_ble_eq_true rfl, veq_intro [[(cS x6.1.Val), (cB x6.1.Dead), (cI x6.1.At), (cI x6.1.End)]] rfl ?_⟩⟩
    conv => whnf
    refine at_go ?_
    conv => whnf
    refine cut_go ?_
    conv => whnf
    refine cut_go ?_
    conv => whnf
    refine vcond_intro (t := !x5.2) (fun h6 => ?_) (fun h7 => ?_)
    · replace hf := ifT h6 hf
      conv => whnf
      refine vcT rfl ?_
      conv => whnf
      refine vcT rfl ?_
      conv => whnf
      refine vcT rfl ?_
      conv => whnf
      refine vcT rfl ?_
      conv => whnf
      refine at_sub (env' := [(2, (cI now)), (3, (.ptr 0 0 0 0)), (4, (.ptr 1 0 0 0)), (7, (.row 2 v3 0 v2.length)), (8, (cI v1)), (9, (.ptr 3 0 0 0)), (10, (.ptr 4 0 0 0)), (50, (cB true))]) (st' := ⟨(upd (upd (upd (upd (upd hp 0 (.row 0 5 T.api_View [[(cS v.Name), (cI v.ID), (cS v.Table), (cS v.On), (.d (.sl 1 (v.Cols.map strD)))]])) 1 (.row 0 3 T.api_Part [[(cS p.Key), (cI p.Gone), (.d (.sl 8 (p.Rows.map api_Row.d)))]])) 2 (.row v3 3 T.api_Part (dataRow api_Part.d v2))) 3 (.row 0 8 T.api_Row [[(cS x4.Key), (cS x4.Live.Val), (cB x4.Live.Dead), (cI x4.Live.At), (cI x4.Live.End), (cI x4.Gone), (cI x4.Shade), (.d (.sl 5 (x4.Cols.map api_Col.d)))]])) 4 (.row 0 3 T.api_Part [[(cS x5.1.Key), (cI x5.1.Gone), (.d (.sl 8 (x5.1.Rows.map api_Row.d)))]])), 5, g⟩) (sk hB (fwE (fwE (fwD (fwE (fwE (fw0 wf (by rfl) (fun _ => by rfl)) rfl rfl rfl) rfl rfl rfl) rfl rfl rfl (fun _ => rfl)) rfl rfl rfl) rfl rfl rfl) (by rfl) (by rfl) ⟨cv rfl rfl, cv rfl rfl, cv rfl rfl, cv rfl rfl, cv rfl rfl, cv rfl rfl, cv rfl rfl, cv rfl rfl, trivial⟩) ?_
      refine at_go ?_
      conv => whnf
      refine vcT rfl ?_
      conv => whnf
      refine at_go ?_
      conv => whnf
      refine veq_intro (IntKind.i64.wrap (v1 + 1)) rfl ?_
      conv => whnf
      exact ⟨(IntKind.i64.wrap (v1 + 1), v2), hf, v3, sk hB (fwD (fwE (fwE (fw0 wf (by rfl) (fun _ => by rfl)) rfl rfl rfl) rfl rfl rfl) rfl rfl rfl (fun _ => rfl)) (by rfl) (by rfl) ⟨cv rfl rfl, cv rfl rfl, cv rfl rfl, cv rfl rfl, cv rfl rfl, trivial⟩⟩
    · replace hf := ifF h7 hf
      conv => whnf
      refine ⟨rfl, ⟨_, rfl, ?_⟩⟩
      conv => whnf
      refine vcF rfl ?_
      conv => whnf
      refine vcF rfl ?_
      obtain ⟨x7, h8, hf⟩ := bnd hf
      conv => whnf
      refine (clerestoryref06_Seen.pure x6.1 now x7 h8).call ?_
      conv => whnf
      refine vcF rfl ?_
      conv => whnf
      refine vcF rfl ?_
      conv => whnf
      refine at_sub (env' := [(2, (cI now)), (3, (.ptr 0 0 0 0)), (4, (.ptr 1 0 0 0)), (7, (.row 2 v3 0 v2.length)), (8, (cI v1)), (9, (.ptr 3 0 0 0)), (10, (.ptr 4 0 0 0)), (50, (cB (!x7)))]) (st' := ⟨(upd (upd (upd (upd (upd hp 0 (.row 0 5 T.api_View [[(cS v.Name), (cI v.ID), (cS v.Table), (cS v.On), (.d (.sl 1 (v.Cols.map strD)))]])) 1 (.row 0 3 T.api_Part [[(cS p.Key), (cI p.Gone), (.d (.sl 8 (p.Rows.map api_Row.d)))]])) 2 (.row v3 3 T.api_Part (dataRow api_Part.d v2))) 3 (.row 0 8 T.api_Row [[(cS x4.Key), (cS x4.Live.Val), (cB x4.Live.Dead), (cI x4.Live.At), (cI x4.Live.End), (cI x4.Gone), (cI x4.Shade), (.d (.sl 5 (x4.Cols.map api_Col.d)))]])) 4 (.row 0 3 T.api_Part [[(cS x5.1.Key), (cI x5.1.Gone), (.d (.sl 8 (x5.1.Rows.map api_Row.d)))]])), 5, g⟩) (sk hB (fwE (fwE (fwD (fwE (fwE (fw0 wf (by rfl) (fun _ => by rfl)) rfl rfl rfl) rfl rfl rfl) rfl rfl rfl (fun _ => rfl)) rfl rfl rfl) rfl rfl rfl) (by rfl) (by rfl) ⟨cv rfl rfl, cv rfl rfl, cv rfl rfl, cv rfl rfl, cv rfl rfl, cv rfl rfl, cv rfl rfl, cv rfl rfl, trivial⟩) ?_
      refine at_go ?_
      conv => whnf
      refine vcond_intro (t := !x7) (fun h9 => ?_) (fun h10 => ?_)
      · replace hf := ifT h9 hf
        conv => whnf
        refine at_go ?_
        conv => whnf
        refine veq_intro (IntKind.i64.wrap (v1 + 1)) rfl ?_
        conv => whnf
        exact ⟨(IntKind.i64.wrap (v1 + 1), v2), hf, v3, sk hB (fwD (fwE (fwE (fw0 wf (by rfl) (fun _ => by rfl)) rfl rfl rfl) rfl rfl rfl) rfl rfl rfl (fun _ => rfl)) (by rfl) (by rfl) ⟨cv rfl rfl, cv rfl rfl, cv rfl rfl, cv rfl rfl, cv rfl rfl, trivial⟩⟩
      · replace hf := ifF h10 hf
        conv => whnf
        refine at_go ?_
        conv => whnf
        refine cut_go ?_
        conv => whnf
        refine ⟨⟨rfl, Nat.le_of_ble_eq_true rfl⟩, ?_⟩
        conv => whnf
        refine ⟨rfl, ⟨_, rfl, ?_⟩⟩
        obtain ⟨x8, h11, hf⟩ := bnd hf
        conv => whnf
        refine ⟨⟨rfl, Nat.zero_lt_succ _⟩, at_nn h11, ⟨_, map_get (at_get h11), ?_⟩⟩
        conv => whnf
        refine ⟨Nat.le_of_ble_eq_true rfl, ?_⟩
        conv => whnf
        refine ⟨⟨rfl, Nat.le_of_ble_eq_true rfl⟩, ?_⟩
        conv => whnf
        refine ⟨rfl, ⟨_, rfl, ?_⟩⟩
        conv => whnf
        refine ⟨⟨rfl, Nat.zero_lt_succ _⟩, at_nn h11, ⟨_, map_get (at_get h11), ?_⟩⟩
        conv => whnf
        refine ⟨Nat.le_of_ble_eq_true rfl, ?_⟩
        conv => whnf
        refine ⟨rfl, ⟨_, rfl, ?_⟩⟩
        conv => whnf
        refine ⟨rfl, ⟨_, rfl, ?_⟩⟩
        conv => whnf
        refine ⟨⟨rfl, Nat.le_of_ble_eq_true rfl⟩, ?_⟩
        conv => whnf
        refine ⟨rfl, ⟨_, rfl, ?_⟩⟩
        conv => whnf
        refine ⟨?_, ?_⟩
        · obtain ⟨x9, h12, hf⟩ := bnd hf
          conv => whnf
          refine (clerestoryref07_Seen.pure x4 p.Gone now x9 h12).call ?_
          conv => whnf
          refine ⟨rfl, ?_⟩
          conv => whnf
          refine ⟨rfl, ⟨_, rfl, ?_⟩⟩
          conv => whnf
          refine ⟨rfl, ?_⟩
          conv => whnf
          refine ⟨rfl, ?_⟩
          conv => whnf
          refine ⟨rfl, ?_⟩
          conv => whnf
          refine ⟨rfl, ?_⟩
          conv => whnf
          refine ⟨Nat.le_of_ble_eq_true rfl, ?_⟩
          conv => whnf
          refine ⟨rfl, ?_⟩
          conv => whnf
          refine ⟨rfl, ?_⟩
          conv => whnf
          refine ⟨⟨rfl, Nat.zero_lt_succ _⟩, at_nn h11, ⟨_, map_get (at_get h11), ?_⟩⟩
          conv => whnf
          refine ⟨rfl, ?_⟩
          conv => whnf
          refine ⟨rfl, ?_⟩
          conv => whnf
          refine ⟨rfl, ⟨_, rfl, ?_⟩⟩
          conv => whnf
          refine ⟨rfl, ?_⟩
          conv => whnf
          refine ⟨rfl, ?_⟩
          conv => whnf
          refine ⟨⟨rfl, Nat.le_of_ble_eq_true rfl⟩, ?_⟩
          conv => whnf
          refine ⟨rfl, ?_⟩
          conv => whnf
          refine ⟨rfl, ?_⟩
          conv => whnf
          refine ⟨rfl, ?_⟩
          conv => whnf
          refine ⟨rfl, ?_⟩
          conv => whnf
          refine ⟨Nat.le_of_ble_eq_true rfl, ?_⟩
          conv => whnf
          refine ⟨rfl, ?_⟩
          conv => whnf
          refine ⟨rfl, ?_⟩
          conv => whnf
          refine ⟨⟨rfl, Nat.zero_lt_succ _⟩, at_nn h11, ⟨_, map_get (at_get h11), ?_⟩⟩
          conv => whnf
          refine ⟨rfl, ?_⟩
          conv => whnf
          refine ⟨rfl, ?_⟩
          conv => whnf
          refine ⟨rfl, ⟨_, rfl, ?_⟩⟩
          conv => whnf
          refine ⟨rfl, ?_⟩
          conv => whnf
          refine ⟨rfl, ?_⟩
          conv => whnf
          refine ⟨⟨rfl, Nat.le_of_ble_eq_true rfl⟩, ?_⟩
          conv => whnf
          refine ⟨rfl, ?_⟩
          conv => whnf
          refine ⟨?_, ?_⟩
          · obtain ⟨x10, h13, hf⟩ := bnd hf
            conv => whnf
            refine (clerestoryref18_pick.pure v x9 x10 h13).call ?_
            conv => whnf
            refine ⟨rfl, ?_⟩
            conv => whnf
            refine ⟨rfl, ?_⟩
            conv => whnf
            refine ⟨rfl, ?_⟩
            conv => whnf
            refine ⟨Nat.le_of_ble_eq_true rfl, ?_⟩
            conv => whnf
            refine ⟨rfl, ?_⟩
            conv => whnf
            refine ⟨rfl, ?_⟩
            conv => whnf
            refine ⟨⟨rfl, Nat.zero_lt_succ _⟩, at_nn h11, ⟨_, map_get (at_get h11), ?_⟩⟩
            conv => whnf
            refine ⟨rfl, ?_⟩
            conv => whnf
            refine ⟨rfl, ?_⟩
            conv => whnf
            refine ⟨rfl, ⟨_, rfl, ?_⟩⟩
            conv => whnf
            refine ⟨rfl, ?_⟩
            conv => whnf
            refine ⟨rfl, ?_⟩
            conv => whnf
            refine ⟨⟨rfl, Nat.le_of_ble_eq_true rfl⟩, ?_⟩
            conv => whnf
            refine ⟨rfl, ?_⟩
            conv => whnf
            refine ⟨rfl, ?_⟩
            conv => whnf
            refine ⟨rfl, ?_⟩
            conv => whnf
            refine ⟨rfl, ?_⟩
            conv => whnf
            refine ⟨Nat.le_of_ble_eq_true rfl, ?_⟩
            conv => whnf
            refine ⟨rfl, ?_⟩
            conv => whnf
            refine ⟨rfl, ?_⟩
            conv => whnf
            refine ⟨⟨rfl, Nat.zero_lt_succ _⟩, at_nn h11, ⟨_, map_get (at_get h11), ?_⟩⟩
            conv => whnf
            refine ⟨rfl, ?_⟩
            conv => whnf
            refine ⟨rfl, ?_⟩
            conv => whnf
            refine ⟨rfl, ⟨_, rfl, ?_⟩⟩
            conv => whnf
            refine ⟨rfl, ?_⟩
            conv => whnf
            refine ⟨rfl, ?_⟩
            conv => whnf
            refine ⟨⟨rfl, Nat.le_of_ble_eq_true rfl⟩, ?_⟩
            conv => whnf
            refine ⟨rfl, ?_⟩
            conv => whnf
            refine ⟨rfl, ?_⟩
            conv => whnf
            refine ⟨rfl, ?_⟩
            conv => whnf
            refine ⟨rfl, ?_⟩
            conv => whnf
            refine ⟨Nat.le_of_ble_eq_true rfl, ?_⟩
            conv => whnf
            refine ⟨rfl, ?_⟩
            conv => whnf
            refine ⟨rfl, ?_⟩
            conv => whnf
            refine ⟨⟨rfl, Nat.zero_lt_succ _⟩, at_nn h11, ⟨_, map_get (at_get h11), ?_⟩⟩
            conv => whnf
            refine ⟨rfl, ?_⟩
            conv => whnf
            refine ⟨rfl, ?_⟩
            conv => whnf
            refine ⟨rfl, ⟨_, rfl, ?_⟩⟩
            conv => whnf
            refine ⟨rfl, ?_⟩
            conv => whnf
            refine ⟨rfl, ?_⟩
            conv => whnf
            refine ⟨⟨rfl, Nat.le_of_ble_eq_true rfl⟩, ?_⟩
            conv => whnf
            refine ⟨rfl, ?_⟩
            conv => whnf
            refine ⟨rfl, ?_⟩
            conv => whnf
            refine ⟨rfl, ?_⟩
            conv => whnf
            refine ⟨rfl, ?_⟩
            conv => whnf
            refine ⟨Nat.le_of_ble_eq_true rfl, ?_⟩
            conv => whnf
            refine ⟨rfl, ?_⟩
            conv => whnf
            refine ⟨rfl, ?_⟩
            conv => whnf
            refine ⟨⟨rfl, Nat.zero_lt_succ _⟩, at_nn h11, ⟨_, map_get (at_get h11), ?_⟩⟩
            conv => whnf
            refine ⟨rfl, ?_⟩
            conv => whnf
            refine ⟨rfl, ?_⟩
            conv => whnf
            refine ⟨rfl, ⟨_, rfl, ?_⟩⟩
            conv => whnf
            refine ⟨rfl, ?_⟩
            conv => whnf
            refine ⟨rfl, ?_⟩
            conv => whnf
            refine ⟨⟨rfl, Nat.le_of_ble_eq_true rfl⟩, ?_⟩
            conv => whnf
            refine ⟨rfl, ?_⟩
            conv => whnf
            refine ⟨⟨rfl, rfl⟩, ⟨_, rfl, Nat.le_of_ble_eq_true rfl, veq_intro [[(cS x8.Key), (cS x8.Live.Val), (cB x8.Live.Dead), (cI x8.Live.At), (cI x8.Live.End), (cI 0), (cI 0), (.d (.sl 5 (x10.map api_Col.d)))]] rfl ?_⟩⟩
            conv => whnf
            refine at_go ?_
            conv => whnf
            refine ⟨⟨rfl, Nat.le_of_ble_eq_true rfl⟩, ?_⟩
            conv => whnf
            refine ⟨rfl, ⟨_, rfl, ?_⟩⟩
            conv => whnf
            refine ⟨rfl, ⟨_, rfl, ?_⟩⟩
            conv => whnf
            refine veq_intro (dataRow api_Row.d [(⟨x8.Key, x8.Live, 0, 0, x10⟩ : api_Row)]) rfl ?_
            conv => whnf
            refine veq_intro _ rfl ?_
            conv => whnf
            refine ⟨rfl, ?_⟩
            obtain ⟨h14, hf⟩ := grd hf
            conv => whnf
            refine veq_intro [[(cS x5.1.Key), (cI 0), (.row 6 0 0 1)]] rfl ⟨wid_ex (by rfl), ?_⟩
            conv => whnf
            refine ⟨⟨rfl, rfl, rfl⟩, row_len _ _, (by simpa using h14), veq_intro (dataRow api_Part.d v2 ++ [[(cS x5.1.Key), (cI 0), (.row 6 0 0 1)]]) rfl (veq_intro (v2 ++ [(⟨x5.1.Key, 0, [(⟨x8.Key, x8.Live, 0, 0, x10⟩ : api_Row)]⟩ : api_Part)]).length (by simp) ?_)⟩
            conv => whnf
            refine at_sub (env' := [(2, (cI now)), (3, (.ptr 0 0 0 0)), (4, (.ptr 1 0 0 0)), (7, (.row 2 (v3 + 1) 0 (v2 ++ [(⟨x5.1.Key, 0, [(⟨x8.Key, x8.Live, 0, 0, x10⟩ : api_Row)]⟩ : api_Part)]).length)), (8, (cI v1))]) (st' := ⟨(upd (upd (upd (upd (upd (upd (upd hp 0 (.row 0 5 T.api_View [[(cS v.Name), (cI v.ID), (cS v.Table), (cS v.On), (.d (.sl 1 (v.Cols.map strD)))]])) 1 (.row 0 3 T.api_Part [[(cS p.Key), (cI p.Gone), (.d (.sl 8 (p.Rows.map api_Row.d)))]])) 2 (.row (v3 + 1) 3 T.api_Part (dataRow api_Part.d (v2 ++ [(⟨x5.1.Key, 0, [(⟨x8.Key, x8.Live, 0, 0, x10⟩ : api_Row)]⟩ : api_Part)])))) 3 (.row 0 8 T.api_Row [[(cS x4.Key), (cS x4.Live.Val), (cB x4.Live.Dead), (cI x4.Live.At), (cI x4.Live.End), (cI x4.Gone), (cI x4.Shade), (.d (.sl 5 (x4.Cols.map api_Col.d)))]])) 4 (.row 0 3 T.api_Part [[(cS x5.1.Key), (cI x5.1.Gone), (.d (.sl 8 (x5.1.Rows.map api_Row.d)))]])) 5 (.row 0 8 T.api_Row [[(cS x8.Key), (cS x8.Live.Val), (cB x8.Live.Dead), (cI x8.Live.At), (cI x8.Live.End), (cI 0), (cI 0), (.d (.sl 5 (x10.map api_Col.d)))]])) 7 (.row 0 3 T.api_Part (dataRow api_Part.d [(⟨x5.1.Key, 0, [(⟨x8.Key, x8.Live, 0, 0, x10⟩ : api_Row)]⟩ : api_Part)]))), 8, g⟩) (sk hB (fwC (els' := dataRow api_Part.d [(⟨x5.1.Key, 0, [(⟨x8.Key, x8.Live, 0, 0, x10⟩ : api_Row)]⟩ : api_Part)]) (fwE (fwE (fwE (fwA (enc := api_Part.d) (l := v2) (m := [(⟨x5.1.Key, 0, [(⟨x8.Key, x8.Live, 0, 0, x10⟩ : api_Row)]⟩ : api_Part)]) (fwE (fwE (fw0 wf (by rfl) (fun _ => by rfl)) rfl rfl rfl) rfl rfl rfl) rfl rfl ⟨⟨cv rfl rfl, cv rfl rfl, cvz (enc := api_Row.d) (l := [(⟨x8.Key, x8.Live, 0, 0, x10⟩ : api_Row)]) rfl (wfn wf (by rfl)) rfl rfl, trivial⟩, trivial⟩ (fun _ => rfl)) rfl rfl rfl) rfl rfl rfl) rfl rfl rfl) rfl rfl ⟨⟨cv rfl rfl, cv rfl rfl, cvz (enc := api_Row.d) (l := [(⟨x8.Key, x8.Live, 0, 0, x10⟩ : api_Row)]) rfl (wfn wf (by rfl)) rfl rfl, trivial⟩, trivial⟩ (by rfl)) (by rfl) (by rfl) ⟨cv rfl rfl, cv rfl rfl, cv rfl rfl, cv rfl rfl, cv rfl rfl, trivial⟩) ?_
            refine at_sub (env' := [(2, (cI now)), (3, (.ptr 0 0 0 0)), (4, (.ptr 1 0 0 0)), (7, (.row 2 (v3 + 1) 0 (v2 ++ [(⟨x5.1.Key, 0, [(⟨x8.Key, x8.Live, 0, 0, x10⟩ : api_Row)]⟩ : api_Part)]).length)), (8, (cI v1))]) (st' := ⟨(upd (upd (upd hp 0 (.row 0 5 T.api_View [[(cS v.Name), (cI v.ID), (cS v.Table), (cS v.On), (.d (.sl 1 (v.Cols.map strD)))]])) 1 (.row 0 3 T.api_Part [[(cS p.Key), (cI p.Gone), (.d (.sl 8 (p.Rows.map api_Row.d)))]])) 2 (.row (v3 + 1) 3 T.api_Part (dataRow api_Part.d (v2 ++ [(⟨x5.1.Key, 0, [(⟨x8.Key, x8.Live, 0, 0, x10⟩ : api_Row)]⟩ : api_Part)])))), 3, g⟩) (sk hB (fwD (fwE (fwE (fw0 wf (by rfl) (fun _ => by rfl)) rfl rfl rfl) rfl rfl rfl) rfl rfl rfl (fun _ => rfl)) (by rfl) (by rfl) ⟨cv rfl rfl, cv rfl rfl, cv rfl rfl, cv rfl rfl, cv rfl rfl, trivial⟩) ?_
            refine at_go ?_
            conv => whnf
            refine veq_intro (IntKind.i64.wrap (v1 + 1)) rfl ?_
            conv => whnf
            exact ⟨(IntKind.i64.wrap (v1 + 1), v2 ++ [(⟨x5.1.Key, 0, [(⟨x8.Key, x8.Live, 0, 0, x10⟩ : api_Row)]⟩ : api_Part)]), hf, (v3 + 1), sk hB (fwD (fwE (fwE (fw0 wf (by rfl) (fun _ => by rfl)) rfl rfl rfl) rfl rfl rfl) rfl rfl rfl (fun _ => rfl)) (by rfl) (by rfl) ⟨cv rfl rfl, cv rfl rfl, cv rfl rfl, cv rfl rfl, cv rfl rfl, trivial⟩⟩
          · conv => whnf
            refine ⟨rfl, ?_⟩
            conv => whnf
            refine ⟨rfl, ⟨_, rfl, ?_⟩⟩
            conv => whnf
            refine ⟨rfl, ?_⟩
            conv => whnf
            refine ⟨rfl, ?_⟩
            conv => whnf
            refine ⟨rfl, ?_⟩
            conv => whnf
            refine ⟨rfl, ?_⟩
            conv => whnf
            refine ⟨Nat.le_of_ble_eq_true rfl, ?_⟩
            conv => whnf
            refine ⟨rfl, ?_⟩
            conv => whnf
            refine ⟨rfl, ?_⟩
            conv => whnf
            refine ⟨⟨rfl, Nat.zero_lt_succ _⟩, at_nn h11, ⟨_, map_get (at_get h11), ?_⟩⟩
            conv => whnf
            refine ⟨rfl, ?_⟩
            conv => whnf
            refine ⟨rfl, ?_⟩
            conv => whnf
            refine ⟨rfl, ⟨_, rfl, ?_⟩⟩
            conv => whnf
            refine ⟨rfl, ?_⟩
            conv => whnf
            refine ⟨rfl, ?_⟩
            conv => whnf
            refine ⟨⟨rfl, Nat.le_of_ble_eq_true rfl⟩, ?_⟩
            conv => whnf
            refine ⟨rfl, ?_⟩
            conv => whnf
            refine ⟨rfl, ?_⟩
            conv => whnf
            refine ⟨rfl, ?_⟩
            conv => whnf
            refine ⟨rfl, ?_⟩
            conv => whnf
            refine ⟨Nat.le_of_ble_eq_true rfl, ?_⟩
            conv => whnf
            refine ⟨rfl, ?_⟩
            conv => whnf
            refine ⟨rfl, ?_⟩
            conv => whnf
            refine ⟨⟨rfl, Nat.zero_lt_succ _⟩, at_nn h11, ⟨_, map_get (at_get h11), ?_⟩⟩
            conv => whnf
            refine ⟨rfl, ?_⟩
            conv => whnf
            refine ⟨rfl, ?_⟩
            conv => whnf
            refine ⟨rfl, ⟨_, rfl, ?_⟩⟩
            conv => whnf
            refine ⟨rfl, ?_⟩
            conv => whnf
            refine ⟨rfl, ?_⟩
            conv => whnf
            refine ⟨⟨rfl, Nat.le_of_ble_eq_true rfl⟩, ?_⟩
            conv => whnf
            refine ⟨rfl, ?_⟩
            obtain ⟨x10, h15, hf⟩ := bnd hf
            conv => whnf
            refine (clerestoryref18_pick.pure v x9 x10 h15).call ?_
            conv => whnf
            refine ⟨rfl, ?_⟩
            conv => whnf
            refine ⟨rfl, ?_⟩
            conv => whnf
            refine ⟨rfl, ?_⟩
            conv => whnf
            refine ⟨Nat.le_of_ble_eq_true rfl, ?_⟩
            conv => whnf
            refine ⟨rfl, ?_⟩
            conv => whnf
            refine ⟨rfl, ?_⟩
            conv => whnf
            refine ⟨⟨rfl, Nat.zero_lt_succ _⟩, at_nn h11, ⟨_, map_get (at_get h11), ?_⟩⟩
            conv => whnf
            refine ⟨rfl, ?_⟩
            conv => whnf
            refine ⟨rfl, ?_⟩
            conv => whnf
            refine ⟨rfl, ⟨_, rfl, ?_⟩⟩
            conv => whnf
            refine ⟨rfl, ?_⟩
            conv => whnf
            refine ⟨rfl, ?_⟩
            conv => whnf
            refine ⟨⟨rfl, Nat.le_of_ble_eq_true rfl⟩, ?_⟩
            conv => whnf
            refine ⟨rfl, ?_⟩
            conv => whnf
            refine ⟨rfl, ?_⟩
            conv => whnf
            refine ⟨rfl, ?_⟩
            conv => whnf
            refine ⟨rfl, ?_⟩
            conv => whnf
            refine ⟨Nat.le_of_ble_eq_true rfl, ?_⟩
            conv => whnf
            refine ⟨rfl, ?_⟩
            conv => whnf
            refine ⟨rfl, ?_⟩
            conv => whnf
            refine ⟨⟨rfl, Nat.zero_lt_succ _⟩, at_nn h11, ⟨_, map_get (at_get h11), ?_⟩⟩
            conv => whnf
            refine ⟨rfl, ?_⟩
            conv => whnf
            refine ⟨rfl, ?_⟩
            conv => whnf
            refine ⟨rfl, ⟨_, rfl, ?_⟩⟩
            conv => whnf
            refine ⟨rfl, ?_⟩
            conv => whnf
            refine ⟨rfl, ?_⟩
            conv => whnf
            refine ⟨⟨rfl, Nat.le_of_ble_eq_true rfl⟩, ?_⟩
            conv => whnf
            refine ⟨rfl, ?_⟩
            conv => whnf
            refine ⟨⟨rfl, rfl⟩, ⟨_, rfl, Nat.le_of_ble_eq_true rfl, veq_intro [[(cS x8.Key), (cS x8.Live.Val), (cB x8.Live.Dead), (cI x8.Live.At), (cI x8.Live.End), (cI 0), (cI 0), (.d (.sl 5 (x10.map api_Col.d)))]] rfl ?_⟩⟩
            conv => whnf
            refine at_go ?_
            conv => whnf
            refine ⟨⟨rfl, Nat.le_of_ble_eq_true rfl⟩, ?_⟩
            conv => whnf
            refine ⟨rfl, ⟨_, rfl, ?_⟩⟩
            conv => whnf
            refine ⟨rfl, ⟨_, rfl, ?_⟩⟩
            conv => whnf
            refine veq_intro (dataRow api_Row.d [(⟨x8.Key, x8.Live, 0, 0, x10⟩ : api_Row)]) rfl ?_
            conv => whnf
            refine veq_intro _ rfl ?_
            conv => whnf
            refine ⟨rfl, ?_⟩
            obtain ⟨h16, hf⟩ := grd hf
            conv => whnf
            refine veq_intro [[(cS x5.1.Key), (cI 0), (.row 6 0 0 1)]] rfl ⟨wid_ex (by rfl), ?_⟩
            conv => whnf
            refine ⟨⟨rfl, rfl, rfl⟩, row_len _ _, (by simpa using h16), veq_intro (dataRow api_Part.d v2 ++ [[(cS x5.1.Key), (cI 0), (.row 6 0 0 1)]]) rfl (veq_intro (v2 ++ [(⟨x5.1.Key, 0, [(⟨x8.Key, x8.Live, 0, 0, x10⟩ : api_Row)]⟩ : api_Part)]).length (by simp) ?_)⟩
            conv => whnf
            refine at_sub (env' := [(2, (cI now)), (3, (.ptr 0 0 0 0)), (4, (.ptr 1 0 0 0)), (7, (.row 2 (v3 + 1) 0 (v2 ++ [(⟨x5.1.Key, 0, [(⟨x8.Key, x8.Live, 0, 0, x10⟩ : api_Row)]⟩ : api_Part)]).length)), (8, (cI v1))]) (st' := ⟨(upd (upd (upd (upd (upd (upd (upd hp 0 (.row 0 5 T.api_View [[(cS v.Name), (cI v.ID), (cS v.Table), (cS v.On), (.d (.sl 1 (v.Cols.map strD)))]])) 1 (.row 0 3 T.api_Part [[(cS p.Key), (cI p.Gone), (.d (.sl 8 (p.Rows.map api_Row.d)))]])) 2 (.row (v3 + 1) 3 T.api_Part (dataRow api_Part.d (v2 ++ [(⟨x5.1.Key, 0, [(⟨x8.Key, x8.Live, 0, 0, x10⟩ : api_Row)]⟩ : api_Part)])))) 3 (.row 0 8 T.api_Row [[(cS x4.Key), (cS x4.Live.Val), (cB x4.Live.Dead), (cI x4.Live.At), (cI x4.Live.End), (cI x4.Gone), (cI x4.Shade), (.d (.sl 5 (x4.Cols.map api_Col.d)))]])) 4 (.row 0 3 T.api_Part [[(cS x5.1.Key), (cI x5.1.Gone), (.d (.sl 8 (x5.1.Rows.map api_Row.d)))]])) 5 (.row 0 8 T.api_Row [[(cS x8.Key), (cS x8.Live.Val), (cB x8.Live.Dead), (cI x8.Live.At), (cI x8.Live.End), (cI 0), (cI 0), (.d (.sl 5 (x10.map api_Col.d)))]])) 7 (.row 0 3 T.api_Part (dataRow api_Part.d [(⟨x5.1.Key, 0, [(⟨x8.Key, x8.Live, 0, 0, x10⟩ : api_Row)]⟩ : api_Part)]))), 8, g⟩) (sk hB (fwC (els' := dataRow api_Part.d [(⟨x5.1.Key, 0, [(⟨x8.Key, x8.Live, 0, 0, x10⟩ : api_Row)]⟩ : api_Part)]) (fwE (fwE (fwE (fwA (enc := api_Part.d) (l := v2) (m := [(⟨x5.1.Key, 0, [(⟨x8.Key, x8.Live, 0, 0, x10⟩ : api_Row)]⟩ : api_Part)]) (fwE (fwE (fw0 wf (by rfl) (fun _ => by rfl)) rfl rfl rfl) rfl rfl rfl) rfl rfl ⟨⟨cv rfl rfl, cv rfl rfl, cvz (enc := api_Row.d) (l := [(⟨x8.Key, x8.Live, 0, 0, x10⟩ : api_Row)]) rfl (wfn wf (by rfl)) rfl rfl, trivial⟩, trivial⟩ (fun _ => rfl)) rfl rfl rfl) rfl rfl rfl) rfl rfl rfl) rfl rfl ⟨⟨cv rfl rfl, cv rfl rfl, cvz (enc := api_Row.d) (l := [(⟨x8.Key, x8.Live, 0, 0, x10⟩ : api_Row)]) rfl (wfn wf (by rfl)) rfl rfl, trivial⟩, trivial⟩ (by rfl)) (by rfl) (by rfl) ⟨cv rfl rfl, cv rfl rfl, cv rfl rfl, cv rfl rfl, cv rfl rfl, trivial⟩) ?_
            refine at_sub (env' := [(2, (cI now)), (3, (.ptr 0 0 0 0)), (4, (.ptr 1 0 0 0)), (7, (.row 2 (v3 + 1) 0 (v2 ++ [(⟨x5.1.Key, 0, [(⟨x8.Key, x8.Live, 0, 0, x10⟩ : api_Row)]⟩ : api_Part)]).length)), (8, (cI v1))]) (st' := ⟨(upd (upd (upd hp 0 (.row 0 5 T.api_View [[(cS v.Name), (cI v.ID), (cS v.Table), (cS v.On), (.d (.sl 1 (v.Cols.map strD)))]])) 1 (.row 0 3 T.api_Part [[(cS p.Key), (cI p.Gone), (.d (.sl 8 (p.Rows.map api_Row.d)))]])) 2 (.row (v3 + 1) 3 T.api_Part (dataRow api_Part.d (v2 ++ [(⟨x5.1.Key, 0, [(⟨x8.Key, x8.Live, 0, 0, x10⟩ : api_Row)]⟩ : api_Part)])))), 3, g⟩) (sk hB (fwD (fwE (fwE (fw0 wf (by rfl) (fun _ => by rfl)) rfl rfl rfl) rfl rfl rfl) rfl rfl rfl (fun _ => rfl)) (by rfl) (by rfl) ⟨cv rfl rfl, cv rfl rfl, cv rfl rfl, cv rfl rfl, cv rfl rfl, trivial⟩) ?_
            refine at_go ?_
            conv => whnf
            refine veq_intro (IntKind.i64.wrap (v1 + 1)) rfl ?_
            conv => whnf
            exact ⟨(IntKind.i64.wrap (v1 + 1), v2 ++ [(⟨x5.1.Key, 0, [(⟨x8.Key, x8.Live, 0, 0, x10⟩ : api_Row)]⟩ : api_Part)]), hf, (v3 + 1), sk hB (fwD (fwE (fwE (fw0 wf (by rfl) (fun _ => by rfl)) rfl rfl rfl) rfl rfl rfl) rfl rfl rfl (fun _ => rfl)) (by rfl) (by rfl) ⟨cv rfl rfl, cv rfl rfl, cv rfl rfl, cv rfl rfl, cv rfl rfl, trivial⟩⟩
        · conv => whnf
          refine ⟨rfl, ?_⟩
          conv => whnf
          refine ⟨rfl, ⟨_, rfl, ?_⟩⟩
          conv => whnf
          refine ⟨rfl, ?_⟩
          conv => whnf
          refine ⟨rfl, ?_⟩
          conv => whnf
          refine ⟨⟨rfl, Nat.le_of_ble_eq_true rfl⟩, ?_⟩
          conv => whnf
          refine ⟨rfl, ?_⟩
          conv => whnf
          refine ⟨rfl, ?_⟩
          conv => whnf
          refine ⟨rfl, ⟨_, rfl, ?_⟩⟩
          conv => whnf
          refine ⟨rfl, ?_⟩
          conv => whnf
          refine ⟨rfl, ?_⟩
          conv => whnf
          refine ⟨rfl, ⟨_, rfl, ?_⟩⟩
          conv => whnf
          refine ⟨rfl, ?_⟩
          conv => whnf
          refine ⟨rfl, ?_⟩
          conv => whnf
          refine ⟨rfl, ?_⟩
          conv => whnf
          refine ⟨rfl, ?_⟩
          conv => whnf
          refine ⟨Nat.le_of_ble_eq_true rfl, ?_⟩
          conv => whnf
          refine ⟨rfl, ?_⟩
          conv => whnf
          refine ⟨rfl, ?_⟩
          conv => whnf
          refine ⟨⟨rfl, Nat.zero_lt_succ _⟩, at_nn h11, ⟨_, map_get (at_get h11), ?_⟩⟩
          conv => whnf
          refine ⟨rfl, ?_⟩
          conv => whnf
          refine ⟨rfl, ?_⟩
          conv => whnf
          refine ⟨rfl, ⟨_, rfl, ?_⟩⟩
          conv => whnf
          refine ⟨rfl, ?_⟩
          conv => whnf
          refine ⟨rfl, ?_⟩
          conv => whnf
          refine ⟨⟨rfl, Nat.le_of_ble_eq_true rfl⟩, ?_⟩
          conv => whnf
          refine ⟨rfl, ?_⟩
          conv => whnf
          refine ⟨rfl, ?_⟩
          conv => whnf
          refine ⟨rfl, ?_⟩
          conv => whnf
          refine ⟨rfl, ?_⟩
          conv => whnf
          refine ⟨Nat.le_of_ble_eq_true rfl, ?_⟩
          conv => whnf
          refine ⟨rfl, ?_⟩
          conv => whnf
          refine ⟨rfl, ?_⟩
          conv => whnf
          refine ⟨⟨rfl, Nat.zero_lt_succ _⟩, at_nn h11, ⟨_, map_get (at_get h11), ?_⟩⟩
          conv => whnf
          refine ⟨rfl, ?_⟩
          conv => whnf
          refine ⟨rfl, ?_⟩
          conv => whnf
          refine ⟨rfl, ⟨_, rfl, ?_⟩⟩
          conv => whnf
          refine ⟨rfl, ?_⟩
          conv => whnf
          refine ⟨rfl, ?_⟩
          conv => whnf
          refine ⟨⟨rfl, Nat.le_of_ble_eq_true rfl⟩, ?_⟩
          conv => whnf
          refine ⟨rfl, ?_⟩
          obtain ⟨x9, h17, hf⟩ := bnd hf
          conv => whnf
          refine (clerestoryref07_Seen.pure x4 p.Gone now x9 h17).call ?_
          conv => whnf
          refine ⟨rfl, ?_⟩
          conv => whnf
          refine ⟨rfl, ⟨_, rfl, ?_⟩⟩
          conv => whnf
          refine ⟨rfl, ?_⟩
          conv => whnf
          refine ⟨rfl, ?_⟩
          conv => whnf
          refine ⟨rfl, ?_⟩
          conv => whnf
          refine ⟨rfl, ?_⟩
          conv => whnf
          refine ⟨Nat.le_of_ble_eq_true rfl, ?_⟩
          conv => whnf
          refine ⟨rfl, ?_⟩
          conv => whnf
          refine ⟨rfl, ?_⟩
          conv => whnf
          refine ⟨⟨rfl, Nat.zero_lt_succ _⟩, at_nn h11, ⟨_, map_get (at_get h11), ?_⟩⟩
          conv => whnf
          refine ⟨rfl, ?_⟩
          conv => whnf
          refine ⟨rfl, ?_⟩
          conv => whnf
          refine ⟨rfl, ⟨_, rfl, ?_⟩⟩
          conv => whnf
          refine ⟨rfl, ?_⟩
          conv => whnf
          refine ⟨rfl, ?_⟩
          conv => whnf
          refine ⟨⟨rfl, Nat.le_of_ble_eq_true rfl⟩, ?_⟩
          conv => whnf
          refine ⟨rfl, ?_⟩
          conv => whnf
          refine ⟨rfl, ?_⟩
          conv => whnf
          refine ⟨rfl, ?_⟩
          conv => whnf
          refine ⟨rfl, ?_⟩
          conv => whnf
          refine ⟨Nat.le_of_ble_eq_true rfl, ?_⟩
          conv => whnf
          refine ⟨rfl, ?_⟩
          conv => whnf
          refine ⟨rfl, ?_⟩
          conv => whnf
          refine ⟨⟨rfl, Nat.zero_lt_succ _⟩, at_nn h11, ⟨_, map_get (at_get h11), ?_⟩⟩
          conv => whnf
          refine ⟨rfl, ?_⟩
          conv => whnf
          refine ⟨rfl, ?_⟩
          conv => whnf
          refine ⟨rfl, ⟨_, rfl, ?_⟩⟩
          conv => whnf
          refine ⟨rfl, ?_⟩
          conv => whnf
          refine ⟨rfl, ?_⟩
          conv => whnf
          refine ⟨⟨rfl, Nat.le_of_ble_eq_true rfl⟩, ?_⟩
          conv => whnf
          refine ⟨rfl, ?_⟩
          obtain ⟨x10, h18, hf⟩ := bnd hf
          conv => whnf
          refine (clerestoryref18_pick.pure v x9 x10 h18).call ?_
          conv => whnf
          refine ⟨rfl, ?_⟩
          conv => whnf
          refine ⟨rfl, ?_⟩
          conv => whnf
          refine ⟨rfl, ?_⟩
          conv => whnf
          refine ⟨Nat.le_of_ble_eq_true rfl, ?_⟩
          conv => whnf
          refine ⟨rfl, ?_⟩
          conv => whnf
          refine ⟨rfl, ?_⟩
          conv => whnf
          refine ⟨⟨rfl, Nat.zero_lt_succ _⟩, at_nn h11, ⟨_, map_get (at_get h11), ?_⟩⟩
          conv => whnf
          refine ⟨rfl, ?_⟩
          conv => whnf
          refine ⟨rfl, ?_⟩
          conv => whnf
          refine ⟨rfl, ⟨_, rfl, ?_⟩⟩
          conv => whnf
          refine ⟨rfl, ?_⟩
          conv => whnf
          refine ⟨rfl, ?_⟩
          conv => whnf
          refine ⟨⟨rfl, Nat.le_of_ble_eq_true rfl⟩, ?_⟩
          conv => whnf
          refine ⟨rfl, ?_⟩
          conv => whnf
          refine ⟨rfl, ?_⟩
          conv => whnf
          refine ⟨rfl, ?_⟩
          conv => whnf
          refine ⟨rfl, ?_⟩
          conv => whnf
          refine ⟨Nat.le_of_ble_eq_true rfl, ?_⟩
          conv => whnf
          refine ⟨rfl, ?_⟩
          conv => whnf
          refine ⟨rfl, ?_⟩
          conv => whnf
          refine ⟨⟨rfl, Nat.zero_lt_succ _⟩, at_nn h11, ⟨_, map_get (at_get h11), ?_⟩⟩
          conv => whnf
          refine ⟨rfl, ?_⟩
          conv => whnf
          refine ⟨rfl, ?_⟩
          conv => whnf
          refine ⟨rfl, ⟨_, rfl, ?_⟩⟩
          conv => whnf
          refine ⟨rfl, ?_⟩
          conv => whnf
          refine ⟨rfl, ?_⟩
          conv => whnf
          refine ⟨⟨rfl, Nat.le_of_ble_eq_true rfl⟩, ?_⟩
          conv => whnf
          refine ⟨rfl, ?_⟩
          conv => whnf
          refine ⟨⟨rfl, rfl⟩, ⟨_, rfl, Nat.le_of_ble_eq_true rfl, veq_intro [[(cS x8.Key), (cS x8.Live.Val), (cB x8.Live.Dead), (cI x8.Live.At), (cI x8.Live.End), (cI 0), (cI 0), (.d (.sl 5 (x10.map api_Col.d)))]] rfl ?_⟩⟩
          conv => whnf
          refine at_go ?_
          conv => whnf
          refine ⟨⟨rfl, Nat.le_of_ble_eq_true rfl⟩, ?_⟩
          conv => whnf
          refine ⟨rfl, ⟨_, rfl, ?_⟩⟩
          conv => whnf
          refine ⟨rfl, ⟨_, rfl, ?_⟩⟩
          conv => whnf
          refine veq_intro (dataRow api_Row.d [(⟨x8.Key, x8.Live, 0, 0, x10⟩ : api_Row)]) rfl ?_
          conv => whnf
          refine veq_intro _ rfl ?_
          conv => whnf
          refine ⟨rfl, ?_⟩
          obtain ⟨h19, hf⟩ := grd hf
          conv => whnf
          refine veq_intro [[(cS x5.1.Key), (cI 0), (.row 6 0 0 1)]] rfl ⟨wid_ex (by rfl), ?_⟩
          conv => whnf
          refine ⟨⟨rfl, rfl, rfl⟩, row_len _ _, (by simpa using h19), veq_intro (dataRow api_Part.d v2 ++ [[(cS x5.1.Key), (cI 0), (.row 6 0 0 1)]]) rfl (veq_intro (v2 ++ [(⟨x5.1.Key, 0, [(⟨x8.Key, x8.Live, 0, 0, x10⟩ : api_Row)]⟩ : api_Part)]).length (by simp) ?_)⟩
          conv => whnf
          refine at_sub (env' := [(2, (cI now)), (3, (.ptr 0 0 0 0)), (4, (.ptr 1 0 0 0)), (7, (.row 2 (v3 + 1) 0 (v2 ++ [(⟨x5.1.Key, 0, [(⟨x8.Key, x8.Live, 0, 0, x10⟩ : api_Row)]⟩ : api_Part)]).length)), (8, (cI v1))]) (st' := ⟨(upd (upd (upd (upd (upd (upd (upd hp 0 (.row 0 5 T.api_View [[(cS v.Name), (cI v.ID), (cS v.Table), (cS v.On), (.d (.sl 1 (v.Cols.map strD)))]])) 1 (.row 0 3 T.api_Part [[(cS p.Key), (cI p.Gone), (.d (.sl 8 (p.Rows.map api_Row.d)))]])) 2 (.row (v3 + 1) 3 T.api_Part (dataRow api_Part.d (v2 ++ [(⟨x5.1.Key, 0, [(⟨x8.Key, x8.Live, 0, 0, x10⟩ : api_Row)]⟩ : api_Part)])))) 3 (.row 0 8 T.api_Row [[(cS x4.Key), (cS x4.Live.Val), (cB x4.Live.Dead), (cI x4.Live.At), (cI x4.Live.End), (cI x4.Gone), (cI x4.Shade), (.d (.sl 5 (x4.Cols.map api_Col.d)))]])) 4 (.row 0 3 T.api_Part [[(cS x5.1.Key), (cI x5.1.Gone), (.d (.sl 8 (x5.1.Rows.map api_Row.d)))]])) 5 (.row 0 8 T.api_Row [[(cS x8.Key), (cS x8.Live.Val), (cB x8.Live.Dead), (cI x8.Live.At), (cI x8.Live.End), (cI 0), (cI 0), (.d (.sl 5 (x10.map api_Col.d)))]])) 7 (.row 0 3 T.api_Part (dataRow api_Part.d [(⟨x5.1.Key, 0, [(⟨x8.Key, x8.Live, 0, 0, x10⟩ : api_Row)]⟩ : api_Part)]))), 8, g⟩) (sk hB (fwC (els' := dataRow api_Part.d [(⟨x5.1.Key, 0, [(⟨x8.Key, x8.Live, 0, 0, x10⟩ : api_Row)]⟩ : api_Part)]) (fwE (fwE (fwE (fwA (enc := api_Part.d) (l := v2) (m := [(⟨x5.1.Key, 0, [(⟨x8.Key, x8.Live, 0, 0, x10⟩ : api_Row)]⟩ : api_Part)]) (fwE (fwE (fw0 wf (by rfl) (fun _ => by rfl)) rfl rfl rfl) rfl rfl rfl) rfl rfl ⟨⟨cv rfl rfl, cv rfl rfl, cvz (enc := api_Row.d) (l := [(⟨x8.Key, x8.Live, 0, 0, x10⟩ : api_Row)]) rfl (wfn wf (by rfl)) rfl rfl, trivial⟩, trivial⟩ (fun _ => rfl)) rfl rfl rfl) rfl rfl rfl) rfl rfl rfl) rfl rfl ⟨⟨cv rfl rfl, cv rfl rfl, cvz (enc := api_Row.d) (l := [(⟨x8.Key, x8.Live, 0, 0, x10⟩ : api_Row)]) rfl (wfn wf (by rfl)) rfl rfl, trivial⟩, trivial⟩ (by rfl)) (by rfl) (by rfl) ⟨cv rfl rfl, cv rfl rfl, cv rfl rfl, cv rfl rfl, cv rfl rfl, trivial⟩) ?_
          refine at_sub (env' := [(2, (cI now)), (3, (.ptr 0 0 0 0)), (4, (.ptr 1 0 0 0)), (7, (.row 2 (v3 + 1) 0 (v2 ++ [(⟨x5.1.Key, 0, [(⟨x8.Key, x8.Live, 0, 0, x10⟩ : api_Row)]⟩ : api_Part)]).length)), (8, (cI v1))]) (st' := ⟨(upd (upd (upd hp 0 (.row 0 5 T.api_View [[(cS v.Name), (cI v.ID), (cS v.Table), (cS v.On), (.d (.sl 1 (v.Cols.map strD)))]])) 1 (.row 0 3 T.api_Part [[(cS p.Key), (cI p.Gone), (.d (.sl 8 (p.Rows.map api_Row.d)))]])) 2 (.row (v3 + 1) 3 T.api_Part (dataRow api_Part.d (v2 ++ [(⟨x5.1.Key, 0, [(⟨x8.Key, x8.Live, 0, 0, x10⟩ : api_Row)]⟩ : api_Part)])))), 3, g⟩) (sk hB (fwD (fwE (fwE (fw0 wf (by rfl) (fun _ => by rfl)) rfl rfl rfl) rfl rfl rfl) rfl rfl rfl (fun _ => rfl)) (by rfl) (by rfl) ⟨cv rfl rfl, cv rfl rfl, cv rfl rfl, cv rfl rfl, cv rfl rfl, trivial⟩) ?_
          refine at_go ?_
          conv => whnf
          refine veq_intro (IntKind.i64.wrap (v1 + 1)) rfl ?_
          conv => whnf
          exact ⟨(IntKind.i64.wrap (v1 + 1), v2 ++ [(⟨x5.1.Key, 0, [(⟨x8.Key, x8.Live, 0, 0, x10⟩ : api_Row)]⟩ : api_Part)]), hf, (v3 + 1), sk hB (fwD (fwE (fwE (fw0 wf (by rfl) (fun _ => by rfl)) rfl rfl rfl) rfl rfl rfl) rfl rfl rfl (fun _ => rfl)) (by rfl) (by rfl) ⟨cv rfl rfl, cv rfl rfl, cv rfl rfl, cv rfl rfl, cv rfl rfl, trivial⟩⟩
  · replace hf := ifF h2 hf
    conv => whnf
    refine at_go ?_
    conv => whnf
    refine cut_go ?_
    conv => whnf
    refine at_sub (env' := [(6, (.row 2 v3 0 v2.length))]) (st' := ⟨(upd hp 2 (.row v3 3 T.api_Part (dataRow api_Part.d v2))), 3, g⟩) (sk hB (fwD (fw0 wf (by rfl) (fun _ => by rfl)) rfl rfl rfl (fun _ => rfl)) (by rfl) (by rfl) ⟨cv rfl rfl, trivial⟩) ?_
    refine at_go ?_
    conv => whnf
    obtain rfl := Option.some.inj hf
    refine ret_c hB wf (fun _ => by rfl) ?_
    exact cvz (enc := api_Part.d) (l := v2) rfl (wfn wf (by rfl)) rfl rfl

end Go.Eng
