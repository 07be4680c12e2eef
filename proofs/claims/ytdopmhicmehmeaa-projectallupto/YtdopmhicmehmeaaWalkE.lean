/-
  Part of the proof that the law ProjectAll returns true at every input of bulk at most 1048576, and leaves its arguments as they were; the whole is stated at the end of the last text.
-/
import Derived.Test.YtdopmhicmehmeaaData
import Derived.Test.YtdopmhicmehmeaaCode
import Derived.Test.YtdopmhicmehmeaaWalkD
set_option maxRecDepth 100000
set_option linter.unusedVariables false
set_option linter.unusedSimpArgs false
namespace Go.Eng
open Go
noncomputable def clerestoryref18_Mirror.f (v : api_View) (p : api_Part) (r : api_Row) : Option (api_Part × Bool) :=
  (clerestoryref07_Best.f r p.Gone v.On).bind fun x1 =>
  (clerestoryref18_Key.f p.Key r.Key).bind fun x2 =>
  if (!x1.2) = true then
    some ((⟨(bs []), 0, ([] : List api_Row)⟩ : api_Part), false)
  else
  if (decide (400 < (x2.size : Int))) = true then
    some ((⟨(bs []), 0, ([] : List api_Row)⟩ : api_Part), false)
  else
  (clerestoryref07_Gone.f r p.Gone).bind fun x3 =>
  (clerestoryref18_pick.f v r.Cols).bind fun x4 =>
  some ((⟨x1.1.Val, 0, [(⟨x2, (⟨(bs []), false, x1.1.At, x1.1.End⟩ : api_Cell), x3, 0, x4⟩ : api_Row)]⟩ : api_Part), true)

set_option maxHeartbeats 4000000 in
theorem clerestoryref18_Mirror.pure (v : api_View) (p : api_Part) (r : api_Row) (res : api_Part × Bool) (hf : clerestoryref18_Mirror.f v p r = some res) : Pure prog F.clerestoryref18_Mirror [(agd (api_View.d v)), (agd (api_Part.d p)), (agd (api_Row.d r))] (.tup [(agd (api_Part.d res.1)), (cB res.2)]) := by
  refine pure_fn clerestoryref18_Mirror.res (Nat.le_of_ble_eq_true rfl) (fun _ => rfl) (fun _ => rfl) fun B hp g hB wf => ?_
  rw [clerestoryref18_Mirror.f] at hf
  conv => whnf
  refine cut_go ?_
  conv => whnf
  refine at_go ?_
  conv => whnf
  refine cut_go ?_
  conv => whnf
  refine ⟨rfl, ⟨_, rfl, ?_⟩⟩
  conv => whnf
  refine ⟨⟨rfl, Nat.le_of_ble_eq_true rfl⟩, ?_⟩
  conv => whnf
  refine ⟨rfl, ⟨_, rfl, ?_⟩⟩
  conv => whnf
  refine ⟨⟨rfl, Nat.le_of_ble_eq_true rfl⟩, ?_⟩
  conv => whnf
  refine ⟨rfl, ⟨_, rfl, ?_⟩⟩
  obtain ⟨x1, h1, hf⟩ := bnd hf
  conv => whnf
  refine (clerestoryref07_Best.pure r p.Gone v.On x1 h1).call ?_
  conv => whnf
  refine ⟨⟨rfl, rfl⟩, ⟨_, rfl, Nat.le_of_ble_eq_true rfl, veq_intro [[(cS x1.1.Val), (cB x1.1.Dead), (cI x1.1.At), (cI x1.1.End)]] rfl ?_⟩⟩
  conv => whnf
  refine at_go ?_
  conv => whnf
  refine cut_go ?_
  conv => whnf
  refine ⟨⟨rfl, Nat.le_of_ble_eq_true rfl⟩, ?_⟩
  conv => whnf
  refine ⟨rfl, ⟨_, rfl, ?_⟩⟩
  conv => whnf
  refine ⟨⟨rfl, Nat.le_of_ble_eq_true rfl⟩, ?_⟩
  conv => whnf
  refine ⟨rfl, ⟨_, rfl, ?_⟩⟩
  obtain ⟨x2, h2, hf⟩ := bnd hf
  conv => whnf
  refine (clerestoryref18_Key.pure p.Key r.Key x2 h2).call ?_
  conv => whnf
  refine at_sub (env' := [(3, (.ptr 0 0 0 0)), (4, (.ptr 1 0 0 0)), (5, (.ptr 2 0 0 0)), (6, (.ptr 3 0 0 0)), (8, (.ptr 4 0 0 0)), (9, (cB x1.2)), (10, (cS x2))]) (st' := ⟨(upd (upd (upd (upd (upd hp 0 (.row 0 5 T.api_View [[(cS v.Name), (cI v.ID), (cS v.Table), (cS v.On), (.d (.sl 1 (v.Cols.map strD)))]])) 1 (.row 0 3 T.api_Part [[(cS p.Key), (cI p.Gone), (.d (.sl 8 (p.Rows.map api_Row.d)))]])) 2 (.row 0 8 T.api_Row [[(cS r.Key), (cS r.Live.Val), (cB r.Live.Dead), (cI r.Live.At), (cI r.Live.End), (cI r.Gone), (cI r.Shade), (.d (.sl 5 (r.Cols.map api_Col.d)))]])) 3 (.row 0 3 T.api_Part [[(cS (bs [])), (cI 0), nilS]])) 4 (.row 0 4 T.api_Cell [[(cS x1.1.Val), (cB x1.1.Dead), (cI x1.1.At), (cI x1.1.End)]])), 5, g⟩) (sk hB (fwE (fwE (fwE (fwE (fwE (fw0 wf (by rfl) (fun _ => by rfl)) rfl rfl rfl) rfl rfl rfl) rfl rfl rfl) rfl rfl rfl) rfl rfl rfl) (by rfl) (by rfl) ⟨cv rfl rfl, cv rfl rfl, cv rfl rfl, cv rfl rfl, cv rfl rfl, cv rfl rfl, cv rfl rfl, trivial⟩) ?_
  refine at_go ?_
  conv => whnf
  refine cut_go ?_
  conv => whnf
  refine cut_go ?_
  conv => whnf
  refine vcond_intro (t := !x1.2) (fun h3 => ?_) (fun h4 => ?_)
  · replace hf := ifT h3 hf
    conv => whnf
    refine vcT rfl ?_
    conv => whnf
    refine vcT rfl ?_
    conv => whnf
    refine vcT rfl ?_
    conv => whnf
    refine at_go ?_
    conv => whnf
    refine vcT rfl ?_
    conv => whnf
    refine cut_go ?_
    conv => whnf
    refine ⟨⟨rfl, rfl⟩, ⟨_, rfl, Nat.le_of_ble_eq_true rfl, veq_intro [[(cS (bs [])), (cI 0), nilS]] rfl ?_⟩⟩
    conv => whnf
    refine at_go ?_
    conv => whnf
    obtain rfl := Option.some.inj hf
    refine ret_c hB wf (fun _ => by rfl) ?_
    exact conv_tup ⟨conv_agg ⟨cv rfl rfl, cv rfl rfl, .nil, trivial⟩, cv rfl rfl, trivial⟩
  · replace hf := ifF h4 hf
    conv => whnf
    refine vcF rfl ?_
    conv => whnf
    refine vcF rfl ?_
    conv => whnf
    refine vcF rfl ?_
    conv => whnf
    refine at_go ?_
    conv => whnf
    refine vcond_intro (t := decide (400 < (x2.size : Int))) (fun h5 => ?_) (fun h6 => ?_)
    · replace hf := ifT h5 hf
      conv => whnf
      refine cut_go ?_
      conv => whnf
      refine ⟨⟨rfl, rfl⟩, ⟨_, rfl, Nat.le_of_ble_eq_true rfl, veq_intro [[(cS (bs [])), (cI 0), nilS]] rfl ?_⟩⟩
      conv => whnf
      refine at_go ?_
      conv => whnf
      obtain rfl := Option.some.inj hf
      refine ret_c hB wf (fun _ => by rfl) ?_
      exact conv_tup ⟨conv_agg ⟨cv rfl rfl, cv rfl rfl, .nil, trivial⟩, cv rfl rfl, trivial⟩
    · replace hf := ifF h6 hf
      conv => whnf
      refine at_go ?_
      conv => whnf
      refine cut_go ?_
      conv => whnf
      refine ⟨⟨rfl, Nat.le_of_ble_eq_true rfl⟩, ?_⟩
      conv => whnf
      refine ⟨rfl, ⟨_, rfl, ?_⟩⟩
      conv => whnf
      refine ⟨⟨rfl, Nat.le_of_ble_eq_true rfl⟩, ?_⟩
      conv => whnf
      refine ⟨rfl, ⟨_, rfl, ?_⟩⟩
      conv => whnf
      refine ⟨rfl, ⟨_, rfl, ?_⟩⟩
      conv => whnf
      refine ⟨⟨rfl, Nat.le_of_ble_eq_true rfl⟩, ?_⟩
      conv => whnf
      refine ⟨rfl, ⟨_, rfl, ?_⟩⟩
      conv => whnf
      refine ⟨rfl, ⟨_, rfl, ?_⟩⟩
      conv => whnf
      refine ⟨⟨rfl, Nat.le_of_ble_eq_true rfl⟩, ?_⟩
      conv => whnf
      refine ⟨rfl, ⟨_, rfl, ?_⟩⟩
      conv => whnf
      refine ⟨?_, ?_⟩
      · obtain ⟨x3, h7, hf⟩ := bnd hf
        conv => whnf
        refine (clerestoryref07_Gone.pure r p.Gone x3 h7).call ?_
        conv => whnf
        refine ⟨rfl, ?_⟩
        conv => whnf
        refine ⟨rfl, ⟨_, rfl, ?_⟩⟩
        conv => whnf
        refine ⟨rfl, ?_⟩
        conv => whnf
        refine ⟨rfl, ?_⟩
        conv => whnf
        refine ⟨⟨rfl, Nat.le_of_ble_eq_true rfl⟩, ?_⟩
        conv => whnf
        refine ⟨rfl, ?_⟩
        conv => whnf
        refine ⟨rfl, ?_⟩
        conv => whnf
        refine ⟨rfl, ⟨_, rfl, ?_⟩⟩
        conv => whnf
        refine ⟨rfl, ?_⟩
        conv => whnf
        refine ⟨rfl, ?_⟩
        conv => whnf
        refine ⟨rfl, ⟨_, rfl, ?_⟩⟩
        conv => whnf
        refine ⟨rfl, ?_⟩
        conv => whnf
        refine ⟨rfl, ?_⟩
        conv => whnf
        refine ⟨⟨rfl, Nat.le_of_ble_eq_true rfl⟩, ?_⟩
        conv => whnf
        refine ⟨rfl, ?_⟩
        conv => whnf
        refine ⟨rfl, ?_⟩
        conv => whnf
        refine ⟨rfl, ⟨_, rfl, ?_⟩⟩
        conv => whnf
        refine ⟨rfl, ?_⟩
        conv => whnf
        refine ⟨rfl, ?_⟩
        conv => whnf
        refine ⟨⟨rfl, Nat.le_of_ble_eq_true rfl⟩, ?_⟩
        conv => whnf
        refine ⟨rfl, ?_⟩
        conv => whnf
        refine ⟨?_, ?_⟩
        · obtain ⟨x4, h8, hf⟩ := bnd hf
          conv => whnf
          refine (clerestoryref18_pick.pure v r.Cols x4 h8).call ?_
          conv => whnf
          refine ⟨rfl, ?_⟩
          conv => whnf
          refine ⟨rfl, ⟨_, rfl, ?_⟩⟩
          conv => whnf
          refine ⟨rfl, ?_⟩
          conv => whnf
          refine ⟨rfl, ?_⟩
          conv => whnf
          refine ⟨⟨rfl, Nat.le_of_ble_eq_true rfl⟩, ?_⟩
          conv => whnf
          refine ⟨rfl, ?_⟩
          conv => whnf
          refine ⟨rfl, ?_⟩
          conv => whnf
          refine ⟨rfl, ⟨_, rfl, ?_⟩⟩
          conv => whnf
          refine ⟨rfl, ?_⟩
          conv => whnf
          refine ⟨rfl, ?_⟩
          conv => whnf
          refine ⟨⟨rfl, Nat.le_of_ble_eq_true rfl⟩, ?_⟩
          conv => whnf
          refine ⟨rfl, ?_⟩
          conv => whnf
          refine ⟨rfl, ?_⟩
          conv => whnf
          refine ⟨rfl, ⟨_, rfl, ?_⟩⟩
          conv => whnf
          refine ⟨rfl, ?_⟩
          conv => whnf
          refine ⟨rfl, ?_⟩
          conv => whnf
          refine ⟨⟨rfl, Nat.le_of_ble_eq_true rfl⟩, ?_⟩
          conv => whnf
          refine ⟨rfl, ?_⟩
          conv => whnf
          refine ⟨rfl, ?_⟩
          conv => whnf
          refine ⟨rfl, ⟨_, rfl, ?_⟩⟩
          conv => whnf
          refine ⟨rfl, ?_⟩
          conv => whnf
          refine ⟨rfl, ?_⟩
          conv => whnf
          refine ⟨⟨rfl, Nat.le_of_ble_eq_true rfl⟩, ?_⟩
          conv => whnf
          refine ⟨rfl, ?_⟩
          conv => whnf
          refine ⟨⟨rfl, rfl⟩, ⟨_, rfl, Nat.le_of_ble_eq_true rfl, veq_intro [[(cS x2), (cS (bs [])), (cB false), (cI x1.1.At), (cI x1.1.End), (cI x3), (cI 0), (.d (.sl 5 (x4.map api_Col.d)))]] rfl ?_⟩⟩
          conv => whnf
          refine at_sub (env' := [(6, (.ptr 3 0 0 0)), (8, (.ptr 4 0 0 0)), (11, (.ptr 5 0 0 0))]) (st' := ⟨(upd (upd (upd hp 3 (.row 0 3 T.api_Part [[(cS (bs [])), (cI 0), nilS]])) 4 (.row 0 4 T.api_Cell [[(cS x1.1.Val), (cB x1.1.Dead), (cI x1.1.At), (cI x1.1.End)]])) 5 (.row 0 8 T.api_Row [[(cS x2), (cS (bs [])), (cB false), (cI x1.1.At), (cI x1.1.End), (cI x3), (cI 0), (.d (.sl 5 (x4.map api_Col.d)))]])), 6, g⟩) (sk hB (fwE (fwE (fwE (fw0 wf (by rfl) (fun _ => by rfl)) rfl rfl rfl) rfl rfl rfl) rfl rfl rfl) (by rfl) (by rfl) ⟨cv rfl rfl, cv rfl rfl, cv rfl rfl, trivial⟩) ?_
          refine at_go ?_
          conv => whnf
          refine cut_go ?_
          conv => whnf
          refine ⟨⟨rfl, Nat.le_of_ble_eq_true rfl⟩, ?_⟩
          conv => whnf
          refine ⟨rfl, ⟨_, rfl, ?_⟩⟩
          conv => whnf
          refine ⟨rfl, ⟨_, rfl, ?_⟩⟩
          conv => whnf
          refine veq_intro (dataRow api_Row.d [(⟨x2, (⟨(bs []), false, x1.1.At, x1.1.End⟩ : api_Cell), x3, 0, x4⟩ : api_Row)]) rfl ?_
          conv => whnf
          refine ⟨⟨rfl, rfl⟩, ⟨_, rfl, Nat.le_of_ble_eq_true rfl, veq_intro [[(cS x1.1.Val), (cI 0), (.row 6 0 0 1)]] rfl ?_⟩⟩
          conv => whnf
          refine at_go ?_
          conv => whnf
          obtain rfl := Option.some.inj hf
          refine ret_c hB wf (fun _ => by rfl) ?_
          exact conv_tup ⟨conv_agg ⟨cv rfl rfl, cv rfl rfl, cvz (enc := api_Row.d) (l := [(⟨x2, (⟨(bs []), false, x1.1.At, x1.1.End⟩ : api_Cell), x3, 0, x4⟩ : api_Row)]) rfl (wfn wf (by rfl)) rfl rfl, trivial⟩, cv rfl rfl, trivial⟩
        · conv => whnf
          refine ⟨rfl, ?_⟩
          conv => whnf
          refine ⟨rfl, ⟨_, rfl, ?_⟩⟩
          conv => whnf
          refine ⟨rfl, ?_⟩
          conv => whnf
          refine ⟨rfl, ?_⟩
          conv => whnf
          refine ⟨⟨rfl, Nat.le_of_ble_eq_true rfl⟩, ?_⟩
          conv => whnf
          refine ⟨rfl, ?_⟩
          conv => whnf
          refine ⟨rfl, ?_⟩
          conv => whnf
          refine ⟨rfl, ⟨_, rfl, ?_⟩⟩
          conv => whnf
          refine ⟨rfl, ?_⟩
          conv => whnf
          refine ⟨rfl, ?_⟩
          conv => whnf
          refine ⟨rfl, ⟨_, rfl, ?_⟩⟩
          conv => whnf
          refine ⟨rfl, ?_⟩
          conv => whnf
          refine ⟨rfl, ?_⟩
          conv => whnf
          refine ⟨⟨rfl, Nat.le_of_ble_eq_true rfl⟩, ?_⟩
          conv => whnf
          refine ⟨rfl, ?_⟩
          conv => whnf
          refine ⟨rfl, ?_⟩
          conv => whnf
          refine ⟨rfl, ⟨_, rfl, ?_⟩⟩
          conv => whnf
          refine ⟨rfl, ?_⟩
          conv => whnf
          refine ⟨rfl, ?_⟩
          conv => whnf
          refine ⟨⟨rfl, Nat.le_of_ble_eq_true rfl⟩, ?_⟩
          conv => whnf
          refine ⟨rfl, ?_⟩
          obtain ⟨x4, h9, hf⟩ := bnd hf
          conv => whnf
          refine (clerestoryref18_pick.pure v r.Cols x4 h9).call ?_
          conv => whnf
          refine ⟨rfl, ?_⟩
          conv => whnf
          refine ⟨rfl, ⟨_, rfl, ?_⟩⟩
          conv => whnf
          refine ⟨rfl, ?_⟩
          conv => whnf
          refine ⟨rfl, ?_⟩
          conv => whnf
          refine ⟨⟨rfl, Nat.le_of_ble_eq_true rfl⟩, ?_⟩
          conv => whnf
          refine ⟨rfl, ?_⟩
          conv => whnf
          refine ⟨rfl, ?_⟩
          conv => whnf
          refine ⟨rfl, ⟨_, rfl, ?_⟩⟩
          conv => whnf
          refine ⟨rfl, ?_⟩
          conv => whnf
          refine ⟨rfl, ?_⟩
          conv => whnf
          refine ⟨⟨rfl, Nat.le_of_ble_eq_true rfl⟩, ?_⟩
          conv => whnf
          refine ⟨rfl, ?_⟩
          conv => whnf
          refine ⟨⟨rfl, rfl⟩, ⟨_, rfl, Nat.le_of_ble_eq_true rfl, veq_intro [[(cS x2), (cS (bs [])), (cB false), (cI x1.1.At), (cI x1.1.End), (cI x3), (cI 0), (.d (.sl 5 (x4.map api_Col.d)))]] rfl ?_⟩⟩
          conv => whnf
          refine at_sub (env' := [(6, (.ptr 3 0 0 0)), (8, (.ptr 4 0 0 0)), (11, (.ptr 5 0 0 0))]) (st' := ⟨(upd (upd (upd hp 3 (.row 0 3 T.api_Part [[(cS (bs [])), (cI 0), nilS]])) 4 (.row 0 4 T.api_Cell [[(cS x1.1.Val), (cB x1.1.Dead), (cI x1.1.At), (cI x1.1.End)]])) 5 (.row 0 8 T.api_Row [[(cS x2), (cS (bs [])), (cB false), (cI x1.1.At), (cI x1.1.End), (cI x3), (cI 0), (.d (.sl 5 (x4.map api_Col.d)))]])), 6, g⟩) (sk hB (fwE (fwE (fwE (fw0 wf (by rfl) (fun _ => by rfl)) rfl rfl rfl) rfl rfl rfl) rfl rfl rfl) (by rfl) (by rfl) ⟨cv rfl rfl, cv rfl rfl, cv rfl rfl, trivial⟩) ?_
          refine at_go ?_
          conv => whnf
          refine cut_go ?_
          conv => whnf
          refine ⟨⟨rfl, Nat.le_of_ble_eq_true rfl⟩, ?_⟩
          conv => whnf
          refine ⟨rfl, ⟨_, rfl, ?_⟩⟩
          conv => whnf
          refine ⟨rfl, ⟨_, rfl, ?_⟩⟩
          conv => whnf
          refine veq_intro (dataRow api_Row.d [(⟨x2, (⟨(bs []), false, x1.1.At, x1.1.End⟩ : api_Cell), x3, 0, x4⟩ : api_Row)]) rfl ?_
          conv => whnf
          refine ⟨⟨rfl, rfl⟩, ⟨_, rfl, Nat.le_of_ble_eq_true rfl, veq_intro [[(cS x1.1.Val), (cI 0), (.row 6 0 0 1)]] rfl ?_⟩⟩
          conv => whnf
          refine at_go ?_
          conv => whnf
          obtain rfl := Option.some.inj hf
          refine ret_c hB wf (fun _ => by rfl) ?_
          exact conv_tup ⟨conv_agg ⟨cv rfl rfl, cv rfl rfl, cvz (enc := api_Row.d) (l := [(⟨x2, (⟨(bs []), false, x1.1.At, x1.1.End⟩ : api_Cell), x3, 0, x4⟩ : api_Row)]) rfl (wfn wf (by rfl)) rfl rfl, trivial⟩, cv rfl rfl, trivial⟩
      · conv => whnf
        refine ⟨rfl, ?_⟩
        conv => whnf
        refine ⟨rfl, ⟨_, rfl, ?_⟩⟩
        conv => whnf
        refine ⟨rfl, ?_⟩
        conv => whnf
        refine ⟨rfl, ?_⟩
        conv => whnf
        refine ⟨⟨rfl, Nat.le_of_ble_eq_true rfl⟩, ?_⟩
        conv => whnf
        refine ⟨rfl, ?_⟩
        conv => whnf
        refine ⟨rfl, ?_⟩
        conv => whnf
        refine ⟨rfl, ⟨_, rfl, ?_⟩⟩
        conv => whnf
        refine ⟨rfl, ?_⟩
        conv => whnf
        refine ⟨rfl, ?_⟩
        conv => whnf
        refine ⟨rfl, ⟨_, rfl, ?_⟩⟩
        conv => whnf
        refine ⟨rfl, ?_⟩
        conv => whnf
        refine ⟨rfl, ?_⟩
        conv => whnf
        refine ⟨⟨rfl, Nat.le_of_ble_eq_true rfl⟩, ?_⟩
        conv => whnf
        refine ⟨rfl, ?_⟩
        conv => whnf
        refine ⟨rfl, ?_⟩
        conv => whnf
        refine ⟨rfl, ⟨_, rfl, ?_⟩⟩
        conv => whnf
        refine ⟨rfl, ?_⟩
        conv => whnf
        refine ⟨rfl, ?_⟩
        conv => whnf
        refine ⟨rfl, ⟨_, rfl, ?_⟩⟩
        conv => whnf
        refine ⟨rfl, ?_⟩
        conv => whnf
        refine ⟨rfl, ?_⟩
        conv => whnf
        refine ⟨⟨rfl, Nat.le_of_ble_eq_true rfl⟩, ?_⟩
        conv => whnf
        refine ⟨rfl, ?_⟩
        conv => whnf
        refine ⟨rfl, ?_⟩
        conv => whnf
        refine ⟨rfl, ⟨_, rfl, ?_⟩⟩
        conv => whnf
        refine ⟨rfl, ?_⟩
        conv => whnf
        refine ⟨rfl, ?_⟩
        conv => whnf
        refine ⟨⟨rfl, Nat.le_of_ble_eq_true rfl⟩, ?_⟩
        conv => whnf
        refine ⟨rfl, ?_⟩
        obtain ⟨x3, h10, hf⟩ := bnd hf
        conv => whnf
        refine (clerestoryref07_Gone.pure r p.Gone x3 h10).call ?_
        conv => whnf
        refine ⟨rfl, ?_⟩
        conv => whnf
        refine ⟨rfl, ⟨_, rfl, ?_⟩⟩
        conv => whnf
        refine ⟨rfl, ?_⟩
        conv => whnf
        refine ⟨rfl, ?_⟩
        conv => whnf
        refine ⟨⟨rfl, Nat.le_of_ble_eq_true rfl⟩, ?_⟩
        conv => whnf
        refine ⟨rfl, ?_⟩
        conv => whnf
        refine ⟨rfl, ?_⟩
        conv => whnf
        refine ⟨rfl, ⟨_, rfl, ?_⟩⟩
        conv => whnf
        refine ⟨rfl, ?_⟩
        conv => whnf
        refine ⟨rfl, ?_⟩
        conv => whnf
        refine ⟨rfl, ⟨_, rfl, ?_⟩⟩
        conv => whnf
        refine ⟨rfl, ?_⟩
        conv => whnf
        refine ⟨rfl, ?_⟩
        conv => whnf
        refine ⟨⟨rfl, Nat.le_of_ble_eq_true rfl⟩, ?_⟩
        conv => whnf
        refine ⟨rfl, ?_⟩
        conv => whnf
        refine ⟨rfl, ?_⟩
        conv => whnf
        refine ⟨rfl, ⟨_, rfl, ?_⟩⟩
        conv => whnf
        refine ⟨rfl, ?_⟩
        conv => whnf
        refine ⟨rfl, ?_⟩
        conv => whnf
        refine ⟨⟨rfl, Nat.le_of_ble_eq_true rfl⟩, ?_⟩
        conv => whnf
        refine ⟨rfl, ?_⟩
        obtain ⟨x4, h11, hf⟩ := bnd hf
        conv => whnf
        refine (clerestoryref18_pick.pure v r.Cols x4 h11).call ?_
        conv => whnf
        refine ⟨rfl, ?_⟩
        conv => whnf
        refine ⟨rfl, ⟨_, rfl, ?_⟩⟩
        conv => whnf
        refine ⟨rfl, ?_⟩
        conv => whnf
        refine ⟨rfl, ?_⟩
        conv => whnf
        refine ⟨⟨rfl, Nat.le_of_ble_eq_true rfl⟩, ?_⟩
        conv => whnf
        refine ⟨rfl, ?_⟩
        conv => whnf
        refine ⟨rfl, ?_⟩
        conv => whnf
        refine ⟨rfl, ⟨_, rfl, ?_⟩⟩
        conv => whnf
        refine ⟨rfl, ?_⟩
        conv => whnf
        refine ⟨rfl, ?_⟩
        conv => whnf
        refine ⟨⟨rfl, Nat.le_of_ble_eq_true rfl⟩, ?_⟩
        conv => whnf
        refine ⟨rfl, ?_⟩
        conv => whnf
        refine ⟨⟨rfl, rfl⟩, ⟨_, rfl, Nat.le_of_ble_eq_true rfl, veq_intro [[(cS x2), (cS (bs [])), (cB false), (cI x1.1.At), (cI x1.1.End), (cI x3), (cI 0), (.d (.sl 5 (x4.map api_Col.d)))]] rfl ?_⟩⟩
        conv => whnf
        refine at_sub (env' := [(6, (.ptr 3 0 0 0)), (8, (.ptr 4 0 0 0)), (11, (.ptr 5 0 0 0))]) (st' := ⟨(upd (upd (upd hp 3 (.row 0 3 T.api_Part [[(cS (bs [])), (cI 0), nilS]])) 4 (.row 0 4 T.api_Cell [[(cS x1.1.Val), (cB x1.1.Dead), (cI x1.1.At), (cI x1.1.End)]])) 5 (.row 0 8 T.api_Row [[(cS x2), (cS (bs [])), (cB false), (cI x1.1.At), (cI x1.1.End), (cI x3), (cI 0), (.d (.sl 5 (x4.map api_Col.d)))]])), 6, g⟩) (sk hB (fwE (fwE (fwE (fw0 wf (by rfl) (fun _ => by rfl)) rfl rfl rfl) rfl rfl rfl) rfl rfl rfl) (by rfl) (by rfl) ⟨cv rfl rfl, cv rfl rfl, cv rfl rfl, trivial⟩) ?_
        refine at_go ?_
        conv => whnf
        refine cut_go ?_
        conv => whnf
        refine ⟨⟨rfl, Nat.le_of_ble_eq_true rfl⟩, ?_⟩
        conv => whnf
        refine ⟨rfl, ⟨_, rfl, ?_⟩⟩
        conv => whnf
        refine ⟨rfl, ⟨_, rfl, ?_⟩⟩
        conv => whnf
        refine veq_intro (dataRow api_Row.d [(⟨x2, (⟨(bs []), false, x1.1.At, x1.1.End⟩ : api_Cell), x3, 0, x4⟩ : api_Row)]) rfl ?_
        conv => whnf
        refine ⟨⟨rfl, rfl⟩, ⟨_, rfl, Nat.le_of_ble_eq_true rfl, veq_intro [[(cS x1.1.Val), (cI 0), (.row 6 0 0 1)]] rfl ?_⟩⟩
        conv => whnf
        refine at_go ?_
        conv => whnf
        obtain rfl := Option.some.inj hf
        refine ret_c hB wf (fun _ => by rfl) ?_
        exact conv_tup ⟨conv_agg ⟨cv rfl rfl, cv rfl rfl, cvz (enc := api_Row.d) (l := [(⟨x2, (⟨(bs []), false, x1.1.At, x1.1.End⟩ : api_Cell), x3, 0, x4⟩ : api_Row)]) rfl (wfn wf (by rfl)) rfl rfl, trivial⟩, cv rfl rfl, trivial⟩

noncomputable def clerestoryref06_Same.f (a : api_Cell) (b : api_Cell) : Option (Bool) :=
  if (seq a.Val b.Val) = true then
    if (((a.Dead == b.Dead) != false)) = true then
      if (decide (a.At = b.At)) = true then
        some (decide (a.End = b.End))
      else
      some false
    else
    some false
  else
  some false

set_option maxHeartbeats 4000000 in
theorem clerestoryref06_Same.pure (a : api_Cell) (b : api_Cell) (res : Bool) (hf : clerestoryref06_Same.f a b = some res) : Pure prog F.clerestoryref06_Same [(agd (api_Cell.d a)), (agd (api_Cell.d b))] (cB res) := by
  refine pure_fn clerestoryref06_Same.res (Nat.le_of_ble_eq_true rfl) (fun _ => rfl) (fun _ => rfl) fun B hp g hB wf => ?_
  rw [clerestoryref06_Same.f] at hf
  conv => whnf
  refine cut_go ?_
  conv => whnf
  refine at_go ?_
  conv => whnf
  refine cut_go ?_
  conv => whnf
  refine ⟨⟨rfl, Nat.le_of_ble_eq_true rfl⟩, ?_⟩
  conv => whnf
  refine ⟨rfl, ⟨_, rfl, ?_⟩⟩
  conv => whnf
  refine ⟨⟨rfl, Nat.le_of_ble_eq_true rfl⟩, ?_⟩
  conv => whnf
  refine ⟨rfl, ⟨_, rfl, ?_⟩⟩
  conv => whnf
  refine vcond_intro (t := seq a.Val b.Val) (fun h1 => ?_) (fun h2 => ?_)
  · replace hf := ifT h1 hf
    conv => whnf
    refine ⟨⟨rfl, Nat.le_of_ble_eq_true rfl⟩, ?_⟩
    conv => whnf
    refine vcT rfl ?_
    conv => whnf
    refine ⟨rfl, ⟨_, rfl, ?_⟩⟩
    conv => whnf
    refine vcT rfl ?_
    conv => whnf
    refine ⟨⟨rfl, Nat.le_of_ble_eq_true rfl⟩, ?_⟩
    conv => whnf
    refine vcT rfl ?_
    conv => whnf
    refine ⟨rfl, ⟨_, rfl, ?_⟩⟩
    conv => whnf
    refine vcT rfl ?_
    conv => whnf
    refine vcT rfl ?_
    conv => whnf
    refine vcond_intro (t := ((a.Dead == b.Dead) != false)) (fun h3 => ?_) (fun h4 => ?_)
    · replace hf := ifT h3 hf
      conv => whnf
      refine ⟨⟨rfl, Nat.le_of_ble_eq_true rfl⟩, ?_⟩
      conv => whnf
      refine vcT rfl ?_
      conv => whnf
      refine ⟨rfl, ⟨_, rfl, ?_⟩⟩
      conv => whnf
      refine vcT rfl ?_
      conv => whnf
      refine ⟨⟨rfl, Nat.le_of_ble_eq_true rfl⟩, ?_⟩
      conv => whnf
      refine vcT rfl ?_
      conv => whnf
      refine ⟨rfl, ⟨_, rfl, ?_⟩⟩
      conv => whnf
      refine vcT rfl ?_
      conv => whnf
      refine vcT rfl ?_
      conv => whnf
      refine vcond_intro (t := decide (a.At = b.At)) (fun h5 => ?_) (fun h6 => ?_)
      · replace hf := ifT h5 hf
        conv => whnf
        refine ⟨⟨rfl, Nat.le_of_ble_eq_true rfl⟩, ?_⟩
        conv => whnf
        refine vcT rfl ?_
        conv => whnf
        refine ⟨rfl, ⟨_, rfl, ?_⟩⟩
        conv => whnf
        refine vcT rfl ?_
        conv => whnf
        refine ⟨⟨rfl, Nat.le_of_ble_eq_true rfl⟩, ?_⟩
        conv => whnf
        refine vcT rfl ?_
        conv => whnf
        refine ⟨rfl, ⟨_, rfl, ?_⟩⟩
        conv => whnf
        refine vcT rfl ?_
        conv => whnf
        refine vcT rfl ?_
        conv => whnf
        refine at_go ?_
        conv => whnf
        obtain rfl := Option.some.inj hf
        refine ret_c hB wf (fun _ => by rfl) ?_
        exact cv rfl rfl
      · replace hf := ifF h6 hf
        conv => whnf
        refine vcF rfl ?_
        conv => whnf
        refine vcF rfl ?_
        conv => whnf
        refine vcF rfl ?_
        conv => whnf
        refine vcF rfl ?_
        conv => whnf
        refine vcF rfl ?_
        conv => whnf
        refine at_go ?_
        conv => whnf
        obtain rfl := Option.some.inj hf
        refine ret_c hB wf (fun _ => by rfl) ?_
        exact cv rfl rfl
    · replace hf := ifF h4 hf
      conv => whnf
      refine vcF rfl ?_
      conv => whnf
      refine vcF rfl ?_
      conv => whnf
      refine vcF rfl ?_
      conv => whnf
      refine vcF rfl ?_
      conv => whnf
      refine vcF rfl ?_
      conv => whnf
      refine vcF rfl ?_
      conv => whnf
      refine vcF rfl ?_
      conv => whnf
      refine vcF rfl ?_
      conv => whnf
      refine vcF rfl ?_
      conv => whnf
      refine vcF rfl ?_
      conv => whnf
      refine vcF rfl ?_
      conv => whnf
      refine at_go ?_
      conv => whnf
      obtain rfl := Option.some.inj hf
      refine ret_c hB wf (fun _ => by rfl) ?_
      exact cv rfl rfl
  · replace hf := ifF h2 hf
    conv => whnf
    refine vcF rfl ?_
    conv => whnf
    refine vcF rfl ?_
    conv => whnf
    refine vcF rfl ?_
    conv => whnf
    refine vcF rfl ?_
    conv => whnf
    refine vcF rfl ?_
    conv => whnf
    refine vcF rfl ?_
    conv => whnf
    refine vcF rfl ?_
    conv => whnf
    refine vcF rfl ?_
    conv => whnf
    refine vcF rfl ?_
    conv => whnf
    refine vcF rfl ?_
    conv => whnf
    refine vcF rfl ?_
    conv => whnf
    refine vcF rfl ?_
    conv => whnf
    refine vcF rfl ?_
    conv => whnf
    refine vcF rfl ?_
    conv => whnf
    refine vcF rfl ?_
    conv => whnf
    refine vcF rfl ?_
    conv => whnf
    refine vcF rfl ?_
    conv => whnf
    refine at_go ?_
    conv => whnf
    obtain rfl := Option.some.inj hf
    refine ret_c hB wf (fun _ => by rfl) ?_
    exact cv rfl rfl

noncomputable def clerestoryref07_SameCols.w0 (a : List api_Col) (b : List api_Col) : Nat → Int → Option (Bool)
  | 0, _ => none
  | k0 + 1, v1 =>
    if (decide (v1 < (a.length : Int))) = true then
      (at? a v1).bind fun x2 =>
      (at? b v1).bind fun x3 =>
      if (!seq x2.Name x3.Name) = true then
        some false
      else
      (clerestoryref06_Same.f x2.Cell x3.Cell).bind fun x4 =>
      if (!x4) = true then
        some false
      else
      clerestoryref07_SameCols.w0 a b k0 (IntKind.i64.wrap (v1 + 1))
    else
    some true

noncomputable def clerestoryref07_SameCols.f (a : List api_Col) (b : List api_Col) : Option (Bool) :=
  if (decide ((a.length : Int) ≠ (b.length : Int))) = true then
    some false
  else
  clerestoryref07_SameCols.w0 a b K0 0

set_option maxHeartbeats 4000000 in
theorem clerestoryref07_SameCols.pure (a : List api_Col) (b : List api_Col) (res : Bool) (hf : clerestoryref07_SameCols.f a b = some res) : Pure prog F.clerestoryref07_SameCols [(.d (.sl 5 (a.map api_Col.d))), (.d (.sl 5 (b.map api_Col.d)))] (cB res) := by
  refine pure_fn clerestoryref07_SameCols.res (Nat.le_of_ble_eq_true rfl) (fun _ => rfl) (fun _ => rfl) fun B hp g hB wf => ?_
  rw [clerestoryref07_SameCols.f] at hf
  conv => whnf
  refine cut_go ?_
  conv => whnf
  refine at_go ?_
  conv => whnf
  refine cut_go ?_
  conv => whnf
  refine cut_go ?_
  conv => whnf
  refine veq_intro a.length (by simp) ?_
  conv => whnf
  refine veq_intro b.length (by simp) ?_
  conv => whnf
  refine at_go ?_
  conv => whnf
  refine vcond_intro (t := decide ((a.length : Int) ≠ (b.length : Int))) (fun h1 => ?_) (fun h2 => ?_)
  · replace hf := ifT h1 hf
    conv => whnf
    refine cut_go ?_
    conv => whnf
    refine at_sub (env' := [(4, (cB false))]) (st' := ⟨hp, 0, g⟩) (sk hB (fw0 wf (by rfl) (fun _ => by rfl)) (by rfl) (by rfl) ⟨cv rfl rfl, trivial⟩) ?_
    refine at_go ?_
    conv => whnf
    obtain rfl := Option.some.inj hf
    refine ret_c hB wf (fun _ => by rfl) ?_
    exact cv rfl rfl
  · replace hf := ifF h2 hf
    conv => whnf
    refine at_sub (env' := [(0, (.d (.sl 5 (a.map api_Col.d)))), (1, (.d (.sl 5 (b.map api_Col.d)))), (10, (cB (decide ((a.length : Int) ≠ (b.length : Int)))))]) (st' := ⟨hp, 0, g⟩) (sk hB (fw0 wf (by rfl) (fun _ => by rfl)) (by rfl) (by rfl) ⟨cv rfl rfl, cv rfl rfl, cv rfl rfl, trivial⟩) ?_
    refine at_go ?_
    conv => whnf
    refine cut_go ?_
    conv => whnf
    refine cut_go ?_
    conv => whnf
    refine at_go ?_
    conv => whnf
    refine loop_sub (env' := [(0, (.d (.sl 5 (a.map api_Col.d)))), (1, (.d (.sl 5 (b.map api_Col.d)))), (5, (cI 0))]) (st' := ⟨hp, 0, g⟩) (sk hB (fw0 wf (by rfl) (fun _ => by rfl)) (by rfl) (by rfl) ⟨cv rfl rfl, cv rfl rfl, cv rfl rfl, trivial⟩) ?_
    refine loop_f (α := Int) (γ := Unit) (fun (_ : Unit) v1 => [(0, (.d (.sl 5 (a.map api_Col.d)))), (1, (.d (.sl 5 (b.map api_Col.d)))), (5, (cI v1))]) (fun (_ : Unit) v1 => ⟨hp, 0, g⟩) (fun k s => clerestoryref07_SameCols.w0 a b k s) (fun _ => rfl) ?_ K0 0 () hf
    intro k0 v1 gg hf
    replace hf : clerestoryref07_SameCols.w0 a b (k0 + 1) v1 = some _ := hf
    rw [clerestoryref07_SameCols.w0] at hf
    try dsimp only
    conv => whnf
    refine cut_go ?_
    conv => whnf
    refine cut_go ?_
    conv => whnf
    refine veq_intro a.length (by simp) ?_
    conv => whnf
    refine at_go ?_
    conv => whnf
    refine vcond_intro (t := decide (v1 < (a.length : Int))) (fun h3 => ?_) (fun h4 => ?_)
    · replace hf := ifT h3 hf
      conv => whnf
      refine at_go ?_
      conv => whnf
      refine cut_go ?_
      conv => whnf
      refine cut_go ?_
      obtain ⟨x2, h5, hf⟩ := bnd hf
      conv => whnf
      refine ⟨⟨rfl, Nat.zero_lt_succ _⟩, at_nn h5, ⟨_, map_get (at_get h5), ?_⟩⟩
      conv => whnf
      refine ⟨Nat.le_of_ble_eq_true rfl, ?_⟩
      obtain ⟨x3, h6, hf⟩ := bnd hf
      conv => whnf
      refine ⟨⟨rfl, Nat.zero_lt_succ _⟩, at_nn h6, ⟨_, map_get (at_get h6), ?_⟩⟩
      conv => whnf
      refine ⟨Nat.le_of_ble_eq_true rfl, ?_⟩
      conv => whnf
      refine vcond_intro (t := !seq x2.Name x3.Name) (fun h7 => ?_) (fun h8 => ?_)
      · replace hf := ifT h7 hf
        conv => whnf
        refine vcT rfl ?_
        conv => whnf
        refine vcT rfl ?_
        conv => whnf
        refine vcT rfl ?_
        conv => whnf
        refine vcT rfl ?_
        conv => whnf
        refine vcT rfl ?_
        conv => whnf
        refine vcT rfl ?_
        conv => whnf
        refine vcT rfl ?_
        conv => whnf
        refine vcT rfl ?_
        conv => whnf
        refine vcT rfl ?_
        conv => whnf
        refine vcT rfl ?_
        conv => whnf
        refine vcT rfl ?_
        conv => whnf
        refine vcT rfl ?_
        conv => whnf
        refine at_sub (env' := [(0, (.d (.sl 5 (a.map api_Col.d)))), (1, (.d (.sl 5 (b.map api_Col.d)))), (5, (cI v1)), (41, (cB true))]) (st' := ⟨hp, 0, g⟩) (sk hB (fw0 wf (by rfl) (fun _ => by rfl)) (by rfl) (by rfl) ⟨cv rfl rfl, cv rfl rfl, cv rfl rfl, cv rfl rfl, trivial⟩) ?_
        refine at_go ?_
        conv => whnf
        refine vcT rfl ?_
        conv => whnf
        refine cut_go ?_
        conv => whnf
        refine at_go ?_
        conv => whnf
        obtain rfl := Option.some.inj hf
        refine ret_c hB wf (fun _ => by rfl) ?_
        exact cv rfl rfl
      · replace hf := ifF h8 hf
        conv => whnf
        refine vcF rfl ?_
        conv => whnf
        refine vcF rfl ?_
        conv => whnf
        refine ⟨⟨rfl, Nat.zero_lt_succ _⟩, at_nn h5, ⟨_, map_get (at_get h5), ?_⟩⟩
        conv => whnf
        refine vcF rfl ?_
        conv => whnf
        refine ⟨Nat.le_of_ble_eq_true rfl, ?_⟩
        conv => whnf
        refine vcF rfl ?_
        conv => whnf
        refine vcF rfl ?_
        conv => whnf
        refine vcF rfl ?_
        conv => whnf
        refine vcF rfl ?_
        conv => whnf
        refine ⟨⟨rfl, Nat.zero_lt_succ _⟩, at_nn h6, ⟨_, map_get (at_get h6), ?_⟩⟩
        conv => whnf
        refine vcF rfl ?_
        conv => whnf
        refine ⟨Nat.le_of_ble_eq_true rfl, ?_⟩
        conv => whnf
        refine vcF rfl ?_
        conv => whnf
        refine vcF rfl ?_
        obtain ⟨x4, h9, hf⟩ := bnd hf
        conv => whnf
        refine (clerestoryref06_Same.pure x2.Cell x3.Cell x4 h9).call ?_
        conv => whnf
        refine vcF rfl ?_
        conv => whnf
        refine vcF rfl ?_
        conv => whnf
        refine at_sub (env' := [(0, (.d (.sl 5 (a.map api_Col.d)))), (1, (.d (.sl 5 (b.map api_Col.d)))), (5, (cI v1)), (41, (cB (!x4)))]) (st' := ⟨hp, 0, g⟩) (sk hB (fw0 wf (by rfl) (fun _ => by rfl)) (by rfl) (by rfl) ⟨cv rfl rfl, cv rfl rfl, cv rfl rfl, cv rfl rfl, trivial⟩) ?_
        refine at_go ?_
        conv => whnf
        refine vcond_intro (t := !x4) (fun h10 => ?_) (fun h11 => ?_)
        · replace hf := ifT h10 hf
          conv => whnf
          refine cut_go ?_
          conv => whnf
          refine at_go ?_
          conv => whnf
          obtain rfl := Option.some.inj hf
          refine ret_c hB wf (fun _ => by rfl) ?_
          exact cv rfl rfl
        · replace hf := ifF h11 hf
          conv => whnf
          refine at_go ?_
          conv => whnf
          refine veq_intro (IntKind.i64.wrap (v1 + 1)) rfl ?_
          conv => whnf
          exact ⟨IntKind.i64.wrap (v1 + 1), hf, (), sk hB (fw0 wf (by rfl) (fun _ => by rfl)) (by rfl) (by rfl) ⟨cv rfl rfl, cv rfl rfl, cv rfl rfl, trivial⟩⟩
    · replace hf := ifF h4 hf
      conv => whnf
      refine at_go ?_
      conv => whnf
      refine cut_go ?_
      conv => whnf
      refine at_sub (env' := [(4, (cB true))]) (st' := ⟨hp, 0, g⟩) (sk hB (fw0 wf (by rfl) (fun _ => by rfl)) (by rfl) (by rfl) ⟨cv rfl rfl, trivial⟩) ?_
      refine at_go ?_
      conv => whnf
      obtain rfl := Option.some.inj hf
      refine ret_c hB wf (fun _ => by rfl) ?_
      exact cv rfl rfl

noncomputable def clerestoryref07_Same.f (a : api_Row) (b : api_Row) : Option (Bool) :=
  if (seq a.Key b.Key) = true then
    (clerestoryref06_Same.f a.Live b.Live).bind fun x1 =>
    if (x1) = true then
      if (decide (a.Gone = b.Gone)) = true then
        if (decide (a.Shade = b.Shade)) = true then
          (clerestoryref07_SameCols.f a.Cols b.Cols).bind fun x2 =>
          some x2
        else
        some false
      else
      some false
    else
    some false
  else
  some false

set_option maxHeartbeats 4000000 in
theorem clerestoryref07_Same.pure (a : api_Row) (b : api_Row) (res : Bool) (hf : clerestoryref07_Same.f a b = some res) : Pure prog F.clerestoryref07_Same [(agd (api_Row.d a)), (agd (api_Row.d b))] (cB res) := by
  refine pure_fn clerestoryref07_Same.res (Nat.le_of_ble_eq_true rfl) (fun _ => rfl) (fun _ => rfl) fun B hp g hB wf => ?_
  rw [clerestoryref07_Same.f] at hf
  conv => whnf
  refine cut_go ?_
  conv => whnf
  refine at_go ?_
  conv => whnf
  refine cut_go ?_
  conv => whnf
  refine ⟨⟨rfl, Nat.le_of_ble_eq_true rfl⟩, ?_⟩
  conv => whnf
  refine ⟨rfl, ⟨_, rfl, ?_⟩⟩
  conv => whnf
  refine ⟨⟨rfl, Nat.le_of_ble_eq_true rfl⟩, ?_⟩
  conv => whnf
  refine ⟨rfl, ⟨_, rfl, ?_⟩⟩
  conv => whnf
  refine vcond_intro (t := seq a.Key b.Key) (fun h1 => ?_) (fun h2 => ?_)
  · replace hf := ifT h1 hf
    conv => whnf
    refine ⟨⟨rfl, Nat.le_of_ble_eq_true rfl⟩, ?_⟩
    conv => whnf
    refine vcT rfl ?_
    conv => whnf
    refine ⟨rfl, ⟨_, rfl, ?_⟩⟩
    conv => whnf
    refine vcT rfl ?_
    conv => whnf
    refine ⟨⟨rfl, Nat.le_of_ble_eq_true rfl⟩, ?_⟩
    conv => whnf
    refine vcT rfl ?_
    conv => whnf
    refine ⟨rfl, ⟨_, rfl, ?_⟩⟩
    conv => whnf
    refine vcT rfl ?_
    obtain ⟨x1, h3, hf⟩ := bnd hf
    conv => whnf
    refine (clerestoryref06_Same.pure a.Live b.Live x1 h3).call ?_
    conv => whnf
    refine vcT rfl ?_
    conv => whnf
    refine vcond_intro (t := x1) (fun h4 => ?_) (fun h5 => ?_)
    · replace hf := ifT h4 hf
      conv => whnf
      refine ⟨⟨rfl, Nat.le_of_ble_eq_true rfl⟩, ?_⟩
      conv => whnf
      refine vcT rfl ?_
      conv => whnf
      refine ⟨rfl, ⟨_, rfl, ?_⟩⟩
      conv => whnf
      refine vcT rfl ?_
      conv => whnf
      refine ⟨⟨rfl, Nat.le_of_ble_eq_true rfl⟩, ?_⟩
      conv => whnf
      refine vcT rfl ?_
      conv => whnf
      refine ⟨rfl, ⟨_, rfl, ?_⟩⟩
      conv => whnf
      refine vcT rfl ?_
      conv => whnf
      refine vcT rfl ?_
      conv => whnf
      refine vcond_intro (t := decide (a.Gone = b.Gone)) (fun h6 => ?_) (fun h7 => ?_)
      · replace hf := ifT h6 hf
        conv => whnf
        refine ⟨⟨rfl, Nat.le_of_ble_eq_true rfl⟩, ?_⟩
        conv => whnf
        refine vcT rfl ?_
        conv => whnf
        refine ⟨rfl, ⟨_, rfl, ?_⟩⟩
        conv => whnf
        refine vcT rfl ?_
        conv => whnf
        refine ⟨⟨rfl, Nat.le_of_ble_eq_true rfl⟩, ?_⟩
        conv => whnf
        refine vcT rfl ?_
        conv => whnf
        refine ⟨rfl, ⟨_, rfl, ?_⟩⟩
        conv => whnf
        refine vcT rfl ?_
        conv => whnf
        refine vcT rfl ?_
        conv => whnf
        refine vcond_intro (t := decide (a.Shade = b.Shade)) (fun h8 => ?_) (fun h9 => ?_)
        · replace hf := ifT h8 hf
          conv => whnf
          refine ⟨⟨rfl, Nat.le_of_ble_eq_true rfl⟩, ?_⟩
          conv => whnf
          refine vcT rfl ?_
          conv => whnf
          refine ⟨rfl, ⟨_, rfl, ?_⟩⟩
          conv => whnf
          refine vcT rfl ?_
          conv => whnf
          refine ⟨⟨rfl, Nat.le_of_ble_eq_true rfl⟩, ?_⟩
          conv => whnf
          refine vcT rfl ?_
          conv => whnf
          refine ⟨rfl, ⟨_, rfl, ?_⟩⟩
          conv => whnf
          refine vcT rfl ?_
          obtain ⟨x2, h10, hf⟩ := bnd hf
          conv => whnf
          refine (clerestoryref07_SameCols.pure a.Cols b.Cols x2 h10).call ?_
          conv => whnf
          refine vcT rfl ?_
          conv => whnf
          refine at_go ?_
          conv => whnf
          obtain rfl := Option.some.inj hf
          refine ret_c hB wf (fun _ => by rfl) ?_
          exact cv rfl rfl
        · replace hf := ifF h9 hf
          conv => whnf
          refine vcF rfl ?_
          conv => whnf
          refine vcF rfl ?_
          conv => whnf
          refine vcF rfl ?_
          conv => whnf
          refine vcF rfl ?_
          conv => whnf
          refine vcF rfl ?_
          conv => whnf
          refine at_go ?_
          conv => whnf
          obtain rfl := Option.some.inj hf
          refine ret_c hB wf (fun _ => by rfl) ?_
          exact cv rfl rfl
      · replace hf := ifF h7 hf
        conv => whnf
        refine vcF rfl ?_
        conv => whnf
        refine vcF rfl ?_
        conv => whnf
        refine vcF rfl ?_
        conv => whnf
        refine vcF rfl ?_
        conv => whnf
        refine vcF rfl ?_
        conv => whnf
        refine vcF rfl ?_
        conv => whnf
        refine vcF rfl ?_
        conv => whnf
        refine vcF rfl ?_
        conv => whnf
        refine vcF rfl ?_
        conv => whnf
        refine vcF rfl ?_
        conv => whnf
        refine vcF rfl ?_
        conv => whnf
        refine at_go ?_
        conv => whnf
        obtain rfl := Option.some.inj hf
        refine ret_c hB wf (fun _ => by rfl) ?_
        exact cv rfl rfl
    · replace hf := ifF h5 hf
      conv => whnf
      refine vcF rfl ?_
      conv => whnf
      refine vcF rfl ?_
      conv => whnf
      refine vcF rfl ?_
      conv => whnf
      refine vcF rfl ?_
      conv => whnf
      refine vcF rfl ?_
      conv => whnf
      refine vcF rfl ?_
      conv => whnf
      refine vcF rfl ?_
      conv => whnf
      refine vcF rfl ?_
      conv => whnf
      refine vcF rfl ?_
      conv => whnf
      refine vcF rfl ?_
      conv => whnf
      refine vcF rfl ?_
      conv => whnf
      refine vcF rfl ?_
      conv => whnf
      refine vcF rfl ?_
      conv => whnf
      refine vcF rfl ?_
      conv => whnf
      refine vcF rfl ?_
      conv => whnf
      refine vcF rfl ?_
      conv => whnf
      refine vcF rfl ?_
      conv => whnf
      refine at_go ?_
      conv => whnf
      obtain rfl := Option.some.inj hf
      refine ret_c hB wf (fun _ => by rfl) ?_
      exact cv rfl rfl
  · replace hf := ifF h2 hf
    conv => whnf
    refine vcF rfl ?_
    conv => whnf
    refine vcF rfl ?_
    conv => whnf
    refine vcF rfl ?_
    conv => whnf
    refine vcF rfl ?_
    conv => whnf
    refine vcF rfl ?_
    conv => whnf
    refine vcF rfl ?_
    conv => whnf
    refine vcF rfl ?_
    conv => whnf
    refine vcF rfl ?_
    conv => whnf
    refine vcF rfl ?_
    conv => whnf
    refine vcF rfl ?_
    conv => whnf
    refine vcF rfl ?_
    conv => whnf
    refine vcF rfl ?_
    conv => whnf
    refine vcF rfl ?_
    conv => whnf
    refine vcF rfl ?_
    conv => whnf
    refine vcF rfl ?_
    conv => whnf
    refine vcF rfl ?_
    conv => whnf
    refine vcF rfl ?_
    conv => whnf
    refine vcF rfl ?_
    conv => whnf
    refine vcF rfl ?_
    conv => whnf
    refine vcF rfl ?_
    conv => whnf
    refine vcF rfl ?_
    conv => whnf
    refine vcF rfl ?_
    conv => whnf
    refine vcF rfl ?_
    conv => whnf
    refine at_go ?_
    conv => whnf
    obtain rfl := Option.some.inj hf
    refine ret_c hB wf (fun _ => by rfl) ?_
    exact cv rfl rfl

noncomputable def clerestoryref08_SameRows.w0 (a : List api_Row) (b : List api_Row) : Nat → Int → Option (Bool)
  | 0, _ => none
  | k0 + 1, v1 =>
    if (decide (v1 < (a.length : Int))) = true then
      (at? a v1).bind fun x2 =>
      (at? b v1).bind fun x3 =>
      (clerestoryref07_Same.f x2 x3).bind fun x4 =>
      if (!x4) = true then
        some false
      else
      clerestoryref08_SameRows.w0 a b k0 (IntKind.i64.wrap (v1 + 1))
    else
    some true

noncomputable def clerestoryref08_SameRows.f (a : List api_Row) (b : List api_Row) : Option (Bool) :=
  if (decide ((a.length : Int) ≠ (b.length : Int))) = true then
    some false
  else
  clerestoryref08_SameRows.w0 a b K0 0

set_option maxHeartbeats 4000000 in
theorem clerestoryref08_SameRows.pure (a : List api_Row) (b : List api_Row) (res : Bool) (hf : clerestoryref08_SameRows.f a b = some res) : Pure prog F.clerestoryref08_SameRows [(.d (.sl 8 (a.map api_Row.d))), (.d (.sl 8 (b.map api_Row.d)))] (cB res) := by
  refine pure_fn clerestoryref08_SameRows.res (Nat.le_of_ble_eq_true rfl) (fun _ => rfl) (fun _ => rfl) fun B hp g hB wf => ?_
  rw [clerestoryref08_SameRows.f] at hf
  conv => whnf
  refine cut_go ?_
  conv => whnf
  refine at_go ?_
  conv => whnf
  refine cut_go ?_
  conv => whnf
  refine cut_go ?_
  conv => whnf
  refine veq_intro a.length (by simp) ?_
  conv => whnf
  refine veq_intro b.length (by simp) ?_
  conv => whnf
  refine at_go ?_
  conv => whnf
  refine vcond_intro (t := decide ((a.length : Int) ≠ (b.length : Int))) (fun h1 => ?_) (fun h2 => ?_)
  · replace hf := ifT h1 hf
    conv => whnf
    refine cut_go ?_
    conv => whnf
    refine at_sub (env' := [(4, (cB false))]) (st' := ⟨hp, 0, g⟩) (sk hB (fw0 wf (by rfl) (fun _ => by rfl)) (by rfl) (by rfl) ⟨cv rfl rfl, trivial⟩) ?_
    refine at_go ?_
    conv => whnf
    obtain rfl := Option.some.inj hf
    refine ret_c hB wf (fun _ => by rfl) ?_
    exact cv rfl rfl
  · replace hf := ifF h2 hf
    conv => whnf
    refine at_sub (env' := [(0, (.d (.sl 8 (a.map api_Row.d)))), (1, (.d (.sl 8 (b.map api_Row.d)))), (10, (cB (decide ((a.length : Int) ≠ (b.length : Int)))))]) (st' := ⟨hp, 0, g⟩) (sk hB (fw0 wf (by rfl) (fun _ => by rfl)) (by rfl) (by rfl) ⟨cv rfl rfl, cv rfl rfl, cv rfl rfl, trivial⟩) ?_
    refine at_go ?_
    conv => whnf
    refine cut_go ?_
    conv => whnf
    refine cut_go ?_
    conv => whnf
    refine at_go ?_
    conv => whnf
    refine loop_sub (env' := [(0, (.d (.sl 8 (a.map api_Row.d)))), (1, (.d (.sl 8 (b.map api_Row.d)))), (5, (cI 0))]) (st' := ⟨hp, 0, g⟩) (sk hB (fw0 wf (by rfl) (fun _ => by rfl)) (by rfl) (by rfl) ⟨cv rfl rfl, cv rfl rfl, cv rfl rfl, trivial⟩) ?_
    refine loop_f (α := Int) (γ := Unit) (fun (_ : Unit) v1 => [(0, (.d (.sl 8 (a.map api_Row.d)))), (1, (.d (.sl 8 (b.map api_Row.d)))), (5, (cI v1))]) (fun (_ : Unit) v1 => ⟨hp, 0, g⟩) (fun k s => clerestoryref08_SameRows.w0 a b k s) (fun _ => rfl) ?_ K0 0 () hf
    intro k0 v1 gg hf
    replace hf : clerestoryref08_SameRows.w0 a b (k0 + 1) v1 = some _ := hf
    rw [clerestoryref08_SameRows.w0] at hf
    try dsimp only
    conv => whnf
    refine cut_go ?_
    conv => whnf
    refine cut_go ?_
    conv => whnf
    refine veq_intro a.length (by simp) ?_
    conv => whnf
    refine at_go ?_
    conv => whnf
    refine vcond_intro (t := decide (v1 < (a.length : Int))) (fun h3 => ?_) (fun h4 => ?_)
    · replace hf := ifT h3 hf
      conv => whnf
      refine at_go ?_
      conv => whnf
      refine cut_go ?_
      conv => whnf
      refine cut_go ?_
      obtain ⟨x2, h5, hf⟩ := bnd hf
      conv => whnf
      refine ⟨⟨rfl, Nat.zero_lt_succ _⟩, at_nn h5, ⟨_, map_get (at_get h5), ?_⟩⟩
      obtain ⟨x3, h6, hf⟩ := bnd hf
      conv => whnf
      refine ⟨⟨rfl, Nat.zero_lt_succ _⟩, at_nn h6, ⟨_, map_get (at_get h6), ?_⟩⟩
      obtain ⟨x4, h7, hf⟩ := bnd hf
      conv => whnf
      refine (clerestoryref07_Same.pure x2 x3 x4 h7).call ?_
      conv => whnf
      refine at_sub (env' := [(0, (.d (.sl 8 (a.map api_Row.d)))), (1, (.d (.sl 8 (b.map api_Row.d)))), (5, (cI v1)), (26, (cB (!x4)))]) (st' := ⟨hp, 0, g⟩) (sk hB (fw0 wf (by rfl) (fun _ => by rfl)) (by rfl) (by rfl) ⟨cv rfl rfl, cv rfl rfl, cv rfl rfl, cv rfl rfl, trivial⟩) ?_
      refine at_go ?_
      conv => whnf
      refine vcond_intro (t := !x4) (fun h8 => ?_) (fun h9 => ?_)
      · replace hf := ifT h8 hf
        conv => whnf
        refine cut_go ?_
        conv => whnf
        refine at_go ?_
        conv => whnf
        obtain rfl := Option.some.inj hf
        refine ret_c hB wf (fun _ => by rfl) ?_
        exact cv rfl rfl
      · replace hf := ifF h9 hf
        conv => whnf
        refine at_go ?_
        conv => whnf
        refine veq_intro (IntKind.i64.wrap (v1 + 1)) rfl ?_
        conv => whnf
        exact ⟨IntKind.i64.wrap (v1 + 1), hf, (), sk hB (fw0 wf (by rfl) (fun _ => by rfl)) (by rfl) (by rfl) ⟨cv rfl rfl, cv rfl rfl, cv rfl rfl, trivial⟩⟩
    · replace hf := ifF h4 hf
      conv => whnf
      refine at_go ?_
      conv => whnf
      refine cut_go ?_
      conv => whnf
      refine at_sub (env' := [(4, (cB true))]) (st' := ⟨hp, 0, g⟩) (sk hB (fw0 wf (by rfl) (fun _ => by rfl)) (by rfl) (by rfl) ⟨cv rfl rfl, trivial⟩) ?_
      refine at_go ?_
      conv => whnf
      obtain rfl := Option.some.inj hf
      refine ret_c hB wf (fun _ => by rfl) ?_
      exact cv rfl rfl

noncomputable def clerestoryref08_Same.f (a : api_Part) (b : api_Part) : Option (Bool) :=
  if (seq a.Key b.Key) = true then
    if (decide (a.Gone = b.Gone)) = true then
      (clerestoryref08_SameRows.f a.Rows b.Rows).bind fun x1 =>
      some x1
    else
    some false
  else
  some false

set_option maxHeartbeats 4000000 in
theorem clerestoryref08_Same.pure (a : api_Part) (b : api_Part) (res : Bool) (hf : clerestoryref08_Same.f a b = some res) : Pure prog F.clerestoryref08_Same [(agd (api_Part.d a)), (agd (api_Part.d b))] (cB res) := by
  refine pure_fn clerestoryref08_Same.res (Nat.le_of_ble_eq_true rfl) (fun _ => rfl) (fun _ => rfl) fun B hp g hB wf => ?_
  rw [clerestoryref08_Same.f] at hf
  conv => whnf
  refine cut_go ?_
  conv => whnf
  refine at_go ?_
  conv => whnf
  refine cut_go ?_
  conv => whnf
  refine ⟨⟨rfl, Nat.le_of_ble_eq_true rfl⟩, ?_⟩
  conv => whnf
  refine ⟨rfl, ⟨_, rfl, ?_⟩⟩
  conv => whnf
  refine ⟨⟨rfl, Nat.le_of_ble_eq_true rfl⟩, ?_⟩
  conv => whnf
  refine ⟨rfl, ⟨_, rfl, ?_⟩⟩
  conv => whnf
  refine vcond_intro (t := seq a.Key b.Key) (fun h1 => ?_) (fun h2 => ?_)
  · replace hf := ifT h1 hf
    conv => whnf
    refine ⟨⟨rfl, Nat.le_of_ble_eq_true rfl⟩, ?_⟩
    conv => whnf
    refine vcT rfl ?_
    conv => whnf
    refine ⟨rfl, ⟨_, rfl, ?_⟩⟩
    conv => whnf
    refine vcT rfl ?_
    conv => whnf
    refine ⟨⟨rfl, Nat.le_of_ble_eq_true rfl⟩, ?_⟩
    conv => whnf
    refine vcT rfl ?_
    conv => whnf
    refine ⟨rfl, ⟨_, rfl, ?_⟩⟩
    conv => whnf
    refine vcT rfl ?_
    conv => whnf
    refine vcT rfl ?_
    conv => whnf
    refine vcond_intro (t := decide (a.Gone = b.Gone)) (fun h3 => ?_) (fun h4 => ?_)
    · replace hf := ifT h3 hf
      conv => whnf
      refine ⟨⟨rfl, Nat.le_of_ble_eq_true rfl⟩, ?_⟩
      conv => whnf
      refine vcT rfl ?_
      conv => whnf
      refine ⟨rfl, ⟨_, rfl, ?_⟩⟩
      conv => whnf
      refine vcT rfl ?_
      conv => whnf
      refine ⟨⟨rfl, Nat.le_of_ble_eq_true rfl⟩, ?_⟩
      conv => whnf
      refine vcT rfl ?_
      conv => whnf
      refine ⟨rfl, ⟨_, rfl, ?_⟩⟩
      conv => whnf
      refine vcT rfl ?_
      obtain ⟨x1, h5, hf⟩ := bnd hf
      conv => whnf
      refine (clerestoryref08_SameRows.pure a.Rows b.Rows x1 h5).call ?_
      conv => whnf
      refine vcT rfl ?_
      conv => whnf
      refine at_go ?_
      conv => whnf
      obtain rfl := Option.some.inj hf
      refine ret_c hB wf (fun _ => by rfl) ?_
      exact cv rfl rfl
    · replace hf := ifF h4 hf
      conv => whnf
      refine vcF rfl ?_
      conv => whnf
      refine vcF rfl ?_
      conv => whnf
      refine vcF rfl ?_
      conv => whnf
      refine vcF rfl ?_
      conv => whnf
      refine vcF rfl ?_
      conv => whnf
      refine at_go ?_
      conv => whnf
      obtain rfl := Option.some.inj hf
      refine ret_c hB wf (fun _ => by rfl) ?_
      exact cv rfl rfl
  · replace hf := ifF h2 hf
    conv => whnf
    refine vcF rfl ?_
    conv => whnf
    refine vcF rfl ?_
    conv => whnf
    refine vcF rfl ?_
    conv => whnf
    refine vcF rfl ?_
    conv => whnf
    refine vcF rfl ?_
    conv => whnf
    refine vcF rfl ?_
    conv => whnf
    refine vcF rfl ?_
    conv => whnf
    refine vcF rfl ?_
    conv => whnf
    refine vcF rfl ?_
    conv => whnf
    refine vcF rfl ?_
    conv => whnf
    refine vcF rfl ?_
    conv => whnf
    refine at_go ?_
    conv => whnf
    obtain rfl := Option.some.inj hf
    refine ret_c hB wf (fun _ => by rfl) ?_
    exact cv rfl rfl

noncomputable def clerestorylaw00_SameParts.w0 (a : List api_Part) (b : List api_Part) : Nat → Int → Option (Bool)
  | 0, _ => none
  | k0 + 1, v1 =>
    if (decide (v1 < (a.length : Int))) = true then
      (at? a v1).bind fun x2 =>
      (at? b v1).bind fun x3 =>
      (clerestoryref08_Same.f x2 x3).bind fun x4 =>
      if (!x4) = true then
        some false
      else
      clerestorylaw00_SameParts.w0 a b k0 (IntKind.i64.wrap (v1 + 1))
    else
    some true

noncomputable def clerestorylaw00_SameParts.f (a : List api_Part) (b : List api_Part) : Option (Bool) :=
  if (decide ((a.length : Int) ≠ (b.length : Int))) = true then
    some false
  else
  clerestorylaw00_SameParts.w0 a b K0 0

set_option maxHeartbeats 4000000 in
theorem clerestorylaw00_SameParts.pure (a : List api_Part) (b : List api_Part) (res : Bool) (hf : clerestorylaw00_SameParts.f a b = some res) : Pure prog F.clerestorylaw00_SameParts [(.d (.sl 3 (a.map api_Part.d))), (.d (.sl 3 (b.map api_Part.d)))] (cB res) := by
  refine pure_fn clerestorylaw00_SameParts.res (Nat.le_of_ble_eq_true rfl) (fun _ => rfl) (fun _ => rfl) fun B hp g hB wf => ?_
  rw [clerestorylaw00_SameParts.f] at hf
  conv => whnf
  refine cut_go ?_
  conv => whnf
  refine at_go ?_
  conv => whnf
  refine cut_go ?_
  conv => whnf
  refine cut_go ?_
  conv => whnf
  refine veq_intro a.length (by simp) ?_
  conv => whnf
  refine veq_intro b.length (by simp) ?_
  conv => whnf
  refine at_go ?_
  conv => whnf
  refine vcond_intro (t := decide ((a.length : Int) ≠ (b.length : Int))) (fun h1 => ?_) (fun h2 => ?_)
  · replace hf := ifT h1 hf
    conv => whnf
    refine cut_go ?_
    conv => whnf
    refine at_sub (env' := [(4, (cB false))]) (st' := ⟨hp, 0, g⟩) (sk hB (fw0 wf (by rfl) (fun _ => by rfl)) (by rfl) (by rfl) ⟨cv rfl rfl, trivial⟩) ?_
    refine at_go ?_
    conv => whnf
    obtain rfl := Option.some.inj hf
    refine ret_c hB wf (fun _ => by rfl) ?_
    exact cv rfl rfl
  · replace hf := ifF h2 hf
    conv => whnf
    refine at_sub (env' := [(0, (.d (.sl 3 (a.map api_Part.d)))), (1, (.d (.sl 3 (b.map api_Part.d)))), (10, (cB (decide ((a.length : Int) ≠ (b.length : Int)))))]) (st' := ⟨hp, 0, g⟩) (sk hB (fw0 wf (by rfl) (fun _ => by rfl)) (by rfl) (by rfl) ⟨cv rfl rfl, cv rfl rfl, cv rfl rfl, trivial⟩) ?_
    refine at_go ?_
    conv => whnf
    refine cut_go ?_
    conv => whnf
    refine cut_go ?_
    conv => whnf
    refine at_go ?_
    conv => whnf
    refine loop_sub (env' := [(0, (.d (.sl 3 (a.map api_Part.d)))), (1, (.d (.sl 3 (b.map api_Part.d)))), (5, (cI 0))]) (st' := ⟨hp, 0, g⟩) (sk hB (fw0 wf (by rfl) (fun _ => by rfl)) (by rfl) (by rfl) ⟨cv rfl rfl, cv rfl rfl, cv rfl rfl, trivial⟩) ?_
    refine loop_f (α := Int) (γ := Unit) (fun (_ : Unit) v1 => [(0, (.d (.sl 3 (a.map api_Part.d)))), (1, (.d (.sl 3 (b.map api_Part.d)))), (5, (cI v1))]) (fun (_ : Unit) v1 => ⟨hp, 0, g⟩) (fun k s => clerestorylaw00_SameParts.w0 a b k s) (fun _ => rfl) ?_ K0 0 () hf
    intro k0 v1 gg hf
    replace hf : clerestorylaw00_SameParts.w0 a b (k0 + 1) v1 = some _ := hf
    rw [clerestorylaw00_SameParts.w0] at hf
    try dsimp only
    conv => whnf
    refine cut_go ?_
    conv => whnf
    refine cut_go ?_
    conv => whnf
    refine veq_intro a.length (by simp) ?_
    conv => whnf
    refine at_go ?_
    conv => whnf
    refine vcond_intro (t := decide (v1 < (a.length : Int))) (fun h3 => ?_) (fun h4 => ?_)
    · replace hf := ifT h3 hf
      conv => whnf
      refine at_go ?_
      conv => whnf
      refine cut_go ?_
      conv => whnf
      refine cut_go ?_
      obtain ⟨x2, h5, hf⟩ := bnd hf
      conv => whnf
      refine ⟨⟨rfl, Nat.zero_lt_succ _⟩, at_nn h5, ⟨_, map_get (at_get h5), ?_⟩⟩
      obtain ⟨x3, h6, hf⟩ := bnd hf
      conv => whnf
      refine ⟨⟨rfl, Nat.zero_lt_succ _⟩, at_nn h6, ⟨_, map_get (at_get h6), ?_⟩⟩
      obtain ⟨x4, h7, hf⟩ := bnd hf
      conv => whnf
      refine (clerestoryref08_Same.pure x2 x3 x4 h7).call ?_
      conv => whnf
      refine at_sub (env' := [(0, (.d (.sl 3 (a.map api_Part.d)))), (1, (.d (.sl 3 (b.map api_Part.d)))), (5, (cI v1)), (26, (cB (!x4)))]) (st' := ⟨hp, 0, g⟩) (sk hB (fw0 wf (by rfl) (fun _ => by rfl)) (by rfl) (by rfl) ⟨cv rfl rfl, cv rfl rfl, cv rfl rfl, cv rfl rfl, trivial⟩) ?_
      refine at_go ?_
      conv => whnf
      refine vcond_intro (t := !x4) (fun h8 => ?_) (fun h9 => ?_)
      · replace hf := ifT h8 hf
        conv => whnf
        refine cut_go ?_
        conv => whnf
        refine at_go ?_
        conv => whnf
        obtain rfl := Option.some.inj hf
        refine ret_c hB wf (fun _ => by rfl) ?_
        exact cv rfl rfl
      · replace hf := ifF h9 hf
        conv => whnf
        refine at_go ?_
        conv => whnf
        refine veq_intro (IntKind.i64.wrap (v1 + 1)) rfl ?_
        conv => whnf
        exact ⟨IntKind.i64.wrap (v1 + 1), hf, (), sk hB (fw0 wf (by rfl) (fun _ => by rfl)) (by rfl) (by rfl) ⟨cv rfl rfl, cv rfl rfl, cv rfl rfl, trivial⟩⟩
    · replace hf := ifF h4 hf
      conv => whnf
      refine at_go ?_
      conv => whnf
      refine cut_go ?_
      conv => whnf
      refine at_sub (env' := [(4, (cB true))]) (st' := ⟨hp, 0, g⟩) (sk hB (fw0 wf (by rfl) (fun _ => by rfl)) (by rfl) (by rfl) ⟨cv rfl rfl, trivial⟩) ?_
      refine at_go ?_
      conv => whnf
      obtain rfl := Option.some.inj hf
      refine ret_c hB wf (fun _ => by rfl) ?_
      exact cv rfl rfl

noncomputable def project_Full.w0 (t : api_Table) (v : api_View) (p : api_Part) : Nat → List api_Part → Int → Option (List api_Part)
  | 0, _, _ => none
  | k0 + 1, v1, v3 =>
    if (decide (v3 < (p.Rows.length : Int))) = true then
      (at? p.Rows v3).bind fun x4 =>
      (project_Mirror.f t v p x4).bind fun x5 =>
      if (x5.2) = true then
        if (v1 ++ [x5.1]).length ≤ 4294967296 then
        project_Full.w0 t v p k0 (v1 ++ [x5.1]) (IntKind.i64.wrap (v3 + 1))
        else none
      else
      project_Full.w0 t v p k0 v1 (IntKind.i64.wrap (v3 + 1))
    else
    some v1

noncomputable def project_Full.f (t : api_Table) (v : api_View) (p : api_Part) : Option (List api_Part) :=
  project_Full.w0 t v p K0 ([] : List api_Part) 0

set_option maxHeartbeats 4000000 in
theorem project_Full.pure (t : api_Table) (v : api_View) (p : api_Part) (res : List api_Part) (hf : project_Full.f t v p = some res) : Pure prog F.project_Full [(agd (api_Table.d t)), (agd (api_View.d v)), (agd (api_Part.d p))] (.d (.sl 3 (res.map api_Part.d))) := by
  refine pure_fn project_Full.res (Nat.le_of_ble_eq_true rfl) (fun _ => rfl) (fun _ => rfl) fun B hp g hB wf => ?_
  rw [project_Full.f] at hf
  conv => whnf
  refine cut_go ?_
  conv => whnf
  refine at_go ?_
  conv => whnf
  refine cut_go ?_
  conv => whnf
  refine at_go ?_
  conv => whnf
  refine cut_go ?_
  conv => whnf
  refine cut_go ?_
  conv => whnf
  refine ⟨⟨rfl, Nat.le_of_ble_eq_true rfl⟩, ?_⟩
  conv => whnf
  refine ⟨rfl, ⟨_, rfl, ?_⟩⟩
  conv => whnf
  refine veq_intro p.Rows.length (by simp) ?_
  conv => whnf
  refine at_sub (env' := [(3, (.ptr 0 0 0 0)), (4, (.ptr 1 0 0 0)), (5, (.ptr 2 0 0 0)), (7, nilS), (13, (.d (.sl 8 (p.Rows.map api_Row.d)))), (14, (cI (p.Rows.length : Int))), (15, (cI 0))]) (st' := ⟨(upd (upd (upd hp 0 (.row 0 7 T.api_Table [[(cS t.Name), (cI t.ID), (cS t.Part.Name), (cI t.Part.Type_), (cS t.Clus.Name), (cI t.Clus.Type_), (.d (.sl 2 (t.Cols.map api_Column.d)))]])) 1 (.row 0 5 T.api_View [[(cS v.Name), (cI v.ID), (cS v.Table), (cS v.On), (.d (.sl 1 (v.Cols.map strD)))]])) 2 (.row 0 3 T.api_Part [[(cS p.Key), (cI p.Gone), (.d (.sl 8 (p.Rows.map api_Row.d)))]])), 3, g⟩) (sk hB (fwE (fwE (fwE (fw0 wf (by rfl) (fun _ => by rfl)) rfl rfl rfl) rfl rfl rfl) rfl rfl rfl) (by rfl) (by rfl) ⟨cv rfl rfl, cv rfl rfl, cv rfl rfl, cv rfl rfl, cv rfl rfl, cv rfl rfl, cv rfl rfl, trivial⟩) ?_
  refine at_go ?_
  conv => whnf
  refine loop_sub (sph 0 3 T.api_Part) ?_
  refine loop_sub (env' := [(3, (.ptr 0 0 0 0)), (4, (.ptr 1 0 0 0)), (5, (.ptr 2 0 0 0)), (7, (.row 3 0 0 ([] : List api_Part).length)), (13, (.d (.sl 8 (p.Rows.map api_Row.d)))), (14, (cI (p.Rows.length : Int))), (15, (cI 0))]) (st' := ⟨(upd (upd (upd (upd hp 0 (.row 0 7 T.api_Table [[(cS t.Name), (cI t.ID), (cS t.Part.Name), (cI t.Part.Type_), (cS t.Clus.Name), (cI t.Clus.Type_), (.d (.sl 2 (t.Cols.map api_Column.d)))]])) 1 (.row 0 5 T.api_View [[(cS v.Name), (cI v.ID), (cS v.Table), (cS v.On), (.d (.sl 1 (v.Cols.map strD)))]])) 2 (.row 0 3 T.api_Part [[(cS p.Key), (cI p.Gone), (.d (.sl 8 (p.Rows.map api_Row.d)))]])) 3 (.row 0 3 T.api_Part (dataRow api_Part.d ([] : List api_Part)))), 4, g⟩) (sk hB (fwD (fwE (fwE (fwE (fw0 wf (by rfl) (fun _ => by rfl)) rfl rfl rfl) rfl rfl rfl) rfl rfl rfl) rfl rfl rfl (fun _ => rfl)) (by rfl) (by rfl) ⟨cv rfl rfl, cv rfl rfl, cv rfl rfl, .ph (of_decide_eq_true rfl) rfl (Nat.zero_le _), cv rfl rfl, cv rfl rfl, cv rfl rfl, trivial⟩) ?_
  refine loop_f (α := (List api_Part) × Int) (γ := Nat) (fun v2 (v1, v3) => [(3, (.ptr 0 0 0 0)), (4, (.ptr 1 0 0 0)), (5, (.ptr 2 0 0 0)), (7, (.row 3 v2 0 v1.length)), (13, (.d (.sl 8 (p.Rows.map api_Row.d)))), (14, (cI (p.Rows.length : Int))), (15, (cI v3))]) (fun v2 (v1, v3) => ⟨(upd (upd (upd (upd hp 0 (.row 0 7 T.api_Table [[(cS t.Name), (cI t.ID), (cS t.Part.Name), (cI t.Part.Type_), (cS t.Clus.Name), (cI t.Clus.Type_), (.d (.sl 2 (t.Cols.map api_Column.d)))]])) 1 (.row 0 5 T.api_View [[(cS v.Name), (cI v.ID), (cS v.Table), (cS v.On), (.d (.sl 1 (v.Cols.map strD)))]])) 2 (.row 0 3 T.api_Part [[(cS p.Key), (cI p.Gone), (.d (.sl 8 (p.Rows.map api_Row.d)))]])) 3 (.row v2 3 T.api_Part (dataRow api_Part.d v1))), 4, g⟩) (fun k s => project_Full.w0 t v p k s.1 s.2) (fun _ => rfl) ?_ K0 (([] : List api_Part), 0) 0 hf
  intro k0 y v2 hf
  obtain ⟨v1, v3⟩ := y
  replace hf : project_Full.w0 t v p (k0 + 1) v1 v3 = some _ := hf
  rw [project_Full.w0] at hf
  try dsimp only
  conv => whnf
  refine cut_go ?_
  conv => whnf
  refine at_go ?_
  conv => whnf
  refine cut_go ?_
  conv => whnf
  refine vcond_intro (t := decide (v3 < (p.Rows.length : Int))) (fun h1 => ?_) (fun h2 => ?_)
  · replace hf := ifT h1 hf
    conv => whnf
    refine at_go ?_
    conv => whnf
    refine cut_go ?_
    conv => whnf
    refine cut_go ?_
    obtain ⟨x4, h3, hf⟩ := bnd hf
    conv => whnf
    refine ⟨⟨rfl, Nat.zero_lt_succ _⟩, at_nn h3, ⟨_, map_get (at_get h3), ?_⟩⟩
    conv => whnf
    refine ⟨⟨rfl, rfl⟩, ⟨_, rfl, Nat.le_of_ble_eq_true rfl, veq_intro [[(cS x4.Key), (cS x4.Live.Val), (cB x4.Live.Dead), (cI x4.Live.At), (cI x4.Live.End), (cI x4.Gone), (cI x4.Shade), (.d (.sl 5 (x4.Cols.map api_Col.d)))]] rfl ?_⟩⟩
    conv => whnf
    refine at_sub (env' := [(3, (.ptr 0 0 0 0)), (4, (.ptr 1 0 0 0)), (5, (.ptr 2 0 0 0)), (7, (.row 3 v2 0 v1.length)), (9, (.ptr 4 0 0 0)), (13, (.d (.sl 8 (p.Rows.map api_Row.d)))), (14, (cI (p.Rows.length : Int))), (15, (cI v3))]) (st' := ⟨(upd (upd (upd (upd (upd hp 0 (.row 0 7 T.api_Table [[(cS t.Name), (cI t.ID), (cS t.Part.Name), (cI t.Part.Type_), (cS t.Clus.Name), (cI t.Clus.Type_), (.d (.sl 2 (t.Cols.map api_Column.d)))]])) 1 (.row 0 5 T.api_View [[(cS v.Name), (cI v.ID), (cS v.Table), (cS v.On), (.d (.sl 1 (v.Cols.map strD)))]])) 2 (.row 0 3 T.api_Part [[(cS p.Key), (cI p.Gone), (.d (.sl 8 (p.Rows.map api_Row.d)))]])) 3 (.row v2 3 T.api_Part (dataRow api_Part.d v1))) 4 (.row 0 8 T.api_Row [[(cS x4.Key), (cS x4.Live.Val), (cB x4.Live.Dead), (cI x4.Live.At), (cI x4.Live.End), (cI x4.Gone), (cI x4.Shade), (.d (.sl 5 (x4.Cols.map api_Col.d)))]])), 5, g⟩) (sk hB (fwE (fwD (fwE (fwE (fwE (fw0 wf (by rfl) (fun _ => by rfl)) rfl rfl rfl) rfl rfl rfl) rfl rfl rfl) rfl rfl rfl (fun _ => rfl)) rfl rfl rfl) (by rfl) (by rfl) ⟨cv rfl rfl, cv rfl rfl, cv rfl rfl, cv rfl rfl, cv rfl rfl, cv rfl rfl, cv rfl rfl, cv rfl rfl, trivial⟩) ?_
    refine at_go ?_
    conv => whnf
    refine cut_go ?_
    conv => whnf
    refine ⟨rfl, ⟨_, rfl, ?_⟩⟩
    conv => whnf
    refine ⟨rfl, ⟨_, rfl, ?_⟩⟩
    conv => whnf
    refine ⟨rfl, ⟨_, rfl, ?_⟩⟩
    conv => whnf
    refine ⟨rfl, ⟨_, rfl, ?_⟩⟩
    obtain ⟨x5, h4, hf⟩ := bnd hf
    conv => whnf
    refine (project_Mirror.pure t v p x4 x5 h4).call ?_
    conv => whnf
    refine ⟨⟨rfl, rfl⟩, ⟨_, rfl, Nat.le_of_ble_eq_true rfl, veq_intro [[(cS x5.1.Key), (cI x5.1.Gone), (.d (.sl 8 (x5.1.Rows.map api_Row.d)))]] rfl ?_⟩⟩
    conv => whnf
    refine at_go ?_
    conv => whnf
    refine cut_go ?_
    conv => whnf
    refine at_go ?_
    conv => whnf
    refine vcond_intro (t := x5.2) (fun h5 => ?_) (fun h6 => ?_)
    · replace hf := ifT h5 hf
      conv => whnf
      refine ⟨rfl, ⟨_, rfl, ?_⟩⟩
      conv => whnf
      refine veq_intro (dataRow api_Part.d [x5.1]) rfl ?_
      conv => whnf
      refine ⟨rfl, ?_⟩
      obtain ⟨h7, hf⟩ := grd hf
      conv => whnf
      refine veq_intro (dataRow api_Part.d [x5.1]) rfl ⟨row_wid (enc := api_Part.d) (fun _ => rfl) _, ?_⟩
      conv => whnf
      refine ⟨⟨rfl, rfl, rfl⟩, row_len _ _, by simpa using h7, veq_intro (dataRow api_Part.d (v1 ++ [x5.1])) (row_app _ _ _) (veq_intro (v1 ++ [x5.1]).length (row_appl _ _ _) ?_)⟩
      conv => whnf
      refine at_sub (env' := [(3, (.ptr 0 0 0 0)), (4, (.ptr 1 0 0 0)), (5, (.ptr 2 0 0 0)), (7, (.row 3 (v2 + 1) 0 (v1 ++ [x5.1]).length)), (13, (.d (.sl 8 (p.Rows.map api_Row.d)))), (14, (cI (p.Rows.length : Int))), (15, (cI v3))]) (st' := ⟨(upd (upd (upd (upd hp 0 (.row 0 7 T.api_Table [[(cS t.Name), (cI t.ID), (cS t.Part.Name), (cI t.Part.Type_), (cS t.Clus.Name), (cI t.Clus.Type_), (.d (.sl 2 (t.Cols.map api_Column.d)))]])) 1 (.row 0 5 T.api_View [[(cS v.Name), (cI v.ID), (cS v.Table), (cS v.On), (.d (.sl 1 (v.Cols.map strD)))]])) 2 (.row 0 3 T.api_Part [[(cS p.Key), (cI p.Gone), (.d (.sl 8 (p.Rows.map api_Row.d)))]])) 3 (.row (v2 + 1) 3 T.api_Part (dataRow api_Part.d (v1 ++ [x5.1])))), 4, g⟩) (sk hB (fwD (fwE (fwE (fwE (fw0 wf (by rfl) (fun _ => by rfl)) rfl rfl rfl) rfl rfl rfl) rfl rfl rfl) rfl rfl rfl (fun _ => rfl)) (by rfl) (by rfl) ⟨cv rfl rfl, cv rfl rfl, cv rfl rfl, cv rfl rfl, cv rfl rfl, cv rfl rfl, cv rfl rfl, trivial⟩) ?_
      refine at_go ?_
      conv => whnf
      refine veq_intro (IntKind.i64.wrap (v3 + 1)) rfl ?_
      conv => whnf
      exact ⟨(v1 ++ [x5.1], IntKind.i64.wrap (v3 + 1)), hf, (v2 + 1), sk hB (fwD (fwE (fwE (fwE (fw0 wf (by rfl) (fun _ => by rfl)) rfl rfl rfl) rfl rfl rfl) rfl rfl rfl) rfl rfl rfl (fun _ => rfl)) (by rfl) (by rfl) ⟨cv rfl rfl, cv rfl rfl, cv rfl rfl, cv rfl rfl, cv rfl rfl, cv rfl rfl, cv rfl rfl, trivial⟩⟩
    · replace hf := ifF h6 hf
      conv => whnf
      refine at_sub (env' := [(3, (.ptr 0 0 0 0)), (4, (.ptr 1 0 0 0)), (5, (.ptr 2 0 0 0)), (7, (.row 3 v2 0 v1.length)), (10, (.ptr 5 0 0 0)), (13, (.d (.sl 8 (p.Rows.map api_Row.d)))), (14, (cI (p.Rows.length : Int))), (15, (cI v3)), (27, (cB x5.2))]) (st' := ⟨(upd (upd (upd (upd (upd hp 0 (.row 0 7 T.api_Table [[(cS t.Name), (cI t.ID), (cS t.Part.Name), (cI t.Part.Type_), (cS t.Clus.Name), (cI t.Clus.Type_), (.d (.sl 2 (t.Cols.map api_Column.d)))]])) 1 (.row 0 5 T.api_View [[(cS v.Name), (cI v.ID), (cS v.Table), (cS v.On), (.d (.sl 1 (v.Cols.map strD)))]])) 2 (.row 0 3 T.api_Part [[(cS p.Key), (cI p.Gone), (.d (.sl 8 (p.Rows.map api_Row.d)))]])) 3 (.row v2 3 T.api_Part (dataRow api_Part.d v1))) 5 (.row 0 3 T.api_Part [[(cS x5.1.Key), (cI x5.1.Gone), (.d (.sl 8 (x5.1.Rows.map api_Row.d)))]])), 6, g⟩) (sk hB (fwE (fwD (fwE (fwE (fwE (fw0 wf (by rfl) (fun _ => by rfl)) rfl rfl rfl) rfl rfl rfl) rfl rfl rfl) rfl rfl rfl (fun _ => rfl)) rfl rfl rfl) (by rfl) (by rfl) ⟨cv rfl rfl, cv rfl rfl, cv rfl rfl, cv rfl rfl, cv rfl rfl, cv rfl rfl, cv rfl rfl, cv rfl rfl, cv rfl rfl, trivial⟩) ?_
      refine at_go ?_
      conv => whnf
      refine veq_intro (IntKind.i64.wrap (v3 + 1)) rfl ?_
      conv => whnf
      exact ⟨(v1, IntKind.i64.wrap (v3 + 1)), hf, v2, sk hB (fwD (fwE (fwE (fwE (fw0 wf (by rfl) (fun _ => by rfl)) rfl rfl rfl) rfl rfl rfl) rfl rfl rfl) rfl rfl rfl (fun _ => rfl)) (by rfl) (by rfl) ⟨cv rfl rfl, cv rfl rfl, cv rfl rfl, cv rfl rfl, cv rfl rfl, cv rfl rfl, cv rfl rfl, trivial⟩⟩
  · replace hf := ifF h2 hf
    conv => whnf
    refine at_go ?_
    conv => whnf
    refine cut_go ?_
    conv => whnf
    refine at_sub (env' := [(6, (.row 3 v2 0 v1.length))]) (st' := ⟨(upd hp 3 (.row v2 3 T.api_Part (dataRow api_Part.d v1))), 4, g⟩) (sk hB (fwD (fw0 wf (by rfl) (fun _ => by rfl)) rfl rfl rfl (fun _ => rfl)) (by rfl) (by rfl) ⟨cv rfl rfl, trivial⟩) ?_
    refine at_go ?_
    conv => whnf
    obtain rfl := Option.some.inj hf
    refine ret_c hB wf (fun _ => by rfl) ?_
    exact cvz (enc := api_Part.d) (l := v1) rfl (wfn wf (by rfl)) rfl rfl

noncomputable def clerestoryref18_Full.w0 (v : api_View) (p : api_Part) : Nat → List api_Part → Int → Option (List api_Part)
  | 0, _, _ => none
  | k0 + 1, v1, v3 =>
    if (decide (v3 < (p.Rows.length : Int))) = true then
      (at? p.Rows v3).bind fun x4 =>
      (clerestoryref18_Mirror.f v p x4).bind fun x5 =>
      if (x5.2) = true then
        if (v1 ++ [x5.1]).length ≤ 4294967296 then
        clerestoryref18_Full.w0 v p k0 (v1 ++ [x5.1]) (IntKind.i64.wrap (v3 + 1))
        else none
      else
      clerestoryref18_Full.w0 v p k0 v1 (IntKind.i64.wrap (v3 + 1))
    else
    some v1

noncomputable def clerestoryref18_Full.f (v : api_View) (p : api_Part) : Option (List api_Part) :=
  clerestoryref18_Full.w0 v p K0 ([] : List api_Part) 0

set_option maxHeartbeats 4000000 in
theorem clerestoryref18_Full.pure (v : api_View) (p : api_Part) (res : List api_Part) (hf : clerestoryref18_Full.f v p = some res) : Pure prog F.clerestoryref18_Full [(agd (api_View.d v)), (agd (api_Part.d p))] (.d (.sl 3 (res.map api_Part.d))) := by
  refine pure_fn clerestoryref18_Full.res (Nat.le_of_ble_eq_true rfl) (fun _ => rfl) (fun _ => rfl) fun B hp g hB wf => ?_
  rw [clerestoryref18_Full.f] at hf
  conv => whnf
  refine cut_go ?_
  conv => whnf
  refine at_go ?_
  conv => whnf
  refine cut_go ?_
  conv => whnf
  refine at_go ?_
  conv => whnf
  refine cut_go ?_
  conv => whnf
  refine cut_go ?_
  conv => whnf
  refine at_sub (env' := [(2, (.ptr 0 0 0 0)), (3, (.ptr 1 0 0 0)), (5, nilS), (6, (cI 0))]) (st' := ⟨(upd (upd hp 0 (.row 0 5 T.api_View [[(cS v.Name), (cI v.ID), (cS v.Table), (cS v.On), (.d (.sl 1 (v.Cols.map strD)))]])) 1 (.row 0 3 T.api_Part [[(cS p.Key), (cI p.Gone), (.d (.sl 8 (p.Rows.map api_Row.d)))]])), 2, g⟩) (sk hB (fwE (fwE (fw0 wf (by rfl) (fun _ => by rfl)) rfl rfl rfl) rfl rfl rfl) (by rfl) (by rfl) ⟨cv rfl rfl, cv rfl rfl, cv rfl rfl, cv rfl rfl, trivial⟩) ?_
  refine at_go ?_
  conv => whnf
  refine loop_sub (sph 0 3 T.api_Part) ?_
  refine loop_sub (env' := [(2, (.ptr 0 0 0 0)), (3, (.ptr 1 0 0 0)), (5, (.row 2 0 0 ([] : List api_Part).length)), (6, (cI 0))]) (st' := ⟨(upd (upd (upd hp 0 (.row 0 5 T.api_View [[(cS v.Name), (cI v.ID), (cS v.Table), (cS v.On), (.d (.sl 1 (v.Cols.map strD)))]])) 1 (.row 0 3 T.api_Part [[(cS p.Key), (cI p.Gone), (.d (.sl 8 (p.Rows.map api_Row.d)))]])) 2 (.row 0 3 T.api_Part (dataRow api_Part.d ([] : List api_Part)))), 3, g⟩) (sk hB (fwD (fwE (fwE (fw0 wf (by rfl) (fun _ => by rfl)) rfl rfl rfl) rfl rfl rfl) rfl rfl rfl (fun _ => rfl)) (by rfl) (by rfl) ⟨cv rfl rfl, cv rfl rfl, .ph (of_decide_eq_true rfl) rfl (Nat.zero_le _), cv rfl rfl, trivial⟩) ?_
  refine loop_f (α := (List api_Part) × Int) (γ := Nat) (fun v2 (v1, v3) => [(2, (.ptr 0 0 0 0)), (3, (.ptr 1 0 0 0)), (5, (.row 2 v2 0 v1.length)), (6, (cI v3))]) (fun v2 (v1, v3) => ⟨(upd (upd (upd hp 0 (.row 0 5 T.api_View [[(cS v.Name), (cI v.ID), (cS v.Table), (cS v.On), (.d (.sl 1 (v.Cols.map strD)))]])) 1 (.row 0 3 T.api_Part [[(cS p.Key), (cI p.Gone), (.d (.sl 8 (p.Rows.map api_Row.d)))]])) 2 (.row v2 3 T.api_Part (dataRow api_Part.d v1))), 3, g⟩) (fun k s => clerestoryref18_Full.w0 v p k s.1 s.2) (fun _ => rfl) ?_ K0 (([] : List api_Part), 0) 0 hf
  intro k0 y v2 hf
  obtain ⟨v1, v3⟩ := y
  replace hf : clerestoryref18_Full.w0 v p (k0 + 1) v1 v3 = some _ := hf
  rw [clerestoryref18_Full.w0] at hf
  try dsimp only
  conv => whnf
  refine cut_go ?_
  conv => whnf
  refine cut_go ?_
  conv => whnf
  refine ⟨⟨rfl, Nat.le_of_ble_eq_true rfl⟩, ?_⟩
  conv => whnf
  refine ⟨rfl, ⟨_, rfl, ?_⟩⟩
  conv => whnf
  refine veq_intro p.Rows.length (by simp) ?_
  conv => whnf
  refine at_go ?_
  conv => whnf
  refine vcond_intro (t := decide (v3 < (p.Rows.length : Int))) (fun h1 => ?_) (fun h2 => ?_)
  · replace hf := ifT h1 hf
    conv => whnf
    refine at_go ?_
    conv => whnf
    refine cut_go ?_
    conv => whnf
    refine cut_go ?_
    conv => whnf
    refine ⟨rfl, ⟨_, rfl, ?_⟩⟩
    conv => whnf
    refine ⟨rfl, ⟨_, rfl, ?_⟩⟩
    conv => whnf
    refine ⟨⟨rfl, Nat.le_of_ble_eq_true rfl⟩, ?_⟩
    conv => whnf
    refine ⟨rfl, ⟨_, rfl, ?_⟩⟩
    obtain ⟨x4, h3, hf⟩ := bnd hf
    conv => whnf
    refine ⟨⟨rfl, Nat.zero_lt_succ _⟩, at_nn h3, ⟨_, map_get (at_get h3), ?_⟩⟩
    conv => whnf
    refine ⟨?_, ?_⟩
    · obtain ⟨x5, h4, hf⟩ := bnd hf
      conv => whnf
      refine (clerestoryref18_Mirror.pure v p x4 x5 h4).call ?_
      conv => whnf
      refine ⟨⟨rfl, rfl⟩, ⟨_, rfl, Nat.le_of_ble_eq_true rfl, veq_intro [[(cS x5.1.Key), (cI x5.1.Gone), (.d (.sl 8 (x5.1.Rows.map api_Row.d)))]] rfl ?_⟩⟩
      conv => whnf
      refine at_sub (env' := [(2, (.ptr 0 0 0 0)), (3, (.ptr 1 0 0 0)), (5, (.row 2 v2 0 v1.length)), (6, (cI v3)), (7, (.ptr 3 0 0 0)), (8, (cB x5.2))]) (st' := ⟨(upd (upd (upd (upd hp 0 (.row 0 5 T.api_View [[(cS v.Name), (cI v.ID), (cS v.Table), (cS v.On), (.d (.sl 1 (v.Cols.map strD)))]])) 1 (.row 0 3 T.api_Part [[(cS p.Key), (cI p.Gone), (.d (.sl 8 (p.Rows.map api_Row.d)))]])) 2 (.row v2 3 T.api_Part (dataRow api_Part.d v1))) 3 (.row 0 3 T.api_Part [[(cS x5.1.Key), (cI x5.1.Gone), (.d (.sl 8 (x5.1.Rows.map api_Row.d)))]])), 4, g⟩) (sk hB (fwE (fwD (fwE (fwE (fw0 wf (by rfl) (fun _ => by rfl)) rfl rfl rfl) rfl rfl rfl) rfl rfl rfl (fun _ => rfl)) rfl rfl rfl) (by rfl) (by rfl) ⟨cv rfl rfl, cv rfl rfl, cv rfl rfl, cv rfl rfl, cv rfl rfl, cv rfl rfl, trivial⟩) ?_
      refine at_go ?_
      conv => whnf
      refine cut_go ?_
      conv => whnf
      refine at_go ?_
      conv => whnf
      refine vcond_intro (t := x5.2) (fun h5 => ?_) (fun h6 => ?_)
      · replace hf := ifT h5 hf
        conv => whnf
        refine ⟨rfl, ⟨_, rfl, ?_⟩⟩
        conv => whnf
        refine veq_intro (dataRow api_Part.d [x5.1]) rfl ?_
        conv => whnf
        refine ⟨rfl, ?_⟩
        obtain ⟨h7, hf⟩ := grd hf
        conv => whnf
        refine veq_intro (dataRow api_Part.d [x5.1]) rfl ⟨row_wid (enc := api_Part.d) (fun _ => rfl) _, ?_⟩
        conv => whnf
        refine ⟨⟨rfl, rfl, rfl⟩, row_len _ _, by simpa using h7, veq_intro (dataRow api_Part.d (v1 ++ [x5.1])) (row_app _ _ _) (veq_intro (v1 ++ [x5.1]).length (row_appl _ _ _) ?_)⟩
        conv => whnf
        refine at_go ?_
        conv => whnf
        refine veq_intro (IntKind.i64.wrap (v3 + 1)) rfl ?_
        conv => whnf
        exact ⟨(v1 ++ [x5.1], IntKind.i64.wrap (v3 + 1)), hf, (v2 + 1), sk hB (fwD (fwE (fwE (fw0 wf (by rfl) (fun _ => by rfl)) rfl rfl rfl) rfl rfl rfl) rfl rfl rfl (fun _ => rfl)) (by rfl) (by rfl) ⟨cv rfl rfl, cv rfl rfl, cv rfl rfl, cv rfl rfl, trivial⟩⟩
      · replace hf := ifF h6 hf
        conv => whnf
        refine at_go ?_
        conv => whnf
        refine veq_intro (IntKind.i64.wrap (v3 + 1)) rfl ?_
        conv => whnf
        exact ⟨(v1, IntKind.i64.wrap (v3 + 1)), hf, v2, sk hB (fwD (fwE (fwE (fw0 wf (by rfl) (fun _ => by rfl)) rfl rfl rfl) rfl rfl rfl) rfl rfl rfl (fun _ => rfl)) (by rfl) (by rfl) ⟨cv rfl rfl, cv rfl rfl, cv rfl rfl, cv rfl rfl, trivial⟩⟩
    · conv => whnf
      refine ⟨rfl, ?_⟩
      conv => whnf
      refine ⟨rfl, ?_⟩
      conv => whnf
      refine ⟨rfl, ?_⟩
      conv => whnf
      refine ⟨⟨rfl, Nat.zero_lt_succ _⟩, at_nn h3, ⟨_, map_get (at_get h3), ?_⟩⟩
      conv => whnf
      refine ⟨rfl, ?_⟩
      conv => whnf
      refine ⟨rfl, ?_⟩
      conv => whnf
      refine ⟨rfl, ⟨_, rfl, ?_⟩⟩
      conv => whnf
      refine ⟨rfl, ?_⟩
      conv => whnf
      refine ⟨rfl, ?_⟩
      conv => whnf
      refine ⟨⟨rfl, Nat.le_of_ble_eq_true rfl⟩, ?_⟩
      conv => whnf
      refine ⟨rfl, ?_⟩
      conv => whnf
      refine ⟨rfl, ?_⟩
      conv => whnf
      refine ⟨rfl, ⟨_, rfl, ?_⟩⟩
      conv => whnf
      refine ⟨rfl, ?_⟩
      conv => whnf
      refine ⟨rfl, ?_⟩
      conv => whnf
      refine ⟨rfl, ⟨_, rfl, ?_⟩⟩
      conv => whnf
      refine ⟨rfl, ?_⟩
      obtain ⟨x5, h8, hf⟩ := bnd hf
      conv => whnf
      refine (clerestoryref18_Mirror.pure v p x4 x5 h8).call ?_
      conv => whnf
      refine ⟨⟨rfl, rfl⟩, ⟨_, rfl, Nat.le_of_ble_eq_true rfl, veq_intro [[(cS x5.1.Key), (cI x5.1.Gone), (.d (.sl 8 (x5.1.Rows.map api_Row.d)))]] rfl ?_⟩⟩
      conv => whnf
      refine at_sub (env' := [(2, (.ptr 0 0 0 0)), (3, (.ptr 1 0 0 0)), (5, (.row 2 v2 0 v1.length)), (6, (cI v3)), (7, (.ptr 3 0 0 0)), (8, (cB x5.2))]) (st' := ⟨(upd (upd (upd (upd hp 0 (.row 0 5 T.api_View [[(cS v.Name), (cI v.ID), (cS v.Table), (cS v.On), (.d (.sl 1 (v.Cols.map strD)))]])) 1 (.row 0 3 T.api_Part [[(cS p.Key), (cI p.Gone), (.d (.sl 8 (p.Rows.map api_Row.d)))]])) 2 (.row v2 3 T.api_Part (dataRow api_Part.d v1))) 3 (.row 0 3 T.api_Part [[(cS x5.1.Key), (cI x5.1.Gone), (.d (.sl 8 (x5.1.Rows.map api_Row.d)))]])), 4, g⟩) (sk hB (fwE (fwD (fwE (fwE (fw0 wf (by rfl) (fun _ => by rfl)) rfl rfl rfl) rfl rfl rfl) rfl rfl rfl (fun _ => rfl)) rfl rfl rfl) (by rfl) (by rfl) ⟨cv rfl rfl, cv rfl rfl, cv rfl rfl, cv rfl rfl, cv rfl rfl, cv rfl rfl, trivial⟩) ?_
      refine at_go ?_
      conv => whnf
      refine cut_go ?_
      conv => whnf
      refine at_go ?_
      conv => whnf
      refine vcond_intro (t := x5.2) (fun h9 => ?_) (fun h10 => ?_)
      · replace hf := ifT h9 hf
        conv => whnf
        refine ⟨rfl, ⟨_, rfl, ?_⟩⟩
        conv => whnf
        refine veq_intro (dataRow api_Part.d [x5.1]) rfl ?_
        conv => whnf
        refine ⟨rfl, ?_⟩
        obtain ⟨h11, hf⟩ := grd hf
        conv => whnf
        refine veq_intro (dataRow api_Part.d [x5.1]) rfl ⟨row_wid (enc := api_Part.d) (fun _ => rfl) _, ?_⟩
        conv => whnf
        refine ⟨⟨rfl, rfl, rfl⟩, row_len _ _, by simpa using h11, veq_intro (dataRow api_Part.d (v1 ++ [x5.1])) (row_app _ _ _) (veq_intro (v1 ++ [x5.1]).length (row_appl _ _ _) ?_)⟩
        conv => whnf
        refine at_go ?_
        conv => whnf
        refine veq_intro (IntKind.i64.wrap (v3 + 1)) rfl ?_
        conv => whnf
        exact ⟨(v1 ++ [x5.1], IntKind.i64.wrap (v3 + 1)), hf, (v2 + 1), sk hB (fwD (fwE (fwE (fw0 wf (by rfl) (fun _ => by rfl)) rfl rfl rfl) rfl rfl rfl) rfl rfl rfl (fun _ => rfl)) (by rfl) (by rfl) ⟨cv rfl rfl, cv rfl rfl, cv rfl rfl, cv rfl rfl, trivial⟩⟩
      · replace hf := ifF h10 hf
        conv => whnf
        refine at_go ?_
        conv => whnf
        refine veq_intro (IntKind.i64.wrap (v3 + 1)) rfl ?_
        conv => whnf
        exact ⟨(v1, IntKind.i64.wrap (v3 + 1)), hf, v2, sk hB (fwD (fwE (fwE (fw0 wf (by rfl) (fun _ => by rfl)) rfl rfl rfl) rfl rfl rfl) rfl rfl rfl (fun _ => rfl)) (by rfl) (by rfl) ⟨cv rfl rfl, cv rfl rfl, cv rfl rfl, cv rfl rfl, trivial⟩⟩
  · replace hf := ifF h2 hf
    conv => whnf
    refine at_go ?_
    conv => whnf
    refine cut_go ?_
    conv => whnf
    refine at_sub (env' := [(4, (.row 2 v2 0 v1.length))]) (st' := ⟨(upd hp 2 (.row v2 3 T.api_Part (dataRow api_Part.d v1))), 3, g⟩) (sk hB (fwD (fw0 wf (by rfl) (fun _ => by rfl)) rfl rfl rfl (fun _ => rfl)) (by rfl) (by rfl) ⟨cv rfl rfl, trivial⟩) ?_
    refine at_go ?_
    conv => whnf
    obtain rfl := Option.some.inj hf
    refine ret_c hB wf (fun _ => by rfl) ?_
    exact cvz (enc := api_Part.d) (l := v1) rfl (wfn wf (by rfl)) rfl rfl

noncomputable def cell_Seen.f (c : api_Cell) (now : Int) : Option (Bool) :=
  if (decide (0 < c.At)) = true then
    if (!c.Dead) = true then
      if (decide (c.End = 0)) = true then
        some true
      else
      some (decide (now < c.End))
    else
    some false
  else
  some false

set_option maxHeartbeats 4000000 in
theorem cell_Seen.pure (c : api_Cell) (now : Int) (res : Bool) (hf : cell_Seen.f c now = some res) : Pure prog F.cell_Seen [(agd (api_Cell.d c)), (cI now)] (cB res) := by
  refine pure_fn cell_Seen.res (Nat.le_of_ble_eq_true rfl) (fun _ => rfl) (fun _ => rfl) fun B hp g hB wf => ?_
  rw [cell_Seen.f] at hf
  conv => whnf
  refine cut_go ?_
  conv => whnf
  refine at_go ?_
  conv => whnf
  refine cut_go ?_
  conv => whnf
  refine ⟨⟨rfl, Nat.le_of_ble_eq_true rfl⟩, ?_⟩
  conv => whnf
  refine ⟨rfl, ⟨_, rfl, ?_⟩⟩
  conv => whnf
  refine vcond_intro (t := decide (0 < c.At)) (fun h1 => ?_) (fun h2 => ?_)
  · replace hf := ifT h1 hf
    conv => whnf
    refine ⟨⟨rfl, Nat.le_of_ble_eq_true rfl⟩, ?_⟩
    conv => whnf
    refine vcT rfl ?_
    conv => whnf
    refine ⟨rfl, ⟨_, rfl, ?_⟩⟩
    conv => whnf
    refine vcT rfl ?_
    conv => whnf
    refine vcT rfl ?_
    conv => whnf
    refine vcond_intro (t := !c.Dead) (fun h3 => ?_) (fun h4 => ?_)
    · replace hf := ifT h3 hf
      conv => whnf
      refine ⟨⟨rfl, Nat.le_of_ble_eq_true rfl⟩, ?_⟩
      conv => whnf
      refine vcT rfl ?_
      conv => whnf
      refine ⟨rfl, ⟨_, rfl, ?_⟩⟩
      conv => whnf
      refine vcT rfl ?_
      conv => whnf
      refine vcT rfl ?_
      conv => whnf
      refine vcond_intro (t := decide (c.End = 0)) (fun h5 => ?_) (fun h6 => ?_)
      · replace hf := ifT h5 hf
        conv => whnf
        refine vcT rfl ?_
        conv => whnf
        refine vcT rfl ?_
        conv => whnf
        refine vcT rfl ?_
        conv => whnf
        refine vcT rfl ?_
        conv => whnf
        refine vcT rfl ?_
        conv => whnf
        refine vcT rfl ?_
        conv => whnf
        refine at_go ?_
        conv => whnf
        obtain rfl := Option.some.inj hf
        refine ret_c hB wf (fun _ => by rfl) ?_
        exact cv rfl rfl
      · replace hf := ifF h6 hf
        conv => whnf
        refine ⟨⟨rfl, Nat.le_of_ble_eq_true rfl⟩, ?_⟩
        conv => whnf
        refine vcF rfl ?_
        conv => whnf
        refine ⟨rfl, ⟨_, rfl, ?_⟩⟩
        conv => whnf
        refine vcF rfl ?_
        conv => whnf
        refine vcF rfl ?_
        conv => whnf
        refine vcT rfl ?_
        conv => whnf
        refine vcF rfl ?_
        conv => whnf
        refine vcT rfl ?_
        conv => whnf
        refine at_go ?_
        conv => whnf
        obtain rfl := Option.some.inj hf
        refine ret_c hB wf (fun _ => by rfl) ?_
        exact cv rfl rfl
    · replace hf := ifF h4 hf
      conv => whnf
      refine vcF rfl ?_
      conv => whnf
      refine vcF rfl ?_
      conv => whnf
      refine vcF rfl ?_
      conv => whnf
      refine vcF rfl ?_
      conv => whnf
      refine vcF rfl ?_
      conv => whnf
      refine at_go ?_
      conv => whnf
      obtain rfl := Option.some.inj hf
      refine ret_c hB wf (fun _ => by rfl) ?_
      exact cv rfl rfl
  · replace hf := ifF h2 hf
    conv => whnf
    refine vcF rfl ?_
    conv => whnf
    refine vcF rfl ?_
    conv => whnf
    refine vcF rfl ?_
    conv => whnf
    refine vcF rfl ?_
    conv => whnf
    refine vcF rfl ?_
    conv => whnf
    refine vcF rfl ?_
    conv => whnf
    refine vcF rfl ?_
    conv => whnf
    refine vcF rfl ?_
    conv => whnf
    refine vcF rfl ?_
    conv => whnf
    refine at_go ?_
    conv => whnf
    obtain rfl := Option.some.inj hf
    refine ret_c hB wf (fun _ => by rfl) ?_
    exact cv rfl rfl

noncomputable def row_Seen.w0 (r : api_Row) (part : Int) (now : Int) : Nat → List api_Col → Int → Option (List api_Col)
  | 0, _, _ => none
  | k0 + 1, v1, v3 =>
    if (decide (v3 < (r.Cols.length : Int))) = true then
      (at? r.Cols v3).bind fun x4 =>
      if (!x4.Cell.Dead) = true then
        (row_Gone.f r part).bind fun x5 =>
        if (decide (x5 < x4.Cell.At)) = true then
          (cell_Seen.f x4.Cell now).bind fun x6 =>
          if (x6) = true then
            if (v1 ++ [x4]).length ≤ 4294967296 then
            row_Seen.w0 r part now k0 (v1 ++ [x4]) (IntKind.i64.wrap (v3 + 1))
            else none
          else
          row_Seen.w0 r part now k0 v1 (IntKind.i64.wrap (v3 + 1))
        else
        row_Seen.w0 r part now k0 v1 (IntKind.i64.wrap (v3 + 1))
      else
      row_Seen.w0 r part now k0 v1 (IntKind.i64.wrap (v3 + 1))
    else
    some v1

noncomputable def row_Seen.f (r : api_Row) (part : Int) (now : Int) : Option (List api_Col) :=
  row_Seen.w0 r part now K0 ([] : List api_Col) 0

set_option maxHeartbeats 4000000 in
theorem row_Seen.pure (r : api_Row) (part : Int) (now : Int) (res : List api_Col) (hf : row_Seen.f r part now = some res) : Pure prog F.row_Seen [(agd (api_Row.d r)), (cI part), (cI now)] (.d (.sl 5 (res.map api_Col.d))) := by
  refine pure_fn row_Seen.res (Nat.le_of_ble_eq_true rfl) (fun _ => rfl) (fun _ => rfl) fun B hp g hB wf => ?_
  rw [row_Seen.f] at hf
  conv => whnf
  refine cut_go ?_
  conv => whnf
  refine at_go ?_
  conv => whnf
  refine cut_go ?_
  conv => whnf
  refine at_go ?_
  conv => whnf
  refine cut_go ?_
  conv => whnf
  refine cut_go ?_
  conv => whnf
  refine ⟨⟨rfl, Nat.le_of_ble_eq_true rfl⟩, ?_⟩
  conv => whnf
  refine ⟨rfl, ⟨_, rfl, ?_⟩⟩
  conv => whnf
  refine veq_intro r.Cols.length (by simp) ?_
  conv => whnf
  refine at_sub (env' := [(1, (cI part)), (2, (cI now)), (3, (.ptr 0 0 0 0)), (7, nilS), (11, (.d (.sl 5 (r.Cols.map api_Col.d)))), (12, (cI (r.Cols.length : Int))), (13, (cI 0))]) (st' := ⟨(upd hp 0 (.row 0 8 T.api_Row [[(cS r.Key), (cS r.Live.Val), (cB r.Live.Dead), (cI r.Live.At), (cI r.Live.End), (cI r.Gone), (cI r.Shade), (.d (.sl 5 (r.Cols.map api_Col.d)))]])), 1, g⟩) (sk hB (fwE (fw0 wf (by rfl) (fun _ => by rfl)) rfl rfl rfl) (by rfl) (by rfl) ⟨cv rfl rfl, cv rfl rfl, cv rfl rfl, cv rfl rfl, cv rfl rfl, cv rfl rfl, cv rfl rfl, trivial⟩) ?_
  refine at_go ?_
  conv => whnf
  refine loop_sub (sph 0 5 T.api_Col) ?_
  refine loop_sub (env' := [(1, (cI part)), (2, (cI now)), (3, (.ptr 0 0 0 0)), (7, (.row 1 0 0 ([] : List api_Col).length)), (11, (.d (.sl 5 (r.Cols.map api_Col.d)))), (12, (cI (r.Cols.length : Int))), (13, (cI 0))]) (st' := ⟨(upd (upd hp 0 (.row 0 8 T.api_Row [[(cS r.Key), (cS r.Live.Val), (cB r.Live.Dead), (cI r.Live.At), (cI r.Live.End), (cI r.Gone), (cI r.Shade), (.d (.sl 5 (r.Cols.map api_Col.d)))]])) 1 (.row 0 5 T.api_Col (dataRow api_Col.d ([] : List api_Col)))), 2, g⟩) (sk hB (fwD (fwE (fw0 wf (by rfl) (fun _ => by rfl)) rfl rfl rfl) rfl rfl rfl (fun _ => rfl)) (by rfl) (by rfl) ⟨cv rfl rfl, cv rfl rfl, cv rfl rfl, .ph (of_decide_eq_true rfl) rfl (Nat.zero_le _), cv rfl rfl, cv rfl rfl, cv rfl rfl, trivial⟩) ?_
  refine loop_f (α := (List api_Col) × Int) (γ := Nat) (fun v2 (v1, v3) => [(1, (cI part)), (2, (cI now)), (3, (.ptr 0 0 0 0)), (7, (.row 1 v2 0 v1.length)), (11, (.d (.sl 5 (r.Cols.map api_Col.d)))), (12, (cI (r.Cols.length : Int))), (13, (cI v3))]) (fun v2 (v1, v3) => ⟨(upd (upd hp 0 (.row 0 8 T.api_Row [[(cS r.Key), (cS r.Live.Val), (cB r.Live.Dead), (cI r.Live.At), (cI r.Live.End), (cI r.Gone), (cI r.Shade), (.d (.sl 5 (r.Cols.map api_Col.d)))]])) 1 (.row v2 5 T.api_Col (dataRow api_Col.d v1))), 2, g⟩) (fun k s => row_Seen.w0 r part now k s.1 s.2) (fun _ => rfl) ?_ K0 (([] : List api_Col), 0) 0 hf
  intro k0 y v2 hf
  obtain ⟨v1, v3⟩ := y
  replace hf : row_Seen.w0 r part now (k0 + 1) v1 v3 = some _ := hf
  rw [row_Seen.w0] at hf
  try dsimp only
  conv => whnf
  refine cut_go ?_
  conv => whnf
  refine at_go ?_
  conv => whnf
  refine cut_go ?_
  conv => whnf
  refine vcond_intro (t := decide (v3 < (r.Cols.length : Int))) (fun h1 => ?_) (fun h2 => ?_)
  · replace hf := ifT h1 hf
    conv => whnf
    refine at_go ?_
    conv => whnf
    refine cut_go ?_
    conv => whnf
    refine cut_go ?_
    obtain ⟨x4, h3, hf⟩ := bnd hf
    conv => whnf
    refine ⟨⟨rfl, Nat.zero_lt_succ _⟩, at_nn h3, ⟨_, map_get (at_get h3), ?_⟩⟩
    conv => whnf
    refine ⟨⟨rfl, rfl⟩, ⟨_, rfl, Nat.le_of_ble_eq_true rfl, veq_intro [[(cS x4.Name), (cS x4.Cell.Val), (cB x4.Cell.Dead), (cI x4.Cell.At), (cI x4.Cell.End)]] rfl ?_⟩⟩
    conv => whnf
    refine at_sub (env' := [(1, (cI part)), (2, (cI now)), (3, (.ptr 0 0 0 0)), (7, (.row 1 v2 0 v1.length)), (9, (.ptr 2 0 0 0)), (11, (.d (.sl 5 (r.Cols.map api_Col.d)))), (12, (cI (r.Cols.length : Int))), (13, (cI v3))]) (st' := ⟨(upd (upd (upd hp 0 (.row 0 8 T.api_Row [[(cS r.Key), (cS r.Live.Val), (cB r.Live.Dead), (cI r.Live.At), (cI r.Live.End), (cI r.Gone), (cI r.Shade), (.d (.sl 5 (r.Cols.map api_Col.d)))]])) 1 (.row v2 5 T.api_Col (dataRow api_Col.d v1))) 2 (.row 0 5 T.api_Col [[(cS x4.Name), (cS x4.Cell.Val), (cB x4.Cell.Dead), (cI x4.Cell.At), (cI x4.Cell.End)]])), 3, g⟩) (sk hB (fwE (fwD (fwE (fw0 wf (by rfl) (fun _ => by rfl)) rfl rfl rfl) rfl rfl rfl (fun _ => rfl)) rfl rfl rfl) (by rfl) (by rfl) ⟨cv rfl rfl, cv rfl rfl, cv rfl rfl, cv rfl rfl, cv rfl rfl, cv rfl rfl, cv rfl rfl, cv rfl rfl, trivial⟩) ?_
    refine at_go ?_
    conv => whnf
    refine cut_go ?_
    conv => whnf
    refine ⟨⟨rfl, Nat.le_of_ble_eq_true rfl⟩, ?_⟩
    conv => whnf
    refine ⟨⟨rfl, Nat.le_of_ble_eq_true rfl⟩, ?_⟩
    conv => whnf
    refine ⟨rfl, ⟨_, rfl, ?_⟩⟩
    conv => whnf
    refine vcond_intro (t := !x4.Cell.Dead) (fun h4 => ?_) (fun h5 => ?_)
    · replace hf := ifT h4 hf
      conv => whnf
      refine ⟨⟨rfl, Nat.le_of_ble_eq_true rfl⟩, ?_⟩
      conv => whnf
      refine vcT rfl ?_
      conv => whnf
      refine ⟨⟨rfl, Nat.le_of_ble_eq_true rfl⟩, ?_⟩
      conv => whnf
      refine vcT rfl ?_
      conv => whnf
      refine ⟨rfl, ⟨_, rfl, ?_⟩⟩
      conv => whnf
      refine vcT rfl ?_
      conv => whnf
      refine ⟨rfl, ⟨_, rfl, ?_⟩⟩
      conv => whnf
      refine vcT rfl ?_
      conv => whnf
      refine vcT rfl ?_
      obtain ⟨x5, h6, hf⟩ := bnd hf
      conv => whnf
      refine (row_Gone.pure r part x5 h6).call ?_
      conv => whnf
      refine vcT rfl ?_
      conv => whnf
      refine ⟨rfl, ?_⟩
      conv => whnf
      refine ⟨rfl, ⟨_, rfl, ?_⟩⟩
      conv => whnf
      refine ⟨rfl, ?_⟩
      conv => whnf
      refine vcT rfl ?_
      conv => whnf
      refine ⟨rfl, ?_⟩
      conv => whnf
      refine ⟨⟨rfl, Nat.le_of_ble_eq_true rfl⟩, ?_⟩
      conv => whnf
      refine ⟨rfl, ?_⟩
      conv => whnf
      refine vcT rfl ?_
      conv => whnf
      refine ⟨rfl, ?_⟩
      conv => whnf
      refine ⟨⟨rfl, Nat.le_of_ble_eq_true rfl⟩, ?_⟩
      conv => whnf
      refine ⟨rfl, ?_⟩
      conv => whnf
      refine vcT rfl ?_
      conv => whnf
      refine vcT rfl ?_
      conv => whnf
      refine vcond_intro (t := decide (x5 < x4.Cell.At)) (fun h7 => ?_) (fun h8 => ?_)
      · replace hf := ifT h7 hf
        conv => whnf
        refine ⟨⟨rfl, Nat.le_of_ble_eq_true rfl⟩, ?_⟩
        conv => whnf
        refine vcT rfl ?_
        conv => whnf
        refine ⟨rfl, ⟨_, rfl, ?_⟩⟩
        conv => whnf
        refine vcT rfl ?_
        conv => whnf
        refine vcT rfl ?_
        obtain ⟨x6, h9, hf⟩ := bnd hf
        conv => whnf
        refine (cell_Seen.pure x4.Cell now x6 h9).call ?_
        conv => whnf
        refine vcT rfl ?_
        conv => whnf
        refine at_go ?_
        conv => whnf
        refine vcond_intro (t := x6) (fun h10 => ?_) (fun h11 => ?_)
        · replace hf := ifT h10 hf
          conv => whnf
          refine ⟨rfl, ⟨_, rfl, ?_⟩⟩
          conv => whnf
          refine veq_intro (dataRow api_Col.d [x4]) rfl ?_
          conv => whnf
          refine ⟨rfl, ?_⟩
          obtain ⟨h12, hf⟩ := grd hf
          conv => whnf
          refine veq_intro (dataRow api_Col.d [x4]) rfl ⟨row_wid (enc := api_Col.d) (fun _ => rfl) _, ?_⟩
          conv => whnf
          refine ⟨⟨rfl, rfl, rfl⟩, row_len _ _, by simpa using h12, veq_intro (dataRow api_Col.d (v1 ++ [x4])) (row_app _ _ _) (veq_intro (v1 ++ [x4]).length (row_appl _ _ _) ?_)⟩
          conv => whnf
          refine at_go ?_
          conv => whnf
          refine veq_intro (IntKind.i64.wrap (v3 + 1)) rfl ?_
          conv => whnf
          exact ⟨(v1 ++ [x4], IntKind.i64.wrap (v3 + 1)), hf, (v2 + 1), sk hB (fwD (fwE (fw0 wf (by rfl) (fun _ => by rfl)) rfl rfl rfl) rfl rfl rfl (fun _ => rfl)) (by rfl) (by rfl) ⟨cv rfl rfl, cv rfl rfl, cv rfl rfl, cv rfl rfl, cv rfl rfl, cv rfl rfl, cv rfl rfl, trivial⟩⟩
        · replace hf := ifF h11 hf
          conv => whnf
          refine at_go ?_
          conv => whnf
          refine veq_intro (IntKind.i64.wrap (v3 + 1)) rfl ?_
          conv => whnf
          exact ⟨(v1, IntKind.i64.wrap (v3 + 1)), hf, v2, sk hB (fwD (fwE (fw0 wf (by rfl) (fun _ => by rfl)) rfl rfl rfl) rfl rfl rfl (fun _ => rfl)) (by rfl) (by rfl) ⟨cv rfl rfl, cv rfl rfl, cv rfl rfl, cv rfl rfl, cv rfl rfl, cv rfl rfl, cv rfl rfl, trivial⟩⟩
      · replace hf := ifF h8 hf
        conv => whnf
        refine vcF rfl ?_
        conv => whnf
        refine vcF rfl ?_
        conv => whnf
        refine vcF rfl ?_
        conv => whnf
        refine vcF rfl ?_
        conv => whnf
        refine at_go ?_
        conv => whnf
        refine vcF rfl ?_
        conv => whnf
        refine at_go ?_
        conv => whnf
        refine veq_intro (IntKind.i64.wrap (v3 + 1)) rfl ?_
        conv => whnf
        exact ⟨(v1, IntKind.i64.wrap (v3 + 1)), hf, v2, sk hB (fwD (fwE (fw0 wf (by rfl) (fun _ => by rfl)) rfl rfl rfl) rfl rfl rfl (fun _ => rfl)) (by rfl) (by rfl) ⟨cv rfl rfl, cv rfl rfl, cv rfl rfl, cv rfl rfl, cv rfl rfl, cv rfl rfl, cv rfl rfl, trivial⟩⟩
    · replace hf := ifF h5 hf
      conv => whnf
      refine vcF rfl ?_
      conv => whnf
      refine vcF rfl ?_
      conv => whnf
      refine vcF rfl ?_
      conv => whnf
      refine vcF rfl ?_
      conv => whnf
      refine vcF rfl ?_
      conv => whnf
      refine vcF rfl ?_
      conv => whnf
      refine ⟨rfl, ?_⟩
      conv => whnf
      refine vcF rfl ?_
      conv => whnf
      refine ⟨rfl, ?_⟩
      conv => whnf
      refine vcF rfl ?_
      conv => whnf
      refine ⟨rfl, ?_⟩
      conv => whnf
      refine vcF rfl ?_
      conv => whnf
      refine vcF rfl ?_
      conv => whnf
      refine vcF rfl ?_
      conv => whnf
      refine vcF rfl ?_
      conv => whnf
      refine vcF rfl ?_
      conv => whnf
      refine vcF rfl ?_
      conv => whnf
      refine vcF rfl ?_
      conv => whnf
      refine at_go ?_
      conv => whnf
      refine vcF rfl ?_
      conv => whnf
      refine at_go ?_
      conv => whnf
      refine veq_intro (IntKind.i64.wrap (v3 + 1)) rfl ?_
      conv => whnf
      exact ⟨(v1, IntKind.i64.wrap (v3 + 1)), hf, v2, sk hB (fwD (fwE (fw0 wf (by rfl) (fun _ => by rfl)) rfl rfl rfl) rfl rfl rfl (fun _ => rfl)) (by rfl) (by rfl) ⟨cv rfl rfl, cv rfl rfl, cv rfl rfl, cv rfl rfl, cv rfl rfl, cv rfl rfl, cv rfl rfl, trivial⟩⟩
  · replace hf := ifF h2 hf
    conv => whnf
    refine at_go ?_
    conv => whnf
    refine cut_go ?_
    conv => whnf
    refine at_sub (env' := [(6, (.row 1 v2 0 v1.length))]) (st' := ⟨(upd hp 1 (.row v2 5 T.api_Col (dataRow api_Col.d v1))), 2, g⟩) (sk hB (fwD (fw0 wf (by rfl) (fun _ => by rfl)) rfl rfl rfl (fun _ => rfl)) (by rfl) (by rfl) ⟨cv rfl rfl, trivial⟩) ?_
    refine at_go ?_
    conv => whnf
    obtain rfl := Option.some.inj hf
    refine ret_c hB wf (fun _ => by rfl) ?_
    exact cvz (enc := api_Col.d) (l := v1) rfl (wfn wf (by rfl)) rfl rfl

end Go.Eng
