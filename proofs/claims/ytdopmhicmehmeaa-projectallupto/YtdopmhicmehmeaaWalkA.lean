/-
  Part of the proof that the law ProjectAll returns true at every input of bulk at most 1048576, and leaves its arguments as they were; the whole is stated at the end of the last text.
-/
import Derived.Test.YtdopmhicmehmeaaData
import Derived.Test.YtdopmhicmehmeaaCode
set_option maxRecDepth 100000
set_option linter.unusedVariables false
set_option linter.unusedSimpArgs false
namespace Go.Eng
open Go
noncomputable def clerestorylaw18_few.w0 (v : api_View) : Nat → Int → Option (Bool)
  | 0, _ => none
  | k0 + 1, v1 =>
    if (decide (v1 < (v.Cols.length : Int))) = true then
      if (decide (v1 < 12)) = true then
        (at? v.Cols v1).bind fun x2 =>
        if (decide (300 < (x2.size : Int))) = true then
          some false
        else
        clerestorylaw18_few.w0 v k0 (IntKind.i64.wrap (v1 + 1))
      else
      if (decide ((v.Cols.length : Int) ≤ 12)) = true then
        some (decide ((v.On.size : Int) ≤ 300))
      else
      some false
    else
    if (decide ((v.Cols.length : Int) ≤ 12)) = true then
      some (decide ((v.On.size : Int) ≤ 300))
    else
    some false

noncomputable def clerestorylaw18_few.f (v : api_View) : Option (Bool) :=
  clerestorylaw18_few.w0 v K0 0

set_option maxHeartbeats 4000000 in
theorem clerestorylaw18_few.pure (v : api_View) (res : Bool) (hf : clerestorylaw18_few.f v = some res) : Pure prog F.clerestorylaw18_few [(agd (api_View.d v))] (cB res) := by
  refine pure_fn clerestorylaw18_few.res (Nat.le_of_ble_eq_true rfl) (fun _ => rfl) (fun _ => rfl) fun B hp g hB wf => ?_
  rw [clerestorylaw18_few.f] at hf
  conv => whnf
  refine cut_go ?_
  conv => whnf
  refine at_go ?_
  conv => whnf
  refine cut_go ?_
  conv => whnf
  refine cut_go ?_
  conv => whnf
  refine at_go ?_
  conv => whnf
  refine loop_sub (env' := [(1, (.ptr 0 0 0 0)), (3, (cI 0))]) (st' := ⟨(upd hp 0 (.row 0 5 T.api_View [[(cS v.Name), (cI v.ID), (cS v.Table), (cS v.On), (.d (.sl 1 (v.Cols.map strD)))]])), 1, g⟩) (sk hB (fwE (fw0 wf (by rfl) (fun _ => by rfl)) rfl rfl rfl) (by rfl) (by rfl) ⟨cv rfl rfl, cv rfl rfl, trivial⟩) ?_
  refine loop_f (α := Int) (γ := Unit) (fun (_ : Unit) v1 => [(1, (.ptr 0 0 0 0)), (3, (cI v1))]) (fun (_ : Unit) v1 => ⟨(upd hp 0 (.row 0 5 T.api_View [[(cS v.Name), (cI v.ID), (cS v.Table), (cS v.On), (.d (.sl 1 (v.Cols.map strD)))]])), 1, g⟩) (fun k s => clerestorylaw18_few.w0 v k s) (fun _ => rfl) ?_ K0 0 () hf
  intro k0 v1 gg hf
  replace hf : clerestorylaw18_few.w0 v (k0 + 1) v1 = some _ := hf
  rw [clerestorylaw18_few.w0] at hf
  try dsimp only
  conv => whnf
  refine cut_go ?_
  conv => whnf
  refine cut_go ?_
  conv => whnf
  refine ⟨⟨rfl, Nat.le_of_ble_eq_true rfl⟩, ?_⟩
  conv => whnf
  refine ⟨rfl, ⟨_, rfl, ?_⟩⟩
  conv => whnf
  refine veq_intro v.Cols.length (by simp) ?_
  conv => whnf
  refine vcond_intro (t := decide (v1 < (v.Cols.length : Int))) (fun h1 => ?_) (fun h2 => ?_)
  · replace hf := ifT h1 hf
    conv => whnf
    refine vcT rfl ?_
    conv => whnf
    refine vcT rfl ?_
    conv => whnf
    refine at_go ?_
    conv => whnf
    refine vcond_intro (t := decide (v1 < 12)) (fun h3 => ?_) (fun h4 => ?_)
    · replace hf := ifT h3 hf
      conv => whnf
      refine at_go ?_
      conv => whnf
      refine cut_go ?_
      conv => whnf
      refine cut_go ?_
      conv => whnf
      refine ⟨⟨rfl, Nat.le_of_ble_eq_true rfl⟩, ?_⟩
      conv => whnf
      refine ⟨rfl, ⟨_, rfl, ?_⟩⟩
      obtain ⟨x2, h5, hf⟩ := bnd hf
      conv => whnf
      refine ⟨⟨rfl, Nat.zero_lt_succ _⟩, at_nn h5, ⟨_, map_get (at_get h5), ?_⟩⟩
      conv => whnf
      refine at_sub (env' := [(1, (.ptr 0 0 0 0)), (3, (cI v1)), (21, (cB (decide (300 < (x2.size : Int)))))]) (st' := ⟨(upd hp 0 (.row 0 5 T.api_View [[(cS v.Name), (cI v.ID), (cS v.Table), (cS v.On), (.d (.sl 1 (v.Cols.map strD)))]])), 1, g⟩) (sk hB (fwE (fw0 wf (by rfl) (fun _ => by rfl)) rfl rfl rfl) (by rfl) (by rfl) ⟨cv rfl rfl, cv rfl rfl, cv rfl rfl, trivial⟩) ?_
      refine at_go ?_
      conv => whnf
      refine vcond_intro (t := decide (300 < (x2.size : Int))) (fun h6 => ?_) (fun h7 => ?_)
      · replace hf := ifT h6 hf
        conv => whnf
        refine cut_go ?_
        conv => whnf
        refine at_go ?_
        conv => whnf
        obtain rfl := Option.some.inj hf
        refine ret_c hB wf (fun _ => by rfl) ?_
        exact cv rfl rfl
      · replace hf := ifF h7 hf
        conv => whnf
        refine at_go ?_
        conv => whnf
        refine veq_intro (IntKind.i64.wrap (v1 + 1)) rfl ?_
        conv => whnf
        exact ⟨IntKind.i64.wrap (v1 + 1), hf, (), sk hB (fwE (fw0 wf (by rfl) (fun _ => by rfl)) rfl rfl rfl) (by rfl) (by rfl) ⟨cv rfl rfl, cv rfl rfl, trivial⟩⟩
    · replace hf := ifF h4 hf
      conv => whnf
      refine at_go ?_
      conv => whnf
      refine cut_go ?_
      conv => whnf
      refine ⟨⟨rfl, Nat.le_of_ble_eq_true rfl⟩, ?_⟩
      conv => whnf
      refine ⟨rfl, ⟨_, rfl, ?_⟩⟩
      conv => whnf
      refine veq_intro v.Cols.length (by simp) ?_
      conv => whnf
      refine vcond_intro (t := decide ((v.Cols.length : Int) ≤ 12)) (fun h8 => ?_) (fun h9 => ?_)
      · replace hf := ifT h8 hf
        conv => whnf
        refine ⟨⟨rfl, Nat.le_of_ble_eq_true rfl⟩, ?_⟩
        conv => whnf
        refine vcT rfl ?_
        conv => whnf
        refine ⟨rfl, ⟨_, rfl, ?_⟩⟩
        conv => whnf
        refine vcT rfl ?_
        conv => whnf
        refine vcT rfl ?_
        conv => whnf
        refine vcT rfl ?_
        conv => whnf
        refine at_sub (env' := [(2, (cB (decide ((v.On.size : Int) ≤ 300))))]) (st' := ⟨hp, 0, g⟩) (sk hB (fw0 wf (by rfl) (fun _ => by rfl)) (by rfl) (by rfl) ⟨cv rfl rfl, trivial⟩) ?_
        refine at_go ?_
        conv => whnf
        obtain rfl := Option.some.inj hf
        refine ret_c hB wf (fun _ => by rfl) ?_
        exact cv rfl rfl
      · replace hf := ifF h9 hf
        conv => whnf
        refine vcF rfl ?_
        conv => whnf
        refine vcF rfl ?_
        conv => whnf
        refine vcF rfl ?_
        conv => whnf
        refine vcF rfl ?_
        conv => whnf
        refine at_sub (env' := [(2, (cB false))]) (st' := ⟨hp, 0, g⟩) (sk hB (fw0 wf (by rfl) (fun _ => by rfl)) (by rfl) (by rfl) ⟨cv rfl rfl, trivial⟩) ?_
        refine at_go ?_
        conv => whnf
        obtain rfl := Option.some.inj hf
        refine ret_c hB wf (fun _ => by rfl) ?_
        exact cv rfl rfl
  · replace hf := ifF h2 hf
    conv => whnf
    refine vcF rfl ?_
    conv => whnf
    refine vcF rfl ?_
    conv => whnf
    refine at_go ?_
    conv => whnf
    refine vcF rfl ?_
    conv => whnf
    refine at_go ?_
    conv => whnf
    refine cut_go ?_
    conv => whnf
    refine ⟨⟨rfl, Nat.le_of_ble_eq_true rfl⟩, ?_⟩
    conv => whnf
    refine ⟨rfl, ⟨_, rfl, ?_⟩⟩
    conv => whnf
    refine veq_intro v.Cols.length (by simp) ?_
    conv => whnf
    refine vcond_intro (t := decide ((v.Cols.length : Int) ≤ 12)) (fun h10 => ?_) (fun h11 => ?_)
    · replace hf := ifT h10 hf
      conv => whnf
      refine ⟨⟨rfl, Nat.le_of_ble_eq_true rfl⟩, ?_⟩
      conv => whnf
      refine vcT rfl ?_
      conv => whnf
      refine ⟨rfl, ⟨_, rfl, ?_⟩⟩
      conv => whnf
      refine vcT rfl ?_
      conv => whnf
      refine vcT rfl ?_
      conv => whnf
      refine vcT rfl ?_
      conv => whnf
      refine at_sub (env' := [(2, (cB (decide ((v.On.size : Int) ≤ 300))))]) (st' := ⟨hp, 0, g⟩) (sk hB (fw0 wf (by rfl) (fun _ => by rfl)) (by rfl) (by rfl) ⟨cv rfl rfl, trivial⟩) ?_
      refine at_go ?_
      conv => whnf
      obtain rfl := Option.some.inj hf
      refine ret_c hB wf (fun _ => by rfl) ?_
      exact cv rfl rfl
    · replace hf := ifF h11 hf
      conv => whnf
      refine vcF rfl ?_
      conv => whnf
      refine vcF rfl ?_
      conv => whnf
      refine vcF rfl ?_
      conv => whnf
      refine vcF rfl ?_
      conv => whnf
      refine at_sub (env' := [(2, (cB false))]) (st' := ⟨hp, 0, g⟩) (sk hB (fw0 wf (by rfl) (fun _ => by rfl)) (by rfl) (by rfl) ⟨cv rfl rfl, trivial⟩) ?_
      refine at_go ?_
      conv => whnf
      obtain rfl := Option.some.inj hf
      refine ret_c hB wf (fun _ => by rfl) ?_
      exact cv rfl rfl

noncomputable def clerestorylaw00_FewRow.w0 (r : api_Row) : Nat → Int → Option (Bool)
  | 0, _ => none
  | k0 + 1, v1 =>
    if (decide (v1 < (r.Cols.length : Int))) = true then
      (at? r.Cols v1).bind fun x2 =>
      if (decide (300 < (x2.Name.size : Int))) = true then
        some false
      else
      if (decide (300 < (x2.Cell.Val.size : Int))) = true then
        some false
      else
      clerestorylaw00_FewRow.w0 r k0 (IntKind.i64.wrap (v1 + 1))
    else
    some true

noncomputable def clerestorylaw00_FewRow.f (r : api_Row) : Option (Bool) :=
  if (decide (1000 < (r.Key.size : Int))) = true then
    some false
  else
  if (decide (20 < (r.Cols.length : Int))) = true then
    some false
  else
  if (decide (1000 < (r.Live.Val.size : Int))) = true then
    some false
  else
  clerestorylaw00_FewRow.w0 r K0 0

set_option maxHeartbeats 4000000 in
theorem clerestorylaw00_FewRow.pure (r : api_Row) (res : Bool) (hf : clerestorylaw00_FewRow.f r = some res) : Pure prog F.clerestorylaw00_FewRow [(agd (api_Row.d r))] (cB res) := by
  refine pure_fn clerestorylaw00_FewRow.res (Nat.le_of_ble_eq_true rfl) (fun _ => rfl) (fun _ => rfl) fun B hp g hB wf => ?_
  rw [clerestorylaw00_FewRow.f] at hf
  conv => whnf
  refine cut_go ?_
  conv => whnf
  refine at_go ?_
  conv => whnf
  refine cut_go ?_
  conv => whnf
  refine cut_go ?_
  conv => whnf
  refine ⟨⟨rfl, Nat.le_of_ble_eq_true rfl⟩, ?_⟩
  conv => whnf
  refine ⟨rfl, ⟨_, rfl, ?_⟩⟩
  conv => whnf
  refine vcond_intro (t := decide (1000 < (r.Key.size : Int))) (fun h1 => ?_) (fun h2 => ?_)
  · replace hf := ifT h1 hf
    conv => whnf
    refine vcT rfl ?_
    conv => whnf
    refine vcT rfl ?_
    conv => whnf
    refine vcT rfl ?_
    conv => whnf
    refine vcT rfl ?_
    conv => whnf
    refine vcT rfl ?_
    conv => whnf
    refine vcT rfl ?_
    conv => whnf
    refine vcT rfl ?_
    conv => whnf
    refine vcT rfl ?_
    conv => whnf
    refine vcT rfl ?_
    conv => whnf
    refine vcT rfl ?_
    conv => whnf
    refine at_go ?_
    conv => whnf
    refine vcT rfl ?_
    conv => whnf
    refine cut_go ?_
    conv => whnf
    refine at_sub (env' := [(2, (cB false))]) (st' := ⟨hp, 0, g⟩) (sk hB (fw0 wf (by rfl) (fun _ => by rfl)) (by rfl) (by rfl) ⟨cv rfl rfl, trivial⟩) ?_
    refine at_go ?_
    conv => whnf
    obtain rfl := Option.some.inj hf
    refine ret_c hB wf (fun _ => by rfl) ?_
    exact cv rfl rfl
  · replace hf := ifF h2 hf
    conv => whnf
    refine ⟨⟨rfl, Nat.le_of_ble_eq_true rfl⟩, ?_⟩
    conv => whnf
    refine vcF rfl ?_
    conv => whnf
    refine ⟨rfl, ⟨_, rfl, ?_⟩⟩
    conv => whnf
    refine vcF rfl ?_
    conv => whnf
    refine veq_intro r.Cols.length (by simp) ?_
    conv => whnf
    refine vcF rfl ?_
    conv => whnf
    refine vcF rfl ?_
    conv => whnf
    refine vcond_intro (t := decide (20 < (r.Cols.length : Int))) (fun h3 => ?_) (fun h4 => ?_)
    · replace hf := ifT h3 hf
      conv => whnf
      refine vcT rfl ?_
      conv => whnf
      refine vcT rfl ?_
      conv => whnf
      refine vcT rfl ?_
      conv => whnf
      refine vcT rfl ?_
      conv => whnf
      refine vcT rfl ?_
      conv => whnf
      refine at_go ?_
      conv => whnf
      refine vcT rfl ?_
      conv => whnf
      refine cut_go ?_
      conv => whnf
      refine at_sub (env' := [(2, (cB false))]) (st' := ⟨hp, 0, g⟩) (sk hB (fw0 wf (by rfl) (fun _ => by rfl)) (by rfl) (by rfl) ⟨cv rfl rfl, trivial⟩) ?_
      refine at_go ?_
      conv => whnf
      obtain rfl := Option.some.inj hf
      refine ret_c hB wf (fun _ => by rfl) ?_
      exact cv rfl rfl
    · replace hf := ifF h4 hf
      conv => whnf
      refine ⟨⟨rfl, Nat.le_of_ble_eq_true rfl⟩, ?_⟩
      conv => whnf
      refine vcF rfl ?_
      conv => whnf
      refine ⟨⟨rfl, Nat.le_of_ble_eq_true rfl⟩, ?_⟩
      conv => whnf
      refine vcF rfl ?_
      conv => whnf
      refine ⟨rfl, ⟨_, rfl, ?_⟩⟩
      conv => whnf
      refine vcF rfl ?_
      conv => whnf
      refine vcF rfl ?_
      conv => whnf
      refine vcF rfl ?_
      conv => whnf
      refine at_go ?_
      conv => whnf
      refine vcond_intro (t := decide (1000 < (r.Live.Val.size : Int))) (fun h5 => ?_) (fun h6 => ?_)
      · replace hf := ifT h5 hf
        conv => whnf
        refine cut_go ?_
        conv => whnf
        refine at_sub (env' := [(2, (cB false))]) (st' := ⟨hp, 0, g⟩) (sk hB (fw0 wf (by rfl) (fun _ => by rfl)) (by rfl) (by rfl) ⟨cv rfl rfl, trivial⟩) ?_
        refine at_go ?_
        conv => whnf
        obtain rfl := Option.some.inj hf
        refine ret_c hB wf (fun _ => by rfl) ?_
        exact cv rfl rfl
      · replace hf := ifF h6 hf
        conv => whnf
        refine at_sub (env' := [(1, (.ptr 0 0 0 0)), (20, (cB (decide (1000 < (r.Live.Val.size : Int)))))]) (st' := ⟨(upd hp 0 (.row 0 8 T.api_Row [[(cS r.Key), (cS r.Live.Val), (cB r.Live.Dead), (cI r.Live.At), (cI r.Live.End), (cI r.Gone), (cI r.Shade), (.d (.sl 5 (r.Cols.map api_Col.d)))]])), 1, g⟩) (sk hB (fwE (fw0 wf (by rfl) (fun _ => by rfl)) rfl rfl rfl) (by rfl) (by rfl) ⟨cv rfl rfl, cv rfl rfl, trivial⟩) ?_
        refine at_go ?_
        conv => whnf
        refine cut_go ?_
        conv => whnf
        refine cut_go ?_
        conv => whnf
        refine at_go ?_
        conv => whnf
        refine loop_sub (env' := [(1, (.ptr 0 0 0 0)), (3, (cI 0))]) (st' := ⟨(upd hp 0 (.row 0 8 T.api_Row [[(cS r.Key), (cS r.Live.Val), (cB r.Live.Dead), (cI r.Live.At), (cI r.Live.End), (cI r.Gone), (cI r.Shade), (.d (.sl 5 (r.Cols.map api_Col.d)))]])), 1, g⟩) (sk hB (fwE (fw0 wf (by rfl) (fun _ => by rfl)) rfl rfl rfl) (by rfl) (by rfl) ⟨cv rfl rfl, cv rfl rfl, trivial⟩) ?_
        refine loop_f (α := Int) (γ := Unit) (fun (_ : Unit) v1 => [(1, (.ptr 0 0 0 0)), (3, (cI v1))]) (fun (_ : Unit) v1 => ⟨(upd hp 0 (.row 0 8 T.api_Row [[(cS r.Key), (cS r.Live.Val), (cB r.Live.Dead), (cI r.Live.At), (cI r.Live.End), (cI r.Gone), (cI r.Shade), (.d (.sl 5 (r.Cols.map api_Col.d)))]])), 1, g⟩) (fun k s => clerestorylaw00_FewRow.w0 r k s) (fun _ => rfl) ?_ K0 0 () hf
        intro k0 v1 gg hf
        replace hf : clerestorylaw00_FewRow.w0 r (k0 + 1) v1 = some _ := hf
        rw [clerestorylaw00_FewRow.w0] at hf
        try dsimp only
        conv => whnf
        refine cut_go ?_
        conv => whnf
        refine cut_go ?_
        conv => whnf
        refine ⟨⟨rfl, Nat.le_of_ble_eq_true rfl⟩, ?_⟩
        conv => whnf
        refine ⟨rfl, ⟨_, rfl, ?_⟩⟩
        conv => whnf
        refine veq_intro r.Cols.length (by simp) ?_
        conv => whnf
        refine at_go ?_
        conv => whnf
        refine vcond_intro (t := decide (v1 < (r.Cols.length : Int))) (fun h7 => ?_) (fun h8 => ?_)
        · replace hf := ifT h7 hf
          conv => whnf
          refine at_go ?_
          conv => whnf
          refine cut_go ?_
          conv => whnf
          refine cut_go ?_
          conv => whnf
          refine ⟨⟨rfl, Nat.le_of_ble_eq_true rfl⟩, ?_⟩
          conv => whnf
          refine ⟨rfl, ⟨_, rfl, ?_⟩⟩
          obtain ⟨x2, h9, hf⟩ := bnd hf
          conv => whnf
          refine ⟨⟨rfl, Nat.zero_lt_succ _⟩, at_nn h9, ⟨_, map_get (at_get h9), ?_⟩⟩
          conv => whnf
          refine ⟨Nat.le_of_ble_eq_true rfl, ?_⟩
          conv => whnf
          refine vcond_intro (t := decide (300 < (x2.Name.size : Int))) (fun h10 => ?_) (fun h11 => ?_)
          · replace hf := ifT h10 hf
            conv => whnf
            refine vcT rfl ?_
            conv => whnf
            refine vcT rfl ?_
            conv => whnf
            refine vcT rfl ?_
            conv => whnf
            refine vcT rfl ?_
            conv => whnf
            refine vcT rfl ?_
            conv => whnf
            refine vcT rfl ?_
            conv => whnf
            refine vcT rfl ?_
            conv => whnf
            refine vcT rfl ?_
            conv => whnf
            refine vcT rfl ?_
            conv => whnf
            refine at_sub (env' := [(1, (.ptr 0 0 0 0)), (3, (cI v1)), (46, (cB true))]) (st' := ⟨(upd hp 0 (.row 0 8 T.api_Row [[(cS r.Key), (cS r.Live.Val), (cB r.Live.Dead), (cI r.Live.At), (cI r.Live.End), (cI r.Gone), (cI r.Shade), (.d (.sl 5 (r.Cols.map api_Col.d)))]])), 1, g⟩) (sk hB (fwE (fw0 wf (by rfl) (fun _ => by rfl)) rfl rfl rfl) (by rfl) (by rfl) ⟨cv rfl rfl, cv rfl rfl, cv rfl rfl, trivial⟩) ?_
            refine at_go ?_
            conv => whnf
            refine vcT rfl ?_
            conv => whnf
            refine cut_go ?_
            conv => whnf
            refine at_go ?_
            conv => whnf
            obtain rfl := Option.some.inj hf
            refine ret_c hB wf (fun _ => by rfl) ?_
            exact cv rfl rfl
          · replace hf := ifF h11 hf
            conv => whnf
            refine ⟨⟨rfl, Nat.le_of_ble_eq_true rfl⟩, ?_⟩
            conv => whnf
            refine vcF rfl ?_
            conv => whnf
            refine ⟨rfl, ⟨_, rfl, ?_⟩⟩
            conv => whnf
            refine vcF rfl ?_
            conv => whnf
            refine vcF rfl ?_
            conv => whnf
            refine ⟨⟨rfl, Nat.zero_lt_succ _⟩, at_nn h9, ⟨_, map_get (at_get h9), ?_⟩⟩
            conv => whnf
            refine vcF rfl ?_
            conv => whnf
            refine ⟨Nat.le_of_ble_eq_true rfl, ?_⟩
            conv => whnf
            refine vcF rfl ?_
            conv => whnf
            refine ⟨Nat.le_of_ble_eq_true rfl, ?_⟩
            conv => whnf
            refine vcF rfl ?_
            conv => whnf
            refine vcF rfl ?_
            conv => whnf
            refine vcF rfl ?_
            conv => whnf
            refine vcF rfl ?_
            conv => whnf
            refine at_sub (env' := [(1, (.ptr 0 0 0 0)), (3, (cI v1)), (46, (cB (decide (300 < (x2.Cell.Val.size : Int)))))]) (st' := ⟨(upd hp 0 (.row 0 8 T.api_Row [[(cS r.Key), (cS r.Live.Val), (cB r.Live.Dead), (cI r.Live.At), (cI r.Live.End), (cI r.Gone), (cI r.Shade), (.d (.sl 5 (r.Cols.map api_Col.d)))]])), 1, g⟩) (sk hB (fwE (fw0 wf (by rfl) (fun _ => by rfl)) rfl rfl rfl) (by rfl) (by rfl) ⟨cv rfl rfl, cv rfl rfl, cv rfl rfl, trivial⟩) ?_
            refine at_go ?_
            conv => whnf
            refine vcond_intro (t := decide (300 < (x2.Cell.Val.size : Int))) (fun h12 => ?_) (fun h13 => ?_)
            · replace hf := ifT h12 hf
              conv => whnf
              refine cut_go ?_
              conv => whnf
              refine at_go ?_
              conv => whnf
              obtain rfl := Option.some.inj hf
              refine ret_c hB wf (fun _ => by rfl) ?_
              exact cv rfl rfl
            · replace hf := ifF h13 hf
              conv => whnf
              refine at_go ?_
              conv => whnf
              refine veq_intro (IntKind.i64.wrap (v1 + 1)) rfl ?_
              conv => whnf
              exact ⟨IntKind.i64.wrap (v1 + 1), hf, (), sk hB (fwE (fw0 wf (by rfl) (fun _ => by rfl)) rfl rfl rfl) (by rfl) (by rfl) ⟨cv rfl rfl, cv rfl rfl, trivial⟩⟩
        · replace hf := ifF h8 hf
          conv => whnf
          refine at_go ?_
          conv => whnf
          refine cut_go ?_
          conv => whnf
          refine at_sub (env' := [(2, (cB true))]) (st' := ⟨hp, 0, g⟩) (sk hB (fw0 wf (by rfl) (fun _ => by rfl)) (by rfl) (by rfl) ⟨cv rfl rfl, trivial⟩) ?_
          refine at_go ?_
          conv => whnf
          obtain rfl := Option.some.inj hf
          refine ret_c hB wf (fun _ => by rfl) ?_
          exact cv rfl rfl

noncomputable def clerestorylaw00_FewPart.w0 (p : api_Part) : Nat → Int → Option (Bool)
  | 0, _ => none
  | k0 + 1, v1 =>
    if (decide (v1 < (p.Rows.length : Int))) = true then
      (at? p.Rows v1).bind fun x2 =>
      (clerestorylaw00_FewRow.f x2).bind fun x3 =>
      if (!x3) = true then
        some false
      else
      clerestorylaw00_FewPart.w0 p k0 (IntKind.i64.wrap (v1 + 1))
    else
    some true

noncomputable def clerestorylaw00_FewPart.f (p : api_Part) (most : Int) : Option (Bool) :=
  if (decide (300 < (p.Key.size : Int))) = true then
    some false
  else
  if (decide (most < (p.Rows.length : Int))) = true then
    some false
  else
  clerestorylaw00_FewPart.w0 p K0 0

set_option maxHeartbeats 4000000 in
theorem clerestorylaw00_FewPart.pure (p : api_Part) (most : Int) (res : Bool) (hf : clerestorylaw00_FewPart.f p most = some res) : Pure prog F.clerestorylaw00_FewPart [(agd (api_Part.d p)), (cI most)] (cB res) := by
  refine pure_fn clerestorylaw00_FewPart.res (Nat.le_of_ble_eq_true rfl) (fun _ => rfl) (fun _ => rfl) fun B hp g hB wf => ?_
  rw [clerestorylaw00_FewPart.f] at hf
  conv => whnf
  refine cut_go ?_
  conv => whnf
  refine at_go ?_
  conv => whnf
  refine cut_go ?_
  conv => whnf
  refine cut_go ?_
  conv => whnf
  refine ⟨⟨rfl, Nat.le_of_ble_eq_true rfl⟩, ?_⟩
  conv => whnf
  refine ⟨rfl, ⟨_, rfl, ?_⟩⟩
  conv => whnf
  refine vcond_intro (t := decide (300 < (p.Key.size : Int))) (fun h1 => ?_) (fun h2 => ?_)
  · replace hf := ifT h1 hf
    conv => whnf
    refine vcT rfl ?_
    conv => whnf
    refine vcT rfl ?_
    conv => whnf
    refine vcT rfl ?_
    conv => whnf
    refine vcT rfl ?_
    conv => whnf
    refine vcT rfl ?_
    conv => whnf
    refine at_go ?_
    conv => whnf
    refine vcT rfl ?_
    conv => whnf
    refine cut_go ?_
    conv => whnf
    refine at_sub (env' := [(4, (cB false))]) (st' := ⟨hp, 0, g⟩) (sk hB (fw0 wf (by rfl) (fun _ => by rfl)) (by rfl) (by rfl) ⟨cv rfl rfl, trivial⟩) ?_
    refine at_go ?_
    conv => whnf
    obtain rfl := Option.some.inj hf
    refine ret_c hB wf (fun _ => by rfl) ?_
    exact cv rfl rfl
  · replace hf := ifF h2 hf
    conv => whnf
    refine ⟨⟨rfl, Nat.le_of_ble_eq_true rfl⟩, ?_⟩
    conv => whnf
    refine vcF rfl ?_
    conv => whnf
    refine ⟨rfl, ⟨_, rfl, ?_⟩⟩
    conv => whnf
    refine vcF rfl ?_
    conv => whnf
    refine veq_intro p.Rows.length (by simp) ?_
    conv => whnf
    refine vcF rfl ?_
    conv => whnf
    refine vcF rfl ?_
    conv => whnf
    refine vcF rfl ?_
    conv => whnf
    refine at_go ?_
    conv => whnf
    refine vcond_intro (t := decide (most < (p.Rows.length : Int))) (fun h3 => ?_) (fun h4 => ?_)
    · replace hf := ifT h3 hf
      conv => whnf
      refine cut_go ?_
      conv => whnf
      refine at_sub (env' := [(4, (cB false))]) (st' := ⟨hp, 0, g⟩) (sk hB (fw0 wf (by rfl) (fun _ => by rfl)) (by rfl) (by rfl) ⟨cv rfl rfl, trivial⟩) ?_
      refine at_go ?_
      conv => whnf
      obtain rfl := Option.some.inj hf
      refine ret_c hB wf (fun _ => by rfl) ?_
      exact cv rfl rfl
    · replace hf := ifF h4 hf
      conv => whnf
      refine at_sub (env' := [(2, (.ptr 0 0 0 0)), (16, (cB (decide (most < (p.Rows.length : Int)))))]) (st' := ⟨(upd hp 0 (.row 0 3 T.api_Part [[(cS p.Key), (cI p.Gone), (.d (.sl 8 (p.Rows.map api_Row.d)))]])), 1, g⟩) (sk hB (fwE (fw0 wf (by rfl) (fun _ => by rfl)) rfl rfl rfl) (by rfl) (by rfl) ⟨cv rfl rfl, cv rfl rfl, trivial⟩) ?_
      refine at_go ?_
      conv => whnf
      refine cut_go ?_
      conv => whnf
      refine cut_go ?_
      conv => whnf
      refine at_go ?_
      conv => whnf
      refine loop_sub (env' := [(2, (.ptr 0 0 0 0)), (5, (cI 0))]) (st' := ⟨(upd hp 0 (.row 0 3 T.api_Part [[(cS p.Key), (cI p.Gone), (.d (.sl 8 (p.Rows.map api_Row.d)))]])), 1, g⟩) (sk hB (fwE (fw0 wf (by rfl) (fun _ => by rfl)) rfl rfl rfl) (by rfl) (by rfl) ⟨cv rfl rfl, cv rfl rfl, trivial⟩) ?_
      refine loop_f (α := Int) (γ := Unit) (fun (_ : Unit) v1 => [(2, (.ptr 0 0 0 0)), (5, (cI v1))]) (fun (_ : Unit) v1 => ⟨(upd hp 0 (.row 0 3 T.api_Part [[(cS p.Key), (cI p.Gone), (.d (.sl 8 (p.Rows.map api_Row.d)))]])), 1, g⟩) (fun k s => clerestorylaw00_FewPart.w0 p k s) (fun _ => rfl) ?_ K0 0 () hf
      intro k0 v1 gg hf
      replace hf : clerestorylaw00_FewPart.w0 p (k0 + 1) v1 = some _ := hf
      rw [clerestorylaw00_FewPart.w0] at hf
      try dsimp only
      conv => whnf
      refine cut_go ?_
      conv => whnf
      refine cut_go ?_
      conv => whnf
      refine ⟨⟨rfl, Nat.le_of_ble_eq_true rfl⟩, ?_⟩
      conv => whnf
      refine ⟨rfl, ⟨_, rfl, ?_⟩⟩
      conv => whnf
      refine veq_intro p.Rows.length (by simp) ?_
      conv => whnf
      refine at_go ?_
      conv => whnf
      refine vcond_intro (t := decide (v1 < (p.Rows.length : Int))) (fun h5 => ?_) (fun h6 => ?_)
      · replace hf := ifT h5 hf
        conv => whnf
        refine at_go ?_
        conv => whnf
        refine cut_go ?_
        conv => whnf
        refine cut_go ?_
        conv => whnf
        refine ⟨⟨rfl, Nat.le_of_ble_eq_true rfl⟩, ?_⟩
        conv => whnf
        refine ⟨rfl, ⟨_, rfl, ?_⟩⟩
        obtain ⟨x2, h7, hf⟩ := bnd hf
        conv => whnf
        refine ⟨⟨rfl, Nat.zero_lt_succ _⟩, at_nn h7, ⟨_, map_get (at_get h7), ?_⟩⟩
        obtain ⟨x3, h8, hf⟩ := bnd hf
        conv => whnf
        refine (clerestorylaw00_FewRow.pure x2 x3 h8).call ?_
        conv => whnf
        refine at_sub (env' := [(2, (.ptr 0 0 0 0)), (5, (cI v1)), (30, (cB (!x3)))]) (st' := ⟨(upd hp 0 (.row 0 3 T.api_Part [[(cS p.Key), (cI p.Gone), (.d (.sl 8 (p.Rows.map api_Row.d)))]])), 1, g⟩) (sk hB (fwE (fw0 wf (by rfl) (fun _ => by rfl)) rfl rfl rfl) (by rfl) (by rfl) ⟨cv rfl rfl, cv rfl rfl, cv rfl rfl, trivial⟩) ?_
        refine at_go ?_
        conv => whnf
        refine vcond_intro (t := !x3) (fun h9 => ?_) (fun h10 => ?_)
        · replace hf := ifT h9 hf
          conv => whnf
          refine cut_go ?_
          conv => whnf
          refine at_go ?_
          conv => whnf
          obtain rfl := Option.some.inj hf
          refine ret_c hB wf (fun _ => by rfl) ?_
          exact cv rfl rfl
        · replace hf := ifF h10 hf
          conv => whnf
          refine at_go ?_
          conv => whnf
          refine veq_intro (IntKind.i64.wrap (v1 + 1)) rfl ?_
          conv => whnf
          exact ⟨IntKind.i64.wrap (v1 + 1), hf, (), sk hB (fwE (fw0 wf (by rfl) (fun _ => by rfl)) rfl rfl rfl) (by rfl) (by rfl) ⟨cv rfl rfl, cv rfl rfl, trivial⟩⟩
      · replace hf := ifF h6 hf
        conv => whnf
        refine at_go ?_
        conv => whnf
        refine cut_go ?_
        conv => whnf
        refine at_sub (env' := [(4, (cB true))]) (st' := ⟨hp, 0, g⟩) (sk hB (fw0 wf (by rfl) (fun _ => by rfl)) (by rfl) (by rfl) ⟨cv rfl rfl, trivial⟩) ?_
        refine at_go ?_
        conv => whnf
        obtain rfl := Option.some.inj hf
        refine ret_c hB wf (fun _ => by rfl) ?_
        exact cv rfl rfl

noncomputable def clerestorylaw00_View_1.f (name : ByteArray) : Option (api_Column) :=
  some (⟨name, 1⟩ : api_Column)

set_option maxHeartbeats 4000000 in
theorem clerestorylaw00_View_1.pure (name : ByteArray) (res : api_Column) (hf : clerestorylaw00_View_1.f name = some res) : Pure prog F.clerestorylaw00_View_1 [(cS name)] (agd (api_Column.d res)) := by
  refine pure_fn clerestorylaw00_View_1.res (Nat.le_of_ble_eq_true rfl) (fun _ => rfl) (fun _ => rfl) fun B hp g hB wf => ?_
  rw [clerestorylaw00_View_1.f] at hf
  conv => whnf
  refine cut_go ?_
  conv => whnf
  refine at_go ?_
  conv => whnf
  refine cut_go ?_
  conv => whnf
  refine ⟨⟨rfl, rfl⟩, ⟨_, rfl, Nat.le_of_ble_eq_true rfl, veq_intro [[(cS name), (cI 1)]] rfl ?_⟩⟩
  conv => whnf
  refine at_go ?_
  conv => whnf
  obtain rfl := Option.some.inj hf
  refine ret_c hB wf (fun _ => by rfl) ?_
  exact cv rfl rfl

noncomputable def clerestorylaw00_View.f : Option (api_Table × api_View) :=
  (clerestorylaw00_View_1.f (bs [112])).bind fun x1 =>
  (clerestorylaw00_View_1.f (bs [97])).bind fun x2 =>
  (clerestorylaw00_View_1.f (bs [98])).bind fun x3 =>
  (clerestorylaw00_View_1.f (bs [99])).bind fun x4 =>
  (clerestorylaw00_View_1.f (bs [100])).bind fun x5 =>
  some ((⟨(bs [116]), 1, x1, (⟨(bs [107]), 2⟩ : api_Column), [x2, x3, x4, x5]⟩ : api_Table), (⟨(bs [118]), 2, (bs [116]), (bs [97]), [(bs [98]), (bs [100])]⟩ : api_View))

set_option maxHeartbeats 4000000 in
theorem clerestorylaw00_View.pure (res : api_Table × api_View) (hf : clerestorylaw00_View.f = some res) : Pure prog F.clerestorylaw00_View [] (.tup [(agd (api_Table.d res.1)), (agd (api_View.d res.2))]) := by
  refine pure_fn clerestorylaw00_View.res (Nat.le_of_ble_eq_true rfl) (fun _ => rfl) (fun _ => rfl) fun B hp g hB wf => ?_
  rw [clerestorylaw00_View.f] at hf
  conv => whnf
  refine cut_go ?_
  conv => whnf
  refine at_go ?_
  conv => whnf
  refine cut_go ?_
  conv => whnf
  refine at_go ?_
  conv => whnf
  refine cut_go ?_
  obtain ⟨x1, h1, hf⟩ := bnd hf
  conv => whnf
  refine (clerestorylaw00_View_1.pure (bs [112]) x1 h1).call ?_
  obtain ⟨x2, h2, hf⟩ := bnd hf
  conv => whnf
  refine (clerestorylaw00_View_1.pure (bs [97]) x2 h2).call ?_
  obtain ⟨x3, h3, hf⟩ := bnd hf
  conv => whnf
  refine (clerestorylaw00_View_1.pure (bs [98]) x3 h3).call ?_
  obtain ⟨x4, h4, hf⟩ := bnd hf
  conv => whnf
  refine (clerestorylaw00_View_1.pure (bs [99]) x4 h4).call ?_
  obtain ⟨x5, h5, hf⟩ := bnd hf
  conv => whnf
  refine (clerestorylaw00_View_1.pure (bs [100]) x5 h5).call ?_
  conv => whnf
  refine veq_intro (dataRow api_Column.d [x2, x3, x4, x5]) rfl ?_
  conv => whnf
  refine ⟨⟨rfl, rfl⟩, ⟨_, rfl, Nat.le_of_ble_eq_true rfl, veq_intro [[(cS (bs [116])), (cI 1), (cS x1.Name), (cI x1.Type_), (cS (bs [107])), (cI 2), (.row 2 0 0 4)]] rfl ?_⟩⟩
  conv => whnf
  refine at_sub (env' := [(0, (.ptr 0 0 0 0)), (1, (.ptr 1 0 0 0)), (3, (.ptr 3 0 0 0))]) (st' := ⟨(upd (upd (upd (upd hp 0 (.row 0 7 T.api_Table [[(cS (bs [])), (cI 0), (cS (bs [])), (cI 0), (cS (bs [])), (cI 0), nilS]])) 1 (.row 0 5 T.api_View [[(cS (bs [])), (cI 0), (cS (bs [])), (cS (bs [])), nilS]])) 2 (.row 0 2 T.api_Column (dataRow api_Column.d [x2, x3, x4, x5]))) 3 (.row 0 7 T.api_Table [[(cS (bs [116])), (cI 1), (cS x1.Name), (cI x1.Type_), (cS (bs [107])), (cI 2), (.row 2 0 0 4)]])), 4, g⟩) (sk hB (fwE (fwD (fwE (fwE (fw0 wf (by rfl) (fun _ => by rfl)) rfl rfl rfl) rfl rfl rfl) rfl rfl rfl (fun _ => rfl)) rfl rfl rfl) (by rfl) (by rfl) ⟨cv rfl rfl, cv rfl rfl, cv rfl rfl, trivial⟩) ?_
  refine at_go ?_
  conv => whnf
  refine cut_go ?_
  conv => whnf
  refine ⟨rfl, ⟨_, rfl, ?_⟩⟩
  conv => whnf
  refine veq_intro (dataRow strD [(bs [98]), (bs [100])]) rfl ?_
  conv => whnf
  refine ⟨⟨rfl, rfl⟩, ⟨_, rfl, Nat.le_of_ble_eq_true rfl, veq_intro [[(cS (bs [116])), (cI 1), (cS x1.Name), (cI x1.Type_), (cS (bs [107])), (cI 2), (.row 2 0 0 4)]] rfl ?_⟩⟩
  conv => whnf
  refine ⟨⟨rfl, rfl⟩, ⟨_, rfl, Nat.le_of_ble_eq_true rfl, veq_intro [[(cS (bs [118])), (cI 2), (cS (bs [116])), (cS (bs [97])), (.row 4 0 0 2)]] rfl ?_⟩⟩
  conv => whnf
  refine at_go ?_
  conv => whnf
  obtain rfl := Option.some.inj hf
  refine ret_c hB wf (fun _ => by rfl) ?_
  exact conv_tup ⟨conv_agg ⟨cv rfl rfl, cv rfl rfl, cv rfl rfl, cv rfl rfl, cv rfl rfl, cv rfl rfl, cvz (enc := api_Column.d) (l := [x2, x3, x4, x5]) rfl (wfn wf (by rfl)) rfl rfl, trivial⟩, conv_agg ⟨cv rfl rfl, cv rfl rfl, cv rfl rfl, cv rfl rfl, cvz (enc := strD) (l := [(bs [98]), (bs [100])]) rfl (wfn wf (by rfl)) rfl rfl, trivial⟩, trivial⟩

noncomputable def order_GetText.w0 (b : List UInt8) : Nat → Int → List UInt8 → Option (ByteArray × Int × Int)
  | 0, _, _ => none
  | k0 + 1, v1, v3 =>
    if (decide (v1 < (b.length : Int))) = true then
      (at? b v1).bind fun x5 =>
      if (decide ((x5.toNat : Int) ≠ 0)) = true then
        if (v3 ++ [x5]).length ≤ 4294967296 then
        order_GetText.w0 b k0 (IntKind.i64.wrap (v1 + 1)) (v3 ++ [x5])
        else none
      else
      if (decide ((IntKind.i64.wrap (v1 + 1)) = (b.length : Int))) = true then
        some ((bs []), 0, 8)
      else
      (at? b (IntKind.i64.wrap (v1 + 1))).bind fun x6 =>
      if (decide ((x6.toNat : Int) = 255)) = true then
        if (v3 ++ [0]).length ≤ 4294967296 then
        order_GetText.w0 b k0 (IntKind.i64.wrap ((IntKind.i64.wrap (v1 + 1)) + 1)) (v3 ++ [0])
        else none
      else
      if (decide ((x6.toNat : Int) = 1)) = true then
        if v3.length ≤ 9223372036854775807 then
        some (bs v3, IntKind.i64.wrap ((IntKind.i64.wrap (v1 + 1)) + 1), 0)
        else none
      else
      some ((bs []), 0, 6)
    else
    some ((bs []), 0, 8)

noncomputable def order_GetText.f (b : List UInt8) (at_ : Int) : Option (ByteArray × Int × Int) :=
  if (decide (at_ < 0)) = true then
    some ((bs []), 0, 1)
  else
  if (decide ((b.length : Int) < at_)) = true then
    some ((bs []), 0, 1)
  else
  order_GetText.w0 b K0 at_ ([] : List UInt8)

set_option maxHeartbeats 4000000 in
theorem order_GetText.pure (b : List UInt8) (at_ : Int) (res : ByteArray × Int × Int) (hf : order_GetText.f b at_ = some res) : Pure prog F.order_GetText [(.d (.sl 1 (b.map byteD))), (cI at_)] (.tup [(cS res.1), (cI res.2.1), (cI res.2.2)]) := by
  refine pure_fn order_GetText.res (Nat.le_of_ble_eq_true rfl) (fun _ => rfl) (fun _ => rfl) fun B hp g hB wf => ?_
  rw [order_GetText.f] at hf
  conv => whnf
  refine cut_go ?_
  conv => whnf
  refine at_go ?_
  conv => whnf
  refine cut_go ?_
  conv => whnf
  refine cut_go ?_
  conv => whnf
  refine vcond_intro (t := decide (at_ < 0)) (fun h1 => ?_) (fun h2 => ?_)
  · replace hf := ifT h1 hf
    conv => whnf
    refine vcT rfl ?_
    conv => whnf
    refine vcT rfl ?_
    conv => whnf
    refine vcT rfl ?_
    conv => whnf
    refine vcT rfl ?_
    conv => whnf
    refine at_go ?_
    conv => whnf
    refine vcT rfl ?_
    conv => whnf
    refine cut_go ?_
    conv => whnf
    refine at_sub (env' := [(4, (cS (bs []))), (5, (cI 0)), (6, (cI 1))]) (st' := ⟨hp, 0, g⟩) (sk hB (fw0 wf (by rfl) (fun _ => by rfl)) (by rfl) (by rfl) ⟨cv rfl rfl, cv rfl rfl, cv rfl rfl, trivial⟩) ?_
    refine at_go ?_
    conv => whnf
    obtain rfl := Option.some.inj hf
    refine ret_c hB wf (fun _ => by rfl) ?_
    exact cv rfl rfl
  · replace hf := ifF h2 hf
    conv => whnf
    refine vcF rfl ?_
    conv => whnf
    refine vcF rfl ?_
    conv => whnf
    refine veq_intro b.length (by simp) ?_
    conv => whnf
    refine vcF rfl ?_
    conv => whnf
    refine vcF rfl ?_
    conv => whnf
    refine at_go ?_
    conv => whnf
    refine vcond_intro (t := decide ((b.length : Int) < at_)) (fun h3 => ?_) (fun h4 => ?_)
    · replace hf := ifT h3 hf
      conv => whnf
      refine cut_go ?_
      conv => whnf
      refine at_sub (env' := [(4, (cS (bs []))), (5, (cI 0)), (6, (cI 1))]) (st' := ⟨hp, 0, g⟩) (sk hB (fw0 wf (by rfl) (fun _ => by rfl)) (by rfl) (by rfl) ⟨cv rfl rfl, cv rfl rfl, cv rfl rfl, trivial⟩) ?_
      refine at_go ?_
      conv => whnf
      obtain rfl := Option.some.inj hf
      refine ret_c hB wf (fun _ => by rfl) ?_
      exact cv rfl rfl
    · replace hf := ifF h4 hf
      conv => whnf
      refine at_sub (env' := [(0, (.d (.sl 1 (b.map byteD)))), (1, (cI at_)), (16, (cB (decide ((b.length : Int) < at_))))]) (st' := ⟨hp, 0, g⟩) (sk hB (fw0 wf (by rfl) (fun _ => by rfl)) (by rfl) (by rfl) ⟨cv rfl rfl, cv rfl rfl, cv rfl rfl, trivial⟩) ?_
      refine at_go ?_
      conv => whnf
      refine cut_go ?_
      conv => whnf
      refine at_go ?_
      conv => whnf
      refine cut_go ?_
      conv => whnf
      refine cut_go ?_
      conv => whnf
      refine at_go ?_
      conv => whnf
      refine loop_sub (sph 0 1 T.uint8) ?_
      refine loop_sub (env' := [(0, (.d (.sl 1 (b.map byteD)))), (7, (.ptr 0 0 0 0)), (8, (cI at_))]) (st' := ⟨(upd (upd hp 0 (.row 0 2 T.strings_Builder [[(cond false (.ptr 0 0 0 0) (.d (.v (.pointer none)))), (.row 1 0 0 ([] : List UInt8).length)]])) 1 (.row 0 1 T.uint8 (dataRow byteD ([] : List UInt8)))), 2, g⟩) (sk hB (fwD (fwC (fw0 wf (by rfl) (fun _ => by rfl)) rfl rfl ⟨⟨cv rfl rfl, .ph (of_decide_eq_true rfl) rfl (Nat.zero_le _), trivial⟩, trivial⟩ rfl) rfl rfl rfl (fun _ => rfl)) (by rfl) (by rfl) ⟨cv rfl rfl, cv rfl rfl, cv rfl rfl, trivial⟩) ?_
      refine loop_f (α := Int × (List UInt8)) (γ := Bool × Nat) (fun (v2, v4) (v1, v3) => [(0, (.d (.sl 1 (b.map byteD)))), (7, (.ptr 0 0 0 0)), (8, (cI v1))]) (fun (v2, v4) (v1, v3) => ⟨(upd (upd hp 0 (.row 0 2 T.strings_Builder [[(cond v2 (.ptr 0 0 0 0) (.d (.v (.pointer none)))), (.row 1 v4 0 v3.length)]])) 1 (.row v4 1 T.uint8 (dataRow byteD v3))), 2, g⟩) (fun k s => order_GetText.w0 b k s.1 s.2) (fun _ => rfl) ?_ K0 (at_, ([] : List UInt8)) (false, 0) hf
      intro k0 y gg hf
      obtain ⟨v1, v3⟩ := y
      obtain ⟨v2, v4⟩ := gg
      replace hf : order_GetText.w0 b (k0 + 1) v1 v3 = some _ := hf
      rw [order_GetText.w0] at hf
      try dsimp only
      conv => whnf
      refine cut_go ?_
      conv => whnf
      refine cut_go ?_
      conv => whnf
      refine veq_intro b.length (by simp) ?_
      conv => whnf
      refine at_go ?_
      conv => whnf
      refine vcond_intro (t := decide (v1 < (b.length : Int))) (fun h5 => ?_) (fun h6 => ?_)
      · replace hf := ifT h5 hf
        conv => whnf
        refine at_go ?_
        conv => whnf
        refine cut_go ?_
        conv => whnf
        refine cut_go ?_
        conv => whnf
        refine cut_go ?_
        obtain ⟨x5, h7, hf⟩ := bnd hf
        conv => whnf
        refine ⟨⟨rfl, Nat.zero_lt_succ _⟩, at_nn h7, ⟨_, map_get (at_get h7), ?_⟩⟩
        conv => whnf
        refine at_sub (env' := [(0, (.d (.sl 1 (b.map byteD)))), (7, (.ptr 0 0 0 0)), (8, (cI v1)), (28, (cB (decide ((x5.toNat : Int) ≠ 0))))]) (st' := ⟨(upd (upd hp 0 (.row 0 2 T.strings_Builder [[(cond v2 (.ptr 0 0 0 0) (.d (.v (.pointer none)))), (.row 1 v4 0 v3.length)]])) 1 (.row v4 1 T.uint8 (dataRow byteD v3))), 2, g⟩) (sk hB (fwD (fwE (fw0 wf (by rfl) (fun _ => by rfl)) rfl rfl (by cases v2 <;> rfl)) rfl rfl rfl (fun _ => rfl)) (by rfl) (by rfl) ⟨cv rfl rfl, cv rfl rfl, cv rfl rfl, cv rfl rfl, trivial⟩) ?_
        refine at_go ?_
        conv => whnf
        refine vcond_intro (t := decide ((x5.toNat : Int) ≠ 0)) (fun h8 => ?_) (fun h9 => ?_)
        · replace hf := ifT h8 hf
          conv => whnf
          refine cut_go ?_
          conv => whnf
          refine ⟨⟨rfl, Nat.zero_lt_succ _⟩, at_nn h7, ⟨_, map_get (at_get h7), ?_⟩⟩
          conv => whnf
          refine inline_fn __strings_Builder__WriteByte.res (Nat.le_of_ble_eq_true rfl) (fun B1 hB1 => ?_)
          conv => whnf
          refine cut_go ?_
          conv => whnf
          refine at_go ?_
          conv => whnf
          refine cut_go ?_
          conv => whnf
          refine inline_fn __strings_Builder__copyCheck.res (Nat.le_of_ble_eq_true rfl) (fun B2 hB2 => ?_)
          conv => whnf
          refine cut_go ?_
          conv => whnf
          refine ⟨rfl, ?_⟩
          conv => whnf
          refine ⟨⟨rfl, Nat.le_of_ble_eq_true rfl⟩, ?_⟩
          rcases btf v2 with hc | hc
          · subst hc
            conv => whnf
            refine ⟨rfl, ⟨_, rfl, ?_⟩⟩
            conv => whnf
            refine at_go ?_
            conv => whnf
            refine vcF rfl ?_
            conv => whnf
            refine cut_go ?_
            conv => whnf
            refine ⟨rfl, ?_⟩
            conv => whnf
            refine ⟨⟨rfl, Nat.le_of_ble_eq_true rfl⟩, ?_⟩
            conv => whnf
            refine ⟨rfl, ⟨_, rfl, ?_⟩⟩
            conv => whnf
            refine at_go ?_
            conv => whnf
            refine vcF rfl ?_
            conv => whnf
            refine ret_now ?_
            conv => whnf
            refine at_go ?_
            conv => whnf
            refine cut_go ?_
            conv => whnf
            refine ⟨rfl, ?_⟩
            conv => whnf
            refine ⟨⟨rfl, Nat.le_of_ble_eq_true rfl⟩, ?_⟩
            conv => whnf
            refine ⟨rfl, ⟨_, rfl, ?_⟩⟩
            conv => whnf
            refine veq_intro (dataRow byteD [x5]) rfl ?_
            conv => whnf
            refine ⟨rfl, ?_⟩
            obtain ⟨h10, hf⟩ := grd hf
            conv => whnf
            refine veq_intro (dataRow byteD [x5]) rfl ⟨row_wid (enc := byteD) (fun _ => rfl) _, ?_⟩
            conv => whnf
            refine ⟨⟨rfl, rfl, rfl⟩, row_len _ _, by simpa using h10, veq_intro (dataRow byteD (v3 ++ [x5])) (row_app _ _ _) (veq_intro (v3 ++ [x5]).length (row_appl _ _ _) ?_)⟩
            conv => whnf
            refine ⟨rfl, ?_⟩
            conv => whnf
            refine ⟨⟨rfl, Nat.le_of_ble_eq_true rfl⟩, ?_⟩
            conv => whnf
            refine ⟨⟨rfl, rfl⟩, ⟨_, rfl, Nat.le_of_ble_eq_true rfl, veq_intro [[(.ptr 0 0 0 0), (.row 1 (v4 + 1) 0 (v3 ++ [x5]).length)]] rfl ?_⟩⟩
            conv => whnf
            refine at_sub (env' := []) (st' := ⟨(upd (upd hp 0 (.row 0 2 T.strings_Builder [[(.ptr 0 0 0 0), (.row 1 (v4 + 1) 0 (v3 ++ [x5]).length)]])) 1 (.row (v4 + 1) 1 T.uint8 (dataRow byteD (v3 ++ [x5])))), 2, g⟩) (sk hB1 (fwD (fwE (fw0 wf (by rfl) (fun _ => by rfl)) rfl rfl rfl) rfl rfl rfl (fun _ => rfl)) (by rfl) (by rfl) trivial) ?_
            refine at_go ?_
            conv => whnf
            refine cut_go ?_
            conv => whnf
            refine at_go ?_
            conv => whnf
            refine ret_now ?_
            conv => whnf
            refine at_go ?_
            conv => whnf
            refine at_go ?_
            conv => whnf
            refine veq_intro (IntKind.i64.wrap (v1 + 1)) rfl ?_
            conv => whnf
            exact ⟨(IntKind.i64.wrap (v1 + 1), v3 ++ [x5]), hf, (true, (v4 + 1)), sk hB (fwD (fwC (fw0 wf (by rfl) (fun _ => by rfl)) rfl rfl ⟨⟨cv rfl rfl, cv rfl rfl, trivial⟩, trivial⟩ rfl) rfl rfl rfl (fun _ => rfl)) (by rfl) (by rfl) ⟨cv rfl rfl, cv rfl rfl, cv rfl rfl, trivial⟩⟩
          · subst hc
            conv => whnf
            refine ⟨rfl, ⟨_, rfl, ?_⟩⟩
            conv => whnf
            refine at_go ?_
            conv => whnf
            refine vcT rfl ?_
            conv => whnf
            refine ⟨⟨rfl, Nat.le_of_ble_eq_true rfl⟩, ?_⟩
            conv => whnf
            refine ⟨⟨rfl, rfl, rfl, rfl⟩, ?_⟩
            conv => whnf
            refine ⟨rfl, ?_⟩
            conv => whnf
            refine ⟨⟨rfl, Nat.le_of_ble_eq_true rfl⟩, ?_⟩
            conv => whnf
            refine ⟨⟨rfl, rfl⟩, ⟨_, rfl, Nat.le_of_ble_eq_true rfl, veq_intro [[(.ptr 0 0 0 0), (.row 1 v4 0 v3.length)]] rfl ?_⟩⟩
            conv => whnf
            refine ret_now ?_
            conv => whnf
            refine at_go ?_
            conv => whnf
            refine cut_go ?_
            conv => whnf
            refine ⟨rfl, ?_⟩
            conv => whnf
            refine ⟨⟨rfl, Nat.le_of_ble_eq_true rfl⟩, ?_⟩
            conv => whnf
            refine ⟨rfl, ⟨_, rfl, ?_⟩⟩
            conv => whnf
            refine veq_intro (dataRow byteD [x5]) rfl ?_
            conv => whnf
            refine ⟨rfl, ?_⟩
            obtain ⟨h11, hf⟩ := grd hf
            conv => whnf
            refine veq_intro (dataRow byteD [x5]) rfl ⟨row_wid (enc := byteD) (fun _ => rfl) _, ?_⟩
            conv => whnf
            refine ⟨⟨rfl, rfl, rfl⟩, row_len _ _, by simpa using h11, veq_intro (dataRow byteD (v3 ++ [x5])) (row_app _ _ _) (veq_intro (v3 ++ [x5]).length (row_appl _ _ _) ?_)⟩
            conv => whnf
            refine ⟨rfl, ?_⟩
            conv => whnf
            refine ⟨⟨rfl, Nat.le_of_ble_eq_true rfl⟩, ?_⟩
            conv => whnf
            refine ⟨⟨rfl, rfl⟩, ⟨_, rfl, Nat.le_of_ble_eq_true rfl, veq_intro [[(.ptr 0 0 0 0), (.row 1 (v4 + 1) 0 (v3 ++ [x5]).length)]] rfl ?_⟩⟩
            conv => whnf
            refine at_sub (env' := []) (st' := ⟨(upd (upd hp 0 (.row 0 2 T.strings_Builder [[(.ptr 0 0 0 0), (.row 1 (v4 + 1) 0 (v3 ++ [x5]).length)]])) 1 (.row (v4 + 1) 1 T.uint8 (dataRow byteD (v3 ++ [x5])))), 2, g⟩) (sk hB1 (fwD (fwE (fw0 wf (by rfl) (fun _ => by rfl)) rfl rfl rfl) rfl rfl rfl (fun _ => rfl)) (by rfl) (by rfl) trivial) ?_
            refine at_go ?_
            conv => whnf
            refine cut_go ?_
            conv => whnf
            refine at_go ?_
            conv => whnf
            refine ret_now ?_
            conv => whnf
            refine at_go ?_
            conv => whnf
            refine at_go ?_
            conv => whnf
            refine veq_intro (IntKind.i64.wrap (v1 + 1)) rfl ?_
            conv => whnf
            exact ⟨(IntKind.i64.wrap (v1 + 1), v3 ++ [x5]), hf, (true, (v4 + 1)), sk hB (fwD (fwC (fw0 wf (by rfl) (fun _ => by rfl)) rfl rfl ⟨⟨cv rfl rfl, cv rfl rfl, trivial⟩, trivial⟩ rfl) rfl rfl rfl (fun _ => rfl)) (by rfl) (by rfl) ⟨cv rfl rfl, cv rfl rfl, cv rfl rfl, trivial⟩⟩
        · replace hf := ifF h9 hf
          conv => whnf
          refine at_go ?_
          conv => whnf
          refine cut_go ?_
          conv => whnf
          refine cut_go ?_
          conv => whnf
          refine veq_intro (IntKind.i64.wrap (v1 + 1)) rfl ?_
          conv => whnf
          refine at_go ?_
          conv => whnf
          refine cut_go ?_
          conv => whnf
          refine veq_intro b.length (by simp) ?_
          conv => whnf
          refine at_sub (env' := [(0, (.d (.sl 1 (b.map byteD)))), (7, (.ptr 0 0 0 0)), (8, (cI (IntKind.i64.wrap (v1 + 1)))), (39, (cB (decide ((IntKind.i64.wrap (v1 + 1)) = (b.length : Int)))))]) (st' := ⟨(upd (upd hp 0 (.row 0 2 T.strings_Builder [[(cond v2 (.ptr 0 0 0 0) (.d (.v (.pointer none)))), (.row 1 v4 0 v3.length)]])) 1 (.row v4 1 T.uint8 (dataRow byteD v3))), 2, g⟩) (sk hB (fwD (fwE (fw0 wf (by rfl) (fun _ => by rfl)) rfl rfl (by cases v2 <;> rfl)) rfl rfl rfl (fun _ => rfl)) (by rfl) (by rfl) ⟨cv rfl rfl, cv rfl rfl, cv rfl rfl, cv rfl rfl, trivial⟩) ?_
          refine at_go ?_
          conv => whnf
          refine vcond_intro (t := decide ((IntKind.i64.wrap (v1 + 1)) = (b.length : Int))) (fun h12 => ?_) (fun h13 => ?_)
          · replace hf := ifT h12 hf
            conv => whnf
            refine at_go ?_
            conv => whnf
            refine cut_go ?_
            conv => whnf
            refine at_go ?_
            conv => whnf
            obtain rfl := Option.some.inj hf
            refine ret_c hB wf (fun _ => by rfl) ?_
            exact cv rfl rfl
          · replace hf := ifF h13 hf
            conv => whnf
            refine at_go ?_
            conv => whnf
            refine cut_go ?_
            obtain ⟨x6, h14, hf⟩ := bnd hf
            conv => whnf
            refine ⟨⟨rfl, Nat.zero_lt_succ _⟩, at_nn h14, ⟨_, map_get (at_get h14), ?_⟩⟩
            conv => whnf
            refine at_go ?_
            conv => whnf
            refine cut_go ?_
            conv => whnf
            refine at_sub (env' := [(0, (.d (.sl 1 (b.map byteD)))), (7, (.ptr 0 0 0 0)), (8, (cI (IntKind.i64.wrap (v1 + 1)))), (43, (.d (.v (.int .u8 (x6.toNat : Int))))), (44, (cB (decide ((x6.toNat : Int) = 255))))]) (st' := ⟨(upd (upd hp 0 (.row 0 2 T.strings_Builder [[(cond v2 (.ptr 0 0 0 0) (.d (.v (.pointer none)))), (.row 1 v4 0 v3.length)]])) 1 (.row v4 1 T.uint8 (dataRow byteD v3))), 2, g⟩) (sk hB (fwD (fwE (fw0 wf (by rfl) (fun _ => by rfl)) rfl rfl (by cases v2 <;> rfl)) rfl rfl rfl (fun _ => rfl)) (by rfl) (by rfl) ⟨cv rfl rfl, cv rfl rfl, cv rfl rfl, cv rfl rfl, cv rfl rfl, trivial⟩) ?_
            refine at_go ?_
            conv => whnf
            refine vcond_intro (t := decide ((x6.toNat : Int) = 255)) (fun h15 => ?_) (fun h16 => ?_)
            · replace hf := ifT h15 hf
              conv => whnf
              refine inline_fn __strings_Builder__WriteByte.res (Nat.le_of_ble_eq_true rfl) (fun B1 hB1 => ?_)
              conv => whnf
              refine cut_go ?_
              conv => whnf
              refine at_go ?_
              conv => whnf
              refine cut_go ?_
              conv => whnf
              refine inline_fn __strings_Builder__copyCheck.res (Nat.le_of_ble_eq_true rfl) (fun B2 hB2 => ?_)
              conv => whnf
              refine cut_go ?_
              conv => whnf
              refine ⟨rfl, ?_⟩
              conv => whnf
              refine ⟨⟨rfl, Nat.le_of_ble_eq_true rfl⟩, ?_⟩
              rcases btf v2 with hc | hc
              · subst hc
                conv => whnf
                refine ⟨rfl, ⟨_, rfl, ?_⟩⟩
                conv => whnf
                refine at_go ?_
                conv => whnf
                refine vcF rfl ?_
                conv => whnf
                refine cut_go ?_
                conv => whnf
                refine ⟨rfl, ?_⟩
                conv => whnf
                refine ⟨⟨rfl, Nat.le_of_ble_eq_true rfl⟩, ?_⟩
                conv => whnf
                refine ⟨rfl, ⟨_, rfl, ?_⟩⟩
                conv => whnf
                refine at_go ?_
                conv => whnf
                refine vcF rfl ?_
                conv => whnf
                refine ret_now ?_
                conv => whnf
                refine at_go ?_
                conv => whnf
                refine cut_go ?_
                conv => whnf
                refine ⟨rfl, ?_⟩
                conv => whnf
                refine ⟨⟨rfl, Nat.le_of_ble_eq_true rfl⟩, ?_⟩
                conv => whnf
                refine ⟨rfl, ⟨_, rfl, ?_⟩⟩
                conv => whnf
                refine veq_intro (dataRow byteD [0]) rfl ?_
                conv => whnf
                refine ⟨rfl, ?_⟩
                obtain ⟨h17, hf⟩ := grd hf
                conv => whnf
                refine veq_intro (dataRow byteD [0]) rfl ⟨row_wid (enc := byteD) (fun _ => rfl) _, ?_⟩
                conv => whnf
                refine ⟨⟨rfl, rfl, rfl⟩, row_len _ _, by simpa using h17, veq_intro (dataRow byteD (v3 ++ [0])) (row_app _ _ _) (veq_intro (v3 ++ [0]).length (row_appl _ _ _) ?_)⟩
                conv => whnf
                refine ⟨rfl, ?_⟩
                conv => whnf
                refine ⟨⟨rfl, Nat.le_of_ble_eq_true rfl⟩, ?_⟩
                conv => whnf
                refine ⟨⟨rfl, rfl⟩, ⟨_, rfl, Nat.le_of_ble_eq_true rfl, veq_intro [[(.ptr 0 0 0 0), (.row 1 (v4 + 1) 0 (v3 ++ [0]).length)]] rfl ?_⟩⟩
                conv => whnf
                refine at_sub (env' := []) (st' := ⟨(upd (upd hp 0 (.row 0 2 T.strings_Builder [[(.ptr 0 0 0 0), (.row 1 (v4 + 1) 0 (v3 ++ [0]).length)]])) 1 (.row (v4 + 1) 1 T.uint8 (dataRow byteD (v3 ++ [0])))), 2, g⟩) (sk hB1 (fwD (fwE (fw0 wf (by rfl) (fun _ => by rfl)) rfl rfl rfl) rfl rfl rfl (fun _ => rfl)) (by rfl) (by rfl) trivial) ?_
                refine at_go ?_
                conv => whnf
                refine cut_go ?_
                conv => whnf
                refine at_go ?_
                conv => whnf
                refine ret_now ?_
                conv => whnf
                refine at_go ?_
                conv => whnf
                refine veq_intro (IntKind.i64.wrap ((IntKind.i64.wrap (v1 + 1)) + 1)) rfl ?_
                conv => whnf
                exact ⟨(IntKind.i64.wrap ((IntKind.i64.wrap (v1 + 1)) + 1), v3 ++ [0]), hf, (true, (v4 + 1)), sk hB (fwD (fwC (fw0 wf (by rfl) (fun _ => by rfl)) rfl rfl ⟨⟨cv rfl rfl, cv rfl rfl, trivial⟩, trivial⟩ rfl) rfl rfl rfl (fun _ => rfl)) (by rfl) (by rfl) ⟨cv rfl rfl, cv rfl rfl, cv rfl rfl, trivial⟩⟩
              · subst hc
                conv => whnf
                refine ⟨rfl, ⟨_, rfl, ?_⟩⟩
                conv => whnf
                refine at_go ?_
                conv => whnf
                refine vcT rfl ?_
                conv => whnf
                refine ⟨⟨rfl, Nat.le_of_ble_eq_true rfl⟩, ?_⟩
                conv => whnf
                refine ⟨⟨rfl, rfl, rfl, rfl⟩, ?_⟩
                conv => whnf
                refine ⟨rfl, ?_⟩
                conv => whnf
                refine ⟨⟨rfl, Nat.le_of_ble_eq_true rfl⟩, ?_⟩
                conv => whnf
                refine ⟨⟨rfl, rfl⟩, ⟨_, rfl, Nat.le_of_ble_eq_true rfl, veq_intro [[(.ptr 0 0 0 0), (.row 1 v4 0 v3.length)]] rfl ?_⟩⟩
                conv => whnf
                refine ret_now ?_
                conv => whnf
                refine at_go ?_
                conv => whnf
                refine cut_go ?_
                conv => whnf
                refine ⟨rfl, ?_⟩
                conv => whnf
                refine ⟨⟨rfl, Nat.le_of_ble_eq_true rfl⟩, ?_⟩
                conv => whnf
                refine ⟨rfl, ⟨_, rfl, ?_⟩⟩
                conv => whnf
                refine veq_intro (dataRow byteD [0]) rfl ?_
                conv => whnf
                refine ⟨rfl, ?_⟩
                obtain ⟨h18, hf⟩ := grd hf
                conv => whnf
                refine veq_intro (dataRow byteD [0]) rfl ⟨row_wid (enc := byteD) (fun _ => rfl) _, ?_⟩
                conv => whnf
                refine ⟨⟨rfl, rfl, rfl⟩, row_len _ _, by simpa using h18, veq_intro (dataRow byteD (v3 ++ [0])) (row_app _ _ _) (veq_intro (v3 ++ [0]).length (row_appl _ _ _) ?_)⟩
                conv => whnf
                refine ⟨rfl, ?_⟩
                conv => whnf
                refine ⟨⟨rfl, Nat.le_of_ble_eq_true rfl⟩, ?_⟩
                conv => whnf
                refine ⟨⟨rfl, rfl⟩, ⟨_, rfl, Nat.le_of_ble_eq_true rfl, veq_intro [[(.ptr 0 0 0 0), (.row 1 (v4 + 1) 0 (v3 ++ [0]).length)]] rfl ?_⟩⟩
                conv => whnf
                refine at_sub (env' := []) (st' := ⟨(upd (upd hp 0 (.row 0 2 T.strings_Builder [[(.ptr 0 0 0 0), (.row 1 (v4 + 1) 0 (v3 ++ [0]).length)]])) 1 (.row (v4 + 1) 1 T.uint8 (dataRow byteD (v3 ++ [0])))), 2, g⟩) (sk hB1 (fwD (fwE (fw0 wf (by rfl) (fun _ => by rfl)) rfl rfl rfl) rfl rfl rfl (fun _ => rfl)) (by rfl) (by rfl) trivial) ?_
                refine at_go ?_
                conv => whnf
                refine cut_go ?_
                conv => whnf
                refine at_go ?_
                conv => whnf
                refine ret_now ?_
                conv => whnf
                refine at_go ?_
                conv => whnf
                refine veq_intro (IntKind.i64.wrap ((IntKind.i64.wrap (v1 + 1)) + 1)) rfl ?_
                conv => whnf
                exact ⟨(IntKind.i64.wrap ((IntKind.i64.wrap (v1 + 1)) + 1), v3 ++ [0]), hf, (true, (v4 + 1)), sk hB (fwD (fwC (fw0 wf (by rfl) (fun _ => by rfl)) rfl rfl ⟨⟨cv rfl rfl, cv rfl rfl, trivial⟩, trivial⟩ rfl) rfl rfl rfl (fun _ => rfl)) (by rfl) (by rfl) ⟨cv rfl rfl, cv rfl rfl, cv rfl rfl, trivial⟩⟩
            · replace hf := ifF h16 hf
              conv => whnf
              refine cut_go ?_
              conv => whnf
              refine at_go ?_
              conv => whnf
              refine vcond_intro (t := decide ((x6.toNat : Int) = 1)) (fun h19 => ?_) (fun h20 => ?_)
              · replace hf := ifT h19 hf
                conv => whnf
                refine cut_go ?_
                conv => whnf
                refine inline_fn __strings_Builder__String.res (Nat.le_of_ble_eq_true rfl) (fun B1 hB1 => ?_)
                conv => whnf
                refine cut_go ?_
                conv => whnf
                refine at_go ?_
                conv => whnf
                refine cut_go ?_
                conv => whnf
                refine ⟨rfl, ?_⟩
                conv => whnf
                refine ⟨⟨rfl, Nat.le_of_ble_eq_true rfl⟩, ?_⟩
                conv => whnf
                refine ⟨rfl, ⟨_, rfl, ?_⟩⟩
                conv => whnf
                refine ⟨rfl, ?_⟩
                conv => whnf
                refine ⟨⟨rfl, Nat.le_of_ble_eq_true rfl⟩, ?_⟩
                conv => whnf
                refine ⟨rfl, ⟨_, rfl, ?_⟩⟩
                conv => whnf
                refine ⟨rfl, ?_⟩
                conv => whnf
                refine ⟨rfl, fun h21 => ?_, fun h22 => ?_⟩
                · conv => whnf
                  refine ⟨rfl, ?_⟩
                  conv => whnf
                  refine ⟨rfl, ?_⟩
                  conv => whnf
                  refine ⟨rfl, ?_⟩
                  conv => whnf
                  refine ⟨rfl, ?_⟩
                  conv => whnf
                  refine ⟨rfl, ⟨_, rfl, ?_⟩⟩
                  conv => whnf
                  refine ⟨rfl, ?_⟩
                  conv => whnf
                  refine ⟨rfl, ?_⟩
                  conv => whnf
                  refine ⟨⟨rfl, Nat.le_of_ble_eq_true rfl⟩, ?_⟩
                  conv => whnf
                  refine ⟨rfl, ?_⟩
                  conv => whnf
                  refine ⟨rfl, ?_⟩
                  conv => whnf
                  refine ⟨rfl, ?_⟩
                  conv => whnf
                  refine ⟨rfl, ?_⟩
                  obtain ⟨h23, hf⟩ := grd hf
                  conv => whnf
                  refine ⟨⟨rfl, rfl, rfl, rfl⟩, v3, ne_of_len h21, rfl, h23, row_ut _, ?_⟩
                  conv => whnf
                  refine at_go ?_
                  conv => whnf
                  refine ret_now ?_
                  conv => whnf
                  refine veq_intro (IntKind.i64.wrap ((IntKind.i64.wrap (v1 + 1)) + 1)) rfl ?_
                  conv => whnf
                  refine at_go ?_
                  conv => whnf
                  obtain rfl := Option.some.inj hf
                  refine ret_c hB wf (fun _ => by rfl) ?_
                  exact cv rfl rfl
                · conv => whnf
                  refine ⟨rfl, ?_⟩
                  conv => whnf
                  refine ⟨rfl, ?_⟩
                  conv => whnf
                  refine ⟨rfl, ?_⟩
                  conv => whnf
                  refine ⟨rfl, ?_⟩
                  conv => whnf
                  refine ⟨rfl, ⟨_, rfl, ?_⟩⟩
                  conv => whnf
                  refine ⟨rfl, ?_⟩
                  conv => whnf
                  refine ⟨rfl, ?_⟩
                  conv => whnf
                  refine ⟨⟨rfl, Nat.le_of_ble_eq_true rfl⟩, ?_⟩
                  conv => whnf
                  refine ⟨rfl, ?_⟩
                  conv => whnf
                  refine ⟨rfl, ?_⟩
                  conv => whnf
                  refine ⟨rfl, ?_⟩
                  conv => whnf
                  refine ⟨rfl, ?_⟩
                  obtain ⟨h24, hf⟩ := grd hf
                  conv => whnf
                  refine ⟨by omega, veq_intro (bs v3) (bs_empty h22) ?_⟩
                  conv => whnf
                  refine at_go ?_
                  conv => whnf
                  refine ret_now ?_
                  conv => whnf
                  refine veq_intro (IntKind.i64.wrap ((IntKind.i64.wrap (v1 + 1)) + 1)) rfl ?_
                  conv => whnf
                  refine at_go ?_
                  conv => whnf
                  obtain rfl := Option.some.inj hf
                  refine ret_c hB wf (fun _ => by rfl) ?_
                  exact cv rfl rfl
              · replace hf := ifF h20 hf
                conv => whnf
                refine cut_go ?_
                conv => whnf
                refine at_go ?_
                conv => whnf
                obtain rfl := Option.some.inj hf
                refine ret_c hB wf (fun _ => by rfl) ?_
                exact cv rfl rfl
      · replace hf := ifF h6 hf
        conv => whnf
        refine at_go ?_
        conv => whnf
        refine cut_go ?_
        conv => whnf
        refine at_sub (env' := [(4, (cS (bs []))), (5, (cI 0)), (6, (cI 8))]) (st' := ⟨hp, 0, g⟩) (sk hB (fw0 wf (by rfl) (fun _ => by rfl)) (by rfl) (by rfl) ⟨cv rfl rfl, cv rfl rfl, cv rfl rfl, trivial⟩) ?_
        refine at_go ?_
        conv => whnf
        obtain rfl := Option.some.inj hf
        refine ret_c hB wf (fun _ => by rfl) ?_
        exact cv rfl rfl

noncomputable def project_Split.f (key : ByteArray) : Option (ByteArray × ByteArray × Bool) :=
  (order_GetText.f key.data.toList 0).bind fun x1 =>
  if (decide (x1.2.2 ≠ 0)) = true then
    some ((bs []), (bs []), false)
  else
  if 0 ≤ x1.2.1 ∧ x1.2.1 ≤ ((key.size : Nat) : Int) then
  some (x1.1, key.extract x1.2.1.toNat key.size, true)
  else none

set_option maxHeartbeats 4000000 in
theorem project_Split.pure (key : ByteArray) (res : ByteArray × ByteArray × Bool) (hf : project_Split.f key = some res) : Pure prog F.project_Split [(cS key)] (.tup [(cS res.1), (cS res.2.1), (cB res.2.2)]) := by
  refine pure_fn project_Split.res (Nat.le_of_ble_eq_true rfl) (fun _ => rfl) (fun _ => rfl) fun B hp g hB wf => ?_
  rw [project_Split.f] at hf
  conv => whnf
  refine cut_go ?_
  conv => whnf
  refine at_go ?_
  conv => whnf
  refine cut_go ?_
  conv => whnf
  refine veq_intro (dataRow byteD key.data.toList) (u8s_dataRow _) (veq_intro key.data.toList.length (sz_u8 _) ?_)
  obtain ⟨x1, h1, hf⟩ := bnd hf
  conv => whnf
  refine (order_GetText.pure key.data.toList 0 x1 h1).callz (h := hp) (n := 1) (fw0 wf (by rfl) (fun _ => by rfl)) (by rfl) (by rfl) ⟨cvz (enc := byteD) (l := key.data.toList) rfl (wfn wf (by rfl)) rfl rfl, cv rfl rfl, trivial⟩ ?_
  conv => whnf
  refine at_go ?_
  conv => whnf
  refine cut_go ?_
  conv => whnf
  refine cut_go ?_
  conv => whnf
  refine at_sub (env' := [(0, (cS key)), (2, (cS x1.1)), (5, (cI x1.2.1)), (15, (cB (decide (x1.2.2 ≠ 0))))]) (st' := ⟨hp, 0, g⟩) (sk hB (fw0 wf (by rfl) (fun _ => by rfl)) (by rfl) (by rfl) ⟨cv rfl rfl, cv rfl rfl, cv rfl rfl, cv rfl rfl, trivial⟩) ?_
  refine at_go ?_
  conv => whnf
  refine vcond_intro (t := decide (x1.2.2 ≠ 0)) (fun h2 => ?_) (fun h3 => ?_)
  · replace hf := ifT h2 hf
    conv => whnf
    refine cut_go ?_
    conv => whnf
    refine at_go ?_
    conv => whnf
    obtain rfl := Option.some.inj hf
    refine ret_c hB wf (fun _ => by rfl) ?_
    exact cv rfl rfl
  · replace hf := ifF h3 hf
    conv => whnf
    refine at_go ?_
    conv => whnf
    refine cut_go ?_
    obtain ⟨h4, hf⟩ := grd hf
    conv => whnf
    refine ⟨h4, ?_⟩
    conv => whnf
    refine at_go ?_
    conv => whnf
    obtain rfl := Option.some.inj hf
    refine ret_c hB wf (fun _ => by rfl) ?_
    exact cv rfl rfl

noncomputable def project_Key.w0 (part : ByteArray) (clus : ByteArray) : Nat → List UInt8 → Int → Option (ByteArray)
  | 0, _, _ => none
  | k0 + 1, v1, v3 =>
    if (decide (v3 < (part.size : Int))) = true then
      (at? part.data.toList v3).bind fun x4 =>
      if (v1 ++ [x4]).length ≤ 4294967296 then
      if (decide ((x4.toNat : Int) = 0)) = true then
        if ((v1 ++ [x4]) ++ [255]).length ≤ 4294967296 then
        project_Key.w0 part clus k0 ((v1 ++ [x4]) ++ [255]) (IntKind.i64.wrap (v3 + 1))
        else none
      else
      project_Key.w0 part clus k0 (v1 ++ [x4]) (IntKind.i64.wrap (v3 + 1))
      else none
    else
    if (v1 ++ [0, 1]).length ≤ 4294967296 then
    if (bs (v1 ++ [0, 1])).size + clus.size ≤ 9223372036854775807 then
    some ((bs (v1 ++ [0, 1])) ++ clus)
    else none
    else none

noncomputable def project_Key.f (part : ByteArray) (clus : ByteArray) : Option (ByteArray) :=
  project_Key.w0 part clus K0 ([] : List UInt8) 0

set_option maxHeartbeats 4000000 in
theorem project_Key.pure (part : ByteArray) (clus : ByteArray) (res : ByteArray) (hf : project_Key.f part clus = some res) : Pure prog F.project_Key [(cS part), (cS clus)] (cS res) := by
  refine pure_fn project_Key.res (Nat.le_of_ble_eq_true rfl) (fun _ => rfl) (fun _ => rfl) fun B hp g hB wf => ?_
  rw [project_Key.f] at hf
  conv => whnf
  refine cut_go ?_
  conv => whnf
  refine at_go ?_
  conv => whnf
  refine cut_go ?_
  conv => whnf
  refine inline_fn order_Text.res (Nat.le_of_ble_eq_true rfl) (fun B1 hB1 => ?_)
  conv => whnf
  refine cut_go ?_
  conv => whnf
  refine at_go ?_
  conv => whnf
  refine cut_go ?_
  conv => whnf
  refine inline_fn order_own.res (Nat.le_of_ble_eq_true rfl) (fun B2 hB2 => ?_)
  conv => whnf
  refine cut_go ?_
  conv => whnf
  refine at_go ?_
  conv => whnf
  refine cut_go ?_
  conv => whnf
  refine at_go ?_
  conv => whnf
  refine ret_now ?_
  conv => whnf
  refine at_go ?_
  conv => whnf
  refine cut_go ?_
  conv => whnf
  refine cut_go ?_
  conv => whnf
  refine at_sub (env' := [(0, nilS), (1, (cS part)), (9, (cI (part.size : Int))), (10, (cI 0))]) (st' := ⟨hp, 0, g⟩) (sk hB1 (fw0 wf (by rfl) (fun _ => by rfl)) (by rfl) (by rfl) ⟨cv rfl rfl, cv rfl rfl, cv rfl rfl, cv rfl rfl, trivial⟩) ?_
  refine at_go ?_
  conv => whnf
  refine loop_sub (sph 0 1 T.uint8) ?_
  refine loop_sub (env' := [(0, (.row 0 0 0 ([] : List UInt8).length)), (1, (cS part)), (9, (cI (part.size : Int))), (10, (cI 0))]) (st' := ⟨(upd hp 0 (.row 0 1 T.uint8 (dataRow byteD ([] : List UInt8)))), 1, g⟩) (sk hB1 (fwD (fw0 wf (by rfl) (fun _ => by rfl)) rfl rfl rfl (fun _ => rfl)) (by rfl) (by rfl) ⟨.ph (of_decide_eq_true rfl) rfl (Nat.zero_le _), cv rfl rfl, cv rfl rfl, cv rfl rfl, trivial⟩) ?_
  refine loop_f (α := (List UInt8) × Int) (γ := Nat) (fun v2 (v1, v3) => [(0, (.row 0 v2 0 v1.length)), (1, (cS part)), (9, (cI (part.size : Int))), (10, (cI v3))]) (fun v2 (v1, v3) => ⟨(upd hp 0 (.row v2 1 T.uint8 (dataRow byteD v1))), 1, g⟩) (fun k s => project_Key.w0 part clus k s.1 s.2) (fun _ => rfl) ?_ K0 (([] : List UInt8), 0) 0 hf
  intro k0 y v2 hf
  obtain ⟨v1, v3⟩ := y
  replace hf : project_Key.w0 part clus (k0 + 1) v1 v3 = some _ := hf
  rw [project_Key.w0] at hf
  try dsimp only
  conv => whnf
  refine cut_go ?_
  conv => whnf
  refine at_go ?_
  conv => whnf
  refine cut_go ?_
  conv => whnf
  refine vcond_intro (t := decide (v3 < (part.size : Int))) (fun h1 => ?_) (fun h2 => ?_)
  · replace hf := ifT h1 hf
    conv => whnf
    refine at_go ?_
    conv => whnf
    refine cut_go ?_
    conv => whnf
    refine cut_go ?_
    conv => whnf
    refine at_sub (env' := [(0, (.row 0 v2 0 v1.length)), (1, (cS part)), (5, (cI v3)), (9, (cI (part.size : Int))), (10, (cI v3))]) (st' := ⟨(upd hp 0 (.row v2 1 T.uint8 (dataRow byteD v1))), 1, g⟩) (sk hB1 (fwD (fw0 wf (by rfl) (fun _ => by rfl)) rfl rfl rfl (fun _ => rfl)) (by rfl) (by rfl) ⟨cv rfl rfl, cv rfl rfl, cv rfl rfl, cv rfl rfl, cv rfl rfl, trivial⟩) ?_
    refine at_go ?_
    conv => whnf
    refine cut_go ?_
    obtain ⟨x4, h3, hf⟩ := bnd hf
    conv => whnf
    refine ⟨at_nn h3, ⟨_, at_get h3, ?_⟩⟩
    conv => whnf
    refine veq_intro (dataRow byteD [x4]) rfl ?_
    conv => whnf
    refine ⟨rfl, ?_⟩
    obtain ⟨h4, hf⟩ := grd hf
    conv => whnf
    refine veq_intro (dataRow byteD [x4]) rfl ⟨row_wid (enc := byteD) (fun _ => rfl) _, ?_⟩
    conv => whnf
    refine ⟨⟨rfl, rfl, rfl⟩, row_len _ _, by simpa using h4, veq_intro (dataRow byteD (v1 ++ [x4])) (row_app _ _ _) (veq_intro (v1 ++ [x4]).length (row_appl _ _ _) ?_)⟩
    conv => whnf
    refine at_go ?_
    conv => whnf
    refine cut_go ?_
    conv => whnf
    refine ⟨at_nn h3, ⟨_, at_get h3, ?_⟩⟩
    conv => whnf
    refine at_go ?_
    conv => whnf
    refine vcond_intro (t := decide ((x4.toNat : Int) = 0)) (fun h5 => ?_) (fun h6 => ?_)
    · replace hf := ifT h5 hf
      conv => whnf
      refine veq_intro (dataRow byteD [255]) rfl ?_
      conv => whnf
      refine ⟨rfl, ?_⟩
      obtain ⟨h7, hf⟩ := grd hf
      conv => whnf
      refine veq_intro (dataRow byteD [255]) rfl ⟨row_wid (enc := byteD) (fun _ => rfl) _, ?_⟩
      conv => whnf
      refine ⟨⟨rfl, rfl, rfl⟩, row_len _ _, by simpa using h7, veq_intro (dataRow byteD ((v1 ++ [x4]) ++ [255])) (row_app _ _ _) (veq_intro ((v1 ++ [x4]) ++ [255]).length (row_appl _ _ _) ?_)⟩
      conv => whnf
      refine at_sub (env' := [(0, (.row 0 ((v2 + 1) + 1) 0 ((v1 ++ [x4]) ++ [255]).length)), (1, (cS part)), (9, (cI (part.size : Int))), (10, (cI v3))]) (st' := ⟨(upd hp 0 (.row ((v2 + 1) + 1) 1 T.uint8 (dataRow byteD ((v1 ++ [x4]) ++ [255])))), 1, g⟩) (sk hB1 (fwD (fw0 wf (by rfl) (fun _ => by rfl)) rfl rfl rfl (fun _ => rfl)) (by rfl) (by rfl) ⟨cv rfl rfl, cv rfl rfl, cv rfl rfl, cv rfl rfl, trivial⟩) ?_
      refine at_go ?_
      conv => whnf
      refine veq_intro (IntKind.i64.wrap (v3 + 1)) rfl ?_
      conv => whnf
      exact ⟨((v1 ++ [x4]) ++ [255], IntKind.i64.wrap (v3 + 1)), hf, ((v2 + 1) + 1), sk hB1 (fwD (fw0 wf (by rfl) (fun _ => by rfl)) rfl rfl rfl (fun _ => rfl)) (by rfl) (by rfl) ⟨cv rfl rfl, cv rfl rfl, cv rfl rfl, cv rfl rfl, trivial⟩⟩
    · replace hf := ifF h6 hf
      conv => whnf
      refine at_sub (env' := [(0, (.row 0 (v2 + 1) 0 (v1 ++ [x4]).length)), (1, (cS part)), (9, (cI (part.size : Int))), (10, (cI v3)), (22, (cB (decide ((x4.toNat : Int) = 0))))]) (st' := ⟨(upd hp 0 (.row (v2 + 1) 1 T.uint8 (dataRow byteD (v1 ++ [x4])))), 1, g⟩) (sk hB1 (fwD (fw0 wf (by rfl) (fun _ => by rfl)) rfl rfl rfl (fun _ => rfl)) (by rfl) (by rfl) ⟨cv rfl rfl, cv rfl rfl, cv rfl rfl, cv rfl rfl, cv rfl rfl, trivial⟩) ?_
      refine at_go ?_
      conv => whnf
      refine veq_intro (IntKind.i64.wrap (v3 + 1)) rfl ?_
      conv => whnf
      exact ⟨(v1 ++ [x4], IntKind.i64.wrap (v3 + 1)), hf, (v2 + 1), sk hB1 (fwD (fw0 wf (by rfl) (fun _ => by rfl)) rfl rfl rfl (fun _ => rfl)) (by rfl) (by rfl) ⟨cv rfl rfl, cv rfl rfl, cv rfl rfl, cv rfl rfl, trivial⟩⟩
  · replace hf := ifF h2 hf
    conv => whnf
    refine at_go ?_
    conv => whnf
    refine cut_go ?_
    conv => whnf
    refine veq_intro (dataRow byteD [0, 1]) rfl ?_
    conv => whnf
    refine ⟨rfl, ?_⟩
    obtain ⟨h8, hf⟩ := grd hf
    conv => whnf
    refine veq_intro (dataRow byteD [0, 1]) rfl ⟨row_wid (enc := byteD) (fun _ => rfl) _, ?_⟩
    conv => whnf
    refine ⟨⟨rfl, rfl, rfl⟩, row_len _ _, by simpa using h8, veq_intro (dataRow byteD (v1 ++ [0, 1])) (row_app _ _ _) (veq_intro (v1 ++ [0, 1]).length (row_appl _ _ _) ?_)⟩
    conv => whnf
    refine at_sub (env' := [(4, (.row 0 (v2 + 1) 0 (v1 ++ [0, 1]).length))]) (st' := ⟨(upd hp 0 (.row (v2 + 1) 1 T.uint8 (dataRow byteD (v1 ++ [0, 1])))), 1, g⟩) (sk hB1 (fwD (fw0 wf (by rfl) (fun _ => by rfl)) rfl rfl rfl (fun _ => rfl)) (by rfl) (by rfl) ⟨cv rfl rfl, trivial⟩) ?_
    refine at_go ?_
    conv => whnf
    refine ret_now ?_
    conv => whnf
    refine ⟨rfl, v1 ++ [0, 1], row_u8 _, ?_⟩
    obtain ⟨h9, hf⟩ := grd hf
    conv => whnf
    refine ⟨h9, ?_⟩
    conv => whnf
    refine at_go ?_
    conv => whnf
    obtain rfl := Option.some.inj hf
    refine ret_c hB wf (fun _ => by rfl) ?_
    exact cv rfl rfl

noncomputable def row_Gone.f (r : api_Row) (part : Int) : Option (Int) :=
  some (imax r.Gone part)

set_option maxHeartbeats 4000000 in
theorem row_Gone.pure (r : api_Row) (part : Int) (res : Int) (hf : row_Gone.f r part = some res) : Pure prog F.row_Gone [(agd (api_Row.d r)), (cI part)] (cI res) := by
  refine pure_fn row_Gone.res (Nat.le_of_ble_eq_true rfl) (fun _ => rfl) (fun _ => rfl) fun B hp g hB wf => ?_
  rw [row_Gone.f] at hf
  conv => whnf
  refine cut_go ?_
  conv => whnf
  refine at_go ?_
  conv => whnf
  refine cut_go ?_
  conv => whnf
  refine ⟨⟨rfl, Nat.le_of_ble_eq_true rfl⟩, ?_⟩
  conv => whnf
  refine ⟨rfl, ⟨_, rfl, ?_⟩⟩
  conv => whnf
  refine veq_intro (imax r.Gone part) rfl ?_
  conv => whnf
  refine at_go ?_
  conv => whnf
  obtain rfl := Option.some.inj hf
  refine ret_c hB wf (fun _ => by rfl) ?_
  exact cv rfl rfl

noncomputable def row_Cell.w0 (r : api_Row) (name : ByteArray) : Nat → Int → Option (api_Cell)
  | 0, _ => none
  | k0 + 1, v1 =>
    if (decide (v1 < (r.Cols.length : Int))) = true then
      (at? r.Cols v1).bind fun x2 =>
      if (seq x2.Name name) = true then
        some x2.Cell
      else
      row_Cell.w0 r name k0 (IntKind.i64.wrap (v1 + 1))
    else
    some (⟨(bs []), false, 0, 0⟩ : api_Cell)

noncomputable def row_Cell.f (r : api_Row) (name : ByteArray) : Option (api_Cell) :=
  row_Cell.w0 r name K0 0

set_option maxHeartbeats 4000000 in
theorem row_Cell.pure (r : api_Row) (name : ByteArray) (res : api_Cell) (hf : row_Cell.f r name = some res) : Pure prog F.row_Cell [(agd (api_Row.d r)), (cS name)] (agd (api_Cell.d res)) := by
  refine pure_fn row_Cell.res (Nat.le_of_ble_eq_true rfl) (fun _ => rfl) (fun _ => rfl) fun B hp g hB wf => ?_
  rw [row_Cell.f] at hf
  conv => whnf
  refine cut_go ?_
  conv => whnf
  refine at_go ?_
  conv => whnf
  refine cut_go ?_
  conv => whnf
  refine cut_go ?_
  conv => whnf
  refine ⟨⟨rfl, Nat.le_of_ble_eq_true rfl⟩, ?_⟩
  conv => whnf
  refine ⟨rfl, ⟨_, rfl, ?_⟩⟩
  conv => whnf
  refine veq_intro r.Cols.length (by simp) ?_
  conv => whnf
  refine at_go ?_
  conv => whnf
  refine loop_sub (env' := [(1, (cS name)), (4, (.ptr 1 0 0 0)), (8, (.d (.sl 5 (r.Cols.map api_Col.d)))), (9, (cI (r.Cols.length : Int))), (10, (cI 0))]) (st' := ⟨(upd hp 1 (.row 0 4 T.api_Cell [[(cS (bs [])), (cB false), (cI 0), (cI 0)]])), 2, g⟩) (sk hB (fwE (fw0 wf (by rfl) (fun _ => by rfl)) rfl rfl rfl) (by rfl) (by rfl) ⟨cv rfl rfl, cv rfl rfl, cv rfl rfl, cv rfl rfl, cv rfl rfl, trivial⟩) ?_
  refine loop_f (α := Int) (γ := Unit) (fun (_ : Unit) v1 => [(1, (cS name)), (4, (.ptr 1 0 0 0)), (8, (.d (.sl 5 (r.Cols.map api_Col.d)))), (9, (cI (r.Cols.length : Int))), (10, (cI v1))]) (fun (_ : Unit) v1 => ⟨(upd hp 1 (.row 0 4 T.api_Cell [[(cS (bs [])), (cB false), (cI 0), (cI 0)]])), 2, g⟩) (fun k s => row_Cell.w0 r name k s) (fun _ => rfl) ?_ K0 0 () hf
  intro k0 v1 gg hf
  replace hf : row_Cell.w0 r name (k0 + 1) v1 = some _ := hf
  rw [row_Cell.w0] at hf
  try dsimp only
  conv => whnf
  refine cut_go ?_
  conv => whnf
  refine at_go ?_
  conv => whnf
  refine cut_go ?_
  conv => whnf
  refine vcond_intro (t := decide (v1 < (r.Cols.length : Int))) (fun h1 => ?_) (fun h2 => ?_)
  · replace hf := ifT h1 hf
    conv => whnf
    refine at_go ?_
    conv => whnf
    refine cut_go ?_
    conv => whnf
    refine cut_go ?_
    obtain ⟨x2, h3, hf⟩ := bnd hf
    conv => whnf
    refine ⟨⟨rfl, Nat.zero_lt_succ _⟩, at_nn h3, ⟨_, map_get (at_get h3), ?_⟩⟩
    conv => whnf
    refine ⟨⟨rfl, rfl⟩, ⟨_, rfl, Nat.le_of_ble_eq_true rfl, veq_intro [[(cS x2.Name), (cS x2.Cell.Val), (cB x2.Cell.Dead), (cI x2.Cell.At), (cI x2.Cell.End)]] rfl ?_⟩⟩
    conv => whnf
    refine at_sub (env' := [(1, (cS name)), (4, (.ptr 1 0 0 0)), (6, (.ptr 2 0 0 0)), (8, (.d (.sl 5 (r.Cols.map api_Col.d)))), (9, (cI (r.Cols.length : Int))), (10, (cI v1))]) (st' := ⟨(upd (upd hp 1 (.row 0 4 T.api_Cell [[(cS (bs [])), (cB false), (cI 0), (cI 0)]])) 2 (.row 0 5 T.api_Col [[(cS x2.Name), (cS x2.Cell.Val), (cB x2.Cell.Dead), (cI x2.Cell.At), (cI x2.Cell.End)]])), 3, g⟩) (sk hB (fwE (fwE (fw0 wf (by rfl) (fun _ => by rfl)) rfl rfl rfl) rfl rfl rfl) (by rfl) (by rfl) ⟨cv rfl rfl, cv rfl rfl, cv rfl rfl, cv rfl rfl, cv rfl rfl, cv rfl rfl, trivial⟩) ?_
    refine at_go ?_
    conv => whnf
    refine cut_go ?_
    conv => whnf
    refine ⟨⟨rfl, Nat.le_of_ble_eq_true rfl⟩, ?_⟩
    conv => whnf
    refine ⟨rfl, ⟨_, rfl, ?_⟩⟩
    conv => whnf
    refine at_go ?_
    conv => whnf
    refine vcond_intro (t := seq x2.Name name) (fun h4 => ?_) (fun h5 => ?_)
    · replace hf := ifT h4 hf
      conv => whnf
      refine cut_go ?_
      conv => whnf
      refine ⟨⟨rfl, Nat.le_of_ble_eq_true rfl⟩, ?_⟩
      conv => whnf
      refine ⟨rfl, ⟨_, rfl, ?_⟩⟩
      conv => whnf
      refine ⟨⟨rfl, rfl⟩, ⟨_, rfl, Nat.le_of_ble_eq_true rfl, veq_intro [[(cS x2.Cell.Val), (cB x2.Cell.Dead), (cI x2.Cell.At), (cI x2.Cell.End)]] rfl ?_⟩⟩
      conv => whnf
      refine at_go ?_
      conv => whnf
      obtain rfl := Option.some.inj hf
      refine ret_c hB wf (fun _ => by rfl) ?_
      exact cv rfl rfl
    · replace hf := ifF h5 hf
      conv => whnf
      refine at_go ?_
      conv => whnf
      refine veq_intro (IntKind.i64.wrap (v1 + 1)) rfl ?_
      conv => whnf
      exact ⟨IntKind.i64.wrap (v1 + 1), hf, (), sk hB (fwE (fw0 wf (by rfl) (fun _ => by rfl)) rfl rfl rfl) (by rfl) (by rfl) ⟨cv rfl rfl, cv rfl rfl, cv rfl rfl, cv rfl rfl, cv rfl rfl, trivial⟩⟩
  · replace hf := ifF h2 hf
    conv => whnf
    refine at_go ?_
    conv => whnf
    refine cut_go ?_
    conv => whnf
    refine ⟨⟨rfl, rfl⟩, ⟨_, rfl, Nat.le_of_ble_eq_true rfl, veq_intro [[(cS (bs [])), (cB false), (cI 0), (cI 0)]] rfl ?_⟩⟩
    conv => whnf
    refine at_sub (env' := [(4, (.ptr 1 0 0 0))]) (st' := ⟨(upd hp 1 (.row 0 4 T.api_Cell [[(cS (bs [])), (cB false), (cI 0), (cI 0)]])), 2, g⟩) (sk hB (fwE (fw0 wf (by rfl) (fun _ => by rfl)) rfl rfl rfl) (by rfl) (by rfl) ⟨cv rfl rfl, trivial⟩) ?_
    refine at_go ?_
    conv => whnf
    obtain rfl := Option.some.inj hf
    refine ret_c hB wf (fun _ => by rfl) ?_
    exact cv rfl rfl

noncomputable def row_Best.f (r : api_Row) (part : Int) (name : ByteArray) : Option (api_Cell × Bool) :=
  (row_Cell.f r name).bind fun x1 =>
  if (x1.Dead) = true then
    some ((⟨(bs []), false, 0, 0⟩ : api_Cell), false)
  else
  if (decide (x1.At < 1)) = true then
    some ((⟨(bs []), false, 0, 0⟩ : api_Cell), false)
  else
  (row_Gone.f r part).bind fun x2 =>
  if (decide (x1.At ≤ x2)) = true then
    some ((⟨(bs []), false, 0, 0⟩ : api_Cell), false)
  else
  some (x1, true)

set_option maxHeartbeats 4000000 in
theorem row_Best.pure (r : api_Row) (part : Int) (name : ByteArray) (res : api_Cell × Bool) (hf : row_Best.f r part name = some res) : Pure prog F.row_Best [(agd (api_Row.d r)), (cI part), (cS name)] (.tup [(agd (api_Cell.d res.1)), (cB res.2)]) := by
  refine pure_fn row_Best.res (Nat.le_of_ble_eq_true rfl) (fun _ => rfl) (fun _ => rfl) fun B hp g hB wf => ?_
  rw [row_Best.f] at hf
  conv => whnf
  refine cut_go ?_
  conv => whnf
  refine at_go ?_
  conv => whnf
  refine cut_go ?_
  conv => whnf
  refine ⟨rfl, ⟨_, rfl, ?_⟩⟩
  obtain ⟨x1, h1, hf⟩ := bnd hf
  conv => whnf
  refine (row_Cell.pure r name x1 h1).call ?_
  conv => whnf
  refine ⟨⟨rfl, rfl⟩, ⟨_, rfl, Nat.le_of_ble_eq_true rfl, veq_intro [[(cS x1.Val), (cB x1.Dead), (cI x1.At), (cI x1.End)]] rfl ?_⟩⟩
  conv => whnf
  refine at_go ?_
  conv => whnf
  refine cut_go ?_
  conv => whnf
  refine cut_go ?_
  conv => whnf
  refine ⟨⟨rfl, Nat.le_of_ble_eq_true rfl⟩, ?_⟩
  conv => whnf
  refine ⟨rfl, ⟨_, rfl, ?_⟩⟩
  conv => whnf
  refine vcond_intro (t := x1.Dead) (fun h2 => ?_) (fun h3 => ?_)
  · replace hf := ifT h2 hf
    conv => whnf
    refine vcT rfl ?_
    conv => whnf
    refine vcT rfl ?_
    conv => whnf
    refine vcT rfl ?_
    conv => whnf
    refine vcT rfl ?_
    conv => whnf
    refine vcT rfl ?_
    conv => whnf
    refine vcT rfl ?_
    conv => whnf
    refine vcT rfl ?_
    conv => whnf
    refine vcT rfl ?_
    conv => whnf
    refine vcT rfl ?_
    conv => whnf
    refine ⟨rfl, ?_⟩
    conv => whnf
    refine vcT rfl ?_
    conv => whnf
    refine ⟨rfl, ?_⟩
    conv => whnf
    refine vcT rfl ?_
    conv => whnf
    refine vcT rfl ?_
    conv => whnf
    refine at_sub (env' := [(6, (.ptr 1 0 0 0)), (8, (.ptr 2 0 0 0)), (26, (cB true))]) (st' := ⟨(upd (upd hp 1 (.row 0 4 T.api_Cell [[(cS (bs [])), (cB false), (cI 0), (cI 0)]])) 2 (.row 0 4 T.api_Cell [[(cS x1.Val), (cB x1.Dead), (cI x1.At), (cI x1.End)]])), 3, g⟩) (sk hB (fwE (fwE (fw0 wf (by rfl) (fun _ => by rfl)) rfl rfl rfl) rfl rfl rfl) (by rfl) (by rfl) ⟨cv rfl rfl, cv rfl rfl, cv rfl rfl, trivial⟩) ?_
    refine at_go ?_
    conv => whnf
    refine vcT rfl ?_
    conv => whnf
    refine cut_go ?_
    conv => whnf
    refine ⟨⟨rfl, rfl⟩, ⟨_, rfl, Nat.le_of_ble_eq_true rfl, veq_intro [[(cS (bs [])), (cB false), (cI 0), (cI 0)]] rfl ?_⟩⟩
    conv => whnf
    refine at_go ?_
    conv => whnf
    obtain rfl := Option.some.inj hf
    refine ret_c hB wf (fun _ => by rfl) ?_
    exact cv rfl rfl
  · replace hf := ifF h3 hf
    conv => whnf
    refine ⟨⟨rfl, Nat.le_of_ble_eq_true rfl⟩, ?_⟩
    conv => whnf
    refine vcF rfl ?_
    conv => whnf
    refine ⟨rfl, ⟨_, rfl, ?_⟩⟩
    conv => whnf
    refine vcF rfl ?_
    conv => whnf
    refine vcF rfl ?_
    conv => whnf
    refine vcond_intro (t := decide (x1.At < 1)) (fun h4 => ?_) (fun h5 => ?_)
    · replace hf := ifT h4 hf
      conv => whnf
      refine vcT rfl ?_
      conv => whnf
      refine vcT rfl ?_
      conv => whnf
      refine vcT rfl ?_
      conv => whnf
      refine vcT rfl ?_
      conv => whnf
      refine vcT rfl ?_
      conv => whnf
      refine ⟨rfl, ?_⟩
      conv => whnf
      refine vcT rfl ?_
      conv => whnf
      refine ⟨rfl, ?_⟩
      conv => whnf
      refine vcT rfl ?_
      conv => whnf
      refine vcT rfl ?_
      conv => whnf
      refine at_sub (env' := [(6, (.ptr 1 0 0 0)), (8, (.ptr 2 0 0 0)), (26, (cB true))]) (st' := ⟨(upd (upd hp 1 (.row 0 4 T.api_Cell [[(cS (bs [])), (cB false), (cI 0), (cI 0)]])) 2 (.row 0 4 T.api_Cell [[(cS x1.Val), (cB x1.Dead), (cI x1.At), (cI x1.End)]])), 3, g⟩) (sk hB (fwE (fwE (fw0 wf (by rfl) (fun _ => by rfl)) rfl rfl rfl) rfl rfl rfl) (by rfl) (by rfl) ⟨cv rfl rfl, cv rfl rfl, cv rfl rfl, trivial⟩) ?_
      refine at_go ?_
      conv => whnf
      refine vcT rfl ?_
      conv => whnf
      refine cut_go ?_
      conv => whnf
      refine ⟨⟨rfl, rfl⟩, ⟨_, rfl, Nat.le_of_ble_eq_true rfl, veq_intro [[(cS (bs [])), (cB false), (cI 0), (cI 0)]] rfl ?_⟩⟩
      conv => whnf
      refine at_go ?_
      conv => whnf
      obtain rfl := Option.some.inj hf
      refine ret_c hB wf (fun _ => by rfl) ?_
      exact cv rfl rfl
    · replace hf := ifF h5 hf
      conv => whnf
      refine ⟨⟨rfl, Nat.le_of_ble_eq_true rfl⟩, ?_⟩
      conv => whnf
      refine vcF rfl ?_
      conv => whnf
      refine ⟨rfl, ⟨_, rfl, ?_⟩⟩
      conv => whnf
      refine vcF rfl ?_
      conv => whnf
      refine ⟨rfl, ⟨_, rfl, ?_⟩⟩
      conv => whnf
      refine vcF rfl ?_
      conv => whnf
      refine vcF rfl ?_
      obtain ⟨x2, h6, hf⟩ := bnd hf
      conv => whnf
      refine (row_Gone.pure r part x2 h6).call ?_
      conv => whnf
      refine vcF rfl ?_
      conv => whnf
      refine ⟨rfl, ?_⟩
      conv => whnf
      refine ⟨rfl, ⟨_, rfl, ?_⟩⟩
      conv => whnf
      refine ⟨rfl, ?_⟩
      conv => whnf
      refine vcF rfl ?_
      conv => whnf
      refine ⟨rfl, ?_⟩
      conv => whnf
      refine ⟨⟨rfl, Nat.le_of_ble_eq_true rfl⟩, ?_⟩
      conv => whnf
      refine ⟨rfl, ?_⟩
      conv => whnf
      refine vcF rfl ?_
      conv => whnf
      refine vcF rfl ?_
      conv => whnf
      refine at_sub (env' := [(6, (.ptr 1 0 0 0)), (8, (.ptr 2 0 0 0)), (26, (cB (decide (x1.At ≤ x2))))]) (st' := ⟨(upd (upd hp 1 (.row 0 4 T.api_Cell [[(cS (bs [])), (cB false), (cI 0), (cI 0)]])) 2 (.row 0 4 T.api_Cell [[(cS x1.Val), (cB x1.Dead), (cI x1.At), (cI x1.End)]])), 3, g⟩) (sk hB (fwE (fwE (fw0 wf (by rfl) (fun _ => by rfl)) rfl rfl rfl) rfl rfl rfl) (by rfl) (by rfl) ⟨cv rfl rfl, cv rfl rfl, cv rfl rfl, trivial⟩) ?_
      refine at_go ?_
      conv => whnf
      refine vcond_intro (t := decide (x1.At ≤ x2)) (fun h7 => ?_) (fun h8 => ?_)
      · replace hf := ifT h7 hf
        conv => whnf
        refine cut_go ?_
        conv => whnf
        refine ⟨⟨rfl, rfl⟩, ⟨_, rfl, Nat.le_of_ble_eq_true rfl, veq_intro [[(cS (bs [])), (cB false), (cI 0), (cI 0)]] rfl ?_⟩⟩
        conv => whnf
        refine at_go ?_
        conv => whnf
        obtain rfl := Option.some.inj hf
        refine ret_c hB wf (fun _ => by rfl) ?_
        exact cv rfl rfl
      · replace hf := ifF h8 hf
        conv => whnf
        refine at_go ?_
        conv => whnf
        refine cut_go ?_
        conv => whnf
        refine ⟨rfl, ⟨_, rfl, ?_⟩⟩
        conv => whnf
        refine ⟨⟨rfl, rfl⟩, ⟨_, rfl, Nat.le_of_ble_eq_true rfl, veq_intro [[(cS x1.Val), (cB x1.Dead), (cI x1.At), (cI x1.End)]] rfl ?_⟩⟩
        conv => whnf
        refine at_go ?_
        conv => whnf
        obtain rfl := Option.some.inj hf
        refine ret_c hB wf (fun _ => by rfl) ?_
        exact cv rfl rfl

noncomputable def slices_Index_project_picker_string_.w0 (s_ : List ByteArray) (v : ByteArray) : Nat → Int → Option (Int)
  | 0, _ => none
  | k0 + 1, v1 =>
    if (decide (v1 < (s_.length : Int))) = true then
      (at? s_ v1).bind fun x2 =>
      if (seq v x2) = true then
        some v1
      else
      slices_Index_project_picker_string_.w0 s_ v k0 (IntKind.i64.wrap (v1 + 1))
    else
    some (-1)

noncomputable def slices_Index_project_picker_string_.f (s_ : List ByteArray) (v : ByteArray) : Option (Int) :=
  slices_Index_project_picker_string_.w0 s_ v K0 0

set_option maxHeartbeats 4000000 in
theorem slices_Index_project_picker_string_.pure (s_ : List ByteArray) (v : ByteArray) (res : Int) (hf : slices_Index_project_picker_string_.f s_ v = some res) : Pure prog F.slices_Index_project_picker_string_ [(.d (.sl 1 (s_.map strD))), (cS v)] (cI res) := by
  refine pure_fn slices_Index_project_picker_string_.res (Nat.le_of_ble_eq_true rfl) (fun _ => rfl) (fun _ => rfl) fun B hp g hB wf => ?_
  rw [slices_Index_project_picker_string_.f] at hf
  conv => whnf
  refine cut_go ?_
  conv => whnf
  refine at_go ?_
  conv => whnf
  refine cut_go ?_
  conv => whnf
  refine cut_go ?_
  conv => whnf
  refine veq_intro s_.length (by simp) ?_
  conv => whnf
  refine at_go ?_
  conv => whnf
  refine loop_sub (env' := [(0, (.d (.sl 1 (s_.map strD)))), (1, (cS v)), (7, (cI (s_.length : Int))), (8, (cI 0))]) (st' := ⟨hp, 0, g⟩) (sk hB (fw0 wf (by rfl) (fun _ => by rfl)) (by rfl) (by rfl) ⟨cv rfl rfl, cv rfl rfl, cv rfl rfl, cv rfl rfl, trivial⟩) ?_
  refine loop_f (α := Int) (γ := Unit) (fun (_ : Unit) v1 => [(0, (.d (.sl 1 (s_.map strD)))), (1, (cS v)), (7, (cI (s_.length : Int))), (8, (cI v1))]) (fun (_ : Unit) v1 => ⟨hp, 0, g⟩) (fun k s => slices_Index_project_picker_string_.w0 s_ v k s) (fun _ => rfl) ?_ K0 0 () hf
  intro k0 v1 gg hf
  replace hf : slices_Index_project_picker_string_.w0 s_ v (k0 + 1) v1 = some _ := hf
  rw [slices_Index_project_picker_string_.w0] at hf
  try dsimp only
  conv => whnf
  refine cut_go ?_
  conv => whnf
  refine at_go ?_
  conv => whnf
  refine cut_go ?_
  conv => whnf
  refine vcond_intro (t := decide (v1 < (s_.length : Int))) (fun h1 => ?_) (fun h2 => ?_)
  · replace hf := ifT h1 hf
    conv => whnf
    refine at_go ?_
    conv => whnf
    refine cut_go ?_
    conv => whnf
    refine cut_go ?_
    conv => whnf
    refine at_sub (env' := [(0, (.d (.sl 1 (s_.map strD)))), (1, (cS v)), (5, (cI v1)), (7, (cI (s_.length : Int))), (8, (cI v1))]) (st' := ⟨hp, 0, g⟩) (sk hB (fw0 wf (by rfl) (fun _ => by rfl)) (by rfl) (by rfl) ⟨cv rfl rfl, cv rfl rfl, cv rfl rfl, cv rfl rfl, cv rfl rfl, trivial⟩) ?_
    refine at_go ?_
    conv => whnf
    refine cut_go ?_
    obtain ⟨x2, h3, hf⟩ := bnd hf
    conv => whnf
    refine ⟨⟨rfl, Nat.zero_lt_succ _⟩, at_nn h3, ⟨_, map_get (at_get h3), ?_⟩⟩
    conv => whnf
    refine at_go ?_
    conv => whnf
    refine vcond_intro (t := seq v x2) (fun h4 => ?_) (fun h5 => ?_)
    · replace hf := ifT h4 hf
      conv => whnf
      refine cut_go ?_
      conv => whnf
      refine at_go ?_
      conv => whnf
      obtain rfl := Option.some.inj hf
      refine ret_c hB wf (fun _ => by rfl) ?_
      exact cv rfl rfl
    · replace hf := ifF h5 hf
      conv => whnf
      refine at_go ?_
      conv => whnf
      refine veq_intro (IntKind.i64.wrap (v1 + 1)) rfl ?_
      conv => whnf
      exact ⟨IntKind.i64.wrap (v1 + 1), hf, (), sk hB (fw0 wf (by rfl) (fun _ => by rfl)) (by rfl) (by rfl) ⟨cv rfl rfl, cv rfl rfl, cv rfl rfl, cv rfl rfl, trivial⟩⟩
  · replace hf := ifF h2 hf
    conv => whnf
    refine at_go ?_
    conv => whnf
    refine cut_go ?_
    conv => whnf
    refine at_sub (env' := [(4, (cI (-1)))]) (st' := ⟨hp, 0, g⟩) (sk hB (fw0 wf (by rfl) (fun _ => by rfl)) (by rfl) (by rfl) ⟨cv rfl rfl, trivial⟩) ?_
    refine at_go ?_
    conv => whnf
    obtain rfl := Option.some.inj hf
    refine ret_c hB wf (fun _ => by rfl) ?_
    exact cv rfl rfl

noncomputable def slices_Contains_project_picker_string_.f (s_ : List ByteArray) (v : ByteArray) : Option (Bool) :=
  (slices_Index_project_picker_string_.f s_ v).bind fun x1 =>
  some (decide (0 ≤ x1))

set_option maxHeartbeats 4000000 in
theorem slices_Contains_project_picker_string_.pure (s_ : List ByteArray) (v : ByteArray) (res : Bool) (hf : slices_Contains_project_picker_string_.f s_ v = some res) : Pure prog F.slices_Contains_project_picker_string_ [(.d (.sl 1 (s_.map strD))), (cS v)] (cB res) := by
  refine pure_fn slices_Contains_project_picker_string_.res (Nat.le_of_ble_eq_true rfl) (fun _ => rfl) (fun _ => rfl) fun B hp g hB wf => ?_
  rw [slices_Contains_project_picker_string_.f] at hf
  conv => whnf
  refine cut_go ?_
  conv => whnf
  refine at_go ?_
  conv => whnf
  refine cut_go ?_
  obtain ⟨x1, h1, hf⟩ := bnd hf
  conv => whnf
  refine (slices_Index_project_picker_string_.pure s_ v x1 h1).call ?_
  conv => whnf
  refine at_go ?_
  conv => whnf
  obtain rfl := Option.some.inj hf
  refine ret_c hB wf (fun _ => by rfl) ?_
  exact cv rfl rfl

noncomputable def _project_picker__not.f (p : List ByteArray) (c : api_Col) : Option (Bool) :=
  (slices_Contains_project_picker_string_.f p c.Name).bind fun x1 =>
  some (!x1)

set_option maxHeartbeats 4000000 in
theorem _project_picker__not.pure (p : List ByteArray) (c : api_Col) (res : Bool) (hf : _project_picker__not.f p c = some res) : Pure prog F._project_picker__not [(.d (.sl 1 (p.map strD))), (agd (api_Col.d c))] (cB res) := by
  refine pure_fn _project_picker__not.res (Nat.le_of_ble_eq_true rfl) (fun _ => rfl) (fun _ => rfl) fun B hp g hB wf => ?_
  rw [_project_picker__not.f] at hf
  conv => whnf
  refine cut_go ?_
  conv => whnf
  refine at_go ?_
  conv => whnf
  refine cut_go ?_
  conv => whnf
  refine ⟨⟨rfl, Nat.le_of_ble_eq_true rfl⟩, ?_⟩
  conv => whnf
  refine ⟨rfl, ⟨_, rfl, ?_⟩⟩
  obtain ⟨x1, h1, hf⟩ := bnd hf
  conv => whnf
  refine (slices_Contains_project_picker_string_.pure p c.Name x1 h1).call ?_
  conv => whnf
  refine at_go ?_
  conv => whnf
  obtain rfl := Option.some.inj hf
  refine ret_c hB wf (fun _ => by rfl) ?_
  exact cv rfl rfl

end Go.Eng
