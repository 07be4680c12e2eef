/-
  Part of the proof that the law ProjectAll returns true at every input of bulk at most 1048576, and leaves its arguments as they were; the whole is stated at the end of the last text.
-/
import Derived.Test.YtdopmhicmehmeaaData
import Derived.Test.YtdopmhicmehmeaaCode
import Derived.Test.YtdopmhicmehmeaaWalkG
set_option maxRecDepth 100000
set_option linter.unusedVariables false
set_option linter.unusedSimpArgs false
namespace Go.Eng
open Go
noncomputable def clerestorylaw18_ProjectAll.w0 (v : api_View) (p : api_Part) (now : Int) (x7 : api_Table × api_View) : Nat → Int → Option (Bool)
  | 0, _ => none
  | k0 + 1, v14 =>
    if (decide (v14 < (p.Rows.length : Int))) = true then
      (at? p.Rows v14).bind fun x15 =>
      (project_Mirror.f x7.1 v p x15).bind fun x16 =>
      (clerestoryref18_Mirror.f v p x15).bind fun x17 =>
      (clerestoryref08_Same.f x16.1 x17.1).bind fun x18 =>
      if (!x18) = true then
        some false
      else
      if (((x16.2 == x17.2) != true)) = true then
        some false
      else
      clerestorylaw18_ProjectAll.w0 v p now x7 k0 (IntKind.i64.wrap (v14 + 1))
    else
    (project_Full.f x7.1 v p).bind fun x19 =>
    (clerestoryref18_Full.f v p).bind fun x20 =>
    (clerestorylaw00_SameParts.f x19 x20).bind fun x21 =>
    if (x21) = true then
      (project_Seen.f x7.1 v p now).bind fun x22 =>
      (clerestoryref18_Seen.f v p now).bind fun x23 =>
      (clerestorylaw00_SameParts.f x22 x23).bind fun x24 =>
      if (x24) = true then
        (clerestorylaw18_awake.f).bind fun x25 =>
        some x25
      else
      some false
    else
    some false

noncomputable def clerestorylaw18_ProjectAll.f (v : api_View) (p : api_Part) (now : Int) (key : ByteArray) (clus : ByteArray) : Option (Bool) :=
  (clerestorylaw18_few.f v).bind fun x1 =>
  if (!x1) = true then
    (clerestorylaw18_awake.f).bind fun x2 =>
    some x2
  else
  (clerestorylaw00_FewPart.f p 20).bind fun x3 =>
  if (!x3) = true then
    (clerestorylaw18_awake.f).bind fun x4 =>
    some x4
  else
  if (decide (300 < (key.size : Int))) = true then
    (clerestorylaw18_awake.f).bind fun x5 =>
    some x5
  else
  if (decide (300 < (clus.size : Int))) = true then
    (clerestorylaw18_awake.f).bind fun x6 =>
    some x6
  else
  (clerestorylaw00_View.f).bind fun x7 =>
  (project_Split.f key).bind fun x8 =>
  (clerestoryref18_Split.f key).bind fun x9 =>
  if (!seq x8.1 x9.1) = true then
    some false
  else
  if (!seq x8.2.1 x9.2.1) = true then
    some false
  else
  if (((x8.2.2 == x9.2.2) != true)) = true then
    some false
  else
  (project_Key.f key clus).bind fun x10 =>
  (clerestoryref18_Key.f key clus).bind fun x11 =>
  if (!seq x10 x11) = true then
    some false
  else
  (clerestoryref08_Check.f p).bind fun x12 =>
  if (!x12) = true then
    (clerestorylaw18_awake.f).bind fun x13 =>
    some x13
  else
  clerestorylaw18_ProjectAll.w0 v p now x7 K0 0

set_option maxHeartbeats 4000000 in
theorem clerestorylaw18_ProjectAll.pure (v : api_View) (p : api_Part) (now : Int) (key : ByteArray) (clus : ByteArray) (res : Bool) (hf : clerestorylaw18_ProjectAll.f v p now key clus = some res) : Pure prog F.clerestorylaw18_ProjectAll [(agd (api_View.d v)), (agd (api_Part.d p)), (cI now), (cS key), (cS clus)] (cB res) := by
  refine pure_fn clerestorylaw18_ProjectAll.res (Nat.le_of_ble_eq_true rfl) (fun _ => rfl) (fun _ => rfl) fun B hp g hB wf => ?_
  rw [clerestorylaw18_ProjectAll.f] at hf
  conv => whnf
  refine cut_go ?_
  conv => whnf
  refine at_go ?_
  conv => whnf
  refine cut_go ?_
  conv => whnf
  refine cut_go ?_
  conv => whnf
  refine ⟨rfl, ⟨_, rfl, ?_⟩⟩
  obtain ⟨x1, h1, hf⟩ := bnd hf
  conv => whnf
  refine (clerestorylaw18_few.pure v x1 h1).call ?_
  conv => whnf
  refine vcond_intro (t := !x1) (fun h2 => ?_) (fun h3 => ?_)
  · replace hf := ifT h2 hf
    conv => whnf
    refine vcT rfl ?_
    conv => whnf
    refine vcT rfl ?_
    conv => whnf
    refine vcT rfl ?_
    conv => whnf
    refine vcT rfl ?_
    conv => whnf
    refine vcT rfl ?_
    conv => whnf
    refine vcT rfl ?_
    conv => whnf
    refine vcT rfl ?_
    conv => whnf
    refine vcT rfl ?_
    conv => whnf
    refine vcT rfl ?_
    conv => whnf
    refine vcT rfl ?_
    conv => whnf
    refine vcT rfl ?_
    conv => whnf
    refine at_go ?_
    conv => whnf
    refine vcT rfl ?_
    conv => whnf
    refine cut_go ?_
    obtain ⟨x2, h4, hf⟩ := bnd hf
    conv => whnf
    refine (clerestorylaw18_awake.pure x2 h4).call ?_
    conv => whnf
    refine at_sub (env' := [(10, (cB x2))]) (st' := ⟨hp, 0, g⟩) (sk hB (fw0 wf (by rfl) (fun _ => by rfl)) (by rfl) (by rfl) ⟨cv rfl rfl, trivial⟩) ?_
    refine at_go ?_
    conv => whnf
    obtain rfl := Option.some.inj hf
    refine ret_c hB wf (fun _ => by rfl) ?_
    exact cv rfl rfl
  · replace hf := ifF h3 hf
    conv => whnf
    refine ⟨rfl, ⟨_, rfl, ?_⟩⟩
    conv => whnf
    refine vcF rfl ?_
    obtain ⟨x3, h5, hf⟩ := bnd hf
    conv => whnf
    refine (clerestorylaw00_FewPart.pure p 20 x3 h5).call ?_
    conv => whnf
    refine vcF rfl ?_
    conv => whnf
    refine vcF rfl ?_
    conv => whnf
    refine vcond_intro (t := !x3) (fun h6 => ?_) (fun h7 => ?_)
    · replace hf := ifT h6 hf
      conv => whnf
      refine vcT rfl ?_
      conv => whnf
      refine vcT rfl ?_
      conv => whnf
      refine vcT rfl ?_
      conv => whnf
      refine vcT rfl ?_
      conv => whnf
      refine vcT rfl ?_
      conv => whnf
      refine vcT rfl ?_
      conv => whnf
      refine vcT rfl ?_
      conv => whnf
      refine at_go ?_
      conv => whnf
      refine vcT rfl ?_
      conv => whnf
      refine cut_go ?_
      obtain ⟨x4, h8, hf⟩ := bnd hf
      conv => whnf
      refine (clerestorylaw18_awake.pure x4 h8).call ?_
      conv => whnf
      refine at_sub (env' := [(10, (cB x4))]) (st' := ⟨hp, 0, g⟩) (sk hB (fw0 wf (by rfl) (fun _ => by rfl)) (by rfl) (by rfl) ⟨cv rfl rfl, trivial⟩) ?_
      refine at_go ?_
      conv => whnf
      obtain rfl := Option.some.inj hf
      refine ret_c hB wf (fun _ => by rfl) ?_
      exact cv rfl rfl
    · replace hf := ifF h7 hf
      conv => whnf
      refine vcF rfl ?_
      conv => whnf
      refine vcF rfl ?_
      conv => whnf
      refine vcF rfl ?_
      conv => whnf
      refine vcond_intro (t := decide (300 < (key.size : Int))) (fun h9 => ?_) (fun h10 => ?_)
      · replace hf := ifT h9 hf
        conv => whnf
        refine vcT rfl ?_
        conv => whnf
        refine vcT rfl ?_
        conv => whnf
        refine vcT rfl ?_
        conv => whnf
        refine at_go ?_
        conv => whnf
        refine vcT rfl ?_
        conv => whnf
        refine cut_go ?_
        obtain ⟨x5, h11, hf⟩ := bnd hf
        conv => whnf
        refine (clerestorylaw18_awake.pure x5 h11).call ?_
        conv => whnf
        refine at_sub (env' := [(10, (cB x5))]) (st' := ⟨hp, 0, g⟩) (sk hB (fw0 wf (by rfl) (fun _ => by rfl)) (by rfl) (by rfl) ⟨cv rfl rfl, trivial⟩) ?_
        refine at_go ?_
        conv => whnf
        obtain rfl := Option.some.inj hf
        refine ret_c hB wf (fun _ => by rfl) ?_
        exact cv rfl rfl
      · replace hf := ifF h10 hf
        conv => whnf
        refine vcF rfl ?_
        conv => whnf
        refine vcF rfl ?_
        conv => whnf
        refine vcF rfl ?_
        conv => whnf
        refine at_go ?_
        conv => whnf
        refine vcond_intro (t := decide (300 < (clus.size : Int))) (fun h12 => ?_) (fun h13 => ?_)
        · replace hf := ifT h12 hf
          conv => whnf
          refine cut_go ?_
          obtain ⟨x6, h14, hf⟩ := bnd hf
          conv => whnf
          refine (clerestorylaw18_awake.pure x6 h14).call ?_
          conv => whnf
          refine at_sub (env' := [(10, (cB x6))]) (st' := ⟨hp, 0, g⟩) (sk hB (fw0 wf (by rfl) (fun _ => by rfl)) (by rfl) (by rfl) ⟨cv rfl rfl, trivial⟩) ?_
          refine at_go ?_
          conv => whnf
          obtain rfl := Option.some.inj hf
          refine ret_c hB wf (fun _ => by rfl) ?_
          exact cv rfl rfl
        · replace hf := ifF h13 hf
          conv => whnf
          refine at_sub (env' := [(2, (cI now)), (3, (cS key)), (4, (cS clus)), (5, (.ptr 0 0 0 0)), (6, (.ptr 1 0 0 0)), (41, (cB (decide (300 < (clus.size : Int)))))]) (st' := ⟨(upd (upd hp 0 (.row 0 5 T.api_View [[(cS v.Name), (cI v.ID), (cS v.Table), (cS v.On), (.d (.sl 1 (v.Cols.map strD)))]])) 1 (.row 0 3 T.api_Part [[(cS p.Key), (cI p.Gone), (.d (.sl 8 (p.Rows.map api_Row.d)))]])), 2, g⟩) (sk hB (fwE (fwE (fw0 wf (by rfl) (fun _ => by rfl)) rfl rfl rfl) rfl rfl rfl) (by rfl) (by rfl) ⟨cv rfl rfl, cv rfl rfl, cv rfl rfl, cv rfl rfl, cv rfl rfl, cv rfl rfl, trivial⟩) ?_
          refine at_go ?_
          conv => whnf
          refine cut_go ?_
          obtain ⟨x7, h15, hf⟩ := bnd hf
          conv => whnf
          refine (clerestorylaw00_View.pure x7 h15).call ?_
          conv => whnf
          refine ⟨⟨rfl, rfl⟩, ⟨_, rfl, Nat.le_of_ble_eq_true rfl, veq_intro [[(cS x7.1.Name), (cI x7.1.ID), (cS x7.1.Part.Name), (cI x7.1.Part.Type_), (cS x7.1.Clus.Name), (cI x7.1.Clus.Type_), (.d (.sl 2 (x7.1.Cols.map api_Column.d)))]] rfl ?_⟩⟩
          conv => whnf
          refine ⟨⟨rfl, rfl⟩, ⟨_, rfl, Nat.le_of_ble_eq_true rfl, veq_intro [[(cS x7.2.Name), (cI x7.2.ID), (cS x7.2.Table), (cS x7.2.On), (.d (.sl 1 (x7.2.Cols.map strD)))]] rfl ?_⟩⟩
          conv => whnf
          refine at_go ?_
          conv => whnf
          refine cut_go ?_
          obtain ⟨x8, h16, hf⟩ := bnd hf
          conv => whnf
          refine (project_Split.pure key x8 h16).call ?_
          conv => whnf
          refine at_go ?_
          conv => whnf
          refine cut_go ?_
          obtain ⟨x9, h17, hf⟩ := bnd hf
          conv => whnf
          refine (clerestoryref18_Split.pure key x9 h17).call ?_
          conv => whnf
          refine at_sub (env' := [(2, (cI now)), (3, (cS key)), (4, (cS clus)), (5, (.ptr 0 0 0 0)), (6, (.ptr 1 0 0 0)), (11, (.ptr 2 0 0 0)), (13, (cS x8.1)), (14, (cS x8.2.1)), (15, (cB x8.2.2)), (16, (cS x9.1)), (17, (cS x9.2.1)), (18, (cB x9.2.2))]) (st' := ⟨(upd (upd (upd hp 0 (.row 0 5 T.api_View [[(cS v.Name), (cI v.ID), (cS v.Table), (cS v.On), (.d (.sl 1 (v.Cols.map strD)))]])) 1 (.row 0 3 T.api_Part [[(cS p.Key), (cI p.Gone), (.d (.sl 8 (p.Rows.map api_Row.d)))]])) 2 (.row 0 7 T.api_Table [[(cS x7.1.Name), (cI x7.1.ID), (cS x7.1.Part.Name), (cI x7.1.Part.Type_), (cS x7.1.Clus.Name), (cI x7.1.Clus.Type_), (.d (.sl 2 (x7.1.Cols.map api_Column.d)))]])), 3, g⟩) (sk hB (fwE (fwE (fwE (fw0 wf (by rfl) (fun _ => by rfl)) rfl rfl rfl) rfl rfl rfl) rfl rfl rfl) (by rfl) (by rfl) ⟨cv rfl rfl, cv rfl rfl, cv rfl rfl, cv rfl rfl, cv rfl rfl, cv rfl rfl, cv rfl rfl, cv rfl rfl, cv rfl rfl, cv rfl rfl, cv rfl rfl, cv rfl rfl, trivial⟩) ?_
          refine at_go ?_
          conv => whnf
          refine cut_go ?_
          conv => whnf
          refine cut_go ?_
          conv => whnf
          refine vcond_intro (t := !seq x8.1 x9.1) (fun h18 => ?_) (fun h19 => ?_)
          · replace hf := ifT h18 hf
            conv => whnf
            refine vcT rfl ?_
            conv => whnf
            refine vcT rfl ?_
            conv => whnf
            refine vcT rfl ?_
            conv => whnf
            refine vcT rfl ?_
            conv => whnf
            refine vcT rfl ?_
            conv => whnf
            refine vcT rfl ?_
            conv => whnf
            refine vcT rfl ?_
            conv => whnf
            refine vcT rfl ?_
            conv => whnf
            refine vcT rfl ?_
            conv => whnf
            refine vcT rfl ?_
            conv => whnf
            refine vcT rfl ?_
            conv => whnf
            refine vcT rfl ?_
            conv => whnf
            refine vcT rfl ?_
            conv => whnf
            refine vcT rfl ?_
            conv => whnf
            refine vcT rfl ?_
            conv => whnf
            refine at_go ?_
            conv => whnf
            refine vcT rfl ?_
            conv => whnf
            refine cut_go ?_
            conv => whnf
            refine at_go ?_
            conv => whnf
            obtain rfl := Option.some.inj hf
            refine ret_c hB wf (fun _ => by rfl) ?_
            exact cv rfl rfl
          · replace hf := ifF h19 hf
            conv => whnf
            refine vcF rfl ?_
            conv => whnf
            refine vcF rfl ?_
            conv => whnf
            refine vcF rfl ?_
            conv => whnf
            refine vcond_intro (t := !seq x8.2.1 x9.2.1) (fun h20 => ?_) (fun h21 => ?_)
            · replace hf := ifT h20 hf
              conv => whnf
              refine vcT rfl ?_
              conv => whnf
              refine vcT rfl ?_
              conv => whnf
              refine vcT rfl ?_
              conv => whnf
              refine vcT rfl ?_
              conv => whnf
              refine vcT rfl ?_
              conv => whnf
              refine vcT rfl ?_
              conv => whnf
              refine vcT rfl ?_
              conv => whnf
              refine vcT rfl ?_
              conv => whnf
              refine vcT rfl ?_
              conv => whnf
              refine vcT rfl ?_
              conv => whnf
              refine vcT rfl ?_
              conv => whnf
              refine at_go ?_
              conv => whnf
              refine vcT rfl ?_
              conv => whnf
              refine cut_go ?_
              conv => whnf
              refine at_go ?_
              conv => whnf
              obtain rfl := Option.some.inj hf
              refine ret_c hB wf (fun _ => by rfl) ?_
              exact cv rfl rfl
            · replace hf := ifF h21 hf
              conv => whnf
              refine vcF rfl ?_
              conv => whnf
              refine vcF rfl ?_
              conv => whnf
              refine vcF rfl ?_
              conv => whnf
              refine vcond_intro (t := ((x8.2.2 == x9.2.2) != true)) (fun h22 => ?_) (fun h23 => ?_)
              · replace hf := ifT h22 hf
                conv => whnf
                refine vcT rfl ?_
                conv => whnf
                refine vcT rfl ?_
                conv => whnf
                refine vcT rfl ?_
                conv => whnf
                refine vcT rfl ?_
                conv => whnf
                refine vcT rfl ?_
                conv => whnf
                refine vcT rfl ?_
                conv => whnf
                refine vcT rfl ?_
                conv => whnf
                refine at_go ?_
                conv => whnf
                refine vcT rfl ?_
                conv => whnf
                refine cut_go ?_
                conv => whnf
                refine at_go ?_
                conv => whnf
                obtain rfl := Option.some.inj hf
                refine ret_c hB wf (fun _ => by rfl) ?_
                exact cv rfl rfl
              · replace hf := ifF h23 hf
                conv => whnf
                refine vcF rfl ?_
                conv => whnf
                refine vcF rfl ?_
                obtain ⟨x10, h24, hf⟩ := bnd hf
                conv => whnf
                refine (project_Key.pure key clus x10 h24).call ?_
                conv => whnf
                refine vcF rfl ?_
                conv => whnf
                refine vcF rfl ?_
                conv => whnf
                refine vcF rfl ?_
                obtain ⟨x11, h25, hf⟩ := bnd hf
                conv => whnf
                refine (clerestoryref18_Key.pure key clus x11 h25).call ?_
                conv => whnf
                refine vcF rfl ?_
                conv => whnf
                refine vcF rfl ?_
                conv => whnf
                refine at_go ?_
                conv => whnf
                refine vcond_intro (t := !seq x10 x11) (fun h26 => ?_) (fun h27 => ?_)
                · replace hf := ifT h26 hf
                  conv => whnf
                  refine cut_go ?_
                  conv => whnf
                  refine at_go ?_
                  conv => whnf
                  obtain rfl := Option.some.inj hf
                  refine ret_c hB wf (fun _ => by rfl) ?_
                  exact cv rfl rfl
                · replace hf := ifF h27 hf
                  conv => whnf
                  refine at_go ?_
                  conv => whnf
                  refine cut_go ?_
                  conv => whnf
                  refine cut_go ?_
                  conv => whnf
                  refine ⟨rfl, ⟨_, rfl, ?_⟩⟩
                  obtain ⟨x12, h28, hf⟩ := bnd hf
                  conv => whnf
                  refine (clerestoryref08_Check.pure p x12 h28).call ?_
                  conv => whnf
                  refine at_sub (env' := [(2, (cI now)), (5, (.ptr 0 0 0 0)), (6, (.ptr 1 0 0 0)), (11, (.ptr 2 0 0 0)), (83, (cB (!x12)))]) (st' := ⟨(upd (upd (upd hp 0 (.row 0 5 T.api_View [[(cS v.Name), (cI v.ID), (cS v.Table), (cS v.On), (.d (.sl 1 (v.Cols.map strD)))]])) 1 (.row 0 3 T.api_Part [[(cS p.Key), (cI p.Gone), (.d (.sl 8 (p.Rows.map api_Row.d)))]])) 2 (.row 0 7 T.api_Table [[(cS x7.1.Name), (cI x7.1.ID), (cS x7.1.Part.Name), (cI x7.1.Part.Type_), (cS x7.1.Clus.Name), (cI x7.1.Clus.Type_), (.d (.sl 2 (x7.1.Cols.map api_Column.d)))]])), 3, g⟩) (sk hB (fwE (fwE (fwE (fw0 wf (by rfl) (fun _ => by rfl)) rfl rfl rfl) rfl rfl rfl) rfl rfl rfl) (by rfl) (by rfl) ⟨cv rfl rfl, cv rfl rfl, cv rfl rfl, cv rfl rfl, cv rfl rfl, trivial⟩) ?_
                  refine at_go ?_
                  conv => whnf
                  refine vcond_intro (t := !x12) (fun h29 => ?_) (fun h30 => ?_)
                  · replace hf := ifT h29 hf
                    conv => whnf
                    refine cut_go ?_
                    obtain ⟨x13, h31, hf⟩ := bnd hf
                    conv => whnf
                    refine (clerestorylaw18_awake.pure x13 h31).call ?_
                    conv => whnf
                    refine at_go ?_
                    conv => whnf
                    obtain rfl := Option.some.inj hf
                    refine ret_c hB wf (fun _ => by rfl) ?_
                    exact cv rfl rfl
                  · replace hf := ifF h30 hf
                    conv => whnf
                    refine at_go ?_
                    conv => whnf
                    refine cut_go ?_
                    conv => whnf
                    refine cut_go ?_
                    conv => whnf
                    refine at_go ?_
                    conv => whnf
                    refine loop_sub (env' := [(2, (cI now)), (5, (.ptr 0 0 0 0)), (6, (.ptr 1 0 0 0)), (11, (.ptr 2 0 0 0)), (19, (cI 0))]) (st' := ⟨(upd (upd (upd hp 0 (.row 0 5 T.api_View [[(cS v.Name), (cI v.ID), (cS v.Table), (cS v.On), (.d (.sl 1 (v.Cols.map strD)))]])) 1 (.row 0 3 T.api_Part [[(cS p.Key), (cI p.Gone), (.d (.sl 8 (p.Rows.map api_Row.d)))]])) 2 (.row 0 7 T.api_Table [[(cS x7.1.Name), (cI x7.1.ID), (cS x7.1.Part.Name), (cI x7.1.Part.Type_), (cS x7.1.Clus.Name), (cI x7.1.Clus.Type_), (.d (.sl 2 (x7.1.Cols.map api_Column.d)))]])), 3, g⟩) (sk hB (fwE (fwE (fwE (fw0 wf (by rfl) (fun _ => by rfl)) rfl rfl rfl) rfl rfl rfl) rfl rfl rfl) (by rfl) (by rfl) ⟨cv rfl rfl, cv rfl rfl, cv rfl rfl, cv rfl rfl, cv rfl rfl, trivial⟩) ?_
                    refine loop_f (α := Int) (γ := Unit) (fun (_ : Unit) v14 => [(2, (cI now)), (5, (.ptr 0 0 0 0)), (6, (.ptr 1 0 0 0)), (11, (.ptr 2 0 0 0)), (19, (cI v14))]) (fun (_ : Unit) v14 => ⟨(upd (upd (upd hp 0 (.row 0 5 T.api_View [[(cS v.Name), (cI v.ID), (cS v.Table), (cS v.On), (.d (.sl 1 (v.Cols.map strD)))]])) 1 (.row 0 3 T.api_Part [[(cS p.Key), (cI p.Gone), (.d (.sl 8 (p.Rows.map api_Row.d)))]])) 2 (.row 0 7 T.api_Table [[(cS x7.1.Name), (cI x7.1.ID), (cS x7.1.Part.Name), (cI x7.1.Part.Type_), (cS x7.1.Clus.Name), (cI x7.1.Clus.Type_), (.d (.sl 2 (x7.1.Cols.map api_Column.d)))]])), 3, g⟩) (fun k s => clerestorylaw18_ProjectAll.w0 v p now x7 k s) (fun _ => rfl) ?_ K0 0 () hf
                    intro k0 v14 gg hf
                    replace hf : clerestorylaw18_ProjectAll.w0 v p now x7 (k0 + 1) v14 = some _ := hf
                    rw [clerestorylaw18_ProjectAll.w0] at hf
                    try dsimp only
                    conv => whnf
                    refine cut_go ?_
                    conv => whnf
                    refine cut_go ?_
                    conv => whnf
                    refine ⟨⟨rfl, Nat.le_of_ble_eq_true rfl⟩, ?_⟩
                    conv => whnf
                    refine ⟨rfl, ⟨_, rfl, ?_⟩⟩
                    conv => whnf
                    refine veq_intro p.Rows.length (by simp) ?_
                    conv => whnf
                    refine at_go ?_
                    conv => whnf
                    refine vcond_intro (t := decide (v14 < (p.Rows.length : Int))) (fun h32 => ?_) (fun h33 => ?_)
                    · replace hf := ifT h32 hf
                      conv => whnf
                      refine at_go ?_
                      conv => whnf
                      refine cut_go ?_
                      conv => whnf
                      refine cut_go ?_
                      conv => whnf
                      refine ⟨rfl, ⟨_, rfl, ?_⟩⟩
                      conv => whnf
                      refine ⟨rfl, ⟨_, rfl, ?_⟩⟩
                      conv => whnf
                      refine ⟨rfl, ⟨_, rfl, ?_⟩⟩
                      conv => whnf
                      refine ⟨⟨rfl, Nat.le_of_ble_eq_true rfl⟩, ?_⟩
                      conv => whnf
                      refine ⟨rfl, ⟨_, rfl, ?_⟩⟩
                      obtain ⟨x15, h34, hf⟩ := bnd hf
                      conv => whnf
                      refine ⟨⟨rfl, Nat.zero_lt_succ _⟩, at_nn h34, ⟨_, map_get (at_get h34), ?_⟩⟩
                      conv => whnf
                      refine ⟨?_, ?_⟩
                      · obtain ⟨x16, h35, hf⟩ := bnd hf
                        conv => whnf
                        refine (project_Mirror.pure x7.1 v p x15 x16 h35).call ?_
                        conv => whnf
                        refine ⟨⟨rfl, rfl⟩, ⟨_, rfl, Nat.le_of_ble_eq_true rfl, veq_intro [[(cS x16.1.Key), (cI x16.1.Gone), (.d (.sl 8 (x16.1.Rows.map api_Row.d)))]] rfl ?_⟩⟩
                        conv => whnf
                        refine at_sub (env' := [(2, (cI now)), (5, (.ptr 0 0 0 0)), (6, (.ptr 1 0 0 0)), (11, (.ptr 2 0 0 0)), (19, (cI v14)), (20, (.ptr 3 0 0 0)), (21, (cB x16.2))]) (st' := ⟨(upd (upd (upd (upd hp 0 (.row 0 5 T.api_View [[(cS v.Name), (cI v.ID), (cS v.Table), (cS v.On), (.d (.sl 1 (v.Cols.map strD)))]])) 1 (.row 0 3 T.api_Part [[(cS p.Key), (cI p.Gone), (.d (.sl 8 (p.Rows.map api_Row.d)))]])) 2 (.row 0 7 T.api_Table [[(cS x7.1.Name), (cI x7.1.ID), (cS x7.1.Part.Name), (cI x7.1.Part.Type_), (cS x7.1.Clus.Name), (cI x7.1.Clus.Type_), (.d (.sl 2 (x7.1.Cols.map api_Column.d)))]])) 3 (.row 0 3 T.api_Part [[(cS x16.1.Key), (cI x16.1.Gone), (.d (.sl 8 (x16.1.Rows.map api_Row.d)))]])), 4, g⟩) (sk hB (fwE (fwE (fwE (fwE (fw0 wf (by rfl) (fun _ => by rfl)) rfl rfl rfl) rfl rfl rfl) rfl rfl rfl) rfl rfl rfl) (by rfl) (by rfl) ⟨cv rfl rfl, cv rfl rfl, cv rfl rfl, cv rfl rfl, cv rfl rfl, cv rfl rfl, cv rfl rfl, trivial⟩) ?_
                        refine at_go ?_
                        conv => whnf
                        refine cut_go ?_
                        conv => whnf
                        refine ⟨rfl, ⟨_, rfl, ?_⟩⟩
                        conv => whnf
                        refine ⟨rfl, ⟨_, rfl, ?_⟩⟩
                        conv => whnf
                        refine ⟨⟨rfl, Nat.le_of_ble_eq_true rfl⟩, ?_⟩
                        conv => whnf
                        refine ⟨rfl, ⟨_, rfl, ?_⟩⟩
                        conv => whnf
                        refine ⟨⟨rfl, Nat.zero_lt_succ _⟩, at_nn h34, ⟨_, map_get (at_get h34), ?_⟩⟩
                        conv => whnf
                        refine ⟨?_, ?_⟩
                        · obtain ⟨x17, h36, hf⟩ := bnd hf
                          conv => whnf
                          refine (clerestoryref18_Mirror.pure v p x15 x17 h36).call ?_
                          conv => whnf
                          refine ⟨⟨rfl, rfl⟩, ⟨_, rfl, Nat.le_of_ble_eq_true rfl, veq_intro [[(cS x17.1.Key), (cI x17.1.Gone), (.d (.sl 8 (x17.1.Rows.map api_Row.d)))]] rfl ?_⟩⟩
                          conv => whnf
                          refine at_go ?_
                          conv => whnf
                          refine cut_go ?_
                          conv => whnf
                          refine ⟨rfl, ⟨_, rfl, ?_⟩⟩
                          conv => whnf
                          refine ⟨rfl, ⟨_, rfl, ?_⟩⟩
                          obtain ⟨x18, h37, hf⟩ := bnd hf
                          conv => whnf
                          refine (clerestoryref08_Same.pure x16.1 x17.1 x18 h37).call ?_
                          conv => whnf
                          refine vcond_intro (t := !x18) (fun h38 => ?_) (fun h39 => ?_)
                          · replace hf := ifT h38 hf
                            conv => whnf
                            refine vcT rfl ?_
                            conv => whnf
                            refine vcT rfl ?_
                            conv => whnf
                            refine vcT rfl ?_
                            conv => whnf
                            refine at_go ?_
                            conv => whnf
                            refine vcT rfl ?_
                            conv => whnf
                            refine cut_go ?_
                            conv => whnf
                            refine at_sub (env' := [(10, (cB false))]) (st' := ⟨hp, 0, g⟩) (sk hB (fw0 wf (by rfl) (fun _ => by rfl)) (by rfl) (by rfl) ⟨cv rfl rfl, trivial⟩) ?_
                            refine at_go ?_
                            conv => whnf
                            obtain rfl := Option.some.inj hf
                            refine ret_c hB wf (fun _ => by rfl) ?_
                            exact cv rfl rfl
                          · replace hf := ifF h39 hf
                            conv => whnf
                            refine vcF rfl ?_
                            conv => whnf
                            refine vcF rfl ?_
                            conv => whnf
                            refine vcF rfl ?_
                            conv => whnf
                            refine at_go ?_
                            conv => whnf
                            refine vcond_intro (t := ((x16.2 == x17.2) != true)) (fun h40 => ?_) (fun h41 => ?_)
                            · replace hf := ifT h40 hf
                              conv => whnf
                              refine cut_go ?_
                              conv => whnf
                              refine at_sub (env' := [(10, (cB false))]) (st' := ⟨hp, 0, g⟩) (sk hB (fw0 wf (by rfl) (fun _ => by rfl)) (by rfl) (by rfl) ⟨cv rfl rfl, trivial⟩) ?_
                              refine at_go ?_
                              conv => whnf
                              obtain rfl := Option.some.inj hf
                              refine ret_c hB wf (fun _ => by rfl) ?_
                              exact cv rfl rfl
                            · replace hf := ifF h41 hf
                              conv => whnf
                              refine at_sub (env' := [(2, (cI now)), (5, (.ptr 0 0 0 0)), (6, (.ptr 1 0 0 0)), (11, (.ptr 2 0 0 0)), (19, (cI v14)), (123, (cB ((x16.2 == x17.2) != true)))]) (st' := ⟨(upd (upd (upd hp 0 (.row 0 5 T.api_View [[(cS v.Name), (cI v.ID), (cS v.Table), (cS v.On), (.d (.sl 1 (v.Cols.map strD)))]])) 1 (.row 0 3 T.api_Part [[(cS p.Key), (cI p.Gone), (.d (.sl 8 (p.Rows.map api_Row.d)))]])) 2 (.row 0 7 T.api_Table [[(cS x7.1.Name), (cI x7.1.ID), (cS x7.1.Part.Name), (cI x7.1.Part.Type_), (cS x7.1.Clus.Name), (cI x7.1.Clus.Type_), (.d (.sl 2 (x7.1.Cols.map api_Column.d)))]])), 3, g⟩) (sk hB (fwE (fwE (fwE (fw0 wf (by rfl) (fun _ => by rfl)) rfl rfl rfl) rfl rfl rfl) rfl rfl rfl) (by rfl) (by rfl) ⟨cv rfl rfl, cv rfl rfl, cv rfl rfl, cv rfl rfl, cv rfl rfl, cv rfl rfl, trivial⟩) ?_
                              refine at_go ?_
                              conv => whnf
                              refine veq_intro (IntKind.i64.wrap (v14 + 1)) rfl ?_
                              conv => whnf
                              exact ⟨IntKind.i64.wrap (v14 + 1), hf, (), sk hB (fwE (fwE (fwE (fw0 wf (by rfl) (fun _ => by rfl)) rfl rfl rfl) rfl rfl rfl) rfl rfl rfl) (by rfl) (by rfl) ⟨cv rfl rfl, cv rfl rfl, cv rfl rfl, cv rfl rfl, cv rfl rfl, trivial⟩⟩
                        · conv => whnf
                          refine ⟨rfl, ?_⟩
                          conv => whnf
                          refine ⟨rfl, ?_⟩
                          conv => whnf
                          refine ⟨rfl, ?_⟩
                          conv => whnf
                          refine ⟨⟨rfl, Nat.zero_lt_succ _⟩, at_nn h34, ⟨_, map_get (at_get h34), ?_⟩⟩
                          conv => whnf
                          refine ⟨rfl, ?_⟩
                          conv => whnf
                          refine ⟨rfl, ?_⟩
                          conv => whnf
                          refine ⟨rfl, ⟨_, rfl, ?_⟩⟩
                          conv => whnf
                          refine ⟨rfl, ?_⟩
                          conv => whnf
                          refine ⟨rfl, ?_⟩
                          conv => whnf
                          refine ⟨⟨rfl, Nat.le_of_ble_eq_true rfl⟩, ?_⟩
                          conv => whnf
                          refine ⟨rfl, ?_⟩
                          conv => whnf
                          refine ⟨rfl, ?_⟩
                          conv => whnf
                          refine ⟨rfl, ⟨_, rfl, ?_⟩⟩
                          conv => whnf
                          refine ⟨rfl, ?_⟩
                          conv => whnf
                          refine ⟨rfl, ?_⟩
                          conv => whnf
                          refine ⟨rfl, ⟨_, rfl, ?_⟩⟩
                          conv => whnf
                          refine ⟨rfl, ?_⟩
                          obtain ⟨x17, h42, hf⟩ := bnd hf
                          conv => whnf
                          refine (clerestoryref18_Mirror.pure v p x15 x17 h42).call ?_
                          conv => whnf
                          refine ⟨⟨rfl, rfl⟩, ⟨_, rfl, Nat.le_of_ble_eq_true rfl, veq_intro [[(cS x17.1.Key), (cI x17.1.Gone), (.d (.sl 8 (x17.1.Rows.map api_Row.d)))]] rfl ?_⟩⟩
                          conv => whnf
                          refine at_go ?_
                          conv => whnf
                          refine cut_go ?_
                          conv => whnf
                          refine ⟨rfl, ⟨_, rfl, ?_⟩⟩
                          conv => whnf
                          refine ⟨rfl, ⟨_, rfl, ?_⟩⟩
                          obtain ⟨x18, h43, hf⟩ := bnd hf
                          conv => whnf
                          refine (clerestoryref08_Same.pure x16.1 x17.1 x18 h43).call ?_
                          conv => whnf
                          refine vcond_intro (t := !x18) (fun h44 => ?_) (fun h45 => ?_)
                          · replace hf := ifT h44 hf
                            conv => whnf
                            refine vcT rfl ?_
                            conv => whnf
                            refine vcT rfl ?_
                            conv => whnf
                            refine vcT rfl ?_
                            conv => whnf
                            refine at_go ?_
                            conv => whnf
                            refine vcT rfl ?_
                            conv => whnf
                            refine cut_go ?_
                            conv => whnf
                            refine at_sub (env' := [(10, (cB false))]) (st' := ⟨hp, 0, g⟩) (sk hB (fw0 wf (by rfl) (fun _ => by rfl)) (by rfl) (by rfl) ⟨cv rfl rfl, trivial⟩) ?_
                            refine at_go ?_
                            conv => whnf
                            obtain rfl := Option.some.inj hf
                            refine ret_c hB wf (fun _ => by rfl) ?_
                            exact cv rfl rfl
                          · replace hf := ifF h45 hf
                            conv => whnf
                            refine vcF rfl ?_
                            conv => whnf
                            refine vcF rfl ?_
                            conv => whnf
                            refine vcF rfl ?_
                            conv => whnf
                            refine at_go ?_
                            conv => whnf
                            refine vcond_intro (t := ((x16.2 == x17.2) != true)) (fun h46 => ?_) (fun h47 => ?_)
                            · replace hf := ifT h46 hf
                              conv => whnf
                              refine cut_go ?_
                              conv => whnf
                              refine at_sub (env' := [(10, (cB false))]) (st' := ⟨hp, 0, g⟩) (sk hB (fw0 wf (by rfl) (fun _ => by rfl)) (by rfl) (by rfl) ⟨cv rfl rfl, trivial⟩) ?_
                              refine at_go ?_
                              conv => whnf
                              obtain rfl := Option.some.inj hf
                              refine ret_c hB wf (fun _ => by rfl) ?_
                              exact cv rfl rfl
                            · replace hf := ifF h47 hf
                              conv => whnf
                              refine at_sub (env' := [(2, (cI now)), (5, (.ptr 0 0 0 0)), (6, (.ptr 1 0 0 0)), (11, (.ptr 2 0 0 0)), (19, (cI v14)), (123, (cB ((x16.2 == x17.2) != true)))]) (st' := ⟨(upd (upd (upd hp 0 (.row 0 5 T.api_View [[(cS v.Name), (cI v.ID), (cS v.Table), (cS v.On), (.d (.sl 1 (v.Cols.map strD)))]])) 1 (.row 0 3 T.api_Part [[(cS p.Key), (cI p.Gone), (.d (.sl 8 (p.Rows.map api_Row.d)))]])) 2 (.row 0 7 T.api_Table [[(cS x7.1.Name), (cI x7.1.ID), (cS x7.1.Part.Name), (cI x7.1.Part.Type_), (cS x7.1.Clus.Name), (cI x7.1.Clus.Type_), (.d (.sl 2 (x7.1.Cols.map api_Column.d)))]])), 3, g⟩) (sk hB (fwE (fwE (fwE (fw0 wf (by rfl) (fun _ => by rfl)) rfl rfl rfl) rfl rfl rfl) rfl rfl rfl) (by rfl) (by rfl) ⟨cv rfl rfl, cv rfl rfl, cv rfl rfl, cv rfl rfl, cv rfl rfl, cv rfl rfl, trivial⟩) ?_
                              refine at_go ?_
                              conv => whnf
                              refine veq_intro (IntKind.i64.wrap (v14 + 1)) rfl ?_
                              conv => whnf
                              exact ⟨IntKind.i64.wrap (v14 + 1), hf, (), sk hB (fwE (fwE (fwE (fw0 wf (by rfl) (fun _ => by rfl)) rfl rfl rfl) rfl rfl rfl) rfl rfl rfl) (by rfl) (by rfl) ⟨cv rfl rfl, cv rfl rfl, cv rfl rfl, cv rfl rfl, cv rfl rfl, trivial⟩⟩
                      · conv => whnf
                        refine ⟨rfl, ?_⟩
                        conv => whnf
                        refine ⟨rfl, ?_⟩
                        conv => whnf
                        refine ⟨rfl, ?_⟩
                        conv => whnf
                        refine ⟨⟨rfl, Nat.zero_lt_succ _⟩, at_nn h34, ⟨_, map_get (at_get h34), ?_⟩⟩
                        conv => whnf
                        refine ⟨rfl, ?_⟩
                        conv => whnf
                        refine ⟨rfl, ?_⟩
                        conv => whnf
                        refine ⟨rfl, ⟨_, rfl, ?_⟩⟩
                        conv => whnf
                        refine ⟨rfl, ?_⟩
                        conv => whnf
                        refine ⟨rfl, ?_⟩
                        conv => whnf
                        refine ⟨⟨rfl, Nat.le_of_ble_eq_true rfl⟩, ?_⟩
                        conv => whnf
                        refine ⟨rfl, ?_⟩
                        conv => whnf
                        refine ⟨rfl, ?_⟩
                        conv => whnf
                        refine ⟨rfl, ⟨_, rfl, ?_⟩⟩
                        conv => whnf
                        refine ⟨rfl, ?_⟩
                        conv => whnf
                        refine ⟨rfl, ?_⟩
                        conv => whnf
                        refine ⟨rfl, ⟨_, rfl, ?_⟩⟩
                        conv => whnf
                        refine ⟨rfl, ?_⟩
                        conv => whnf
                        refine ⟨rfl, ?_⟩
                        conv => whnf
                        refine ⟨rfl, ⟨_, rfl, ?_⟩⟩
                        conv => whnf
                        refine ⟨rfl, ?_⟩
                        obtain ⟨x16, h48, hf⟩ := bnd hf
                        conv => whnf
                        refine (project_Mirror.pure x7.1 v p x15 x16 h48).call ?_
                        conv => whnf
                        refine ⟨⟨rfl, rfl⟩, ⟨_, rfl, Nat.le_of_ble_eq_true rfl, veq_intro [[(cS x16.1.Key), (cI x16.1.Gone), (.d (.sl 8 (x16.1.Rows.map api_Row.d)))]] rfl ?_⟩⟩
                        conv => whnf
                        refine at_sub (env' := [(2, (cI now)), (5, (.ptr 0 0 0 0)), (6, (.ptr 1 0 0 0)), (11, (.ptr 2 0 0 0)), (19, (cI v14)), (20, (.ptr 3 0 0 0)), (21, (cB x16.2))]) (st' := ⟨(upd (upd (upd (upd hp 0 (.row 0 5 T.api_View [[(cS v.Name), (cI v.ID), (cS v.Table), (cS v.On), (.d (.sl 1 (v.Cols.map strD)))]])) 1 (.row 0 3 T.api_Part [[(cS p.Key), (cI p.Gone), (.d (.sl 8 (p.Rows.map api_Row.d)))]])) 2 (.row 0 7 T.api_Table [[(cS x7.1.Name), (cI x7.1.ID), (cS x7.1.Part.Name), (cI x7.1.Part.Type_), (cS x7.1.Clus.Name), (cI x7.1.Clus.Type_), (.d (.sl 2 (x7.1.Cols.map api_Column.d)))]])) 3 (.row 0 3 T.api_Part [[(cS x16.1.Key), (cI x16.1.Gone), (.d (.sl 8 (x16.1.Rows.map api_Row.d)))]])), 4, g⟩) (sk hB (fwE (fwE (fwE (fwE (fw0 wf (by rfl) (fun _ => by rfl)) rfl rfl rfl) rfl rfl rfl) rfl rfl rfl) rfl rfl rfl) (by rfl) (by rfl) ⟨cv rfl rfl, cv rfl rfl, cv rfl rfl, cv rfl rfl, cv rfl rfl, cv rfl rfl, cv rfl rfl, trivial⟩) ?_
                        refine at_go ?_
                        conv => whnf
                        refine cut_go ?_
                        conv => whnf
                        refine ⟨rfl, ⟨_, rfl, ?_⟩⟩
                        conv => whnf
                        refine ⟨rfl, ⟨_, rfl, ?_⟩⟩
                        conv => whnf
                        refine ⟨⟨rfl, Nat.le_of_ble_eq_true rfl⟩, ?_⟩
                        conv => whnf
                        refine ⟨rfl, ⟨_, rfl, ?_⟩⟩
                        conv => whnf
                        refine ⟨⟨rfl, Nat.zero_lt_succ _⟩, at_nn h34, ⟨_, map_get (at_get h34), ?_⟩⟩
                        conv => whnf
                        refine ⟨?_, ?_⟩
                        · obtain ⟨x17, h49, hf⟩ := bnd hf
                          conv => whnf
                          refine (clerestoryref18_Mirror.pure v p x15 x17 h49).call ?_
                          conv => whnf
                          refine ⟨⟨rfl, rfl⟩, ⟨_, rfl, Nat.le_of_ble_eq_true rfl, veq_intro [[(cS x17.1.Key), (cI x17.1.Gone), (.d (.sl 8 (x17.1.Rows.map api_Row.d)))]] rfl ?_⟩⟩
                          conv => whnf
                          refine at_go ?_
                          conv => whnf
                          refine cut_go ?_
                          conv => whnf
                          refine ⟨rfl, ⟨_, rfl, ?_⟩⟩
                          conv => whnf
                          refine ⟨rfl, ⟨_, rfl, ?_⟩⟩
                          obtain ⟨x18, h50, hf⟩ := bnd hf
                          conv => whnf
                          refine (clerestoryref08_Same.pure x16.1 x17.1 x18 h50).call ?_
                          conv => whnf
                          refine vcond_intro (t := !x18) (fun h51 => ?_) (fun h52 => ?_)
                          · replace hf := ifT h51 hf
                            conv => whnf
                            refine vcT rfl ?_
                            conv => whnf
                            refine vcT rfl ?_
                            conv => whnf
                            refine vcT rfl ?_
                            conv => whnf
                            refine at_go ?_
                            conv => whnf
                            refine vcT rfl ?_
                            conv => whnf
                            refine cut_go ?_
                            conv => whnf
                            refine at_sub (env' := [(10, (cB false))]) (st' := ⟨hp, 0, g⟩) (sk hB (fw0 wf (by rfl) (fun _ => by rfl)) (by rfl) (by rfl) ⟨cv rfl rfl, trivial⟩) ?_
                            refine at_go ?_
                            conv => whnf
                            obtain rfl := Option.some.inj hf
                            refine ret_c hB wf (fun _ => by rfl) ?_
                            exact cv rfl rfl
                          · replace hf := ifF h52 hf
                            conv => whnf
                            refine vcF rfl ?_
                            conv => whnf
                            refine vcF rfl ?_
                            conv => whnf
                            refine vcF rfl ?_
                            conv => whnf
                            refine at_go ?_
                            conv => whnf
                            refine vcond_intro (t := ((x16.2 == x17.2) != true)) (fun h53 => ?_) (fun h54 => ?_)
                            · replace hf := ifT h53 hf
                              conv => whnf
                              refine cut_go ?_
                              conv => whnf
                              refine at_sub (env' := [(10, (cB false))]) (st' := ⟨hp, 0, g⟩) (sk hB (fw0 wf (by rfl) (fun _ => by rfl)) (by rfl) (by rfl) ⟨cv rfl rfl, trivial⟩) ?_
                              refine at_go ?_
                              conv => whnf
                              obtain rfl := Option.some.inj hf
                              refine ret_c hB wf (fun _ => by rfl) ?_
                              exact cv rfl rfl
                            · replace hf := ifF h54 hf
                              conv => whnf
                              refine at_sub (env' := [(2, (cI now)), (5, (.ptr 0 0 0 0)), (6, (.ptr 1 0 0 0)), (11, (.ptr 2 0 0 0)), (19, (cI v14)), (123, (cB ((x16.2 == x17.2) != true)))]) (st' := ⟨(upd (upd (upd hp 0 (.row 0 5 T.api_View [[(cS v.Name), (cI v.ID), (cS v.Table), (cS v.On), (.d (.sl 1 (v.Cols.map strD)))]])) 1 (.row 0 3 T.api_Part [[(cS p.Key), (cI p.Gone), (.d (.sl 8 (p.Rows.map api_Row.d)))]])) 2 (.row 0 7 T.api_Table [[(cS x7.1.Name), (cI x7.1.ID), (cS x7.1.Part.Name), (cI x7.1.Part.Type_), (cS x7.1.Clus.Name), (cI x7.1.Clus.Type_), (.d (.sl 2 (x7.1.Cols.map api_Column.d)))]])), 3, g⟩) (sk hB (fwE (fwE (fwE (fw0 wf (by rfl) (fun _ => by rfl)) rfl rfl rfl) rfl rfl rfl) rfl rfl rfl) (by rfl) (by rfl) ⟨cv rfl rfl, cv rfl rfl, cv rfl rfl, cv rfl rfl, cv rfl rfl, cv rfl rfl, trivial⟩) ?_
                              refine at_go ?_
                              conv => whnf
                              refine veq_intro (IntKind.i64.wrap (v14 + 1)) rfl ?_
                              conv => whnf
                              exact ⟨IntKind.i64.wrap (v14 + 1), hf, (), sk hB (fwE (fwE (fwE (fw0 wf (by rfl) (fun _ => by rfl)) rfl rfl rfl) rfl rfl rfl) rfl rfl rfl) (by rfl) (by rfl) ⟨cv rfl rfl, cv rfl rfl, cv rfl rfl, cv rfl rfl, cv rfl rfl, trivial⟩⟩
                        · conv => whnf
                          refine ⟨rfl, ?_⟩
                          conv => whnf
                          refine ⟨rfl, ?_⟩
                          conv => whnf
                          refine ⟨rfl, ?_⟩
                          conv => whnf
                          refine ⟨⟨rfl, Nat.zero_lt_succ _⟩, at_nn h34, ⟨_, map_get (at_get h34), ?_⟩⟩
                          conv => whnf
                          refine ⟨rfl, ?_⟩
                          conv => whnf
                          refine ⟨rfl, ?_⟩
                          conv => whnf
                          refine ⟨rfl, ⟨_, rfl, ?_⟩⟩
                          conv => whnf
                          refine ⟨rfl, ?_⟩
                          conv => whnf
                          refine ⟨rfl, ?_⟩
                          conv => whnf
                          refine ⟨⟨rfl, Nat.le_of_ble_eq_true rfl⟩, ?_⟩
                          conv => whnf
                          refine ⟨rfl, ?_⟩
                          conv => whnf
                          refine ⟨rfl, ?_⟩
                          conv => whnf
                          refine ⟨rfl, ⟨_, rfl, ?_⟩⟩
                          conv => whnf
                          refine ⟨rfl, ?_⟩
                          conv => whnf
                          refine ⟨rfl, ?_⟩
                          conv => whnf
                          refine ⟨rfl, ⟨_, rfl, ?_⟩⟩
                          conv => whnf
                          refine ⟨rfl, ?_⟩
                          obtain ⟨x17, h55, hf⟩ := bnd hf
                          conv => whnf
                          refine (clerestoryref18_Mirror.pure v p x15 x17 h55).call ?_
                          conv => whnf
                          refine ⟨⟨rfl, rfl⟩, ⟨_, rfl, Nat.le_of_ble_eq_true rfl, veq_intro [[(cS x17.1.Key), (cI x17.1.Gone), (.d (.sl 8 (x17.1.Rows.map api_Row.d)))]] rfl ?_⟩⟩
                          conv => whnf
                          refine at_go ?_
                          conv => whnf
                          refine cut_go ?_
                          conv => whnf
                          refine ⟨rfl, ⟨_, rfl, ?_⟩⟩
                          conv => whnf
                          refine ⟨rfl, ⟨_, rfl, ?_⟩⟩
                          obtain ⟨x18, h56, hf⟩ := bnd hf
                          conv => whnf
                          refine (clerestoryref08_Same.pure x16.1 x17.1 x18 h56).call ?_
                          conv => whnf
                          refine vcond_intro (t := !x18) (fun h57 => ?_) (fun h58 => ?_)
                          · replace hf := ifT h57 hf
                            conv => whnf
                            refine vcT rfl ?_
                            conv => whnf
                            refine vcT rfl ?_
                            conv => whnf
                            refine vcT rfl ?_
                            conv => whnf
                            refine at_go ?_
                            conv => whnf
                            refine vcT rfl ?_
                            conv => whnf
                            refine cut_go ?_
                            conv => whnf
                            refine at_sub (env' := [(10, (cB false))]) (st' := ⟨hp, 0, g⟩) (sk hB (fw0 wf (by rfl) (fun _ => by rfl)) (by rfl) (by rfl) ⟨cv rfl rfl, trivial⟩) ?_
                            refine at_go ?_
                            conv => whnf
                            obtain rfl := Option.some.inj hf
                            refine ret_c hB wf (fun _ => by rfl) ?_
                            exact cv rfl rfl
                          · replace hf := ifF h58 hf
                            conv => whnf
                            refine vcF rfl ?_
                            conv => whnf
                            refine vcF rfl ?_
                            conv => whnf
                            refine vcF rfl ?_
                            conv => whnf
                            refine at_go ?_
                            conv => whnf
                            refine vcond_intro (t := ((x16.2 == x17.2) != true)) (fun h59 => ?_) (fun h60 => ?_)
                            · replace hf := ifT h59 hf
                              conv => whnf
                              refine cut_go ?_
                              conv => whnf
                              refine at_sub (env' := [(10, (cB false))]) (st' := ⟨hp, 0, g⟩) (sk hB (fw0 wf (by rfl) (fun _ => by rfl)) (by rfl) (by rfl) ⟨cv rfl rfl, trivial⟩) ?_
                              refine at_go ?_
                              conv => whnf
                              obtain rfl := Option.some.inj hf
                              refine ret_c hB wf (fun _ => by rfl) ?_
                              exact cv rfl rfl
                            · replace hf := ifF h60 hf
                              conv => whnf
                              refine at_sub (env' := [(2, (cI now)), (5, (.ptr 0 0 0 0)), (6, (.ptr 1 0 0 0)), (11, (.ptr 2 0 0 0)), (19, (cI v14)), (123, (cB ((x16.2 == x17.2) != true)))]) (st' := ⟨(upd (upd (upd hp 0 (.row 0 5 T.api_View [[(cS v.Name), (cI v.ID), (cS v.Table), (cS v.On), (.d (.sl 1 (v.Cols.map strD)))]])) 1 (.row 0 3 T.api_Part [[(cS p.Key), (cI p.Gone), (.d (.sl 8 (p.Rows.map api_Row.d)))]])) 2 (.row 0 7 T.api_Table [[(cS x7.1.Name), (cI x7.1.ID), (cS x7.1.Part.Name), (cI x7.1.Part.Type_), (cS x7.1.Clus.Name), (cI x7.1.Clus.Type_), (.d (.sl 2 (x7.1.Cols.map api_Column.d)))]])), 3, g⟩) (sk hB (fwE (fwE (fwE (fw0 wf (by rfl) (fun _ => by rfl)) rfl rfl rfl) rfl rfl rfl) rfl rfl rfl) (by rfl) (by rfl) ⟨cv rfl rfl, cv rfl rfl, cv rfl rfl, cv rfl rfl, cv rfl rfl, cv rfl rfl, trivial⟩) ?_
                              refine at_go ?_
                              conv => whnf
                              refine veq_intro (IntKind.i64.wrap (v14 + 1)) rfl ?_
                              conv => whnf
                              exact ⟨IntKind.i64.wrap (v14 + 1), hf, (), sk hB (fwE (fwE (fwE (fw0 wf (by rfl) (fun _ => by rfl)) rfl rfl rfl) rfl rfl rfl) rfl rfl rfl) (by rfl) (by rfl) ⟨cv rfl rfl, cv rfl rfl, cv rfl rfl, cv rfl rfl, cv rfl rfl, trivial⟩⟩
                    · replace hf := ifF h33 hf
                      conv => whnf
                      refine at_go ?_
                      conv => whnf
                      refine cut_go ?_
                      conv => whnf
                      refine ⟨rfl, ⟨_, rfl, ?_⟩⟩
                      conv => whnf
                      refine ⟨rfl, ⟨_, rfl, ?_⟩⟩
                      conv => whnf
                      refine ⟨rfl, ⟨_, rfl, ?_⟩⟩
                      conv => whnf
                      refine ⟨rfl, ⟨_, rfl, ?_⟩⟩
                      conv => whnf
                      refine ⟨rfl, ⟨_, rfl, ?_⟩⟩
                      obtain ⟨x19, h61, hf⟩ := bnd hf
                      conv => whnf
                      refine (project_Full.pure x7.1 v p x19 h61).call ?_
                      conv => whnf
                      refine ⟨rfl, ?_⟩
                      conv => whnf
                      refine ⟨rfl, ⟨_, rfl, ?_⟩⟩
                      conv => whnf
                      refine ⟨rfl, ?_⟩
                      conv => whnf
                      refine ⟨rfl, ?_⟩
                      conv => whnf
                      refine ⟨rfl, ⟨_, rfl, ?_⟩⟩
                      conv => whnf
                      refine ⟨rfl, ?_⟩
                      obtain ⟨x20, h62, hf⟩ := bnd hf
                      conv => whnf
                      refine (clerestoryref18_Full.pure v p x20 h62).call ?_
                      obtain ⟨x21, h63, hf⟩ := bnd hf
                      conv => whnf
                      refine (clerestorylaw00_SameParts.pure x19 x20 x21 h63).call ?_
                      conv => whnf
                      refine vcond_intro (t := x21) (fun h64 => ?_) (fun h65 => ?_)
                      · replace hf := ifT h64 hf
                        conv => whnf
                        refine ⟨rfl, ⟨_, rfl, ?_⟩⟩
                        conv => whnf
                        refine vcT rfl ?_
                        conv => whnf
                        refine ⟨rfl, ⟨_, rfl, ?_⟩⟩
                        conv => whnf
                        refine vcT rfl ?_
                        conv => whnf
                        refine ⟨rfl, ⟨_, rfl, ?_⟩⟩
                        conv => whnf
                        refine vcT rfl ?_
                        conv => whnf
                        refine vcT rfl ?_
                        conv => whnf
                        refine ⟨rfl, ⟨_, rfl, ?_⟩⟩
                        conv => whnf
                        refine vcT rfl ?_
                        conv => whnf
                        refine ⟨rfl, ⟨_, rfl, ?_⟩⟩
                        conv => whnf
                        refine vcT rfl ?_
                        conv => whnf
                        refine vcT rfl ?_
                        obtain ⟨x22, h66, hf⟩ := bnd hf
                        conv => whnf
                        refine (project_Seen.pure x7.1 v p now x22 h66).call ?_
                        conv => whnf
                        refine vcT rfl ?_
                        conv => whnf
                        refine ⟨rfl, ?_⟩
                        conv => whnf
                        refine ⟨rfl, ⟨_, rfl, ?_⟩⟩
                        conv => whnf
                        refine ⟨rfl, ?_⟩
                        conv => whnf
                        refine vcT rfl ?_
                        conv => whnf
                        refine ⟨rfl, ?_⟩
                        conv => whnf
                        refine ⟨rfl, ⟨_, rfl, ?_⟩⟩
                        conv => whnf
                        refine ⟨rfl, ?_⟩
                        conv => whnf
                        refine vcT rfl ?_
                        obtain ⟨x23, h67, hf⟩ := bnd hf
                        conv => whnf
                        refine (clerestoryref18_Seen.pure v p now x23 h67).call ?_
                        conv => whnf
                        refine vcT rfl ?_
                        obtain ⟨x24, h68, hf⟩ := bnd hf
                        conv => whnf
                        refine (clerestorylaw00_SameParts.pure x22 x23 x24 h68).call ?_
                        conv => whnf
                        refine vcT rfl ?_
                        conv => whnf
                        refine vcond_intro (t := x24) (fun h69 => ?_) (fun h70 => ?_)
                        · replace hf := ifT h69 hf
                          obtain ⟨x25, h71, hf⟩ := bnd hf
                          conv => whnf
                          refine (clerestorylaw18_awake.pure x25 h71).call ?_
                          conv => whnf
                          refine vcT rfl ?_
                          conv => whnf
                          refine at_sub (env' := [(10, (cB x25))]) (st' := ⟨hp, 0, g⟩) (sk hB (fw0 wf (by rfl) (fun _ => by rfl)) (by rfl) (by rfl) ⟨cv rfl rfl, trivial⟩) ?_
                          refine at_go ?_
                          conv => whnf
                          obtain rfl := Option.some.inj hf
                          refine ret_c hB wf (fun _ => by rfl) ?_
                          exact cv rfl rfl
                        · replace hf := ifF h70 hf
                          conv => whnf
                          refine vcF rfl ?_
                          conv => whnf
                          refine at_sub (env' := [(10, (cB false))]) (st' := ⟨hp, 0, g⟩) (sk hB (fw0 wf (by rfl) (fun _ => by rfl)) (by rfl) (by rfl) ⟨cv rfl rfl, trivial⟩) ?_
                          refine at_go ?_
                          conv => whnf
                          obtain rfl := Option.some.inj hf
                          refine ret_c hB wf (fun _ => by rfl) ?_
                          exact cv rfl rfl
                      · replace hf := ifF h65 hf
                        conv => whnf
                        refine vcF rfl ?_
                        conv => whnf
                        refine vcF rfl ?_
                        conv => whnf
                        refine vcF rfl ?_
                        conv => whnf
                        refine vcF rfl ?_
                        conv => whnf
                        refine vcF rfl ?_
                        conv => whnf
                        refine vcF rfl ?_
                        conv => whnf
                        refine vcF rfl ?_
                        conv => whnf
                        refine vcF rfl ?_
                        conv => whnf
                        refine ⟨rfl, ?_⟩
                        conv => whnf
                        refine vcF rfl ?_
                        conv => whnf
                        refine ⟨rfl, ?_⟩
                        conv => whnf
                        refine vcF rfl ?_
                        conv => whnf
                        refine vcF rfl ?_
                        conv => whnf
                        refine vcF rfl ?_
                        conv => whnf
                        refine vcF rfl ?_
                        conv => whnf
                        refine vcF rfl ?_
                        conv => whnf
                        refine at_sub (env' := [(10, (cB false))]) (st' := ⟨hp, 0, g⟩) (sk hB (fw0 wf (by rfl) (fun _ => by rfl)) (by rfl) (by rfl) ⟨cv rfl rfl, trivial⟩) ?_
                        refine at_go ?_
                        conv => whnf
                        obtain rfl := Option.some.inj hf
                        refine ret_c hB wf (fun _ => by rfl) ?_
                        exact cv rfl rfl

end Go.Eng
