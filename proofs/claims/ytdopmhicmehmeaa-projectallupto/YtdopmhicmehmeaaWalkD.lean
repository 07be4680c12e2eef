/-
  Part of the proof that the law ProjectAll returns true at every input of bulk at most 1048576, and leaves its arguments as they were; the whole is stated at the end of the last text.
-/
import Derived.Test.YtdopmhicmehmeaaData
import Derived.Test.YtdopmhicmehmeaaCode
import Derived.Test.YtdopmhicmehmeaaWalkC
set_option maxRecDepth 100000
set_option linter.unusedVariables false
set_option linter.unusedSimpArgs false
namespace Go.Eng
open Go
noncomputable def clerestoryref01_All.w0 (s_ : ByteArray) : Nat → List clerestoryref01_R → Int → Option (List clerestoryref01_R)
  | 0, _, _ => none
  | k0 + 1, v1, v3 =>
    if (decide (v3 < (s_.size : Int))) = true then
      (clerestoryref01_one.f s_ v3).bind fun x4 =>
      if (v1 ++ [x4]).length ≤ 4294967296 then
      clerestoryref01_All.w0 s_ k0 (v1 ++ [x4]) (IntKind.i64.wrap (v3 + x4.Size))
      else none
    else
    some v1

noncomputable def clerestoryref01_All.f (s_ : ByteArray) : Option (List clerestoryref01_R) :=
  clerestoryref01_All.w0 s_ K0 ([] : List clerestoryref01_R) 0

set_option maxHeartbeats 4000000 in
theorem clerestoryref01_All.pure (s_ : ByteArray) (res : List clerestoryref01_R) (hf : clerestoryref01_All.f s_ = some res) : Pure prog F.clerestoryref01_All [(cS s_)] (.d (.sl 4 (res.map clerestoryref01_R.d))) := by
  refine pure_fn clerestoryref01_All.res (Nat.le_of_ble_eq_true rfl) (fun _ => rfl) (fun _ => rfl) fun B hp g hB wf => ?_
  rw [clerestoryref01_All.f] at hf
  conv => whnf
  refine cut_go ?_
  conv => whnf
  refine at_go ?_
  conv => whnf
  refine cut_go ?_
  conv => whnf
  refine at_go ?_
  conv => whnf
  refine cut_go ?_
  conv => whnf
  refine cut_go ?_
  conv => whnf
  refine at_sub (env' := [(0, (cS s_)), (3, nilS), (4, (cI 0))]) (st' := ⟨hp, 0, g⟩) (sk hB (fw0 wf (by rfl) (fun _ => by rfl)) (by rfl) (by rfl) ⟨cv rfl rfl, cv rfl rfl, cv rfl rfl, trivial⟩) ?_
  refine at_go ?_
  conv => whnf
  refine loop_sub (sph 0 4 T.clerestoryref01_R) ?_
  refine loop_sub (env' := [(0, (cS s_)), (3, (.row 0 0 0 ([] : List clerestoryref01_R).length)), (4, (cI 0))]) (st' := ⟨(upd hp 0 (.row 0 4 T.clerestoryref01_R (dataRow clerestoryref01_R.d ([] : List clerestoryref01_R)))), 1, g⟩) (sk hB (fwD (fw0 wf (by rfl) (fun _ => by rfl)) rfl rfl rfl (fun _ => rfl)) (by rfl) (by rfl) ⟨cv rfl rfl, .ph (of_decide_eq_true rfl) rfl (Nat.zero_le _), cv rfl rfl, trivial⟩) ?_
  refine loop_f (α := (List clerestoryref01_R) × Int) (γ := Nat) (fun v2 (v1, v3) => [(0, (cS s_)), (3, (.row 0 v2 0 v1.length)), (4, (cI v3))]) (fun v2 (v1, v3) => ⟨(upd hp 0 (.row v2 4 T.clerestoryref01_R (dataRow clerestoryref01_R.d v1))), 1, g⟩) (fun k s => clerestoryref01_All.w0 s_ k s.1 s.2) (fun _ => rfl) ?_ K0 (([] : List clerestoryref01_R), 0) 0 hf
  intro k0 y v2 hf
  obtain ⟨v1, v3⟩ := y
  replace hf : clerestoryref01_All.w0 s_ (k0 + 1) v1 v3 = some _ := hf
  rw [clerestoryref01_All.w0] at hf
  try dsimp only
  conv => whnf
  refine cut_go ?_
  conv => whnf
  refine cut_go ?_
  conv => whnf
  refine at_go ?_
  conv => whnf
  refine vcond_intro (t := decide (v3 < (s_.size : Int))) (fun h1 => ?_) (fun h2 => ?_)
  · replace hf := ifT h1 hf
    conv => whnf
    refine at_go ?_
    conv => whnf
    refine cut_go ?_
    obtain ⟨x4, h3, hf⟩ := bnd hf
    conv => whnf
    refine (clerestoryref01_one.pure s_ v3 x4 h3).call ?_
    conv => whnf
    refine ⟨⟨rfl, rfl⟩, ⟨_, rfl, Nat.le_of_ble_eq_true rfl, veq_intro [[(.d (.v (.int .i32 x4.R))), (cI x4.At), (cI x4.Size), (cB x4.OK)]] rfl ?_⟩⟩
    conv => whnf
    refine at_sub (env' := [(0, (cS s_)), (3, (.row 0 v2 0 v1.length)), (4, (cI v3)), (5, (.ptr 1 0 0 0))]) (st' := ⟨(upd (upd hp 0 (.row v2 4 T.clerestoryref01_R (dataRow clerestoryref01_R.d v1))) 1 (.row 0 4 T.clerestoryref01_R [[(.d (.v (.int .i32 x4.R))), (cI x4.At), (cI x4.Size), (cB x4.OK)]])), 2, g⟩) (sk hB (fwE (fwD (fw0 wf (by rfl) (fun _ => by rfl)) rfl rfl rfl (fun _ => rfl)) rfl rfl rfl) (by rfl) (by rfl) ⟨cv rfl rfl, cv rfl rfl, cv rfl rfl, cv rfl rfl, trivial⟩) ?_
    refine at_go ?_
    conv => whnf
    refine cut_go ?_
    conv => whnf
    refine ⟨rfl, ⟨_, rfl, ?_⟩⟩
    conv => whnf
    refine veq_intro (dataRow clerestoryref01_R.d [x4]) rfl ?_
    conv => whnf
    refine ⟨rfl, ?_⟩
    obtain ⟨h4, hf⟩ := grd hf
    conv => whnf
    refine veq_intro (dataRow clerestoryref01_R.d [x4]) rfl ⟨row_wid (enc := clerestoryref01_R.d) (fun _ => rfl) _, ?_⟩
    conv => whnf
    refine ⟨⟨rfl, rfl, rfl⟩, row_len _ _, by simpa using h4, veq_intro (dataRow clerestoryref01_R.d (v1 ++ [x4])) (row_app _ _ _) (veq_intro (v1 ++ [x4]).length (row_appl _ _ _) ?_)⟩
    conv => whnf
    refine at_go ?_
    conv => whnf
    refine ⟨⟨rfl, Nat.le_of_ble_eq_true rfl⟩, ?_⟩
    conv => whnf
    refine ⟨rfl, ⟨_, rfl, ?_⟩⟩
    conv => whnf
    refine veq_intro (IntKind.i64.wrap (v3 + x4.Size)) rfl ?_
    conv => whnf
    exact ⟨(v1 ++ [x4], IntKind.i64.wrap (v3 + x4.Size)), hf, (v2 + 1), sk hB (fwD (fw0 wf (by rfl) (fun _ => by rfl)) rfl rfl rfl (fun _ => rfl)) (by rfl) (by rfl) ⟨cv rfl rfl, cv rfl rfl, cv rfl rfl, trivial⟩⟩
  · replace hf := ifF h2 hf
    conv => whnf
    refine at_go ?_
    conv => whnf
    refine cut_go ?_
    conv => whnf
    refine at_sub (env' := [(2, (.row 0 v2 0 v1.length))]) (st' := ⟨(upd hp 0 (.row v2 4 T.clerestoryref01_R (dataRow clerestoryref01_R.d v1))), 1, g⟩) (sk hB (fwD (fw0 wf (by rfl) (fun _ => by rfl)) rfl rfl rfl (fun _ => rfl)) (by rfl) (by rfl) ⟨cv rfl rfl, trivial⟩) ?_
    refine at_go ?_
    conv => whnf
    obtain rfl := Option.some.inj hf
    refine ret_c hB wf (fun _ => by rfl) ?_
    exact cvz (enc := clerestoryref01_R.d) (l := v1) rfl (wfn wf (by rfl)) rfl rfl

noncomputable def clerestoryref01_Letter.f (x : clerestoryref01_R) : Option (Bool) :=
  if (x.OK) = true then
    if (decide (97 ≤ x.R)) = true then
      if (decide (x.R ≤ 122)) = true then
        some true
      else
      if (decide (x.R = 95)) = true then
        some true
      else
      some (decide (128 ≤ x.R))
    else
    if (decide (x.R = 95)) = true then
      some true
    else
    some (decide (128 ≤ x.R))
  else
  some false

set_option maxHeartbeats 4000000 in
theorem clerestoryref01_Letter.pure (x : clerestoryref01_R) (res : Bool) (hf : clerestoryref01_Letter.f x = some res) : Pure prog F.clerestoryref01_Letter [(agd (clerestoryref01_R.d x))] (cB res) := by
  refine pure_fn clerestoryref01_Letter.res (Nat.le_of_ble_eq_true rfl) (fun _ => rfl) (fun _ => rfl) fun B hp g hB wf => ?_
  rw [clerestoryref01_Letter.f] at hf
  conv => whnf
  refine cut_go ?_
  conv => whnf
  refine at_go ?_
  conv => whnf
  refine cut_go ?_
  conv => whnf
  refine ⟨⟨rfl, Nat.le_of_ble_eq_true rfl⟩, ?_⟩
  conv => whnf
  refine ⟨rfl, ⟨_, rfl, ?_⟩⟩
  conv => whnf
  refine vcond_intro (t := x.OK) (fun h1 => ?_) (fun h2 => ?_)
  · replace hf := ifT h1 hf
    conv => whnf
    refine ⟨⟨rfl, Nat.le_of_ble_eq_true rfl⟩, ?_⟩
    conv => whnf
    refine vcT rfl ?_
    conv => whnf
    refine ⟨rfl, ⟨_, rfl, ?_⟩⟩
    conv => whnf
    refine vcT rfl ?_
    conv => whnf
    refine vcT rfl ?_
    conv => whnf
    refine vcond_intro (t := decide (97 ≤ x.R)) (fun h3 => ?_) (fun h4 => ?_)
    · replace hf := ifT h3 hf
      conv => whnf
      refine ⟨⟨rfl, Nat.le_of_ble_eq_true rfl⟩, ?_⟩
      conv => whnf
      refine vcT rfl ?_
      conv => whnf
      refine ⟨rfl, ⟨_, rfl, ?_⟩⟩
      conv => whnf
      refine vcT rfl ?_
      conv => whnf
      refine vcT rfl ?_
      conv => whnf
      refine vcT rfl ?_
      conv => whnf
      refine vcT rfl ?_
      conv => whnf
      refine vcond_intro (t := decide (x.R ≤ 122)) (fun h5 => ?_) (fun h6 => ?_)
      · replace hf := ifT h5 hf
        conv => whnf
        refine vcT rfl ?_
        conv => whnf
        refine vcT rfl ?_
        conv => whnf
        refine vcT rfl ?_
        conv => whnf
        refine vcT rfl ?_
        conv => whnf
        refine vcT rfl ?_
        conv => whnf
        refine vcT rfl ?_
        conv => whnf
        refine vcT rfl ?_
        conv => whnf
        refine vcT rfl ?_
        conv => whnf
        refine vcT rfl ?_
        conv => whnf
        refine vcT rfl ?_
        conv => whnf
        refine vcT rfl ?_
        conv => whnf
        refine at_go ?_
        conv => whnf
        obtain rfl := Option.some.inj hf
        refine ret_c hB wf (fun _ => by rfl) ?_
        exact cv rfl rfl
      · replace hf := ifF h6 hf
        conv => whnf
        refine ⟨⟨rfl, Nat.le_of_ble_eq_true rfl⟩, ?_⟩
        conv => whnf
        refine vcF rfl ?_
        conv => whnf
        refine ⟨rfl, ⟨_, rfl, ?_⟩⟩
        conv => whnf
        refine vcF rfl ?_
        conv => whnf
        refine vcT rfl ?_
        conv => whnf
        refine vcF rfl ?_
        conv => whnf
        refine vcT rfl ?_
        conv => whnf
        refine vcond_intro (t := decide (x.R = 95)) (fun h7 => ?_) (fun h8 => ?_)
        · replace hf := ifT h7 hf
          conv => whnf
          refine vcT rfl ?_
          conv => whnf
          refine vcT rfl ?_
          conv => whnf
          refine vcT rfl ?_
          conv => whnf
          refine vcT rfl ?_
          conv => whnf
          refine vcT rfl ?_
          conv => whnf
          refine at_go ?_
          conv => whnf
          obtain rfl := Option.some.inj hf
          refine ret_c hB wf (fun _ => by rfl) ?_
          exact cv rfl rfl
        · replace hf := ifF h8 hf
          conv => whnf
          refine ⟨⟨rfl, Nat.le_of_ble_eq_true rfl⟩, ?_⟩
          conv => whnf
          refine vcF rfl ?_
          conv => whnf
          refine ⟨rfl, ⟨_, rfl, ?_⟩⟩
          conv => whnf
          refine vcF rfl ?_
          conv => whnf
          refine vcT rfl ?_
          conv => whnf
          refine vcF rfl ?_
          conv => whnf
          refine vcT rfl ?_
          conv => whnf
          refine at_go ?_
          conv => whnf
          obtain rfl := Option.some.inj hf
          refine ret_c hB wf (fun _ => by rfl) ?_
          exact cv rfl rfl
    · replace hf := ifF h4 hf
      conv => whnf
      refine vcF rfl ?_
      conv => whnf
      refine vcF rfl ?_
      conv => whnf
      refine vcT rfl ?_
      conv => whnf
      refine vcF rfl ?_
      conv => whnf
      refine vcT rfl ?_
      conv => whnf
      refine vcF rfl ?_
      conv => whnf
      refine ⟨⟨rfl, Nat.le_of_ble_eq_true rfl⟩, ?_⟩
      conv => whnf
      refine vcF rfl ?_
      conv => whnf
      refine ⟨rfl, ⟨_, rfl, ?_⟩⟩
      conv => whnf
      refine vcF rfl ?_
      conv => whnf
      refine vcT rfl ?_
      conv => whnf
      refine vcF rfl ?_
      conv => whnf
      refine vcT rfl ?_
      conv => whnf
      refine vcond_intro (t := decide (x.R = 95)) (fun h9 => ?_) (fun h10 => ?_)
      · replace hf := ifT h9 hf
        conv => whnf
        refine vcT rfl ?_
        conv => whnf
        refine vcT rfl ?_
        conv => whnf
        refine vcT rfl ?_
        conv => whnf
        refine vcT rfl ?_
        conv => whnf
        refine vcT rfl ?_
        conv => whnf
        refine at_go ?_
        conv => whnf
        obtain rfl := Option.some.inj hf
        refine ret_c hB wf (fun _ => by rfl) ?_
        exact cv rfl rfl
      · replace hf := ifF h10 hf
        conv => whnf
        refine ⟨⟨rfl, Nat.le_of_ble_eq_true rfl⟩, ?_⟩
        conv => whnf
        refine vcF rfl ?_
        conv => whnf
        refine ⟨rfl, ⟨_, rfl, ?_⟩⟩
        conv => whnf
        refine vcF rfl ?_
        conv => whnf
        refine vcT rfl ?_
        conv => whnf
        refine vcF rfl ?_
        conv => whnf
        refine vcT rfl ?_
        conv => whnf
        refine at_go ?_
        conv => whnf
        obtain rfl := Option.some.inj hf
        refine ret_c hB wf (fun _ => by rfl) ?_
        exact cv rfl rfl
  · replace hf := ifF h2 hf
    conv => whnf
    refine vcF rfl ?_
    conv => whnf
    refine vcF rfl ?_
    conv => whnf
    refine vcF rfl ?_
    conv => whnf
    refine vcF rfl ?_
    conv => whnf
    refine vcF rfl ?_
    conv => whnf
    refine vcF rfl ?_
    conv => whnf
    refine vcF rfl ?_
    conv => whnf
    refine vcF rfl ?_
    conv => whnf
    refine vcF rfl ?_
    conv => whnf
    refine at_go ?_
    conv => whnf
    obtain rfl := Option.some.inj hf
    refine ret_c hB wf (fun _ => by rfl) ?_
    exact cv rfl rfl

noncomputable def clerestoryref01_Name.w0 (s_ : ByteArray) (x1 : List clerestoryref01_R) : Nat → Int → Option (Bool)
  | 0, _ => none
  | k0 + 1, v2 =>
    if (decide (v2 < (x1.length : Int))) = true then
      (at? x1 v2).bind fun x3 =>
      (clerestoryref01_Letter.f x3).bind fun x4 =>
      if (!x4) = true then
        if (decide (v2 = 0)) = true then
          some false
        else
        if (decide (x3.R < 48)) = true then
          some false
        else
        if (decide (57 < x3.R)) = true then
          some false
        else
        clerestoryref01_Name.w0 s_ x1 k0 (IntKind.i64.wrap (v2 + 1))
      else
      clerestoryref01_Name.w0 s_ x1 k0 (IntKind.i64.wrap (v2 + 1))
    else
    if (decide (1 ≤ (s_.size : Int))) = true then
      some (decide ((s_.size : Int) ≤ 100))
    else
    some false

noncomputable def clerestoryref01_Name.f (s_ : ByteArray) : Option (Bool) :=
  (clerestoryref01_All.f s_).bind fun x1 =>
  clerestoryref01_Name.w0 s_ x1 K0 0

set_option maxHeartbeats 4000000 in
theorem clerestoryref01_Name.pure (s_ : ByteArray) (res : Bool) (hf : clerestoryref01_Name.f s_ = some res) : Pure prog F.clerestoryref01_Name [(cS s_)] (cB res) := by
  refine pure_fn clerestoryref01_Name.res (Nat.le_of_ble_eq_true rfl) (fun _ => rfl) (fun _ => rfl) fun B hp g hB wf => ?_
  rw [clerestoryref01_Name.f] at hf
  conv => whnf
  refine cut_go ?_
  conv => whnf
  refine at_go ?_
  conv => whnf
  refine cut_go ?_
  obtain ⟨x1, h1, hf⟩ := bnd hf
  conv => whnf
  refine (clerestoryref01_All.pure s_ x1 h1).call ?_
  conv => whnf
  refine at_go ?_
  conv => whnf
  refine cut_go ?_
  conv => whnf
  refine cut_go ?_
  conv => whnf
  refine at_sub (env' := [(0, (cS s_)), (3, (.d (.sl 4 (x1.map clerestoryref01_R.d)))), (4, (cI 0))]) (st' := ⟨hp, 0, g⟩) (sk hB (fw0 wf (by rfl) (fun _ => by rfl)) (by rfl) (by rfl) ⟨cv rfl rfl, cv rfl rfl, cv rfl rfl, trivial⟩) ?_
  refine at_go ?_
  conv => whnf
  refine loop_sub (env' := [(0, (cS s_)), (3, (.d (.sl 4 (x1.map clerestoryref01_R.d)))), (4, (cI 0))]) (st' := ⟨hp, 0, g⟩) (sk hB (fw0 wf (by rfl) (fun _ => by rfl)) (by rfl) (by rfl) ⟨cv rfl rfl, cv rfl rfl, cv rfl rfl, trivial⟩) ?_
  refine loop_f (α := Int) (γ := Unit) (fun (_ : Unit) v2 => [(0, (cS s_)), (3, (.d (.sl 4 (x1.map clerestoryref01_R.d)))), (4, (cI v2))]) (fun (_ : Unit) v2 => ⟨hp, 0, g⟩) (fun k s => clerestoryref01_Name.w0 s_ x1 k s) (fun _ => rfl) ?_ K0 0 () hf
  intro k0 v2 gg hf
  replace hf : clerestoryref01_Name.w0 s_ x1 (k0 + 1) v2 = some _ := hf
  rw [clerestoryref01_Name.w0] at hf
  try dsimp only
  conv => whnf
  refine cut_go ?_
  conv => whnf
  refine cut_go ?_
  conv => whnf
  refine veq_intro x1.length (by simp) ?_
  conv => whnf
  refine at_go ?_
  conv => whnf
  refine vcond_intro (t := decide (v2 < (x1.length : Int))) (fun h2 => ?_) (fun h3 => ?_)
  · replace hf := ifT h2 hf
    conv => whnf
    refine at_go ?_
    conv => whnf
    refine cut_go ?_
    conv => whnf
    refine cut_go ?_
    obtain ⟨x3, h4, hf⟩ := bnd hf
    conv => whnf
    refine ⟨⟨rfl, Nat.zero_lt_succ _⟩, at_nn h4, ⟨_, map_get (at_get h4), ?_⟩⟩
    obtain ⟨x4, h5, hf⟩ := bnd hf
    conv => whnf
    refine (clerestoryref01_Letter.pure x3 x4 h5).call ?_
    conv => whnf
    refine vcond_intro (t := !x4) (fun h6 => ?_) (fun h7 => ?_)
    · replace hf := ifT h6 hf
      conv => whnf
      refine vcT rfl ?_
      conv => whnf
      refine vcT rfl ?_
      conv => whnf
      refine vcond_intro (t := decide (v2 = 0)) (fun h8 => ?_) (fun h9 => ?_)
      · replace hf := ifT h8 hf
        conv => whnf
        refine vcT rfl ?_
        conv => whnf
        refine vcT rfl ?_
        conv => whnf
        refine vcT rfl ?_
        conv => whnf
        refine vcT rfl ?_
        conv => whnf
        refine vcT rfl ?_
        conv => whnf
        refine vcT rfl ?_
        conv => whnf
        refine vcT rfl ?_
        conv => whnf
        refine vcT rfl ?_
        conv => whnf
        refine vcT rfl ?_
        conv => whnf
        refine vcT rfl ?_
        conv => whnf
        refine vcT rfl ?_
        conv => whnf
        refine vcT rfl ?_
        conv => whnf
        refine vcT rfl ?_
        conv => whnf
        refine vcT rfl ?_
        conv => whnf
        refine vcT rfl ?_
        conv => whnf
        refine vcT rfl ?_
        conv => whnf
        refine vcT rfl ?_
        conv => whnf
        refine at_sub (env' := [(0, (cS s_)), (3, (.d (.sl 4 (x1.map clerestoryref01_R.d)))), (4, (cI v2)), (38, (cB true))]) (st' := ⟨hp, 0, g⟩) (sk hB (fw0 wf (by rfl) (fun _ => by rfl)) (by rfl) (by rfl) ⟨cv rfl rfl, cv rfl rfl, cv rfl rfl, cv rfl rfl, trivial⟩) ?_
        refine at_go ?_
        conv => whnf
        refine vcT rfl ?_
        conv => whnf
        refine cut_go ?_
        conv => whnf
        refine at_go ?_
        conv => whnf
        obtain rfl := Option.some.inj hf
        refine ret_c hB wf (fun _ => by rfl) ?_
        exact cv rfl rfl
      · replace hf := ifF h9 hf
        conv => whnf
        refine vcF rfl ?_
        conv => whnf
        refine vcF rfl ?_
        conv => whnf
        refine ⟨⟨rfl, Nat.zero_lt_succ _⟩, at_nn h4, ⟨_, map_get (at_get h4), ?_⟩⟩
        conv => whnf
        refine vcF rfl ?_
        conv => whnf
        refine ⟨Nat.le_of_ble_eq_true rfl, ?_⟩
        conv => whnf
        refine vcF rfl ?_
        conv => whnf
        refine vcF rfl ?_
        conv => whnf
        refine vcT rfl ?_
        conv => whnf
        refine vcF rfl ?_
        conv => whnf
        refine vcT rfl ?_
        conv => whnf
        refine vcond_intro (t := decide (x3.R < 48)) (fun h10 => ?_) (fun h11 => ?_)
        · replace hf := ifT h10 hf
          conv => whnf
          refine vcT rfl ?_
          conv => whnf
          refine vcT rfl ?_
          conv => whnf
          refine vcT rfl ?_
          conv => whnf
          refine vcT rfl ?_
          conv => whnf
          refine vcT rfl ?_
          conv => whnf
          refine vcT rfl ?_
          conv => whnf
          refine vcT rfl ?_
          conv => whnf
          refine vcT rfl ?_
          conv => whnf
          refine at_sub (env' := [(0, (cS s_)), (3, (.d (.sl 4 (x1.map clerestoryref01_R.d)))), (4, (cI v2)), (38, (cB true))]) (st' := ⟨hp, 0, g⟩) (sk hB (fw0 wf (by rfl) (fun _ => by rfl)) (by rfl) (by rfl) ⟨cv rfl rfl, cv rfl rfl, cv rfl rfl, cv rfl rfl, trivial⟩) ?_
          refine at_go ?_
          conv => whnf
          refine vcT rfl ?_
          conv => whnf
          refine cut_go ?_
          conv => whnf
          refine at_go ?_
          conv => whnf
          obtain rfl := Option.some.inj hf
          refine ret_c hB wf (fun _ => by rfl) ?_
          exact cv rfl rfl
        · replace hf := ifF h11 hf
          conv => whnf
          refine vcF rfl ?_
          conv => whnf
          refine vcF rfl ?_
          conv => whnf
          refine ⟨⟨rfl, Nat.zero_lt_succ _⟩, at_nn h4, ⟨_, map_get (at_get h4), ?_⟩⟩
          conv => whnf
          refine vcF rfl ?_
          conv => whnf
          refine ⟨Nat.le_of_ble_eq_true rfl, ?_⟩
          conv => whnf
          refine vcF rfl ?_
          conv => whnf
          refine vcF rfl ?_
          conv => whnf
          refine vcT rfl ?_
          conv => whnf
          refine vcF rfl ?_
          conv => whnf
          refine vcT rfl ?_
          conv => whnf
          refine at_sub (env' := [(0, (cS s_)), (3, (.d (.sl 4 (x1.map clerestoryref01_R.d)))), (4, (cI v2)), (38, (cB (decide (57 < x3.R))))]) (st' := ⟨hp, 0, g⟩) (sk hB (fw0 wf (by rfl) (fun _ => by rfl)) (by rfl) (by rfl) ⟨cv rfl rfl, cv rfl rfl, cv rfl rfl, cv rfl rfl, trivial⟩) ?_
          refine at_go ?_
          conv => whnf
          refine vcond_intro (t := decide (57 < x3.R)) (fun h12 => ?_) (fun h13 => ?_)
          · replace hf := ifT h12 hf
            conv => whnf
            refine cut_go ?_
            conv => whnf
            refine at_go ?_
            conv => whnf
            obtain rfl := Option.some.inj hf
            refine ret_c hB wf (fun _ => by rfl) ?_
            exact cv rfl rfl
          · replace hf := ifF h13 hf
            conv => whnf
            refine at_go ?_
            conv => whnf
            refine veq_intro (IntKind.i64.wrap (v2 + 1)) rfl ?_
            conv => whnf
            exact ⟨IntKind.i64.wrap (v2 + 1), hf, (), sk hB (fw0 wf (by rfl) (fun _ => by rfl)) (by rfl) (by rfl) ⟨cv rfl rfl, cv rfl rfl, cv rfl rfl, trivial⟩⟩
    · replace hf := ifF h7 hf
      conv => whnf
      refine vcF rfl ?_
      conv => whnf
      refine vcF rfl ?_
      conv => whnf
      refine vcF rfl ?_
      conv => whnf
      refine vcF rfl ?_
      conv => whnf
      refine vcF rfl ?_
      conv => whnf
      refine vcF rfl ?_
      conv => whnf
      refine at_sub (env' := [(0, (cS s_)), (3, (.d (.sl 4 (x1.map clerestoryref01_R.d)))), (4, (cI v2)), (38, (cB false))]) (st' := ⟨hp, 0, g⟩) (sk hB (fw0 wf (by rfl) (fun _ => by rfl)) (by rfl) (by rfl) ⟨cv rfl rfl, cv rfl rfl, cv rfl rfl, cv rfl rfl, trivial⟩) ?_
      refine at_go ?_
      conv => whnf
      refine vcF rfl ?_
      conv => whnf
      refine at_go ?_
      conv => whnf
      refine veq_intro (IntKind.i64.wrap (v2 + 1)) rfl ?_
      conv => whnf
      exact ⟨IntKind.i64.wrap (v2 + 1), hf, (), sk hB (fw0 wf (by rfl) (fun _ => by rfl)) (by rfl) (by rfl) ⟨cv rfl rfl, cv rfl rfl, cv rfl rfl, trivial⟩⟩
  · replace hf := ifF h3 hf
    conv => whnf
    refine at_go ?_
    conv => whnf
    refine cut_go ?_
    conv => whnf
    refine vcond_intro (t := decide (1 ≤ (s_.size : Int))) (fun h14 => ?_) (fun h15 => ?_)
    · replace hf := ifT h14 hf
      conv => whnf
      refine vcT rfl ?_
      conv => whnf
      refine vcT rfl ?_
      conv => whnf
      refine vcT rfl ?_
      conv => whnf
      refine at_sub (env' := [(2, (cB (decide ((s_.size : Int) ≤ 100))))]) (st' := ⟨hp, 0, g⟩) (sk hB (fw0 wf (by rfl) (fun _ => by rfl)) (by rfl) (by rfl) ⟨cv rfl rfl, trivial⟩) ?_
      refine at_go ?_
      conv => whnf
      obtain rfl := Option.some.inj hf
      refine ret_c hB wf (fun _ => by rfl) ?_
      exact cv rfl rfl
    · replace hf := ifF h15 hf
      conv => whnf
      refine vcF rfl ?_
      conv => whnf
      refine vcF rfl ?_
      conv => whnf
      refine vcF rfl ?_
      conv => whnf
      refine at_sub (env' := [(2, (cB false))]) (st' := ⟨hp, 0, g⟩) (sk hB (fw0 wf (by rfl) (fun _ => by rfl)) (by rfl) (by rfl) ⟨cv rfl rfl, trivial⟩) ?_
      refine at_go ?_
      conv => whnf
      obtain rfl := Option.some.inj hf
      refine ret_c hB wf (fun _ => by rfl) ?_
      exact cv rfl rfl

noncomputable def clerestoryref07_Check.w0 (r : api_Row) : Nat → Int → Option (Bool)
  | 0, _ => none
  | k0 + 1, v4 =>
    if (decide (v4 < (r.Cols.length : Int))) = true then
      (at? r.Cols v4).bind fun x5 =>
      (clerestoryref01_Name.f x5.Name).bind fun x6 =>
      if (!x6) = true then
        some false
      else
      if (decide (0 < v4)) = true then
        (at? r.Cols (IntKind.i64.wrap (v4 - 1))).bind fun x7 =>
        if ((slt x5.Name x7.Name || seq x5.Name x7.Name)) = true then
          some false
        else
        (clerestoryref06_Check.f x5.Cell).bind fun x8 =>
        if (!x8) = true then
          some false
        else
        if (decide (x5.Cell.At < 1)) = true then
          some false
        else
        clerestoryref07_Check.w0 r k0 (IntKind.i64.wrap (v4 + 1))
      else
      (clerestoryref06_Check.f x5.Cell).bind fun x9 =>
      if (!x9) = true then
        some false
      else
      if (decide (x5.Cell.At < 1)) = true then
        some false
      else
      clerestoryref07_Check.w0 r k0 (IntKind.i64.wrap (v4 + 1))
    else
    some true

noncomputable def clerestoryref07_Check.f (r : api_Row) : Option (Bool) :=
  if (decide (400 < (r.Key.size : Int))) = true then
    some false
  else
  (clerestoryref06_Check.f r.Live).bind fun x1 =>
  if (!x1) = true then
    some false
  else
  if (!seq r.Live.Val (bs [])) = true then
    some false
  else
  if (r.Live.Dead) = true then
    some false
  else
  (clerestoryref07_stamp.f r.Gone).bind fun x2 =>
  if (!x2) = true then
    some false
  else
  (clerestoryref07_stamp.f r.Shade).bind fun x3 =>
  if (!x3) = true then
    some false
  else
  if (decide (8 < (r.Cols.length : Int))) = true then
    some false
  else
  clerestoryref07_Check.w0 r K0 0

set_option maxHeartbeats 4000000 in
theorem clerestoryref07_Check.pure (r : api_Row) (res : Bool) (hf : clerestoryref07_Check.f r = some res) : Pure prog F.clerestoryref07_Check [(agd (api_Row.d r))] (cB res) := by
  refine pure_fn clerestoryref07_Check.res (Nat.le_of_ble_eq_true rfl) (fun _ => rfl) (fun _ => rfl) fun B hp g hB wf => ?_
  rw [clerestoryref07_Check.f] at hf
  conv => whnf
  refine cut_go ?_
  conv => whnf
  refine at_go ?_
  conv => whnf
  refine cut_go ?_
  conv => whnf
  refine cut_go ?_
  conv => whnf
  refine ⟨⟨rfl, Nat.le_of_ble_eq_true rfl⟩, ?_⟩
  conv => whnf
  refine ⟨rfl, ⟨_, rfl, ?_⟩⟩
  conv => whnf
  refine vcond_intro (t := decide (400 < (r.Key.size : Int))) (fun h1 => ?_) (fun h2 => ?_)
  · replace hf := ifT h1 hf
    conv => whnf
    refine vcT rfl ?_
    conv => whnf
    refine vcT rfl ?_
    conv => whnf
    refine vcT rfl ?_
    conv => whnf
    refine vcT rfl ?_
    conv => whnf
    refine vcT rfl ?_
    conv => whnf
    refine vcT rfl ?_
    conv => whnf
    refine vcT rfl ?_
    conv => whnf
    refine vcT rfl ?_
    conv => whnf
    refine vcT rfl ?_
    conv => whnf
    refine vcT rfl ?_
    conv => whnf
    refine vcT rfl ?_
    conv => whnf
    refine vcT rfl ?_
    conv => whnf
    refine vcT rfl ?_
    conv => whnf
    refine vcT rfl ?_
    conv => whnf
    refine vcT rfl ?_
    conv => whnf
    refine vcT rfl ?_
    conv => whnf
    refine vcT rfl ?_
    conv => whnf
    refine vcT rfl ?_
    conv => whnf
    refine vcT rfl ?_
    conv => whnf
    refine vcT rfl ?_
    conv => whnf
    refine vcT rfl ?_
    conv => whnf
    refine vcT rfl ?_
    conv => whnf
    refine vcT rfl ?_
    conv => whnf
    refine vcT rfl ?_
    conv => whnf
    refine vcT rfl ?_
    conv => whnf
    refine vcT rfl ?_
    conv => whnf
    refine vcT rfl ?_
    conv => whnf
    refine vcT rfl ?_
    conv => whnf
    refine at_go ?_
    conv => whnf
    refine vcT rfl ?_
    conv => whnf
    refine cut_go ?_
    conv => whnf
    refine at_sub (env' := [(2, (cB false))]) (st' := ⟨hp, 0, g⟩) (sk hB (fw0 wf (by rfl) (fun _ => by rfl)) (by rfl) (by rfl) ⟨cv rfl rfl, trivial⟩) ?_
    refine at_go ?_
    conv => whnf
    obtain rfl := Option.some.inj hf
    refine ret_c hB wf (fun _ => by rfl) ?_
    exact cv rfl rfl
  · replace hf := ifF h2 hf
    conv => whnf
    refine ⟨⟨rfl, Nat.le_of_ble_eq_true rfl⟩, ?_⟩
    conv => whnf
    refine vcF rfl ?_
    conv => whnf
    refine ⟨rfl, ⟨_, rfl, ?_⟩⟩
    conv => whnf
    refine vcF rfl ?_
    obtain ⟨x1, h3, hf⟩ := bnd hf
    conv => whnf
    refine (clerestoryref06_Check.pure r.Live x1 h3).call ?_
    conv => whnf
    refine vcF rfl ?_
    conv => whnf
    refine vcF rfl ?_
    conv => whnf
    refine vcond_intro (t := !x1) (fun h4 => ?_) (fun h5 => ?_)
    · replace hf := ifT h4 hf
      conv => whnf
      refine vcT rfl ?_
      conv => whnf
      refine vcT rfl ?_
      conv => whnf
      refine vcT rfl ?_
      conv => whnf
      refine vcT rfl ?_
      conv => whnf
      refine vcT rfl ?_
      conv => whnf
      refine vcT rfl ?_
      conv => whnf
      refine vcT rfl ?_
      conv => whnf
      refine vcT rfl ?_
      conv => whnf
      refine vcT rfl ?_
      conv => whnf
      refine vcT rfl ?_
      conv => whnf
      refine vcT rfl ?_
      conv => whnf
      refine vcT rfl ?_
      conv => whnf
      refine vcT rfl ?_
      conv => whnf
      refine vcT rfl ?_
      conv => whnf
      refine vcT rfl ?_
      conv => whnf
      refine vcT rfl ?_
      conv => whnf
      refine vcT rfl ?_
      conv => whnf
      refine vcT rfl ?_
      conv => whnf
      refine vcT rfl ?_
      conv => whnf
      refine vcT rfl ?_
      conv => whnf
      refine vcT rfl ?_
      conv => whnf
      refine vcT rfl ?_
      conv => whnf
      refine vcT rfl ?_
      conv => whnf
      refine at_go ?_
      conv => whnf
      refine vcT rfl ?_
      conv => whnf
      refine cut_go ?_
      conv => whnf
      refine at_sub (env' := [(2, (cB false))]) (st' := ⟨hp, 0, g⟩) (sk hB (fw0 wf (by rfl) (fun _ => by rfl)) (by rfl) (by rfl) ⟨cv rfl rfl, trivial⟩) ?_
      refine at_go ?_
      conv => whnf
      obtain rfl := Option.some.inj hf
      refine ret_c hB wf (fun _ => by rfl) ?_
      exact cv rfl rfl
    · replace hf := ifF h5 hf
      conv => whnf
      refine ⟨⟨rfl, Nat.le_of_ble_eq_true rfl⟩, ?_⟩
      conv => whnf
      refine vcF rfl ?_
      conv => whnf
      refine ⟨⟨rfl, Nat.le_of_ble_eq_true rfl⟩, ?_⟩
      conv => whnf
      refine vcF rfl ?_
      conv => whnf
      refine ⟨rfl, ⟨_, rfl, ?_⟩⟩
      conv => whnf
      refine vcF rfl ?_
      conv => whnf
      refine vcF rfl ?_
      conv => whnf
      refine vcond_intro (t := !seq r.Live.Val (bs [])) (fun h6 => ?_) (fun h7 => ?_)
      · replace hf := ifT h6 hf
        conv => whnf
        refine vcT rfl ?_
        conv => whnf
        refine vcT rfl ?_
        conv => whnf
        refine vcT rfl ?_
        conv => whnf
        refine vcT rfl ?_
        conv => whnf
        refine vcT rfl ?_
        conv => whnf
        refine vcT rfl ?_
        conv => whnf
        refine vcT rfl ?_
        conv => whnf
        refine vcT rfl ?_
        conv => whnf
        refine vcT rfl ?_
        conv => whnf
        refine vcT rfl ?_
        conv => whnf
        refine vcT rfl ?_
        conv => whnf
        refine vcT rfl ?_
        conv => whnf
        refine vcT rfl ?_
        conv => whnf
        refine vcT rfl ?_
        conv => whnf
        refine vcT rfl ?_
        conv => whnf
        refine vcT rfl ?_
        conv => whnf
        refine vcT rfl ?_
        conv => whnf
        refine vcT rfl ?_
        conv => whnf
        refine at_go ?_
        conv => whnf
        refine vcT rfl ?_
        conv => whnf
        refine cut_go ?_
        conv => whnf
        refine at_sub (env' := [(2, (cB false))]) (st' := ⟨hp, 0, g⟩) (sk hB (fw0 wf (by rfl) (fun _ => by rfl)) (by rfl) (by rfl) ⟨cv rfl rfl, trivial⟩) ?_
        refine at_go ?_
        conv => whnf
        obtain rfl := Option.some.inj hf
        refine ret_c hB wf (fun _ => by rfl) ?_
        exact cv rfl rfl
      · replace hf := ifF h7 hf
        conv => whnf
        refine ⟨⟨rfl, Nat.le_of_ble_eq_true rfl⟩, ?_⟩
        conv => whnf
        refine vcF rfl ?_
        conv => whnf
        refine ⟨⟨rfl, Nat.le_of_ble_eq_true rfl⟩, ?_⟩
        conv => whnf
        refine vcF rfl ?_
        conv => whnf
        refine ⟨rfl, ⟨_, rfl, ?_⟩⟩
        conv => whnf
        refine vcF rfl ?_
        conv => whnf
        refine vcond_intro (t := r.Live.Dead) (fun h8 => ?_) (fun h9 => ?_)
        · replace hf := ifT h8 hf
          conv => whnf
          refine vcT rfl ?_
          conv => whnf
          refine vcT rfl ?_
          conv => whnf
          refine vcT rfl ?_
          conv => whnf
          refine vcT rfl ?_
          conv => whnf
          refine vcT rfl ?_
          conv => whnf
          refine vcT rfl ?_
          conv => whnf
          refine vcT rfl ?_
          conv => whnf
          refine vcT rfl ?_
          conv => whnf
          refine vcT rfl ?_
          conv => whnf
          refine vcT rfl ?_
          conv => whnf
          refine vcT rfl ?_
          conv => whnf
          refine vcT rfl ?_
          conv => whnf
          refine vcT rfl ?_
          conv => whnf
          refine vcT rfl ?_
          conv => whnf
          refine at_go ?_
          conv => whnf
          refine vcT rfl ?_
          conv => whnf
          refine cut_go ?_
          conv => whnf
          refine at_sub (env' := [(2, (cB false))]) (st' := ⟨hp, 0, g⟩) (sk hB (fw0 wf (by rfl) (fun _ => by rfl)) (by rfl) (by rfl) ⟨cv rfl rfl, trivial⟩) ?_
          refine at_go ?_
          conv => whnf
          obtain rfl := Option.some.inj hf
          refine ret_c hB wf (fun _ => by rfl) ?_
          exact cv rfl rfl
        · replace hf := ifF h9 hf
          conv => whnf
          refine ⟨⟨rfl, Nat.le_of_ble_eq_true rfl⟩, ?_⟩
          conv => whnf
          refine vcF rfl ?_
          conv => whnf
          refine ⟨rfl, ⟨_, rfl, ?_⟩⟩
          conv => whnf
          refine vcF rfl ?_
          obtain ⟨x2, h10, hf⟩ := bnd hf
          conv => whnf
          refine (clerestoryref07_stamp.pure r.Gone x2 h10).call ?_
          conv => whnf
          refine vcF rfl ?_
          conv => whnf
          refine vcF rfl ?_
          conv => whnf
          refine vcond_intro (t := !x2) (fun h11 => ?_) (fun h12 => ?_)
          · replace hf := ifT h11 hf
            conv => whnf
            refine vcT rfl ?_
            conv => whnf
            refine vcT rfl ?_
            conv => whnf
            refine vcT rfl ?_
            conv => whnf
            refine vcT rfl ?_
            conv => whnf
            refine vcT rfl ?_
            conv => whnf
            refine vcT rfl ?_
            conv => whnf
            refine vcT rfl ?_
            conv => whnf
            refine vcT rfl ?_
            conv => whnf
            refine vcT rfl ?_
            conv => whnf
            refine at_go ?_
            conv => whnf
            refine vcT rfl ?_
            conv => whnf
            refine cut_go ?_
            conv => whnf
            refine at_sub (env' := [(2, (cB false))]) (st' := ⟨hp, 0, g⟩) (sk hB (fw0 wf (by rfl) (fun _ => by rfl)) (by rfl) (by rfl) ⟨cv rfl rfl, trivial⟩) ?_
            refine at_go ?_
            conv => whnf
            obtain rfl := Option.some.inj hf
            refine ret_c hB wf (fun _ => by rfl) ?_
            exact cv rfl rfl
          · replace hf := ifF h12 hf
            conv => whnf
            refine ⟨⟨rfl, Nat.le_of_ble_eq_true rfl⟩, ?_⟩
            conv => whnf
            refine vcF rfl ?_
            conv => whnf
            refine ⟨rfl, ⟨_, rfl, ?_⟩⟩
            conv => whnf
            refine vcF rfl ?_
            obtain ⟨x3, h13, hf⟩ := bnd hf
            conv => whnf
            refine (clerestoryref07_stamp.pure r.Shade x3 h13).call ?_
            conv => whnf
            refine vcF rfl ?_
            conv => whnf
            refine vcF rfl ?_
            conv => whnf
            refine vcond_intro (t := !x3) (fun h14 => ?_) (fun h15 => ?_)
            · replace hf := ifT h14 hf
              conv => whnf
              refine vcT rfl ?_
              conv => whnf
              refine vcT rfl ?_
              conv => whnf
              refine vcT rfl ?_
              conv => whnf
              refine vcT rfl ?_
              conv => whnf
              refine at_go ?_
              conv => whnf
              refine vcT rfl ?_
              conv => whnf
              refine cut_go ?_
              conv => whnf
              refine at_sub (env' := [(2, (cB false))]) (st' := ⟨hp, 0, g⟩) (sk hB (fw0 wf (by rfl) (fun _ => by rfl)) (by rfl) (by rfl) ⟨cv rfl rfl, trivial⟩) ?_
              refine at_go ?_
              conv => whnf
              obtain rfl := Option.some.inj hf
              refine ret_c hB wf (fun _ => by rfl) ?_
              exact cv rfl rfl
            · replace hf := ifF h15 hf
              conv => whnf
              refine ⟨⟨rfl, Nat.le_of_ble_eq_true rfl⟩, ?_⟩
              conv => whnf
              refine vcF rfl ?_
              conv => whnf
              refine ⟨rfl, ⟨_, rfl, ?_⟩⟩
              conv => whnf
              refine vcF rfl ?_
              conv => whnf
              refine veq_intro r.Cols.length (by simp) ?_
              conv => whnf
              refine vcF rfl ?_
              conv => whnf
              refine vcF rfl ?_
              conv => whnf
              refine at_go ?_
              conv => whnf
              refine vcond_intro (t := decide (8 < (r.Cols.length : Int))) (fun h16 => ?_) (fun h17 => ?_)
              · replace hf := ifT h16 hf
                conv => whnf
                refine cut_go ?_
                conv => whnf
                refine at_sub (env' := [(2, (cB false))]) (st' := ⟨hp, 0, g⟩) (sk hB (fw0 wf (by rfl) (fun _ => by rfl)) (by rfl) (by rfl) ⟨cv rfl rfl, trivial⟩) ?_
                refine at_go ?_
                conv => whnf
                obtain rfl := Option.some.inj hf
                refine ret_c hB wf (fun _ => by rfl) ?_
                exact cv rfl rfl
              · replace hf := ifF h17 hf
                conv => whnf
                refine at_sub (env' := [(1, (.ptr 0 0 0 0)), (43, (cB (decide (8 < (r.Cols.length : Int)))))]) (st' := ⟨(upd hp 0 (.row 0 8 T.api_Row [[(cS r.Key), (cS r.Live.Val), (cB r.Live.Dead), (cI r.Live.At), (cI r.Live.End), (cI r.Gone), (cI r.Shade), (.d (.sl 5 (r.Cols.map api_Col.d)))]])), 1, g⟩) (sk hB (fwE (fw0 wf (by rfl) (fun _ => by rfl)) rfl rfl rfl) (by rfl) (by rfl) ⟨cv rfl rfl, cv rfl rfl, trivial⟩) ?_
                refine at_go ?_
                conv => whnf
                refine cut_go ?_
                conv => whnf
                refine cut_go ?_
                conv => whnf
                refine at_go ?_
                conv => whnf
                refine loop_sub (env' := [(1, (.ptr 0 0 0 0)), (3, (cI 0))]) (st' := ⟨(upd hp 0 (.row 0 8 T.api_Row [[(cS r.Key), (cS r.Live.Val), (cB r.Live.Dead), (cI r.Live.At), (cI r.Live.End), (cI r.Gone), (cI r.Shade), (.d (.sl 5 (r.Cols.map api_Col.d)))]])), 1, g⟩) (sk hB (fwE (fw0 wf (by rfl) (fun _ => by rfl)) rfl rfl rfl) (by rfl) (by rfl) ⟨cv rfl rfl, cv rfl rfl, trivial⟩) ?_
                refine loop_f (α := Int) (γ := Unit) (fun (_ : Unit) v4 => [(1, (.ptr 0 0 0 0)), (3, (cI v4))]) (fun (_ : Unit) v4 => ⟨(upd hp 0 (.row 0 8 T.api_Row [[(cS r.Key), (cS r.Live.Val), (cB r.Live.Dead), (cI r.Live.At), (cI r.Live.End), (cI r.Gone), (cI r.Shade), (.d (.sl 5 (r.Cols.map api_Col.d)))]])), 1, g⟩) (fun k s => clerestoryref07_Check.w0 r k s) (fun _ => rfl) ?_ K0 0 () hf
                intro k0 v4 gg hf
                replace hf : clerestoryref07_Check.w0 r (k0 + 1) v4 = some _ := hf
                rw [clerestoryref07_Check.w0] at hf
                try dsimp only
                conv => whnf
                refine cut_go ?_
                conv => whnf
                refine cut_go ?_
                conv => whnf
                refine ⟨⟨rfl, Nat.le_of_ble_eq_true rfl⟩, ?_⟩
                conv => whnf
                refine ⟨rfl, ⟨_, rfl, ?_⟩⟩
                conv => whnf
                refine veq_intro r.Cols.length (by simp) ?_
                conv => whnf
                refine at_go ?_
                conv => whnf
                refine vcond_intro (t := decide (v4 < (r.Cols.length : Int))) (fun h18 => ?_) (fun h19 => ?_)
                · replace hf := ifT h18 hf
                  conv => whnf
                  refine at_go ?_
                  conv => whnf
                  refine cut_go ?_
                  conv => whnf
                  refine cut_go ?_
                  conv => whnf
                  refine ⟨⟨rfl, Nat.le_of_ble_eq_true rfl⟩, ?_⟩
                  conv => whnf
                  refine ⟨rfl, ⟨_, rfl, ?_⟩⟩
                  obtain ⟨x5, h20, hf⟩ := bnd hf
                  conv => whnf
                  refine ⟨⟨rfl, Nat.zero_lt_succ _⟩, at_nn h20, ⟨_, map_get (at_get h20), ?_⟩⟩
                  conv => whnf
                  refine ⟨⟨rfl, rfl⟩, ⟨_, rfl, Nat.le_of_ble_eq_true rfl, veq_intro [[(cS x5.Name), (cS x5.Cell.Val), (cB x5.Cell.Dead), (cI x5.Cell.At), (cI x5.Cell.End)]] rfl ?_⟩⟩
                  conv => whnf
                  refine at_sub (env' := [(1, (.ptr 0 0 0 0)), (3, (cI v4)), (4, (.ptr 1 0 0 0))]) (st' := ⟨(upd (upd hp 0 (.row 0 8 T.api_Row [[(cS r.Key), (cS r.Live.Val), (cB r.Live.Dead), (cI r.Live.At), (cI r.Live.End), (cI r.Gone), (cI r.Shade), (.d (.sl 5 (r.Cols.map api_Col.d)))]])) 1 (.row 0 5 T.api_Col [[(cS x5.Name), (cS x5.Cell.Val), (cB x5.Cell.Dead), (cI x5.Cell.At), (cI x5.Cell.End)]])), 2, g⟩) (sk hB (fwE (fwE (fw0 wf (by rfl) (fun _ => by rfl)) rfl rfl rfl) rfl rfl rfl) (by rfl) (by rfl) ⟨cv rfl rfl, cv rfl rfl, cv rfl rfl, trivial⟩) ?_
                  refine at_go ?_
                  conv => whnf
                  refine cut_go ?_
                  conv => whnf
                  refine ⟨⟨rfl, Nat.le_of_ble_eq_true rfl⟩, ?_⟩
                  conv => whnf
                  refine ⟨rfl, ⟨_, rfl, ?_⟩⟩
                  obtain ⟨x6, h21, hf⟩ := bnd hf
                  conv => whnf
                  refine (clerestoryref01_Name.pure x5.Name x6 h21).call ?_
                  conv => whnf
                  refine vcond_intro (t := !x6) (fun h22 => ?_) (fun h23 => ?_)
                  · replace hf := ifT h22 hf
                    conv => whnf
                    refine vcT rfl ?_
                    conv => whnf
                    refine vcT rfl ?_
                    conv => whnf
                    refine vcT rfl ?_
                    conv => whnf
                    refine vcT rfl ?_
                    conv => whnf
                    refine vcT rfl ?_
                    conv => whnf
                    refine vcT rfl ?_
                    conv => whnf
                    refine vcT rfl ?_
                    conv => whnf
                    refine vcT rfl ?_
                    conv => whnf
                    refine vcT rfl ?_
                    conv => whnf
                    refine vcT rfl ?_
                    conv => whnf
                    refine vcT rfl ?_
                    conv => whnf
                    refine vcT rfl ?_
                    conv => whnf
                    refine vcT rfl ?_
                    conv => whnf
                    refine vcT rfl ?_
                    conv => whnf
                    refine at_go ?_
                    conv => whnf
                    refine vcT rfl ?_
                    conv => whnf
                    refine cut_go ?_
                    conv => whnf
                    refine at_go ?_
                    conv => whnf
                    obtain rfl := Option.some.inj hf
                    refine ret_c hB wf (fun _ => by rfl) ?_
                    exact cv rfl rfl
                  · replace hf := ifF h23 hf
                    conv => whnf
                    refine vcF rfl ?_
                    conv => whnf
                    refine vcF rfl ?_
                    conv => whnf
                    refine vcond_intro (t := decide (0 < v4)) (fun h24 => ?_) (fun h25 => ?_)
                    · replace hf := ifT h24 hf
                      conv => whnf
                      refine ⟨⟨rfl, Nat.le_of_ble_eq_true rfl⟩, ?_⟩
                      conv => whnf
                      refine vcT rfl ?_
                      conv => whnf
                      refine ⟨rfl, ⟨_, rfl, ?_⟩⟩
                      conv => whnf
                      refine vcT rfl ?_
                      conv => whnf
                      refine ⟨⟨rfl, Nat.le_of_ble_eq_true rfl⟩, ?_⟩
                      conv => whnf
                      refine vcT rfl ?_
                      conv => whnf
                      refine ⟨rfl, ⟨_, rfl, ?_⟩⟩
                      conv => whnf
                      refine vcT rfl ?_
                      conv => whnf
                      refine vcT rfl ?_
                      conv => whnf
                      refine veq_intro (IntKind.i64.wrap (v4 - 1)) rfl ?_
                      conv => whnf
                      refine vcT rfl ?_
                      obtain ⟨x7, h26, hf⟩ := bnd hf
                      conv => whnf
                      refine ⟨⟨rfl, Nat.zero_lt_succ _⟩, at_nn h26, ⟨_, map_get (at_get h26), ?_⟩⟩
                      conv => whnf
                      refine vcT rfl ?_
                      conv => whnf
                      refine ⟨Nat.le_of_ble_eq_true rfl, ?_⟩
                      conv => whnf
                      refine vcT rfl ?_
                      conv => whnf
                      refine vcT rfl ?_
                      conv => whnf
                      refine vcF rfl ?_
                      conv => whnf
                      refine vcT rfl ?_
                      conv => whnf
                      refine vcF rfl ?_
                      conv => whnf
                      refine vcond_intro (t := (slt x5.Name x7.Name || seq x5.Name x7.Name)) (fun h27 => ?_) (fun h28 => ?_)
                      · replace hf := ifT h27 hf
                        conv => whnf
                        refine vcT rfl ?_
                        conv => whnf
                        refine vcT rfl ?_
                        conv => whnf
                        refine vcT rfl ?_
                        conv => whnf
                        refine vcT rfl ?_
                        conv => whnf
                        refine vcT rfl ?_
                        conv => whnf
                        refine vcT rfl ?_
                        conv => whnf
                        refine vcT rfl ?_
                        conv => whnf
                        refine vcT rfl ?_
                        conv => whnf
                        refine vcT rfl ?_
                        conv => whnf
                        refine at_go ?_
                        conv => whnf
                        refine vcT rfl ?_
                        conv => whnf
                        refine cut_go ?_
                        conv => whnf
                        refine at_go ?_
                        conv => whnf
                        obtain rfl := Option.some.inj hf
                        refine ret_c hB wf (fun _ => by rfl) ?_
                        exact cv rfl rfl
                      · replace hf := ifF h28 hf
                        conv => whnf
                        refine ⟨⟨rfl, Nat.le_of_ble_eq_true rfl⟩, ?_⟩
                        conv => whnf
                        refine vcF rfl ?_
                        conv => whnf
                        refine ⟨rfl, ⟨_, rfl, ?_⟩⟩
                        conv => whnf
                        refine vcF rfl ?_
                        obtain ⟨x8, h29, hf⟩ := bnd hf
                        conv => whnf
                        refine (clerestoryref06_Check.pure x5.Cell x8 h29).call ?_
                        conv => whnf
                        refine vcF rfl ?_
                        conv => whnf
                        refine vcF rfl ?_
                        conv => whnf
                        refine vcond_intro (t := !x8) (fun h30 => ?_) (fun h31 => ?_)
                        · replace hf := ifT h30 hf
                          conv => whnf
                          refine vcT rfl ?_
                          conv => whnf
                          refine vcT rfl ?_
                          conv => whnf
                          refine vcT rfl ?_
                          conv => whnf
                          refine vcT rfl ?_
                          conv => whnf
                          refine at_go ?_
                          conv => whnf
                          refine vcT rfl ?_
                          conv => whnf
                          refine cut_go ?_
                          conv => whnf
                          refine at_go ?_
                          conv => whnf
                          obtain rfl := Option.some.inj hf
                          refine ret_c hB wf (fun _ => by rfl) ?_
                          exact cv rfl rfl
                        · replace hf := ifF h31 hf
                          conv => whnf
                          refine ⟨⟨rfl, Nat.le_of_ble_eq_true rfl⟩, ?_⟩
                          conv => whnf
                          refine vcF rfl ?_
                          conv => whnf
                          refine ⟨⟨rfl, Nat.le_of_ble_eq_true rfl⟩, ?_⟩
                          conv => whnf
                          refine vcF rfl ?_
                          conv => whnf
                          refine ⟨rfl, ⟨_, rfl, ?_⟩⟩
                          conv => whnf
                          refine vcF rfl ?_
                          conv => whnf
                          refine vcF rfl ?_
                          conv => whnf
                          refine at_go ?_
                          conv => whnf
                          refine vcond_intro (t := decide (x5.Cell.At < 1)) (fun h32 => ?_) (fun h33 => ?_)
                          · replace hf := ifT h32 hf
                            conv => whnf
                            refine cut_go ?_
                            conv => whnf
                            refine at_go ?_
                            conv => whnf
                            obtain rfl := Option.some.inj hf
                            refine ret_c hB wf (fun _ => by rfl) ?_
                            exact cv rfl rfl
                          · replace hf := ifF h33 hf
                            conv => whnf
                            refine at_go ?_
                            conv => whnf
                            refine veq_intro (IntKind.i64.wrap (v4 + 1)) rfl ?_
                            conv => whnf
                            exact ⟨IntKind.i64.wrap (v4 + 1), hf, (), sk hB (fwE (fw0 wf (by rfl) (fun _ => by rfl)) rfl rfl rfl) (by rfl) (by rfl) ⟨cv rfl rfl, cv rfl rfl, trivial⟩⟩
                    · replace hf := ifF h25 hf
                      conv => whnf
                      refine vcF rfl ?_
                      conv => whnf
                      refine vcF rfl ?_
                      conv => whnf
                      refine vcF rfl ?_
                      conv => whnf
                      refine vcF rfl ?_
                      conv => whnf
                      refine vcF rfl ?_
                      conv => whnf
                      refine vcF rfl ?_
                      conv => whnf
                      refine vcF rfl ?_
                      conv => whnf
                      refine vcF rfl ?_
                      conv => whnf
                      refine vcF rfl ?_
                      conv => whnf
                      refine vcF rfl ?_
                      conv => whnf
                      refine vcF rfl ?_
                      conv => whnf
                      refine vcF rfl ?_
                      conv => whnf
                      refine vcF rfl ?_
                      conv => whnf
                      refine ⟨⟨rfl, Nat.le_of_ble_eq_true rfl⟩, ?_⟩
                      conv => whnf
                      refine vcF rfl ?_
                      conv => whnf
                      refine ⟨rfl, ⟨_, rfl, ?_⟩⟩
                      conv => whnf
                      refine vcF rfl ?_
                      obtain ⟨x9, h34, hf⟩ := bnd hf
                      conv => whnf
                      refine (clerestoryref06_Check.pure x5.Cell x9 h34).call ?_
                      conv => whnf
                      refine vcF rfl ?_
                      conv => whnf
                      refine vcF rfl ?_
                      conv => whnf
                      refine vcond_intro (t := !x9) (fun h35 => ?_) (fun h36 => ?_)
                      · replace hf := ifT h35 hf
                        conv => whnf
                        refine vcT rfl ?_
                        conv => whnf
                        refine vcT rfl ?_
                        conv => whnf
                        refine vcT rfl ?_
                        conv => whnf
                        refine vcT rfl ?_
                        conv => whnf
                        refine at_go ?_
                        conv => whnf
                        refine vcT rfl ?_
                        conv => whnf
                        refine cut_go ?_
                        conv => whnf
                        refine at_go ?_
                        conv => whnf
                        obtain rfl := Option.some.inj hf
                        refine ret_c hB wf (fun _ => by rfl) ?_
                        exact cv rfl rfl
                      · replace hf := ifF h36 hf
                        conv => whnf
                        refine ⟨⟨rfl, Nat.le_of_ble_eq_true rfl⟩, ?_⟩
                        conv => whnf
                        refine vcF rfl ?_
                        conv => whnf
                        refine ⟨⟨rfl, Nat.le_of_ble_eq_true rfl⟩, ?_⟩
                        conv => whnf
                        refine vcF rfl ?_
                        conv => whnf
                        refine ⟨rfl, ⟨_, rfl, ?_⟩⟩
                        conv => whnf
                        refine vcF rfl ?_
                        conv => whnf
                        refine vcF rfl ?_
                        conv => whnf
                        refine at_go ?_
                        conv => whnf
                        refine vcond_intro (t := decide (x5.Cell.At < 1)) (fun h37 => ?_) (fun h38 => ?_)
                        · replace hf := ifT h37 hf
                          conv => whnf
                          refine cut_go ?_
                          conv => whnf
                          refine at_go ?_
                          conv => whnf
                          obtain rfl := Option.some.inj hf
                          refine ret_c hB wf (fun _ => by rfl) ?_
                          exact cv rfl rfl
                        · replace hf := ifF h38 hf
                          conv => whnf
                          refine at_go ?_
                          conv => whnf
                          refine veq_intro (IntKind.i64.wrap (v4 + 1)) rfl ?_
                          conv => whnf
                          exact ⟨IntKind.i64.wrap (v4 + 1), hf, (), sk hB (fwE (fw0 wf (by rfl) (fun _ => by rfl)) rfl rfl rfl) (by rfl) (by rfl) ⟨cv rfl rfl, cv rfl rfl, trivial⟩⟩
                · replace hf := ifF h19 hf
                  conv => whnf
                  refine at_go ?_
                  conv => whnf
                  refine cut_go ?_
                  conv => whnf
                  refine at_sub (env' := [(2, (cB true))]) (st' := ⟨hp, 0, g⟩) (sk hB (fw0 wf (by rfl) (fun _ => by rfl)) (by rfl) (by rfl) ⟨cv rfl rfl, trivial⟩) ?_
                  refine at_go ?_
                  conv => whnf
                  obtain rfl := Option.some.inj hf
                  refine ret_c hB wf (fun _ => by rfl) ?_
                  exact cv rfl rfl

noncomputable def clerestoryref08_Check.w0 (p : api_Part) : Nat → Int → Option (Bool)
  | 0, _ => none
  | k0 + 1, v1 =>
    if (decide (v1 < (p.Rows.length : Int))) = true then
      (at? p.Rows v1).bind fun x2 =>
      (clerestoryref07_Check.f x2).bind fun x3 =>
      if (!x3) = true then
        some false
      else
      if (decide (0 < v1)) = true then
        (at? p.Rows (IntKind.i64.wrap (v1 - 1))).bind fun x4 =>
        if ((slt x2.Key x4.Key || seq x2.Key x4.Key)) = true then
          some false
        else
        clerestoryref08_Check.w0 p k0 (IntKind.i64.wrap (v1 + 1))
      else
      clerestoryref08_Check.w0 p k0 (IntKind.i64.wrap (v1 + 1))
    else
    some true

noncomputable def clerestoryref08_Check.f (p : api_Part) : Option (Bool) :=
  if (decide (100 < (p.Key.size : Int))) = true then
    some false
  else
  if (decide (p.Gone < 0)) = true then
    some false
  else
  if (decide (1099511627776 < p.Gone)) = true then
    some false
  else
  if (decide (100 < (p.Rows.length : Int))) = true then
    some false
  else
  clerestoryref08_Check.w0 p K0 0

set_option maxHeartbeats 4000000 in
theorem clerestoryref08_Check.pure (p : api_Part) (res : Bool) (hf : clerestoryref08_Check.f p = some res) : Pure prog F.clerestoryref08_Check [(agd (api_Part.d p))] (cB res) := by
  refine pure_fn clerestoryref08_Check.res (Nat.le_of_ble_eq_true rfl) (fun _ => rfl) (fun _ => rfl) fun B hp g hB wf => ?_
  rw [clerestoryref08_Check.f] at hf
  conv => whnf
  refine cut_go ?_
  conv => whnf
  refine at_go ?_
  conv => whnf
  refine cut_go ?_
  conv => whnf
  refine cut_go ?_
  conv => whnf
  refine ⟨⟨rfl, Nat.le_of_ble_eq_true rfl⟩, ?_⟩
  conv => whnf
  refine ⟨rfl, ⟨_, rfl, ?_⟩⟩
  conv => whnf
  refine vcond_intro (t := decide (100 < (p.Key.size : Int))) (fun h1 => ?_) (fun h2 => ?_)
  · replace hf := ifT h1 hf
    conv => whnf
    refine vcT rfl ?_
    conv => whnf
    refine vcT rfl ?_
    conv => whnf
    refine vcT rfl ?_
    conv => whnf
    refine vcT rfl ?_
    conv => whnf
    refine vcT rfl ?_
    conv => whnf
    refine vcT rfl ?_
    conv => whnf
    refine vcT rfl ?_
    conv => whnf
    refine vcT rfl ?_
    conv => whnf
    refine vcT rfl ?_
    conv => whnf
    refine vcT rfl ?_
    conv => whnf
    refine vcT rfl ?_
    conv => whnf
    refine vcT rfl ?_
    conv => whnf
    refine at_go ?_
    conv => whnf
    refine vcT rfl ?_
    conv => whnf
    refine cut_go ?_
    conv => whnf
    refine at_sub (env' := [(2, (cB false))]) (st' := ⟨hp, 0, g⟩) (sk hB (fw0 wf (by rfl) (fun _ => by rfl)) (by rfl) (by rfl) ⟨cv rfl rfl, trivial⟩) ?_
    refine at_go ?_
    conv => whnf
    obtain rfl := Option.some.inj hf
    refine ret_c hB wf (fun _ => by rfl) ?_
    exact cv rfl rfl
  · replace hf := ifF h2 hf
    conv => whnf
    refine ⟨⟨rfl, Nat.le_of_ble_eq_true rfl⟩, ?_⟩
    conv => whnf
    refine vcF rfl ?_
    conv => whnf
    refine ⟨rfl, ⟨_, rfl, ?_⟩⟩
    conv => whnf
    refine vcF rfl ?_
    conv => whnf
    refine vcF rfl ?_
    conv => whnf
    refine vcond_intro (t := decide (p.Gone < 0)) (fun h3 => ?_) (fun h4 => ?_)
    · replace hf := ifT h3 hf
      conv => whnf
      refine vcT rfl ?_
      conv => whnf
      refine vcT rfl ?_
      conv => whnf
      refine vcT rfl ?_
      conv => whnf
      refine vcT rfl ?_
      conv => whnf
      refine vcT rfl ?_
      conv => whnf
      refine vcT rfl ?_
      conv => whnf
      refine vcT rfl ?_
      conv => whnf
      refine vcT rfl ?_
      conv => whnf
      refine at_go ?_
      conv => whnf
      refine vcT rfl ?_
      conv => whnf
      refine cut_go ?_
      conv => whnf
      refine at_sub (env' := [(2, (cB false))]) (st' := ⟨hp, 0, g⟩) (sk hB (fw0 wf (by rfl) (fun _ => by rfl)) (by rfl) (by rfl) ⟨cv rfl rfl, trivial⟩) ?_
      refine at_go ?_
      conv => whnf
      obtain rfl := Option.some.inj hf
      refine ret_c hB wf (fun _ => by rfl) ?_
      exact cv rfl rfl
    · replace hf := ifF h4 hf
      conv => whnf
      refine ⟨⟨rfl, Nat.le_of_ble_eq_true rfl⟩, ?_⟩
      conv => whnf
      refine vcF rfl ?_
      conv => whnf
      refine ⟨rfl, ⟨_, rfl, ?_⟩⟩
      conv => whnf
      refine vcF rfl ?_
      conv => whnf
      refine vcF rfl ?_
      conv => whnf
      refine vcond_intro (t := decide (1099511627776 < p.Gone)) (fun h5 => ?_) (fun h6 => ?_)
      · replace hf := ifT h5 hf
        conv => whnf
        refine vcT rfl ?_
        conv => whnf
        refine vcT rfl ?_
        conv => whnf
        refine vcT rfl ?_
        conv => whnf
        refine vcT rfl ?_
        conv => whnf
        refine at_go ?_
        conv => whnf
        refine vcT rfl ?_
        conv => whnf
        refine cut_go ?_
        conv => whnf
        refine at_sub (env' := [(2, (cB false))]) (st' := ⟨hp, 0, g⟩) (sk hB (fw0 wf (by rfl) (fun _ => by rfl)) (by rfl) (by rfl) ⟨cv rfl rfl, trivial⟩) ?_
        refine at_go ?_
        conv => whnf
        obtain rfl := Option.some.inj hf
        refine ret_c hB wf (fun _ => by rfl) ?_
        exact cv rfl rfl
      · replace hf := ifF h6 hf
        conv => whnf
        refine ⟨⟨rfl, Nat.le_of_ble_eq_true rfl⟩, ?_⟩
        conv => whnf
        refine vcF rfl ?_
        conv => whnf
        refine ⟨rfl, ⟨_, rfl, ?_⟩⟩
        conv => whnf
        refine vcF rfl ?_
        conv => whnf
        refine veq_intro p.Rows.length (by simp) ?_
        conv => whnf
        refine vcF rfl ?_
        conv => whnf
        refine vcF rfl ?_
        conv => whnf
        refine at_go ?_
        conv => whnf
        refine vcond_intro (t := decide (100 < (p.Rows.length : Int))) (fun h7 => ?_) (fun h8 => ?_)
        · replace hf := ifT h7 hf
          conv => whnf
          refine cut_go ?_
          conv => whnf
          refine at_sub (env' := [(2, (cB false))]) (st' := ⟨hp, 0, g⟩) (sk hB (fw0 wf (by rfl) (fun _ => by rfl)) (by rfl) (by rfl) ⟨cv rfl rfl, trivial⟩) ?_
          refine at_go ?_
          conv => whnf
          obtain rfl := Option.some.inj hf
          refine ret_c hB wf (fun _ => by rfl) ?_
          exact cv rfl rfl
        · replace hf := ifF h8 hf
          conv => whnf
          refine at_sub (env' := [(1, (.ptr 0 0 0 0)), (23, (cB (decide (100 < (p.Rows.length : Int)))))]) (st' := ⟨(upd hp 0 (.row 0 3 T.api_Part [[(cS p.Key), (cI p.Gone), (.d (.sl 8 (p.Rows.map api_Row.d)))]])), 1, g⟩) (sk hB (fwE (fw0 wf (by rfl) (fun _ => by rfl)) rfl rfl rfl) (by rfl) (by rfl) ⟨cv rfl rfl, cv rfl rfl, trivial⟩) ?_
          refine at_go ?_
          conv => whnf
          refine cut_go ?_
          conv => whnf
          refine cut_go ?_
          conv => whnf
          refine at_go ?_
          conv => whnf
          refine loop_sub (env' := [(1, (.ptr 0 0 0 0)), (3, (cI 0))]) (st' := ⟨(upd hp 0 (.row 0 3 T.api_Part [[(cS p.Key), (cI p.Gone), (.d (.sl 8 (p.Rows.map api_Row.d)))]])), 1, g⟩) (sk hB (fwE (fw0 wf (by rfl) (fun _ => by rfl)) rfl rfl rfl) (by rfl) (by rfl) ⟨cv rfl rfl, cv rfl rfl, trivial⟩) ?_
          refine loop_f (α := Int) (γ := Unit) (fun (_ : Unit) v1 => [(1, (.ptr 0 0 0 0)), (3, (cI v1))]) (fun (_ : Unit) v1 => ⟨(upd hp 0 (.row 0 3 T.api_Part [[(cS p.Key), (cI p.Gone), (.d (.sl 8 (p.Rows.map api_Row.d)))]])), 1, g⟩) (fun k s => clerestoryref08_Check.w0 p k s) (fun _ => rfl) ?_ K0 0 () hf
          intro k0 v1 gg hf
          replace hf : clerestoryref08_Check.w0 p (k0 + 1) v1 = some _ := hf
          rw [clerestoryref08_Check.w0] at hf
          try dsimp only
          conv => whnf
          refine cut_go ?_
          conv => whnf
          refine cut_go ?_
          conv => whnf
          refine ⟨⟨rfl, Nat.le_of_ble_eq_true rfl⟩, ?_⟩
          conv => whnf
          refine ⟨rfl, ⟨_, rfl, ?_⟩⟩
          conv => whnf
          refine veq_intro p.Rows.length (by simp) ?_
          conv => whnf
          refine at_go ?_
          conv => whnf
          refine vcond_intro (t := decide (v1 < (p.Rows.length : Int))) (fun h9 => ?_) (fun h10 => ?_)
          · replace hf := ifT h9 hf
            conv => whnf
            refine at_go ?_
            conv => whnf
            refine cut_go ?_
            conv => whnf
            refine cut_go ?_
            conv => whnf
            refine ⟨⟨rfl, Nat.le_of_ble_eq_true rfl⟩, ?_⟩
            conv => whnf
            refine ⟨rfl, ⟨_, rfl, ?_⟩⟩
            obtain ⟨x2, h11, hf⟩ := bnd hf
            conv => whnf
            refine ⟨⟨rfl, Nat.zero_lt_succ _⟩, at_nn h11, ⟨_, map_get (at_get h11), ?_⟩⟩
            obtain ⟨x3, h12, hf⟩ := bnd hf
            conv => whnf
            refine (clerestoryref07_Check.pure x2 x3 h12).call ?_
            conv => whnf
            refine vcond_intro (t := !x3) (fun h13 => ?_) (fun h14 => ?_)
            · replace hf := ifT h13 hf
              conv => whnf
              refine vcT rfl ?_
              conv => whnf
              refine vcT rfl ?_
              conv => whnf
              refine vcT rfl ?_
              conv => whnf
              refine vcT rfl ?_
              conv => whnf
              refine at_sub (env' := [(1, (.ptr 0 0 0 0)), (3, (cI v1)), (57, (cB true))]) (st' := ⟨(upd hp 0 (.row 0 3 T.api_Part [[(cS p.Key), (cI p.Gone), (.d (.sl 8 (p.Rows.map api_Row.d)))]])), 1, g⟩) (sk hB (fwE (fw0 wf (by rfl) (fun _ => by rfl)) rfl rfl rfl) (by rfl) (by rfl) ⟨cv rfl rfl, cv rfl rfl, cv rfl rfl, trivial⟩) ?_
              refine at_go ?_
              conv => whnf
              refine vcT rfl ?_
              conv => whnf
              refine cut_go ?_
              conv => whnf
              refine at_go ?_
              conv => whnf
              obtain rfl := Option.some.inj hf
              refine ret_c hB wf (fun _ => by rfl) ?_
              exact cv rfl rfl
            · replace hf := ifF h14 hf
              conv => whnf
              refine vcF rfl ?_
              conv => whnf
              refine vcF rfl ?_
              conv => whnf
              refine vcond_intro (t := decide (0 < v1)) (fun h15 => ?_) (fun h16 => ?_)
              · replace hf := ifT h15 hf
                conv => whnf
                refine ⟨⟨rfl, Nat.le_of_ble_eq_true rfl⟩, ?_⟩
                conv => whnf
                refine vcT rfl ?_
                conv => whnf
                refine ⟨rfl, ⟨_, rfl, ?_⟩⟩
                conv => whnf
                refine vcT rfl ?_
                conv => whnf
                refine vcT rfl ?_
                conv => whnf
                refine ⟨⟨rfl, Nat.zero_lt_succ _⟩, at_nn h11, ⟨_, map_get (at_get h11), ?_⟩⟩
                conv => whnf
                refine vcT rfl ?_
                conv => whnf
                refine ⟨Nat.le_of_ble_eq_true rfl, ?_⟩
                conv => whnf
                refine vcT rfl ?_
                conv => whnf
                refine vcT rfl ?_
                conv => whnf
                refine ⟨⟨rfl, Nat.le_of_ble_eq_true rfl⟩, ?_⟩
                conv => whnf
                refine vcT rfl ?_
                conv => whnf
                refine ⟨rfl, ⟨_, rfl, ?_⟩⟩
                conv => whnf
                refine vcT rfl ?_
                conv => whnf
                refine vcT rfl ?_
                conv => whnf
                refine veq_intro (IntKind.i64.wrap (v1 - 1)) rfl ?_
                conv => whnf
                refine vcT rfl ?_
                obtain ⟨x4, h17, hf⟩ := bnd hf
                conv => whnf
                refine ⟨⟨rfl, Nat.zero_lt_succ _⟩, at_nn h17, ⟨_, map_get (at_get h17), ?_⟩⟩
                conv => whnf
                refine vcT rfl ?_
                conv => whnf
                refine ⟨Nat.le_of_ble_eq_true rfl, ?_⟩
                conv => whnf
                refine vcT rfl ?_
                conv => whnf
                refine vcT rfl ?_
                conv => whnf
                refine vcF rfl ?_
                conv => whnf
                refine vcT rfl ?_
                conv => whnf
                refine vcF rfl ?_
                conv => whnf
                refine at_sub (env' := [(1, (.ptr 0 0 0 0)), (3, (cI v1)), (57, (cB (slt x2.Key x4.Key || seq x2.Key x4.Key)))]) (st' := ⟨(upd hp 0 (.row 0 3 T.api_Part [[(cS p.Key), (cI p.Gone), (.d (.sl 8 (p.Rows.map api_Row.d)))]])), 1, g⟩) (sk hB (fwE (fw0 wf (by rfl) (fun _ => by rfl)) rfl rfl rfl) (by rfl) (by rfl) ⟨cv rfl rfl, cv rfl rfl, cv rfl rfl, trivial⟩) ?_
                refine at_go ?_
                conv => whnf
                refine vcond_intro (t := (slt x2.Key x4.Key || seq x2.Key x4.Key)) (fun h18 => ?_) (fun h19 => ?_)
                · replace hf := ifT h18 hf
                  conv => whnf
                  refine cut_go ?_
                  conv => whnf
                  refine at_go ?_
                  conv => whnf
                  obtain rfl := Option.some.inj hf
                  refine ret_c hB wf (fun _ => by rfl) ?_
                  exact cv rfl rfl
                · replace hf := ifF h19 hf
                  conv => whnf
                  refine at_go ?_
                  conv => whnf
                  refine veq_intro (IntKind.i64.wrap (v1 + 1)) rfl ?_
                  conv => whnf
                  exact ⟨IntKind.i64.wrap (v1 + 1), hf, (), sk hB (fwE (fw0 wf (by rfl) (fun _ => by rfl)) rfl rfl rfl) (by rfl) (by rfl) ⟨cv rfl rfl, cv rfl rfl, trivial⟩⟩
              · replace hf := ifF h16 hf
                conv => whnf
                refine vcF rfl ?_
                conv => whnf
                refine vcF rfl ?_
                conv => whnf
                refine vcF rfl ?_
                conv => whnf
                refine vcF rfl ?_
                conv => whnf
                refine vcF rfl ?_
                conv => whnf
                refine vcF rfl ?_
                conv => whnf
                refine vcF rfl ?_
                conv => whnf
                refine vcF rfl ?_
                conv => whnf
                refine vcF rfl ?_
                conv => whnf
                refine vcF rfl ?_
                conv => whnf
                refine vcF rfl ?_
                conv => whnf
                refine vcF rfl ?_
                conv => whnf
                refine vcF rfl ?_
                conv => whnf
                refine vcF rfl ?_
                conv => whnf
                refine vcF rfl ?_
                conv => whnf
                refine vcF rfl ?_
                conv => whnf
                refine at_sub (env' := [(1, (.ptr 0 0 0 0)), (3, (cI v1)), (57, (cB false))]) (st' := ⟨(upd hp 0 (.row 0 3 T.api_Part [[(cS p.Key), (cI p.Gone), (.d (.sl 8 (p.Rows.map api_Row.d)))]])), 1, g⟩) (sk hB (fwE (fw0 wf (by rfl) (fun _ => by rfl)) rfl rfl rfl) (by rfl) (by rfl) ⟨cv rfl rfl, cv rfl rfl, cv rfl rfl, trivial⟩) ?_
                refine at_go ?_
                conv => whnf
                refine vcF rfl ?_
                conv => whnf
                refine at_go ?_
                conv => whnf
                refine veq_intro (IntKind.i64.wrap (v1 + 1)) rfl ?_
                conv => whnf
                exact ⟨IntKind.i64.wrap (v1 + 1), hf, (), sk hB (fwE (fw0 wf (by rfl) (fun _ => by rfl)) rfl rfl rfl) (by rfl) (by rfl) ⟨cv rfl rfl, cv rfl rfl, trivial⟩⟩
          · replace hf := ifF h10 hf
            conv => whnf
            refine at_go ?_
            conv => whnf
            refine cut_go ?_
            conv => whnf
            refine at_sub (env' := [(2, (cB true))]) (st' := ⟨hp, 0, g⟩) (sk hB (fw0 wf (by rfl) (fun _ => by rfl)) (by rfl) (by rfl) ⟨cv rfl rfl, trivial⟩) ?_
            refine at_go ?_
            conv => whnf
            obtain rfl := Option.some.inj hf
            refine ret_c hB wf (fun _ => by rfl) ?_
            exact cv rfl rfl

noncomputable def clerestoryref07_Gone.f (r : api_Row) (part : Int) : Option (Int) :=
  some (imax r.Gone part)

set_option maxHeartbeats 4000000 in
theorem clerestoryref07_Gone.pure (r : api_Row) (part : Int) (res : Int) (hf : clerestoryref07_Gone.f r part = some res) : Pure prog F.clerestoryref07_Gone [(agd (api_Row.d r)), (cI part)] (cI res) := by
  refine pure_fn clerestoryref07_Gone.res (Nat.le_of_ble_eq_true rfl) (fun _ => rfl) (fun _ => rfl) fun B hp g hB wf => ?_
  rw [clerestoryref07_Gone.f] at hf
  conv => whnf
  refine cut_go ?_
  conv => whnf
  refine at_go ?_
  conv => whnf
  refine cut_go ?_
  conv => whnf
  refine ⟨⟨rfl, Nat.le_of_ble_eq_true rfl⟩, ?_⟩
  conv => whnf
  refine ⟨rfl, ⟨_, rfl, ?_⟩⟩
  conv => whnf
  refine veq_intro (imax r.Gone part) rfl ?_
  conv => whnf
  refine at_go ?_
  conv => whnf
  obtain rfl := Option.some.inj hf
  refine ret_c hB wf (fun _ => by rfl) ?_
  exact cv rfl rfl

noncomputable def clerestoryref07_Cell.w0 (r : api_Row) (name : ByteArray) : Nat → Int → Option (api_Cell)
  | 0, _ => none
  | k0 + 1, v1 =>
    if (decide (v1 < (r.Cols.length : Int))) = true then
      (at? r.Cols v1).bind fun x2 =>
      if (seq x2.Name name) = true then
        some x2.Cell
      else
      clerestoryref07_Cell.w0 r name k0 (IntKind.i64.wrap (v1 + 1))
    else
    some (⟨(bs []), false, 0, 0⟩ : api_Cell)

noncomputable def clerestoryref07_Cell.f (r : api_Row) (name : ByteArray) : Option (api_Cell) :=
  clerestoryref07_Cell.w0 r name K0 0

set_option maxHeartbeats 4000000 in
theorem clerestoryref07_Cell.pure (r : api_Row) (name : ByteArray) (res : api_Cell) (hf : clerestoryref07_Cell.f r name = some res) : Pure prog F.clerestoryref07_Cell [(agd (api_Row.d r)), (cS name)] (agd (api_Cell.d res)) := by
  refine pure_fn clerestoryref07_Cell.res (Nat.le_of_ble_eq_true rfl) (fun _ => rfl) (fun _ => rfl) fun B hp g hB wf => ?_
  rw [clerestoryref07_Cell.f] at hf
  conv => whnf
  refine cut_go ?_
  conv => whnf
  refine at_go ?_
  conv => whnf
  refine cut_go ?_
  conv => whnf
  refine cut_go ?_
  conv => whnf
  refine at_go ?_
  conv => whnf
  refine loop_sub (env' := [(1, (cS name)), (2, (.ptr 0 0 0 0)), (4, (.ptr 1 0 0 0)), (5, (cI 0))]) (st' := ⟨(upd (upd hp 0 (.row 0 8 T.api_Row [[(cS r.Key), (cS r.Live.Val), (cB r.Live.Dead), (cI r.Live.At), (cI r.Live.End), (cI r.Gone), (cI r.Shade), (.d (.sl 5 (r.Cols.map api_Col.d)))]])) 1 (.row 0 4 T.api_Cell [[(cS (bs [])), (cB false), (cI 0), (cI 0)]])), 2, g⟩) (sk hB (fwE (fwE (fw0 wf (by rfl) (fun _ => by rfl)) rfl rfl rfl) rfl rfl rfl) (by rfl) (by rfl) ⟨cv rfl rfl, cv rfl rfl, cv rfl rfl, cv rfl rfl, trivial⟩) ?_
  refine loop_f (α := Int) (γ := Unit) (fun (_ : Unit) v1 => [(1, (cS name)), (2, (.ptr 0 0 0 0)), (4, (.ptr 1 0 0 0)), (5, (cI v1))]) (fun (_ : Unit) v1 => ⟨(upd (upd hp 0 (.row 0 8 T.api_Row [[(cS r.Key), (cS r.Live.Val), (cB r.Live.Dead), (cI r.Live.At), (cI r.Live.End), (cI r.Gone), (cI r.Shade), (.d (.sl 5 (r.Cols.map api_Col.d)))]])) 1 (.row 0 4 T.api_Cell [[(cS (bs [])), (cB false), (cI 0), (cI 0)]])), 2, g⟩) (fun k s => clerestoryref07_Cell.w0 r name k s) (fun _ => rfl) ?_ K0 0 () hf
  intro k0 v1 gg hf
  replace hf : clerestoryref07_Cell.w0 r name (k0 + 1) v1 = some _ := hf
  rw [clerestoryref07_Cell.w0] at hf
  try dsimp only
  conv => whnf
  refine cut_go ?_
  conv => whnf
  refine cut_go ?_
  conv => whnf
  refine ⟨⟨rfl, Nat.le_of_ble_eq_true rfl⟩, ?_⟩
  conv => whnf
  refine ⟨rfl, ⟨_, rfl, ?_⟩⟩
  conv => whnf
  refine veq_intro r.Cols.length (by simp) ?_
  conv => whnf
  refine at_go ?_
  conv => whnf
  refine vcond_intro (t := decide (v1 < (r.Cols.length : Int))) (fun h1 => ?_) (fun h2 => ?_)
  · replace hf := ifT h1 hf
    conv => whnf
    refine at_go ?_
    conv => whnf
    refine cut_go ?_
    conv => whnf
    refine cut_go ?_
    conv => whnf
    refine ⟨⟨rfl, Nat.le_of_ble_eq_true rfl⟩, ?_⟩
    conv => whnf
    refine ⟨rfl, ⟨_, rfl, ?_⟩⟩
    obtain ⟨x2, h3, hf⟩ := bnd hf
    conv => whnf
    refine ⟨⟨rfl, Nat.zero_lt_succ _⟩, at_nn h3, ⟨_, map_get (at_get h3), ?_⟩⟩
    conv => whnf
    refine ⟨Nat.le_of_ble_eq_true rfl, ?_⟩
    conv => whnf
    refine at_sub (env' := [(1, (cS name)), (2, (.ptr 0 0 0 0)), (4, (.ptr 1 0 0 0)), (5, (cI v1)), (20, (cB (seq x2.Name name)))]) (st' := ⟨(upd (upd hp 0 (.row 0 8 T.api_Row [[(cS r.Key), (cS r.Live.Val), (cB r.Live.Dead), (cI r.Live.At), (cI r.Live.End), (cI r.Gone), (cI r.Shade), (.d (.sl 5 (r.Cols.map api_Col.d)))]])) 1 (.row 0 4 T.api_Cell [[(cS (bs [])), (cB false), (cI 0), (cI 0)]])), 2, g⟩) (sk hB (fwE (fwE (fw0 wf (by rfl) (fun _ => by rfl)) rfl rfl rfl) rfl rfl rfl) (by rfl) (by rfl) ⟨cv rfl rfl, cv rfl rfl, cv rfl rfl, cv rfl rfl, cv rfl rfl, trivial⟩) ?_
    refine at_go ?_
    conv => whnf
    refine vcond_intro (t := seq x2.Name name) (fun h4 => ?_) (fun h5 => ?_)
    · replace hf := ifT h4 hf
      conv => whnf
      refine cut_go ?_
      conv => whnf
      refine ⟨⟨rfl, Nat.le_of_ble_eq_true rfl⟩, ?_⟩
      conv => whnf
      refine ⟨rfl, ⟨_, rfl, ?_⟩⟩
      conv => whnf
      refine ⟨⟨rfl, Nat.zero_lt_succ _⟩, at_nn h3, ⟨_, map_get (at_get h3), ?_⟩⟩
      conv => whnf
      refine ⟨Nat.le_of_ble_eq_true rfl, ?_⟩
      conv => whnf
      refine ⟨⟨rfl, rfl⟩, ⟨_, rfl, Nat.le_of_ble_eq_true rfl, veq_intro [[(cS x2.Cell.Val), (cB x2.Cell.Dead), (cI x2.Cell.At), (cI x2.Cell.End)]] rfl ?_⟩⟩
      conv => whnf
      refine at_go ?_
      conv => whnf
      obtain rfl := Option.some.inj hf
      refine ret_c hB wf (fun _ => by rfl) ?_
      exact cv rfl rfl
    · replace hf := ifF h5 hf
      conv => whnf
      refine at_go ?_
      conv => whnf
      refine veq_intro (IntKind.i64.wrap (v1 + 1)) rfl ?_
      conv => whnf
      exact ⟨IntKind.i64.wrap (v1 + 1), hf, (), sk hB (fwE (fwE (fw0 wf (by rfl) (fun _ => by rfl)) rfl rfl rfl) rfl rfl rfl) (by rfl) (by rfl) ⟨cv rfl rfl, cv rfl rfl, cv rfl rfl, cv rfl rfl, trivial⟩⟩
  · replace hf := ifF h2 hf
    conv => whnf
    refine at_go ?_
    conv => whnf
    refine cut_go ?_
    conv => whnf
    refine ⟨⟨rfl, rfl⟩, ⟨_, rfl, Nat.le_of_ble_eq_true rfl, veq_intro [[(cS (bs [])), (cB false), (cI 0), (cI 0)]] rfl ?_⟩⟩
    conv => whnf
    refine at_sub (env' := [(4, (.ptr 1 0 0 0))]) (st' := ⟨(upd hp 1 (.row 0 4 T.api_Cell [[(cS (bs [])), (cB false), (cI 0), (cI 0)]])), 2, g⟩) (sk hB (fwE (fw0 wf (by rfl) (fun _ => by rfl)) rfl rfl rfl) (by rfl) (by rfl) ⟨cv rfl rfl, trivial⟩) ?_
    refine at_go ?_
    conv => whnf
    obtain rfl := Option.some.inj hf
    refine ret_c hB wf (fun _ => by rfl) ?_
    exact cv rfl rfl

noncomputable def clerestoryref07_Best.f (r : api_Row) (part : Int) (name : ByteArray) : Option (api_Cell × Bool) :=
  (clerestoryref07_Cell.f r name).bind fun x1 =>
  if (x1.Dead) = true then
    some ((⟨(bs []), false, 0, 0⟩ : api_Cell), false)
  else
  (clerestoryref07_Gone.f r part).bind fun x2 =>
  if (decide (x1.At ≤ x2)) = true then
    some ((⟨(bs []), false, 0, 0⟩ : api_Cell), false)
  else
  if (decide (x1.At < 1)) = true then
    some ((⟨(bs []), false, 0, 0⟩ : api_Cell), false)
  else
  some (x1, true)

set_option maxHeartbeats 4000000 in
theorem clerestoryref07_Best.pure (r : api_Row) (part : Int) (name : ByteArray) (res : api_Cell × Bool) (hf : clerestoryref07_Best.f r part name = some res) : Pure prog F.clerestoryref07_Best [(agd (api_Row.d r)), (cI part), (cS name)] (.tup [(agd (api_Cell.d res.1)), (cB res.2)]) := by
  refine pure_fn clerestoryref07_Best.res (Nat.le_of_ble_eq_true rfl) (fun _ => rfl) (fun _ => rfl) fun B hp g hB wf => ?_
  rw [clerestoryref07_Best.f] at hf
  conv => whnf
  refine cut_go ?_
  conv => whnf
  refine at_go ?_
  conv => whnf
  refine cut_go ?_
  conv => whnf
  refine ⟨rfl, ⟨_, rfl, ?_⟩⟩
  obtain ⟨x1, h1, hf⟩ := bnd hf
  conv => whnf
  refine (clerestoryref07_Cell.pure r name x1 h1).call ?_
  conv => whnf
  refine ⟨⟨rfl, rfl⟩, ⟨_, rfl, Nat.le_of_ble_eq_true rfl, veq_intro [[(cS x1.Val), (cB x1.Dead), (cI x1.At), (cI x1.End)]] rfl ?_⟩⟩
  conv => whnf
  refine at_go ?_
  conv => whnf
  refine cut_go ?_
  conv => whnf
  refine cut_go ?_
  conv => whnf
  refine ⟨⟨rfl, Nat.le_of_ble_eq_true rfl⟩, ?_⟩
  conv => whnf
  refine ⟨rfl, ⟨_, rfl, ?_⟩⟩
  conv => whnf
  refine vcond_intro (t := x1.Dead) (fun h2 => ?_) (fun h3 => ?_)
  · replace hf := ifT h2 hf
    conv => whnf
    refine vcT rfl ?_
    conv => whnf
    refine vcT rfl ?_
    conv => whnf
    refine vcT rfl ?_
    conv => whnf
    refine vcT rfl ?_
    conv => whnf
    refine vcT rfl ?_
    conv => whnf
    refine ⟨rfl, ?_⟩
    conv => whnf
    refine vcT rfl ?_
    conv => whnf
    refine ⟨rfl, ?_⟩
    conv => whnf
    refine vcT rfl ?_
    conv => whnf
    refine vcT rfl ?_
    conv => whnf
    refine vcT rfl ?_
    conv => whnf
    refine vcT rfl ?_
    conv => whnf
    refine vcT rfl ?_
    conv => whnf
    refine vcT rfl ?_
    conv => whnf
    refine at_sub (env' := [(6, (.ptr 1 0 0 0)), (8, (.ptr 2 0 0 0)), (26, (cB true))]) (st' := ⟨(upd (upd hp 1 (.row 0 4 T.api_Cell [[(cS (bs [])), (cB false), (cI 0), (cI 0)]])) 2 (.row 0 4 T.api_Cell [[(cS x1.Val), (cB x1.Dead), (cI x1.At), (cI x1.End)]])), 3, g⟩) (sk hB (fwE (fwE (fw0 wf (by rfl) (fun _ => by rfl)) rfl rfl rfl) rfl rfl rfl) (by rfl) (by rfl) ⟨cv rfl rfl, cv rfl rfl, cv rfl rfl, trivial⟩) ?_
    refine at_go ?_
    conv => whnf
    refine vcT rfl ?_
    conv => whnf
    refine cut_go ?_
    conv => whnf
    refine ⟨⟨rfl, rfl⟩, ⟨_, rfl, Nat.le_of_ble_eq_true rfl, veq_intro [[(cS (bs [])), (cB false), (cI 0), (cI 0)]] rfl ?_⟩⟩
    conv => whnf
    refine at_go ?_
    conv => whnf
    obtain rfl := Option.some.inj hf
    refine ret_c hB wf (fun _ => by rfl) ?_
    exact cv rfl rfl
  · replace hf := ifF h3 hf
    conv => whnf
    refine ⟨⟨rfl, Nat.le_of_ble_eq_true rfl⟩, ?_⟩
    conv => whnf
    refine vcF rfl ?_
    conv => whnf
    refine ⟨rfl, ⟨_, rfl, ?_⟩⟩
    conv => whnf
    refine vcF rfl ?_
    conv => whnf
    refine ⟨rfl, ⟨_, rfl, ?_⟩⟩
    conv => whnf
    refine vcF rfl ?_
    conv => whnf
    refine vcF rfl ?_
    obtain ⟨x2, h4, hf⟩ := bnd hf
    conv => whnf
    refine (clerestoryref07_Gone.pure r part x2 h4).call ?_
    conv => whnf
    refine vcF rfl ?_
    conv => whnf
    refine ⟨rfl, ?_⟩
    conv => whnf
    refine ⟨rfl, ⟨_, rfl, ?_⟩⟩
    conv => whnf
    refine ⟨rfl, ?_⟩
    conv => whnf
    refine vcF rfl ?_
    conv => whnf
    refine ⟨rfl, ?_⟩
    conv => whnf
    refine ⟨⟨rfl, Nat.le_of_ble_eq_true rfl⟩, ?_⟩
    conv => whnf
    refine ⟨rfl, ?_⟩
    conv => whnf
    refine vcF rfl ?_
    conv => whnf
    refine vcF rfl ?_
    conv => whnf
    refine vcond_intro (t := decide (x1.At ≤ x2)) (fun h5 => ?_) (fun h6 => ?_)
    · replace hf := ifT h5 hf
      conv => whnf
      refine vcT rfl ?_
      conv => whnf
      refine vcT rfl ?_
      conv => whnf
      refine vcT rfl ?_
      conv => whnf
      refine at_sub (env' := [(6, (.ptr 1 0 0 0)), (8, (.ptr 2 0 0 0)), (26, (cB true))]) (st' := ⟨(upd (upd hp 1 (.row 0 4 T.api_Cell [[(cS (bs [])), (cB false), (cI 0), (cI 0)]])) 2 (.row 0 4 T.api_Cell [[(cS x1.Val), (cB x1.Dead), (cI x1.At), (cI x1.End)]])), 3, g⟩) (sk hB (fwE (fwE (fw0 wf (by rfl) (fun _ => by rfl)) rfl rfl rfl) rfl rfl rfl) (by rfl) (by rfl) ⟨cv rfl rfl, cv rfl rfl, cv rfl rfl, trivial⟩) ?_
      refine at_go ?_
      conv => whnf
      refine vcT rfl ?_
      conv => whnf
      refine cut_go ?_
      conv => whnf
      refine ⟨⟨rfl, rfl⟩, ⟨_, rfl, Nat.le_of_ble_eq_true rfl, veq_intro [[(cS (bs [])), (cB false), (cI 0), (cI 0)]] rfl ?_⟩⟩
      conv => whnf
      refine at_go ?_
      conv => whnf
      obtain rfl := Option.some.inj hf
      refine ret_c hB wf (fun _ => by rfl) ?_
      exact cv rfl rfl
    · replace hf := ifF h6 hf
      conv => whnf
      refine ⟨⟨rfl, Nat.le_of_ble_eq_true rfl⟩, ?_⟩
      conv => whnf
      refine vcF rfl ?_
      conv => whnf
      refine ⟨rfl, ⟨_, rfl, ?_⟩⟩
      conv => whnf
      refine vcF rfl ?_
      conv => whnf
      refine vcF rfl ?_
      conv => whnf
      refine at_sub (env' := [(6, (.ptr 1 0 0 0)), (8, (.ptr 2 0 0 0)), (26, (cB (decide (x1.At < 1))))]) (st' := ⟨(upd (upd hp 1 (.row 0 4 T.api_Cell [[(cS (bs [])), (cB false), (cI 0), (cI 0)]])) 2 (.row 0 4 T.api_Cell [[(cS x1.Val), (cB x1.Dead), (cI x1.At), (cI x1.End)]])), 3, g⟩) (sk hB (fwE (fwE (fw0 wf (by rfl) (fun _ => by rfl)) rfl rfl rfl) rfl rfl rfl) (by rfl) (by rfl) ⟨cv rfl rfl, cv rfl rfl, cv rfl rfl, trivial⟩) ?_
      refine at_go ?_
      conv => whnf
      refine vcond_intro (t := decide (x1.At < 1)) (fun h7 => ?_) (fun h8 => ?_)
      · replace hf := ifT h7 hf
        conv => whnf
        refine cut_go ?_
        conv => whnf
        refine ⟨⟨rfl, rfl⟩, ⟨_, rfl, Nat.le_of_ble_eq_true rfl, veq_intro [[(cS (bs [])), (cB false), (cI 0), (cI 0)]] rfl ?_⟩⟩
        conv => whnf
        refine at_go ?_
        conv => whnf
        obtain rfl := Option.some.inj hf
        refine ret_c hB wf (fun _ => by rfl) ?_
        exact cv rfl rfl
      · replace hf := ifF h8 hf
        conv => whnf
        refine at_go ?_
        conv => whnf
        refine cut_go ?_
        conv => whnf
        refine ⟨rfl, ⟨_, rfl, ?_⟩⟩
        conv => whnf
        refine ⟨⟨rfl, rfl⟩, ⟨_, rfl, Nat.le_of_ble_eq_true rfl, veq_intro [[(cS x1.Val), (cB x1.Dead), (cI x1.At), (cI x1.End)]] rfl ?_⟩⟩
        conv => whnf
        refine at_go ?_
        conv => whnf
        obtain rfl := Option.some.inj hf
        refine ret_c hB wf (fun _ => by rfl) ?_
        exact cv rfl rfl

noncomputable def clerestoryref18_in.w0 (v : api_View) (name : ByteArray) : Nat → Int → Option (Bool)
  | 0, _ => none
  | k0 + 1, v1 =>
    if (decide (v1 < (v.Cols.length : Int))) = true then
      (at? v.Cols v1).bind fun x2 =>
      if (seq x2 name) = true then
        some true
      else
      clerestoryref18_in.w0 v name k0 (IntKind.i64.wrap (v1 + 1))
    else
    some false

noncomputable def clerestoryref18_in.f (v : api_View) (name : ByteArray) : Option (Bool) :=
  clerestoryref18_in.w0 v name K0 0

set_option maxHeartbeats 4000000 in
theorem clerestoryref18_in.pure (v : api_View) (name : ByteArray) (res : Bool) (hf : clerestoryref18_in.f v name = some res) : Pure prog F.clerestoryref18_in [(agd (api_View.d v)), (cS name)] (cB res) := by
  refine pure_fn clerestoryref18_in.res (Nat.le_of_ble_eq_true rfl) (fun _ => rfl) (fun _ => rfl) fun B hp g hB wf => ?_
  rw [clerestoryref18_in.f] at hf
  conv => whnf
  refine cut_go ?_
  conv => whnf
  refine at_go ?_
  conv => whnf
  refine cut_go ?_
  conv => whnf
  refine cut_go ?_
  conv => whnf
  refine at_go ?_
  conv => whnf
  refine loop_sub (env' := [(1, (cS name)), (2, (.ptr 0 0 0 0)), (5, (cI 0))]) (st' := ⟨(upd hp 0 (.row 0 5 T.api_View [[(cS v.Name), (cI v.ID), (cS v.Table), (cS v.On), (.d (.sl 1 (v.Cols.map strD)))]])), 1, g⟩) (sk hB (fwE (fw0 wf (by rfl) (fun _ => by rfl)) rfl rfl rfl) (by rfl) (by rfl) ⟨cv rfl rfl, cv rfl rfl, cv rfl rfl, trivial⟩) ?_
  refine loop_f (α := Int) (γ := Unit) (fun (_ : Unit) v1 => [(1, (cS name)), (2, (.ptr 0 0 0 0)), (5, (cI v1))]) (fun (_ : Unit) v1 => ⟨(upd hp 0 (.row 0 5 T.api_View [[(cS v.Name), (cI v.ID), (cS v.Table), (cS v.On), (.d (.sl 1 (v.Cols.map strD)))]])), 1, g⟩) (fun k s => clerestoryref18_in.w0 v name k s) (fun _ => rfl) ?_ K0 0 () hf
  intro k0 v1 gg hf
  replace hf : clerestoryref18_in.w0 v name (k0 + 1) v1 = some _ := hf
  rw [clerestoryref18_in.w0] at hf
  try dsimp only
  conv => whnf
  refine cut_go ?_
  conv => whnf
  refine cut_go ?_
  conv => whnf
  refine ⟨⟨rfl, Nat.le_of_ble_eq_true rfl⟩, ?_⟩
  conv => whnf
  refine ⟨rfl, ⟨_, rfl, ?_⟩⟩
  conv => whnf
  refine veq_intro v.Cols.length (by simp) ?_
  conv => whnf
  refine at_go ?_
  conv => whnf
  refine vcond_intro (t := decide (v1 < (v.Cols.length : Int))) (fun h1 => ?_) (fun h2 => ?_)
  · replace hf := ifT h1 hf
    conv => whnf
    refine at_go ?_
    conv => whnf
    refine cut_go ?_
    conv => whnf
    refine cut_go ?_
    conv => whnf
    refine ⟨⟨rfl, Nat.le_of_ble_eq_true rfl⟩, ?_⟩
    conv => whnf
    refine ⟨rfl, ⟨_, rfl, ?_⟩⟩
    obtain ⟨x2, h3, hf⟩ := bnd hf
    conv => whnf
    refine ⟨⟨rfl, Nat.zero_lt_succ _⟩, at_nn h3, ⟨_, map_get (at_get h3), ?_⟩⟩
    conv => whnf
    refine at_sub (env' := [(1, (cS name)), (2, (.ptr 0 0 0 0)), (5, (cI v1)), (19, (cB (seq x2 name)))]) (st' := ⟨(upd hp 0 (.row 0 5 T.api_View [[(cS v.Name), (cI v.ID), (cS v.Table), (cS v.On), (.d (.sl 1 (v.Cols.map strD)))]])), 1, g⟩) (sk hB (fwE (fw0 wf (by rfl) (fun _ => by rfl)) rfl rfl rfl) (by rfl) (by rfl) ⟨cv rfl rfl, cv rfl rfl, cv rfl rfl, cv rfl rfl, trivial⟩) ?_
    refine at_go ?_
    conv => whnf
    refine vcond_intro (t := seq x2 name) (fun h4 => ?_) (fun h5 => ?_)
    · replace hf := ifT h4 hf
      conv => whnf
      refine cut_go ?_
      conv => whnf
      refine at_go ?_
      conv => whnf
      obtain rfl := Option.some.inj hf
      refine ret_c hB wf (fun _ => by rfl) ?_
      exact cv rfl rfl
    · replace hf := ifF h5 hf
      conv => whnf
      refine at_go ?_
      conv => whnf
      refine veq_intro (IntKind.i64.wrap (v1 + 1)) rfl ?_
      conv => whnf
      exact ⟨IntKind.i64.wrap (v1 + 1), hf, (), sk hB (fwE (fw0 wf (by rfl) (fun _ => by rfl)) rfl rfl rfl) (by rfl) (by rfl) ⟨cv rfl rfl, cv rfl rfl, cv rfl rfl, trivial⟩⟩
  · replace hf := ifF h2 hf
    conv => whnf
    refine at_go ?_
    conv => whnf
    refine cut_go ?_
    conv => whnf
    refine at_sub (env' := [(4, (cB false))]) (st' := ⟨hp, 0, g⟩) (sk hB (fw0 wf (by rfl) (fun _ => by rfl)) (by rfl) (by rfl) ⟨cv rfl rfl, trivial⟩) ?_
    refine at_go ?_
    conv => whnf
    obtain rfl := Option.some.inj hf
    refine ret_c hB wf (fun _ => by rfl) ?_
    exact cv rfl rfl

noncomputable def clerestoryref18_pick.w0 (v : api_View) (l : List api_Col) : Nat → List api_Col → Int → Option (List api_Col)
  | 0, _, _ => none
  | k0 + 1, v1, v3 =>
    if (decide (v3 < (l.length : Int))) = true then
      (at? l v3).bind fun x4 =>
      (clerestoryref18_in.f v x4.Name).bind fun x5 =>
      if (x5) = true then
        if (v1 ++ [x4]).length ≤ 4294967296 then
        clerestoryref18_pick.w0 v l k0 (v1 ++ [x4]) (IntKind.i64.wrap (v3 + 1))
        else none
      else
      clerestoryref18_pick.w0 v l k0 v1 (IntKind.i64.wrap (v3 + 1))
    else
    some v1

noncomputable def clerestoryref18_pick.f (v : api_View) (l : List api_Col) : Option (List api_Col) :=
  clerestoryref18_pick.w0 v l K0 ([] : List api_Col) 0

set_option maxHeartbeats 4000000 in
theorem clerestoryref18_pick.pure (v : api_View) (l : List api_Col) (res : List api_Col) (hf : clerestoryref18_pick.f v l = some res) : Pure prog F.clerestoryref18_pick [(agd (api_View.d v)), (.d (.sl 5 (l.map api_Col.d)))] (.d (.sl 5 (res.map api_Col.d))) := by
  refine pure_fn clerestoryref18_pick.res (Nat.le_of_ble_eq_true rfl) (fun _ => rfl) (fun _ => rfl) fun B hp g hB wf => ?_
  rw [clerestoryref18_pick.f] at hf
  conv => whnf
  refine cut_go ?_
  conv => whnf
  refine at_go ?_
  conv => whnf
  refine cut_go ?_
  conv => whnf
  refine at_go ?_
  conv => whnf
  refine cut_go ?_
  conv => whnf
  refine cut_go ?_
  conv => whnf
  refine at_sub (env' := [(1, (.d (.sl 5 (l.map api_Col.d)))), (2, (.ptr 0 0 0 0)), (5, nilS), (6, (cI 0))]) (st' := ⟨(upd hp 0 (.row 0 5 T.api_View [[(cS v.Name), (cI v.ID), (cS v.Table), (cS v.On), (.d (.sl 1 (v.Cols.map strD)))]])), 1, g⟩) (sk hB (fwE (fw0 wf (by rfl) (fun _ => by rfl)) rfl rfl rfl) (by rfl) (by rfl) ⟨cv rfl rfl, cv rfl rfl, cv rfl rfl, cv rfl rfl, trivial⟩) ?_
  refine at_go ?_
  conv => whnf
  refine loop_sub (sph 0 5 T.api_Col) ?_
  refine loop_sub (env' := [(1, (.d (.sl 5 (l.map api_Col.d)))), (2, (.ptr 0 0 0 0)), (5, (.row 1 0 0 ([] : List api_Col).length)), (6, (cI 0))]) (st' := ⟨(upd (upd hp 0 (.row 0 5 T.api_View [[(cS v.Name), (cI v.ID), (cS v.Table), (cS v.On), (.d (.sl 1 (v.Cols.map strD)))]])) 1 (.row 0 5 T.api_Col (dataRow api_Col.d ([] : List api_Col)))), 2, g⟩) (sk hB (fwD (fwE (fw0 wf (by rfl) (fun _ => by rfl)) rfl rfl rfl) rfl rfl rfl (fun _ => rfl)) (by rfl) (by rfl) ⟨cv rfl rfl, cv rfl rfl, .ph (of_decide_eq_true rfl) rfl (Nat.zero_le _), cv rfl rfl, trivial⟩) ?_
  refine loop_f (α := (List api_Col) × Int) (γ := Nat) (fun v2 (v1, v3) => [(1, (.d (.sl 5 (l.map api_Col.d)))), (2, (.ptr 0 0 0 0)), (5, (.row 1 v2 0 v1.length)), (6, (cI v3))]) (fun v2 (v1, v3) => ⟨(upd (upd hp 0 (.row 0 5 T.api_View [[(cS v.Name), (cI v.ID), (cS v.Table), (cS v.On), (.d (.sl 1 (v.Cols.map strD)))]])) 1 (.row v2 5 T.api_Col (dataRow api_Col.d v1))), 2, g⟩) (fun k s => clerestoryref18_pick.w0 v l k s.1 s.2) (fun _ => rfl) ?_ K0 (([] : List api_Col), 0) 0 hf
  intro k0 y v2 hf
  obtain ⟨v1, v3⟩ := y
  replace hf : clerestoryref18_pick.w0 v l (k0 + 1) v1 v3 = some _ := hf
  rw [clerestoryref18_pick.w0] at hf
  try dsimp only
  conv => whnf
  refine cut_go ?_
  conv => whnf
  refine cut_go ?_
  conv => whnf
  refine veq_intro l.length (by simp) ?_
  conv => whnf
  refine at_go ?_
  conv => whnf
  refine vcond_intro (t := decide (v3 < (l.length : Int))) (fun h1 => ?_) (fun h2 => ?_)
  · replace hf := ifT h1 hf
    conv => whnf
    refine at_go ?_
    conv => whnf
    refine cut_go ?_
    conv => whnf
    refine cut_go ?_
    conv => whnf
    refine ⟨rfl, ⟨_, rfl, ?_⟩⟩
    obtain ⟨x4, h3, hf⟩ := bnd hf
    conv => whnf
    refine ⟨⟨rfl, Nat.zero_lt_succ _⟩, at_nn h3, ⟨_, map_get (at_get h3), ?_⟩⟩
    conv => whnf
    refine ⟨Nat.le_of_ble_eq_true rfl, ?_⟩
    obtain ⟨x5, h4, hf⟩ := bnd hf
    conv => whnf
    refine (clerestoryref18_in.pure v x4.Name x5 h4).call ?_
    conv => whnf
    refine at_sub (env' := [(1, (.d (.sl 5 (l.map api_Col.d)))), (2, (.ptr 0 0 0 0)), (5, (.row 1 v2 0 v1.length)), (6, (cI v3)), (19, (cB x5))]) (st' := ⟨(upd (upd hp 0 (.row 0 5 T.api_View [[(cS v.Name), (cI v.ID), (cS v.Table), (cS v.On), (.d (.sl 1 (v.Cols.map strD)))]])) 1 (.row v2 5 T.api_Col (dataRow api_Col.d v1))), 2, g⟩) (sk hB (fwD (fwE (fw0 wf (by rfl) (fun _ => by rfl)) rfl rfl rfl) rfl rfl rfl (fun _ => rfl)) (by rfl) (by rfl) ⟨cv rfl rfl, cv rfl rfl, cv rfl rfl, cv rfl rfl, cv rfl rfl, trivial⟩) ?_
    refine at_go ?_
    conv => whnf
    refine vcond_intro (t := x5) (fun h5 => ?_) (fun h6 => ?_)
    · replace hf := ifT h5 hf
      conv => whnf
      refine ⟨⟨rfl, Nat.zero_lt_succ _⟩, at_nn h3, ⟨_, map_get (at_get h3), ?_⟩⟩
      conv => whnf
      refine veq_intro (dataRow api_Col.d [x4]) rfl ?_
      conv => whnf
      refine ⟨rfl, ?_⟩
      obtain ⟨h7, hf⟩ := grd hf
      conv => whnf
      refine veq_intro (dataRow api_Col.d [x4]) rfl ⟨row_wid (enc := api_Col.d) (fun _ => rfl) _, ?_⟩
      conv => whnf
      refine ⟨⟨rfl, rfl, rfl⟩, row_len _ _, by simpa using h7, veq_intro (dataRow api_Col.d (v1 ++ [x4])) (row_app _ _ _) (veq_intro (v1 ++ [x4]).length (row_appl _ _ _) ?_)⟩
      conv => whnf
      refine at_go ?_
      conv => whnf
      refine veq_intro (IntKind.i64.wrap (v3 + 1)) rfl ?_
      conv => whnf
      exact ⟨(v1 ++ [x4], IntKind.i64.wrap (v3 + 1)), hf, (v2 + 1), sk hB (fwD (fwE (fw0 wf (by rfl) (fun _ => by rfl)) rfl rfl rfl) rfl rfl rfl (fun _ => rfl)) (by rfl) (by rfl) ⟨cv rfl rfl, cv rfl rfl, cv rfl rfl, cv rfl rfl, trivial⟩⟩
    · replace hf := ifF h6 hf
      conv => whnf
      refine at_go ?_
      conv => whnf
      refine veq_intro (IntKind.i64.wrap (v3 + 1)) rfl ?_
      conv => whnf
      exact ⟨(v1, IntKind.i64.wrap (v3 + 1)), hf, v2, sk hB (fwD (fwE (fw0 wf (by rfl) (fun _ => by rfl)) rfl rfl rfl) rfl rfl rfl (fun _ => rfl)) (by rfl) (by rfl) ⟨cv rfl rfl, cv rfl rfl, cv rfl rfl, cv rfl rfl, trivial⟩⟩
  · replace hf := ifF h2 hf
    conv => whnf
    refine at_go ?_
    conv => whnf
    refine cut_go ?_
    conv => whnf
    refine at_sub (env' := [(4, (.row 1 v2 0 v1.length))]) (st' := ⟨(upd hp 1 (.row v2 5 T.api_Col (dataRow api_Col.d v1))), 2, g⟩) (sk hB (fwD (fw0 wf (by rfl) (fun _ => by rfl)) rfl rfl rfl (fun _ => rfl)) (by rfl) (by rfl) ⟨cv rfl rfl, trivial⟩) ?_
    refine at_go ?_
    conv => whnf
    obtain rfl := Option.some.inj hf
    refine ret_c hB wf (fun _ => by rfl) ?_
    exact cvz (enc := api_Col.d) (l := v1) rfl (wfn wf (by rfl)) rfl rfl

end Go.Eng
