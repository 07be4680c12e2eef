/-
  Part of the proof that the law ProjectAll returns true at every input of bulk at most 1048576, and leaves its arguments as they were; the whole is stated at the end of the last text.
-/
import Derived.Test.YtdopmhicmehmeaaData
import Derived.Test.YtdopmhicmehmeaaCode
import Derived.Test.YtdopmhicmehmeaaWalkB
set_option maxRecDepth 100000
set_option linter.unusedVariables false
set_option linter.unusedSimpArgs false
namespace Go.Eng
open Go
noncomputable def clerestoryref01_one.w0 (s_ : ByteArray) (at_ : Int) : Nat → Int → Int → Option (clerestoryref01_R)
  | 0, _, _ => none
  | k0 + 1, v3, v4 =>
    if (decide (v4 ≤ 1)) = true then
      (at? s_.data.toList (IntKind.i64.wrap (at_ + v4))).bind fun x5 =>
      clerestoryref01_one.w0 s_ at_ k0 (ior .i32 (ishl .i32 v3 6) (IntKind.i32.wrap (iand .u8 (x5.toNat : Int) 63))) (IntKind.i64.wrap (v4 + 1))
    else
    some (⟨v3, at_, 2, true⟩ : clerestoryref01_R)

noncomputable def clerestoryref01_one.w1 (s_ : ByteArray) (at_ : Int) : Nat → Int → Int → Option (clerestoryref01_R)
  | 0, _, _ => none
  | k1 + 1, v7, v8 =>
    if (decide (v8 ≤ 2)) = true then
      (at? s_.data.toList (IntKind.i64.wrap (at_ + v8))).bind fun x9 =>
      clerestoryref01_one.w1 s_ at_ k1 (ior .i32 (ishl .i32 v7 6) (IntKind.i32.wrap (iand .u8 (x9.toNat : Int) 63))) (IntKind.i64.wrap (v8 + 1))
    else
    if (decide (v7 < 2048)) = true then
      some (⟨65533, at_, 1, false⟩ : clerestoryref01_R)
    else
    if (decide (55296 ≤ v7)) = true then
      if (decide (v7 < 57344)) = true then
        some (⟨65533, at_, 1, false⟩ : clerestoryref01_R)
      else
      some (⟨v7, at_, 3, true⟩ : clerestoryref01_R)
    else
    some (⟨v7, at_, 3, true⟩ : clerestoryref01_R)

noncomputable def clerestoryref01_one.w2 (s_ : ByteArray) (at_ : Int) : Nat → Int → Int → Option (clerestoryref01_R)
  | 0, _, _ => none
  | k2 + 1, v11, v12 =>
    if (decide (v12 ≤ 3)) = true then
      (at? s_.data.toList (IntKind.i64.wrap (at_ + v12))).bind fun x13 =>
      clerestoryref01_one.w2 s_ at_ k2 (ior .i32 (ishl .i32 v11 6) (IntKind.i32.wrap (iand .u8 (x13.toNat : Int) 63))) (IntKind.i64.wrap (v12 + 1))
    else
    if (decide (v11 < 65536)) = true then
      some (⟨65533, at_, 1, false⟩ : clerestoryref01_R)
    else
    if (decide (1114111 < v11)) = true then
      some (⟨65533, at_, 1, false⟩ : clerestoryref01_R)
    else
    some (⟨v11, at_, 4, true⟩ : clerestoryref01_R)

noncomputable def clerestoryref01_one.w3 (s_ : ByteArray) (at_ : Int) : Nat → Int → Int → Option (clerestoryref01_R)
  | 0, _, _ => none
  | k3 + 1, v15, v16 =>
    if (decide (v16 ≤ 3)) = true then
      (at? s_.data.toList (IntKind.i64.wrap (at_ + v16))).bind fun x17 =>
      clerestoryref01_one.w3 s_ at_ k3 (ior .i32 (ishl .i32 v15 6) (IntKind.i32.wrap (iand .u8 (x17.toNat : Int) 63))) (IntKind.i64.wrap (v16 + 1))
    else
    if (decide (v15 < 65536)) = true then
      some (⟨65533, at_, 1, false⟩ : clerestoryref01_R)
    else
    if (decide (1114111 < v15)) = true then
      some (⟨65533, at_, 1, false⟩ : clerestoryref01_R)
    else
    some (⟨v15, at_, 4, true⟩ : clerestoryref01_R)

noncomputable def clerestoryref01_one.w4 (s_ : ByteArray) (at_ : Int) : Nat → Int → Int → Option (clerestoryref01_R)
  | 0, _, _ => none
  | k4 + 1, v19, v20 =>
    if (decide (v20 ≤ 2)) = true then
      (at? s_.data.toList (IntKind.i64.wrap (at_ + v20))).bind fun x21 =>
      clerestoryref01_one.w4 s_ at_ k4 (ior .i32 (ishl .i32 v19 6) (IntKind.i32.wrap (iand .u8 (x21.toNat : Int) 63))) (IntKind.i64.wrap (v20 + 1))
    else
    if (decide (v19 < 2048)) = true then
      some (⟨65533, at_, 1, false⟩ : clerestoryref01_R)
    else
    if (decide (55296 ≤ v19)) = true then
      if (decide (v19 < 57344)) = true then
        some (⟨65533, at_, 1, false⟩ : clerestoryref01_R)
      else
      some (⟨v19, at_, 3, true⟩ : clerestoryref01_R)
    else
    some (⟨v19, at_, 3, true⟩ : clerestoryref01_R)

noncomputable def clerestoryref01_one.w5 (s_ : ByteArray) (at_ : Int) : Nat → Int → Int → Option (clerestoryref01_R)
  | 0, _, _ => none
  | k5 + 1, v23, v24 =>
    if (decide (v24 ≤ 3)) = true then
      (at? s_.data.toList (IntKind.i64.wrap (at_ + v24))).bind fun x25 =>
      clerestoryref01_one.w5 s_ at_ k5 (ior .i32 (ishl .i32 v23 6) (IntKind.i32.wrap (iand .u8 (x25.toNat : Int) 63))) (IntKind.i64.wrap (v24 + 1))
    else
    if (decide (v23 < 65536)) = true then
      some (⟨65533, at_, 1, false⟩ : clerestoryref01_R)
    else
    if (decide (1114111 < v23)) = true then
      some (⟨65533, at_, 1, false⟩ : clerestoryref01_R)
    else
    some (⟨v23, at_, 4, true⟩ : clerestoryref01_R)

noncomputable def clerestoryref01_one.w6 (s_ : ByteArray) (at_ : Int) : Nat → Int → Int → Option (clerestoryref01_R)
  | 0, _, _ => none
  | k6 + 1, v27, v28 =>
    if (decide (v28 ≤ 3)) = true then
      (at? s_.data.toList (IntKind.i64.wrap (at_ + v28))).bind fun x29 =>
      clerestoryref01_one.w6 s_ at_ k6 (ior .i32 (ishl .i32 v27 6) (IntKind.i32.wrap (iand .u8 (x29.toNat : Int) 63))) (IntKind.i64.wrap (v28 + 1))
    else
    if (decide (v27 < 65536)) = true then
      some (⟨65533, at_, 1, false⟩ : clerestoryref01_R)
    else
    if (decide (1114111 < v27)) = true then
      some (⟨65533, at_, 1, false⟩ : clerestoryref01_R)
    else
    some (⟨v27, at_, 4, true⟩ : clerestoryref01_R)

noncomputable def clerestoryref01_one.f (s_ : ByteArray) (at_ : Int) : Option (clerestoryref01_R) :=
  (at? s_.data.toList at_).bind fun x1 =>
  if (decide ((IntKind.i32.wrap ((x1.toNat : Int))) < 128)) = true then
    some (⟨IntKind.i32.wrap ((x1.toNat : Int)), at_, 1, true⟩ : clerestoryref01_R)
  else
  if (decide (194 ≤ (IntKind.i32.wrap ((x1.toNat : Int))))) = true then
    if (decide ((IntKind.i32.wrap ((x1.toNat : Int))) < 224)) = true then
      (clerestoryref01_cont.f s_ (IntKind.i64.wrap (at_ + 1)) 1).bind fun x2 =>
      if (!x2) = true then
        some (⟨65533, at_, 1, false⟩ : clerestoryref01_R)
      else
      clerestoryref01_one.w0 s_ at_ K0 (iand .i32 (IntKind.i32.wrap ((x1.toNat : Int))) 31) 1
    else
    if (decide (224 ≤ (IntKind.i32.wrap ((x1.toNat : Int))))) = true then
      if (decide ((IntKind.i32.wrap ((x1.toNat : Int))) < 240)) = true then
        (clerestoryref01_cont.f s_ (IntKind.i64.wrap (at_ + 1)) 2).bind fun x6 =>
        if (!x6) = true then
          some (⟨65533, at_, 1, false⟩ : clerestoryref01_R)
        else
        clerestoryref01_one.w1 s_ at_ K0 (iand .i32 (IntKind.i32.wrap ((x1.toNat : Int))) 15) 1
      else
      if (decide (240 ≤ (IntKind.i32.wrap ((x1.toNat : Int))))) = true then
        if (decide ((IntKind.i32.wrap ((x1.toNat : Int))) < 245)) = true then
          (clerestoryref01_cont.f s_ (IntKind.i64.wrap (at_ + 1)) 3).bind fun x10 =>
          if (!x10) = true then
            some (⟨65533, at_, 1, false⟩ : clerestoryref01_R)
          else
          clerestoryref01_one.w2 s_ at_ K0 (iand .i32 (IntKind.i32.wrap ((x1.toNat : Int))) 7) 1
        else
        some (⟨65533, at_, 1, false⟩ : clerestoryref01_R)
      else
      some (⟨65533, at_, 1, false⟩ : clerestoryref01_R)
    else
    if (decide (240 ≤ (IntKind.i32.wrap ((x1.toNat : Int))))) = true then
      if (decide ((IntKind.i32.wrap ((x1.toNat : Int))) < 245)) = true then
        (clerestoryref01_cont.f s_ (IntKind.i64.wrap (at_ + 1)) 3).bind fun x14 =>
        if (!x14) = true then
          some (⟨65533, at_, 1, false⟩ : clerestoryref01_R)
        else
        clerestoryref01_one.w3 s_ at_ K0 (iand .i32 (IntKind.i32.wrap ((x1.toNat : Int))) 7) 1
      else
      some (⟨65533, at_, 1, false⟩ : clerestoryref01_R)
    else
    some (⟨65533, at_, 1, false⟩ : clerestoryref01_R)
  else
  if (decide (224 ≤ (IntKind.i32.wrap ((x1.toNat : Int))))) = true then
    if (decide ((IntKind.i32.wrap ((x1.toNat : Int))) < 240)) = true then
      (clerestoryref01_cont.f s_ (IntKind.i64.wrap (at_ + 1)) 2).bind fun x18 =>
      if (!x18) = true then
        some (⟨65533, at_, 1, false⟩ : clerestoryref01_R)
      else
      clerestoryref01_one.w4 s_ at_ K0 (iand .i32 (IntKind.i32.wrap ((x1.toNat : Int))) 15) 1
    else
    if (decide (240 ≤ (IntKind.i32.wrap ((x1.toNat : Int))))) = true then
      if (decide ((IntKind.i32.wrap ((x1.toNat : Int))) < 245)) = true then
        (clerestoryref01_cont.f s_ (IntKind.i64.wrap (at_ + 1)) 3).bind fun x22 =>
        if (!x22) = true then
          some (⟨65533, at_, 1, false⟩ : clerestoryref01_R)
        else
        clerestoryref01_one.w5 s_ at_ K0 (iand .i32 (IntKind.i32.wrap ((x1.toNat : Int))) 7) 1
      else
      some (⟨65533, at_, 1, false⟩ : clerestoryref01_R)
    else
    some (⟨65533, at_, 1, false⟩ : clerestoryref01_R)
  else
  if (decide (240 ≤ (IntKind.i32.wrap ((x1.toNat : Int))))) = true then
    if (decide ((IntKind.i32.wrap ((x1.toNat : Int))) < 245)) = true then
      (clerestoryref01_cont.f s_ (IntKind.i64.wrap (at_ + 1)) 3).bind fun x26 =>
      if (!x26) = true then
        some (⟨65533, at_, 1, false⟩ : clerestoryref01_R)
      else
      clerestoryref01_one.w6 s_ at_ K0 (iand .i32 (IntKind.i32.wrap ((x1.toNat : Int))) 7) 1
    else
    some (⟨65533, at_, 1, false⟩ : clerestoryref01_R)
  else
  some (⟨65533, at_, 1, false⟩ : clerestoryref01_R)

set_option maxHeartbeats 4000000 in
theorem clerestoryref01_one.pure (s_ : ByteArray) (at_ : Int) (res : clerestoryref01_R) (hf : clerestoryref01_one.f s_ at_ = some res) : Pure prog F.clerestoryref01_one [(cS s_), (cI at_)] (agd (clerestoryref01_R.d res)) := by
  refine pure_fn clerestoryref01_one.res (Nat.le_of_ble_eq_true rfl) (fun _ => rfl) (fun _ => rfl) fun B hp g hB wf => ?_
  rw [clerestoryref01_one.f] at hf
  conv => whnf
  refine cut_go ?_
  conv => whnf
  refine at_go ?_
  conv => whnf
  refine cut_go ?_
  obtain ⟨x1, h1, hf⟩ := bnd hf
  conv => whnf
  refine ⟨at_nn h1, ⟨_, at_get h1, ?_⟩⟩
  conv => whnf
  refine veq_intro (IntKind.i32.wrap ((x1.toNat : Int))) rfl ?_
  conv => whnf
  refine at_go ?_
  conv => whnf
  refine cut_go ?_
  conv => whnf
  refine ⟨⟨rfl, rfl⟩, ⟨_, rfl, Nat.le_of_ble_eq_true rfl, veq_intro [[(.d (.v (.int .i32 65533))), (cI at_), (cI 1), (cB false)]] rfl ?_⟩⟩
  conv => whnf
  refine at_sub (env' := [(0, (cS s_)), (1, (cI at_)), (4, (.ptr 0 0 0 0)), (5, (.d (.v (.int .i32 (IntKind.i32.wrap ((x1.toNat : Int))))))), (6, (.ptr 1 0 0 0))]) (st' := ⟨(upd (upd hp 0 (.row 0 4 T.clerestoryref01_R [[(.d (.v (.int .i32 0))), (cI 0), (cI 0), (cB false)]])) 1 (.row 0 4 T.clerestoryref01_R [[(.d (.v (.int .i32 65533))), (cI at_), (cI 1), (cB false)]])), 2, g⟩) (sk hB (fwE (fwE (fw0 wf (by rfl) (fun _ => by rfl)) rfl rfl rfl) rfl rfl rfl) (by rfl) (by rfl) ⟨cv rfl rfl, cv rfl rfl, cv rfl rfl, cv rfl rfl, cv rfl rfl, trivial⟩) ?_
  refine at_go ?_
  conv => whnf
  refine cut_go ?_
  conv => whnf
  refine at_go ?_
  conv => whnf
  refine cut_go ?_
  conv => whnf
  refine cut_go ?_
  conv => whnf
  refine at_go ?_
  conv => whnf
  refine vcond_intro (t := decide ((IntKind.i32.wrap ((x1.toNat : Int))) < 128)) (fun h2 => ?_) (fun h3 => ?_)
  · replace hf := ifT h2 hf
    conv => whnf
    refine cut_go ?_
    conv => whnf
    refine ⟨⟨rfl, rfl⟩, ⟨_, rfl, Nat.le_of_ble_eq_true rfl, veq_intro [[(.d (.v (.int .i32 (IntKind.i32.wrap ((x1.toNat : Int)))))), (cI at_), (cI 1), (cB true)]] rfl ?_⟩⟩
    conv => whnf
    refine at_sub (env' := [(4, (.ptr 0 0 0 0))]) (st' := ⟨(upd hp 0 (.row 0 4 T.clerestoryref01_R [[(.d (.v (.int .i32 (IntKind.i32.wrap ((x1.toNat : Int)))))), (cI at_), (cI 1), (cB true)]])), 1, g⟩) (sk hB (fwE (fw0 wf (by rfl) (fun _ => by rfl)) rfl rfl rfl) (by rfl) (by rfl) ⟨cv rfl rfl, trivial⟩) ?_
    refine at_go ?_
    conv => whnf
    obtain rfl := Option.some.inj hf
    refine ret_c hB wf (fun _ => by rfl) ?_
    exact cv rfl rfl
  · replace hf := ifF h3 hf
    conv => whnf
    refine cut_go ?_
    conv => whnf
    refine vcond_intro (t := decide (194 ≤ (IntKind.i32.wrap ((x1.toNat : Int))))) (fun h4 => ?_) (fun h5 => ?_)
    · replace hf := ifT h4 hf
      conv => whnf
      refine vcT rfl ?_
      conv => whnf
      refine vcT rfl ?_
      conv => whnf
      refine at_sub (env' := [(0, (cS s_)), (1, (cI at_)), (4, (.ptr 0 0 0 0)), (5, (.d (.v (.int .i32 (IntKind.i32.wrap ((x1.toNat : Int))))))), (6, (.ptr 1 0 0 0)), (23, (cB (decide ((IntKind.i32.wrap ((x1.toNat : Int))) < 224))))]) (st' := ⟨(upd (upd hp 0 (.row 0 4 T.clerestoryref01_R [[(.d (.v (.int .i32 0))), (cI 0), (cI 0), (cB false)]])) 1 (.row 0 4 T.clerestoryref01_R [[(.d (.v (.int .i32 65533))), (cI at_), (cI 1), (cB false)]])), 2, g⟩) (sk hB (fwE (fwE (fw0 wf (by rfl) (fun _ => by rfl)) rfl rfl rfl) rfl rfl rfl) (by rfl) (by rfl) ⟨cv rfl rfl, cv rfl rfl, cv rfl rfl, cv rfl rfl, cv rfl rfl, cv rfl rfl, trivial⟩) ?_
      refine at_go ?_
      conv => whnf
      refine vcond_intro (t := decide ((IntKind.i32.wrap ((x1.toNat : Int))) < 224)) (fun h6 => ?_) (fun h7 => ?_)
      · replace hf := ifT h6 hf
        conv => whnf
        refine veq_intro (iand .i32 (IntKind.i32.wrap ((x1.toNat : Int))) 31) rfl ?_
        conv => whnf
        refine at_go ?_
        conv => whnf
        refine cut_go ?_
        conv => whnf
        refine cut_go ?_
        conv => whnf
        refine veq_intro (IntKind.i64.wrap (at_ + 1)) rfl ?_
        obtain ⟨x2, h8, hf⟩ := bnd hf
        conv => whnf
        refine (clerestoryref01_cont.pure s_ (IntKind.i64.wrap (at_ + 1)) 1 x2 h8).call ?_
        conv => whnf
        refine at_go ?_
        conv => whnf
        refine vcond_intro (t := !x2) (fun h9 => ?_) (fun h10 => ?_)
        · replace hf := ifT h9 hf
          conv => whnf
          refine cut_go ?_
          conv => whnf
          refine ⟨rfl, ⟨_, rfl, ?_⟩⟩
          conv => whnf
          refine ⟨⟨rfl, rfl⟩, ⟨_, rfl, Nat.le_of_ble_eq_true rfl, veq_intro [[(.d (.v (.int .i32 65533))), (cI at_), (cI 1), (cB false)]] rfl ?_⟩⟩
          conv => whnf
          refine at_sub (env' := [(4, (.ptr 0 0 0 0))]) (st' := ⟨(upd hp 0 (.row 0 4 T.clerestoryref01_R [[(.d (.v (.int .i32 65533))), (cI at_), (cI 1), (cB false)]])), 1, g⟩) (sk hB (fwE (fw0 wf (by rfl) (fun _ => by rfl)) rfl rfl rfl) (by rfl) (by rfl) ⟨cv rfl rfl, trivial⟩) ?_
          refine at_go ?_
          conv => whnf
          obtain rfl := Option.some.inj hf
          refine ret_c hB wf (fun _ => by rfl) ?_
          exact cv rfl rfl
        · replace hf := ifF h10 hf
          conv => whnf
          refine at_sub (env' := [(0, (cS s_)), (1, (cI at_)), (4, (.ptr 0 0 0 0)), (6, (.ptr 1 0 0 0)), (7, (cI 1)), (8, (.d (.v (.int .i32 (iand .i32 (IntKind.i32.wrap ((x1.toNat : Int))) 31))))), (55, (cB (!x2)))]) (st' := ⟨(upd (upd hp 0 (.row 0 4 T.clerestoryref01_R [[(.d (.v (.int .i32 0))), (cI 0), (cI 0), (cB false)]])) 1 (.row 0 4 T.clerestoryref01_R [[(.d (.v (.int .i32 65533))), (cI at_), (cI 1), (cB false)]])), 2, g⟩) (sk hB (fwE (fwE (fw0 wf (by rfl) (fun _ => by rfl)) rfl rfl rfl) rfl rfl rfl) (by rfl) (by rfl) ⟨cv rfl rfl, cv rfl rfl, cv rfl rfl, cv rfl rfl, cv rfl rfl, cv rfl rfl, cv rfl rfl, trivial⟩) ?_
          refine at_go ?_
          conv => whnf
          refine cut_go ?_
          conv => whnf
          refine cut_go ?_
          conv => whnf
          refine at_go ?_
          conv => whnf
          refine loop_sub (env' := [(0, (cS s_)), (1, (cI at_)), (4, (.ptr 0 0 0 0)), (6, (.ptr 1 0 0 0)), (7, (cI 1)), (8, (.d (.v (.int .i32 (iand .i32 (IntKind.i32.wrap ((x1.toNat : Int))) 31))))), (9, (cI 1))]) (st' := ⟨(upd (upd hp 0 (.row 0 4 T.clerestoryref01_R [[(.d (.v (.int .i32 0))), (cI 0), (cI 0), (cB false)]])) 1 (.row 0 4 T.clerestoryref01_R [[(.d (.v (.int .i32 65533))), (cI at_), (cI 1), (cB false)]])), 2, g⟩) (sk hB (fwE (fwE (fw0 wf (by rfl) (fun _ => by rfl)) rfl rfl rfl) rfl rfl rfl) (by rfl) (by rfl) ⟨cv rfl rfl, cv rfl rfl, cv rfl rfl, cv rfl rfl, cv rfl rfl, cv rfl rfl, cv rfl rfl, trivial⟩) ?_
          refine loop_f (α := Int × Int) (γ := Unit) (fun (_ : Unit) (v3, v4) => [(0, (cS s_)), (1, (cI at_)), (4, (.ptr 0 0 0 0)), (6, (.ptr 1 0 0 0)), (7, (cI 1)), (8, (.d (.v (.int .i32 v3)))), (9, (cI v4))]) (fun (_ : Unit) (v3, v4) => ⟨(upd (upd hp 0 (.row 0 4 T.clerestoryref01_R [[(.d (.v (.int .i32 0))), (cI 0), (cI 0), (cB false)]])) 1 (.row 0 4 T.clerestoryref01_R [[(.d (.v (.int .i32 65533))), (cI at_), (cI 1), (cB false)]])), 2, g⟩) (fun k s => clerestoryref01_one.w0 s_ at_ k s.1 s.2) (fun _ => rfl) ?_ K0 (iand .i32 (IntKind.i32.wrap ((x1.toNat : Int))) 31, 1) () hf
          intro k0 y gg hf
          obtain ⟨v3, v4⟩ := y
          replace hf : clerestoryref01_one.w0 s_ at_ (k0 + 1) v3 v4 = some _ := hf
          rw [clerestoryref01_one.w0] at hf
          try dsimp only
          conv => whnf
          refine cut_go ?_
          conv => whnf
          refine cut_go ?_
          conv => whnf
          refine at_go ?_
          conv => whnf
          refine vcond_intro (t := decide (v4 ≤ 1)) (fun h11 => ?_) (fun h12 => ?_)
          · replace hf := ifT h11 hf
            conv => whnf
            refine at_go ?_
            conv => whnf
            refine cut_go ?_
            conv => whnf
            refine ⟨by decide, ?_⟩
            conv => whnf
            refine veq_intro (ishl .i32 v3 6) rfl ?_
            conv => whnf
            refine veq_intro (IntKind.i64.wrap (at_ + v4)) rfl ?_
            obtain ⟨x5, h13, hf⟩ := bnd hf
            conv => whnf
            refine ⟨at_nn h13, ⟨_, at_get h13, ?_⟩⟩
            conv => whnf
            refine veq_intro (iand .u8 (x5.toNat : Int) 63) rfl ?_
            conv => whnf
            refine veq_intro (IntKind.i32.wrap (iand .u8 (x5.toNat : Int) 63)) rfl ?_
            conv => whnf
            refine veq_intro (ior .i32 (ishl .i32 v3 6) (IntKind.i32.wrap (iand .u8 (x5.toNat : Int) 63))) rfl ?_
            conv => whnf
            refine at_sub (env' := [(0, (cS s_)), (1, (cI at_)), (4, (.ptr 0 0 0 0)), (6, (.ptr 1 0 0 0)), (7, (cI 1)), (8, (.d (.v (.int .i32 (ior .i32 (ishl .i32 v3 6) (IntKind.i32.wrap (iand .u8 (x5.toNat : Int) 63))))))), (9, (cI v4))]) (st' := ⟨(upd (upd hp 0 (.row 0 4 T.clerestoryref01_R [[(.d (.v (.int .i32 0))), (cI 0), (cI 0), (cB false)]])) 1 (.row 0 4 T.clerestoryref01_R [[(.d (.v (.int .i32 65533))), (cI at_), (cI 1), (cB false)]])), 2, g⟩) (sk hB (fwE (fwE (fw0 wf (by rfl) (fun _ => by rfl)) rfl rfl rfl) rfl rfl rfl) (by rfl) (by rfl) ⟨cv rfl rfl, cv rfl rfl, cv rfl rfl, cv rfl rfl, cv rfl rfl, cv rfl rfl, cv rfl rfl, trivial⟩) ?_
            refine at_go ?_
            conv => whnf
            refine veq_intro (IntKind.i64.wrap (v4 + 1)) rfl ?_
            conv => whnf
            exact ⟨(ior .i32 (ishl .i32 v3 6) (IntKind.i32.wrap (iand .u8 (x5.toNat : Int) 63)), IntKind.i64.wrap (v4 + 1)), hf, (), sk hB (fwE (fwE (fw0 wf (by rfl) (fun _ => by rfl)) rfl rfl rfl) rfl rfl rfl) (by rfl) (by rfl) ⟨cv rfl rfl, cv rfl rfl, cv rfl rfl, cv rfl rfl, cv rfl rfl, cv rfl rfl, cv rfl rfl, trivial⟩⟩
          · replace hf := ifF h12 hf
            conv => whnf
            refine at_go ?_
            conv => whnf
            refine cut_go ?_
            conv => whnf
            refine cut_go ?_
            conv => whnf
            refine vcF rfl ?_
            conv => whnf
            refine vcF rfl ?_
            conv => whnf
            refine vcF rfl ?_
            conv => whnf
            refine vcF rfl ?_
            conv => whnf
            refine vcF rfl ?_
            conv => whnf
            refine vcF rfl ?_
            conv => whnf
            refine vcF rfl ?_
            conv => whnf
            refine vcF rfl ?_
            conv => whnf
            refine vcF rfl ?_
            conv => whnf
            refine vcF rfl ?_
            conv => whnf
            refine vcF rfl ?_
            conv => whnf
            refine vcF rfl ?_
            conv => whnf
            refine vcF rfl ?_
            conv => whnf
            refine vcF rfl ?_
            conv => whnf
            refine vcF rfl ?_
            conv => whnf
            refine at_sub (env' := [(1, (cI at_)), (4, (.ptr 0 0 0 0)), (6, (.ptr 1 0 0 0)), (7, (cI 1)), (8, (.d (.v (.int .i32 v3)))), (97, (cB false))]) (st' := ⟨(upd (upd hp 0 (.row 0 4 T.clerestoryref01_R [[(.d (.v (.int .i32 0))), (cI 0), (cI 0), (cB false)]])) 1 (.row 0 4 T.clerestoryref01_R [[(.d (.v (.int .i32 65533))), (cI at_), (cI 1), (cB false)]])), 2, g⟩) (sk hB (fwE (fwE (fw0 wf (by rfl) (fun _ => by rfl)) rfl rfl rfl) rfl rfl rfl) (by rfl) (by rfl) ⟨cv rfl rfl, cv rfl rfl, cv rfl rfl, cv rfl rfl, cv rfl rfl, cv rfl rfl, trivial⟩) ?_
            refine at_go ?_
            conv => whnf
            refine vcF rfl ?_
            conv => whnf
            refine at_go ?_
            conv => whnf
            refine cut_go ?_
            conv => whnf
            refine veq_intro 2 rfl ?_
            conv => whnf
            refine ⟨⟨rfl, rfl⟩, ⟨_, rfl, Nat.le_of_ble_eq_true rfl, veq_intro [[(.d (.v (.int .i32 v3))), (cI at_), (cI 2), (cB true)]] rfl ?_⟩⟩
            conv => whnf
            refine at_go ?_
            conv => whnf
            obtain rfl := Option.some.inj hf
            refine ret_c hB wf (fun _ => by rfl) ?_
            exact cv rfl rfl
      · replace hf := ifF h7 hf
        conv => whnf
        refine cut_go ?_
        conv => whnf
        refine vcond_intro (t := decide (224 ≤ (IntKind.i32.wrap ((x1.toNat : Int))))) (fun h14 => ?_) (fun h15 => ?_)
        · replace hf := ifT h14 hf
          conv => whnf
          refine vcT rfl ?_
          conv => whnf
          refine vcT rfl ?_
          conv => whnf
          refine at_go ?_
          conv => whnf
          refine vcond_intro (t := decide ((IntKind.i32.wrap ((x1.toNat : Int))) < 240)) (fun h16 => ?_) (fun h17 => ?_)
          · replace hf := ifT h16 hf
            conv => whnf
            refine veq_intro (iand .i32 (IntKind.i32.wrap ((x1.toNat : Int))) 15) rfl ?_
            conv => whnf
            refine at_go ?_
            conv => whnf
            refine cut_go ?_
            conv => whnf
            refine cut_go ?_
            conv => whnf
            refine veq_intro (IntKind.i64.wrap (at_ + 1)) rfl ?_
            obtain ⟨x6, h18, hf⟩ := bnd hf
            conv => whnf
            refine (clerestoryref01_cont.pure s_ (IntKind.i64.wrap (at_ + 1)) 2 x6 h18).call ?_
            conv => whnf
            refine at_sub (env' := [(0, (cS s_)), (1, (cI at_)), (4, (.ptr 0 0 0 0)), (6, (.ptr 1 0 0 0)), (7, (cI 2)), (8, (.d (.v (.int .i32 (iand .i32 (IntKind.i32.wrap ((x1.toNat : Int))) 15))))), (55, (cB (!x6)))]) (st' := ⟨(upd (upd hp 0 (.row 0 4 T.clerestoryref01_R [[(.d (.v (.int .i32 0))), (cI 0), (cI 0), (cB false)]])) 1 (.row 0 4 T.clerestoryref01_R [[(.d (.v (.int .i32 65533))), (cI at_), (cI 1), (cB false)]])), 2, g⟩) (sk hB (fwE (fwE (fw0 wf (by rfl) (fun _ => by rfl)) rfl rfl rfl) rfl rfl rfl) (by rfl) (by rfl) ⟨cv rfl rfl, cv rfl rfl, cv rfl rfl, cv rfl rfl, cv rfl rfl, cv rfl rfl, cv rfl rfl, trivial⟩) ?_
            refine at_go ?_
            conv => whnf
            refine vcond_intro (t := !x6) (fun h19 => ?_) (fun h20 => ?_)
            · replace hf := ifT h19 hf
              conv => whnf
              refine cut_go ?_
              conv => whnf
              refine ⟨rfl, ⟨_, rfl, ?_⟩⟩
              conv => whnf
              refine ⟨⟨rfl, rfl⟩, ⟨_, rfl, Nat.le_of_ble_eq_true rfl, veq_intro [[(.d (.v (.int .i32 65533))), (cI at_), (cI 1), (cB false)]] rfl ?_⟩⟩
              conv => whnf
              refine at_go ?_
              conv => whnf
              obtain rfl := Option.some.inj hf
              refine ret_c hB wf (fun _ => by rfl) ?_
              exact cv rfl rfl
            · replace hf := ifF h20 hf
              conv => whnf
              refine at_go ?_
              conv => whnf
              refine cut_go ?_
              conv => whnf
              refine cut_go ?_
              conv => whnf
              refine at_go ?_
              conv => whnf
              refine loop_sub (env' := [(0, (cS s_)), (1, (cI at_)), (4, (.ptr 0 0 0 0)), (6, (.ptr 1 0 0 0)), (7, (cI 2)), (8, (.d (.v (.int .i32 (iand .i32 (IntKind.i32.wrap ((x1.toNat : Int))) 15))))), (9, (cI 1))]) (st' := ⟨(upd (upd hp 0 (.row 0 4 T.clerestoryref01_R [[(.d (.v (.int .i32 0))), (cI 0), (cI 0), (cB false)]])) 1 (.row 0 4 T.clerestoryref01_R [[(.d (.v (.int .i32 65533))), (cI at_), (cI 1), (cB false)]])), 2, g⟩) (sk hB (fwE (fwE (fw0 wf (by rfl) (fun _ => by rfl)) rfl rfl rfl) rfl rfl rfl) (by rfl) (by rfl) ⟨cv rfl rfl, cv rfl rfl, cv rfl rfl, cv rfl rfl, cv rfl rfl, cv rfl rfl, cv rfl rfl, trivial⟩) ?_
              refine loop_f (α := Int × Int) (γ := Unit) (fun (_ : Unit) (v7, v8) => [(0, (cS s_)), (1, (cI at_)), (4, (.ptr 0 0 0 0)), (6, (.ptr 1 0 0 0)), (7, (cI 2)), (8, (.d (.v (.int .i32 v7)))), (9, (cI v8))]) (fun (_ : Unit) (v7, v8) => ⟨(upd (upd hp 0 (.row 0 4 T.clerestoryref01_R [[(.d (.v (.int .i32 0))), (cI 0), (cI 0), (cB false)]])) 1 (.row 0 4 T.clerestoryref01_R [[(.d (.v (.int .i32 65533))), (cI at_), (cI 1), (cB false)]])), 2, g⟩) (fun k s => clerestoryref01_one.w1 s_ at_ k s.1 s.2) (fun _ => rfl) ?_ K0 (iand .i32 (IntKind.i32.wrap ((x1.toNat : Int))) 15, 1) () hf
              intro k1 y gg hf
              obtain ⟨v7, v8⟩ := y
              replace hf : clerestoryref01_one.w1 s_ at_ (k1 + 1) v7 v8 = some _ := hf
              rw [clerestoryref01_one.w1] at hf
              try dsimp only
              conv => whnf
              refine cut_go ?_
              conv => whnf
              refine cut_go ?_
              conv => whnf
              refine at_go ?_
              conv => whnf
              refine vcond_intro (t := decide (v8 ≤ 2)) (fun h21 => ?_) (fun h22 => ?_)
              · replace hf := ifT h21 hf
                conv => whnf
                refine at_go ?_
                conv => whnf
                refine cut_go ?_
                conv => whnf
                refine ⟨by decide, ?_⟩
                conv => whnf
                refine veq_intro (ishl .i32 v7 6) rfl ?_
                conv => whnf
                refine veq_intro (IntKind.i64.wrap (at_ + v8)) rfl ?_
                obtain ⟨x9, h23, hf⟩ := bnd hf
                conv => whnf
                refine ⟨at_nn h23, ⟨_, at_get h23, ?_⟩⟩
                conv => whnf
                refine veq_intro (iand .u8 (x9.toNat : Int) 63) rfl ?_
                conv => whnf
                refine veq_intro (IntKind.i32.wrap (iand .u8 (x9.toNat : Int) 63)) rfl ?_
                conv => whnf
                refine veq_intro (ior .i32 (ishl .i32 v7 6) (IntKind.i32.wrap (iand .u8 (x9.toNat : Int) 63))) rfl ?_
                conv => whnf
                refine at_sub (env' := [(0, (cS s_)), (1, (cI at_)), (4, (.ptr 0 0 0 0)), (6, (.ptr 1 0 0 0)), (7, (cI 2)), (8, (.d (.v (.int .i32 (ior .i32 (ishl .i32 v7 6) (IntKind.i32.wrap (iand .u8 (x9.toNat : Int) 63))))))), (9, (cI v8))]) (st' := ⟨(upd (upd hp 0 (.row 0 4 T.clerestoryref01_R [[(.d (.v (.int .i32 0))), (cI 0), (cI 0), (cB false)]])) 1 (.row 0 4 T.clerestoryref01_R [[(.d (.v (.int .i32 65533))), (cI at_), (cI 1), (cB false)]])), 2, g⟩) (sk hB (fwE (fwE (fw0 wf (by rfl) (fun _ => by rfl)) rfl rfl rfl) rfl rfl rfl) (by rfl) (by rfl) ⟨cv rfl rfl, cv rfl rfl, cv rfl rfl, cv rfl rfl, cv rfl rfl, cv rfl rfl, cv rfl rfl, trivial⟩) ?_
                refine at_go ?_
                conv => whnf
                refine veq_intro (IntKind.i64.wrap (v8 + 1)) rfl ?_
                conv => whnf
                exact ⟨(ior .i32 (ishl .i32 v7 6) (IntKind.i32.wrap (iand .u8 (x9.toNat : Int) 63)), IntKind.i64.wrap (v8 + 1)), hf, (), sk hB (fwE (fwE (fw0 wf (by rfl) (fun _ => by rfl)) rfl rfl rfl) rfl rfl rfl) (by rfl) (by rfl) ⟨cv rfl rfl, cv rfl rfl, cv rfl rfl, cv rfl rfl, cv rfl rfl, cv rfl rfl, cv rfl rfl, trivial⟩⟩
              · replace hf := ifF h22 hf
                conv => whnf
                refine at_go ?_
                conv => whnf
                refine cut_go ?_
                conv => whnf
                refine cut_go ?_
                conv => whnf
                refine vcT rfl ?_
                conv => whnf
                refine vcT rfl ?_
                conv => whnf
                refine vcT rfl ?_
                conv => whnf
                refine vcond_intro (t := decide (v7 < 2048)) (fun h24 => ?_) (fun h25 => ?_)
                · replace hf := ifT h24 hf
                  conv => whnf
                  refine vcT rfl ?_
                  conv => whnf
                  refine vcT rfl ?_
                  conv => whnf
                  refine vcT rfl ?_
                  conv => whnf
                  refine vcT rfl ?_
                  conv => whnf
                  refine vcT rfl ?_
                  conv => whnf
                  refine vcT rfl ?_
                  conv => whnf
                  refine vcT rfl ?_
                  conv => whnf
                  refine vcT rfl ?_
                  conv => whnf
                  refine vcT rfl ?_
                  conv => whnf
                  refine vcT rfl ?_
                  conv => whnf
                  refine vcT rfl ?_
                  conv => whnf
                  refine at_sub (env' := [(1, (cI at_)), (4, (.ptr 0 0 0 0)), (6, (.ptr 1 0 0 0)), (7, (cI 2)), (8, (.d (.v (.int .i32 v7)))), (97, (cB true))]) (st' := ⟨(upd (upd hp 0 (.row 0 4 T.clerestoryref01_R [[(.d (.v (.int .i32 0))), (cI 0), (cI 0), (cB false)]])) 1 (.row 0 4 T.clerestoryref01_R [[(.d (.v (.int .i32 65533))), (cI at_), (cI 1), (cB false)]])), 2, g⟩) (sk hB (fwE (fwE (fw0 wf (by rfl) (fun _ => by rfl)) rfl rfl rfl) rfl rfl rfl) (by rfl) (by rfl) ⟨cv rfl rfl, cv rfl rfl, cv rfl rfl, cv rfl rfl, cv rfl rfl, cv rfl rfl, trivial⟩) ?_
                  refine at_go ?_
                  conv => whnf
                  refine vcT rfl ?_
                  conv => whnf
                  refine cut_go ?_
                  conv => whnf
                  refine ⟨rfl, ⟨_, rfl, ?_⟩⟩
                  conv => whnf
                  refine ⟨⟨rfl, rfl⟩, ⟨_, rfl, Nat.le_of_ble_eq_true rfl, veq_intro [[(.d (.v (.int .i32 65533))), (cI at_), (cI 1), (cB false)]] rfl ?_⟩⟩
                  conv => whnf
                  refine at_go ?_
                  conv => whnf
                  obtain rfl := Option.some.inj hf
                  refine ret_c hB wf (fun _ => by rfl) ?_
                  exact cv rfl rfl
                · replace hf := ifF h25 hf
                  conv => whnf
                  refine vcF rfl ?_
                  conv => whnf
                  refine vcF rfl ?_
                  conv => whnf
                  refine vcond_intro (t := decide (55296 ≤ v7)) (fun h26 => ?_) (fun h27 => ?_)
                  · replace hf := ifT h26 hf
                    conv => whnf
                    refine vcT rfl ?_
                    conv => whnf
                    refine vcF rfl ?_
                    conv => whnf
                    refine vcT rfl ?_
                    conv => whnf
                    refine vcT rfl ?_
                    conv => whnf
                    refine vcF rfl ?_
                    conv => whnf
                    refine vcT rfl ?_
                    conv => whnf
                    refine vcond_intro (t := decide (v7 < 57344)) (fun h28 => ?_) (fun h29 => ?_)
                    · replace hf := ifT h28 hf
                      conv => whnf
                      refine vcT rfl ?_
                      conv => whnf
                      refine vcT rfl ?_
                      conv => whnf
                      refine vcT rfl ?_
                      conv => whnf
                      refine vcT rfl ?_
                      conv => whnf
                      refine at_sub (env' := [(1, (cI at_)), (4, (.ptr 0 0 0 0)), (6, (.ptr 1 0 0 0)), (7, (cI 2)), (8, (.d (.v (.int .i32 v7)))), (97, (cB true))]) (st' := ⟨(upd (upd hp 0 (.row 0 4 T.clerestoryref01_R [[(.d (.v (.int .i32 0))), (cI 0), (cI 0), (cB false)]])) 1 (.row 0 4 T.clerestoryref01_R [[(.d (.v (.int .i32 65533))), (cI at_), (cI 1), (cB false)]])), 2, g⟩) (sk hB (fwE (fwE (fw0 wf (by rfl) (fun _ => by rfl)) rfl rfl rfl) rfl rfl rfl) (by rfl) (by rfl) ⟨cv rfl rfl, cv rfl rfl, cv rfl rfl, cv rfl rfl, cv rfl rfl, cv rfl rfl, trivial⟩) ?_
                      refine at_go ?_
                      conv => whnf
                      refine vcT rfl ?_
                      conv => whnf
                      refine cut_go ?_
                      conv => whnf
                      refine ⟨rfl, ⟨_, rfl, ?_⟩⟩
                      conv => whnf
                      refine ⟨⟨rfl, rfl⟩, ⟨_, rfl, Nat.le_of_ble_eq_true rfl, veq_intro [[(.d (.v (.int .i32 65533))), (cI at_), (cI 1), (cB false)]] rfl ?_⟩⟩
                      conv => whnf
                      refine at_go ?_
                      conv => whnf
                      obtain rfl := Option.some.inj hf
                      refine ret_c hB wf (fun _ => by rfl) ?_
                      exact cv rfl rfl
                    · replace hf := ifF h29 hf
                      conv => whnf
                      refine vcF rfl ?_
                      conv => whnf
                      refine vcF rfl ?_
                      conv => whnf
                      refine vcF rfl ?_
                      conv => whnf
                      refine vcF rfl ?_
                      conv => whnf
                      refine vcF rfl ?_
                      conv => whnf
                      refine vcF rfl ?_
                      conv => whnf
                      refine vcF rfl ?_
                      conv => whnf
                      refine vcF rfl ?_
                      conv => whnf
                      refine vcF rfl ?_
                      conv => whnf
                      refine at_sub (env' := [(1, (cI at_)), (4, (.ptr 0 0 0 0)), (6, (.ptr 1 0 0 0)), (7, (cI 2)), (8, (.d (.v (.int .i32 v7)))), (97, (cB false))]) (st' := ⟨(upd (upd hp 0 (.row 0 4 T.clerestoryref01_R [[(.d (.v (.int .i32 0))), (cI 0), (cI 0), (cB false)]])) 1 (.row 0 4 T.clerestoryref01_R [[(.d (.v (.int .i32 65533))), (cI at_), (cI 1), (cB false)]])), 2, g⟩) (sk hB (fwE (fwE (fw0 wf (by rfl) (fun _ => by rfl)) rfl rfl rfl) rfl rfl rfl) (by rfl) (by rfl) ⟨cv rfl rfl, cv rfl rfl, cv rfl rfl, cv rfl rfl, cv rfl rfl, cv rfl rfl, trivial⟩) ?_
                      refine at_go ?_
                      conv => whnf
                      refine vcF rfl ?_
                      conv => whnf
                      refine at_go ?_
                      conv => whnf
                      refine cut_go ?_
                      conv => whnf
                      refine veq_intro 3 rfl ?_
                      conv => whnf
                      refine ⟨⟨rfl, rfl⟩, ⟨_, rfl, Nat.le_of_ble_eq_true rfl, veq_intro [[(.d (.v (.int .i32 v7))), (cI at_), (cI 3), (cB true)]] rfl ?_⟩⟩
                      conv => whnf
                      refine at_go ?_
                      conv => whnf
                      obtain rfl := Option.some.inj hf
                      refine ret_c hB wf (fun _ => by rfl) ?_
                      exact cv rfl rfl
                  · replace hf := ifF h27 hf
                    conv => whnf
                    refine vcF rfl ?_
                    conv => whnf
                    refine vcF rfl ?_
                    conv => whnf
                    refine vcF rfl ?_
                    conv => whnf
                    refine vcT rfl ?_
                    conv => whnf
                    refine vcF rfl ?_
                    conv => whnf
                    refine vcT rfl ?_
                    conv => whnf
                    refine vcF rfl ?_
                    conv => whnf
                    refine vcF rfl ?_
                    conv => whnf
                    refine vcF rfl ?_
                    conv => whnf
                    refine vcF rfl ?_
                    conv => whnf
                    refine vcF rfl ?_
                    conv => whnf
                    refine vcF rfl ?_
                    conv => whnf
                    refine vcF rfl ?_
                    conv => whnf
                    refine vcF rfl ?_
                    conv => whnf
                    refine vcF rfl ?_
                    conv => whnf
                    refine vcF rfl ?_
                    conv => whnf
                    refine at_sub (env' := [(1, (cI at_)), (4, (.ptr 0 0 0 0)), (6, (.ptr 1 0 0 0)), (7, (cI 2)), (8, (.d (.v (.int .i32 v7)))), (97, (cB false))]) (st' := ⟨(upd (upd hp 0 (.row 0 4 T.clerestoryref01_R [[(.d (.v (.int .i32 0))), (cI 0), (cI 0), (cB false)]])) 1 (.row 0 4 T.clerestoryref01_R [[(.d (.v (.int .i32 65533))), (cI at_), (cI 1), (cB false)]])), 2, g⟩) (sk hB (fwE (fwE (fw0 wf (by rfl) (fun _ => by rfl)) rfl rfl rfl) rfl rfl rfl) (by rfl) (by rfl) ⟨cv rfl rfl, cv rfl rfl, cv rfl rfl, cv rfl rfl, cv rfl rfl, cv rfl rfl, trivial⟩) ?_
                    refine at_go ?_
                    conv => whnf
                    refine vcF rfl ?_
                    conv => whnf
                    refine at_go ?_
                    conv => whnf
                    refine cut_go ?_
                    conv => whnf
                    refine veq_intro 3 rfl ?_
                    conv => whnf
                    refine ⟨⟨rfl, rfl⟩, ⟨_, rfl, Nat.le_of_ble_eq_true rfl, veq_intro [[(.d (.v (.int .i32 v7))), (cI at_), (cI 3), (cB true)]] rfl ?_⟩⟩
                    conv => whnf
                    refine at_go ?_
                    conv => whnf
                    obtain rfl := Option.some.inj hf
                    refine ret_c hB wf (fun _ => by rfl) ?_
                    exact cv rfl rfl
          · replace hf := ifF h17 hf
            conv => whnf
            refine cut_go ?_
            conv => whnf
            refine vcond_intro (t := decide (240 ≤ (IntKind.i32.wrap ((x1.toNat : Int))))) (fun h30 => ?_) (fun h31 => ?_)
            · replace hf := ifT h30 hf
              conv => whnf
              refine vcT rfl ?_
              conv => whnf
              refine vcT rfl ?_
              conv => whnf
              refine at_go ?_
              conv => whnf
              refine vcond_intro (t := decide ((IntKind.i32.wrap ((x1.toNat : Int))) < 245)) (fun h32 => ?_) (fun h33 => ?_)
              · replace hf := ifT h32 hf
                conv => whnf
                refine veq_intro (iand .i32 (IntKind.i32.wrap ((x1.toNat : Int))) 7) rfl ?_
                conv => whnf
                refine at_sub (env' := [(0, (cS s_)), (1, (cI at_)), (4, (.ptr 0 0 0 0)), (6, (.ptr 1 0 0 0)), (7, (cI 3)), (8, (.d (.v (.int .i32 (iand .i32 (IntKind.i32.wrap ((x1.toNat : Int))) 7)))))]) (st' := ⟨(upd (upd hp 0 (.row 0 4 T.clerestoryref01_R [[(.d (.v (.int .i32 0))), (cI 0), (cI 0), (cB false)]])) 1 (.row 0 4 T.clerestoryref01_R [[(.d (.v (.int .i32 65533))), (cI at_), (cI 1), (cB false)]])), 2, g⟩) (sk hB (fwE (fwE (fw0 wf (by rfl) (fun _ => by rfl)) rfl rfl rfl) rfl rfl rfl) (by rfl) (by rfl) ⟨cv rfl rfl, cv rfl rfl, cv rfl rfl, cv rfl rfl, cv rfl rfl, cv rfl rfl, trivial⟩) ?_
                refine at_go ?_
                conv => whnf
                refine cut_go ?_
                conv => whnf
                refine cut_go ?_
                conv => whnf
                refine veq_intro (IntKind.i64.wrap (at_ + 1)) rfl ?_
                obtain ⟨x10, h34, hf⟩ := bnd hf
                conv => whnf
                refine (clerestoryref01_cont.pure s_ (IntKind.i64.wrap (at_ + 1)) 3 x10 h34).call ?_
                conv => whnf
                refine at_go ?_
                conv => whnf
                refine vcond_intro (t := !x10) (fun h35 => ?_) (fun h36 => ?_)
                · replace hf := ifT h35 hf
                  conv => whnf
                  refine cut_go ?_
                  conv => whnf
                  refine ⟨rfl, ⟨_, rfl, ?_⟩⟩
                  conv => whnf
                  refine ⟨⟨rfl, rfl⟩, ⟨_, rfl, Nat.le_of_ble_eq_true rfl, veq_intro [[(.d (.v (.int .i32 65533))), (cI at_), (cI 1), (cB false)]] rfl ?_⟩⟩
                  conv => whnf
                  refine at_go ?_
                  conv => whnf
                  obtain rfl := Option.some.inj hf
                  refine ret_c hB wf (fun _ => by rfl) ?_
                  exact cv rfl rfl
                · replace hf := ifF h36 hf
                  conv => whnf
                  refine at_go ?_
                  conv => whnf
                  refine cut_go ?_
                  conv => whnf
                  refine cut_go ?_
                  conv => whnf
                  refine at_sub (env' := [(0, (cS s_)), (1, (cI at_)), (4, (.ptr 0 0 0 0)), (6, (.ptr 1 0 0 0)), (7, (cI 3)), (8, (.d (.v (.int .i32 (iand .i32 (IntKind.i32.wrap ((x1.toNat : Int))) 7))))), (9, (cI 1))]) (st' := ⟨(upd (upd hp 0 (.row 0 4 T.clerestoryref01_R [[(.d (.v (.int .i32 0))), (cI 0), (cI 0), (cB false)]])) 1 (.row 0 4 T.clerestoryref01_R [[(.d (.v (.int .i32 65533))), (cI at_), (cI 1), (cB false)]])), 2, g⟩) (sk hB (fwE (fwE (fw0 wf (by rfl) (fun _ => by rfl)) rfl rfl rfl) rfl rfl rfl) (by rfl) (by rfl) ⟨cv rfl rfl, cv rfl rfl, cv rfl rfl, cv rfl rfl, cv rfl rfl, cv rfl rfl, cv rfl rfl, trivial⟩) ?_
                  refine at_go ?_
                  conv => whnf
                  refine loop_sub (env' := [(0, (cS s_)), (1, (cI at_)), (4, (.ptr 0 0 0 0)), (6, (.ptr 1 0 0 0)), (7, (cI 3)), (8, (.d (.v (.int .i32 (iand .i32 (IntKind.i32.wrap ((x1.toNat : Int))) 7))))), (9, (cI 1))]) (st' := ⟨(upd (upd hp 0 (.row 0 4 T.clerestoryref01_R [[(.d (.v (.int .i32 0))), (cI 0), (cI 0), (cB false)]])) 1 (.row 0 4 T.clerestoryref01_R [[(.d (.v (.int .i32 65533))), (cI at_), (cI 1), (cB false)]])), 2, g⟩) (sk hB (fwE (fwE (fw0 wf (by rfl) (fun _ => by rfl)) rfl rfl rfl) rfl rfl rfl) (by rfl) (by rfl) ⟨cv rfl rfl, cv rfl rfl, cv rfl rfl, cv rfl rfl, cv rfl rfl, cv rfl rfl, cv rfl rfl, trivial⟩) ?_
                  refine loop_f (α := Int × Int) (γ := Unit) (fun (_ : Unit) (v11, v12) => [(0, (cS s_)), (1, (cI at_)), (4, (.ptr 0 0 0 0)), (6, (.ptr 1 0 0 0)), (7, (cI 3)), (8, (.d (.v (.int .i32 v11)))), (9, (cI v12))]) (fun (_ : Unit) (v11, v12) => ⟨(upd (upd hp 0 (.row 0 4 T.clerestoryref01_R [[(.d (.v (.int .i32 0))), (cI 0), (cI 0), (cB false)]])) 1 (.row 0 4 T.clerestoryref01_R [[(.d (.v (.int .i32 65533))), (cI at_), (cI 1), (cB false)]])), 2, g⟩) (fun k s => clerestoryref01_one.w2 s_ at_ k s.1 s.2) (fun _ => rfl) ?_ K0 (iand .i32 (IntKind.i32.wrap ((x1.toNat : Int))) 7, 1) () hf
                  intro k2 y gg hf
                  obtain ⟨v11, v12⟩ := y
                  replace hf : clerestoryref01_one.w2 s_ at_ (k2 + 1) v11 v12 = some _ := hf
                  rw [clerestoryref01_one.w2] at hf
                  try dsimp only
                  conv => whnf
                  refine cut_go ?_
                  conv => whnf
                  refine cut_go ?_
                  conv => whnf
                  refine at_go ?_
                  conv => whnf
                  refine vcond_intro (t := decide (v12 ≤ 3)) (fun h37 => ?_) (fun h38 => ?_)
                  · replace hf := ifT h37 hf
                    conv => whnf
                    refine at_go ?_
                    conv => whnf
                    refine cut_go ?_
                    conv => whnf
                    refine ⟨by decide, ?_⟩
                    conv => whnf
                    refine veq_intro (ishl .i32 v11 6) rfl ?_
                    conv => whnf
                    refine veq_intro (IntKind.i64.wrap (at_ + v12)) rfl ?_
                    obtain ⟨x13, h39, hf⟩ := bnd hf
                    conv => whnf
                    refine ⟨at_nn h39, ⟨_, at_get h39, ?_⟩⟩
                    conv => whnf
                    refine veq_intro (iand .u8 (x13.toNat : Int) 63) rfl ?_
                    conv => whnf
                    refine veq_intro (IntKind.i32.wrap (iand .u8 (x13.toNat : Int) 63)) rfl ?_
                    conv => whnf
                    refine veq_intro (ior .i32 (ishl .i32 v11 6) (IntKind.i32.wrap (iand .u8 (x13.toNat : Int) 63))) rfl ?_
                    conv => whnf
                    refine at_sub (env' := [(0, (cS s_)), (1, (cI at_)), (4, (.ptr 0 0 0 0)), (6, (.ptr 1 0 0 0)), (7, (cI 3)), (8, (.d (.v (.int .i32 (ior .i32 (ishl .i32 v11 6) (IntKind.i32.wrap (iand .u8 (x13.toNat : Int) 63))))))), (9, (cI v12))]) (st' := ⟨(upd (upd hp 0 (.row 0 4 T.clerestoryref01_R [[(.d (.v (.int .i32 0))), (cI 0), (cI 0), (cB false)]])) 1 (.row 0 4 T.clerestoryref01_R [[(.d (.v (.int .i32 65533))), (cI at_), (cI 1), (cB false)]])), 2, g⟩) (sk hB (fwE (fwE (fw0 wf (by rfl) (fun _ => by rfl)) rfl rfl rfl) rfl rfl rfl) (by rfl) (by rfl) ⟨cv rfl rfl, cv rfl rfl, cv rfl rfl, cv rfl rfl, cv rfl rfl, cv rfl rfl, cv rfl rfl, trivial⟩) ?_
                    refine at_go ?_
                    conv => whnf
                    refine veq_intro (IntKind.i64.wrap (v12 + 1)) rfl ?_
                    conv => whnf
                    exact ⟨(ior .i32 (ishl .i32 v11 6) (IntKind.i32.wrap (iand .u8 (x13.toNat : Int) 63)), IntKind.i64.wrap (v12 + 1)), hf, (), sk hB (fwE (fwE (fw0 wf (by rfl) (fun _ => by rfl)) rfl rfl rfl) rfl rfl rfl) (by rfl) (by rfl) ⟨cv rfl rfl, cv rfl rfl, cv rfl rfl, cv rfl rfl, cv rfl rfl, cv rfl rfl, cv rfl rfl, trivial⟩⟩
                  · replace hf := ifF h38 hf
                    conv => whnf
                    refine at_go ?_
                    conv => whnf
                    refine cut_go ?_
                    conv => whnf
                    refine cut_go ?_
                    conv => whnf
                    refine vcF rfl ?_
                    conv => whnf
                    refine vcF rfl ?_
                    conv => whnf
                    refine vcF rfl ?_
                    conv => whnf
                    refine vcF rfl ?_
                    conv => whnf
                    refine vcF rfl ?_
                    conv => whnf
                    refine vcF rfl ?_
                    conv => whnf
                    refine vcF rfl ?_
                    conv => whnf
                    refine vcF rfl ?_
                    conv => whnf
                    refine vcT rfl ?_
                    conv => whnf
                    refine vcT rfl ?_
                    conv => whnf
                    refine vcT rfl ?_
                    conv => whnf
                    refine vcond_intro (t := decide (v11 < 65536)) (fun h40 => ?_) (fun h41 => ?_)
                    · replace hf := ifT h40 hf
                      conv => whnf
                      refine vcT rfl ?_
                      conv => whnf
                      refine vcT rfl ?_
                      conv => whnf
                      refine vcT rfl ?_
                      conv => whnf
                      refine vcF rfl ?_
                      conv => whnf
                      refine vcT rfl ?_
                      conv => whnf
                      refine vcF rfl ?_
                      conv => whnf
                      refine at_sub (env' := [(1, (cI at_)), (4, (.ptr 0 0 0 0)), (6, (.ptr 1 0 0 0)), (7, (cI 3)), (8, (.d (.v (.int .i32 v11)))), (97, (cB true))]) (st' := ⟨(upd (upd hp 0 (.row 0 4 T.clerestoryref01_R [[(.d (.v (.int .i32 0))), (cI 0), (cI 0), (cB false)]])) 1 (.row 0 4 T.clerestoryref01_R [[(.d (.v (.int .i32 65533))), (cI at_), (cI 1), (cB false)]])), 2, g⟩) (sk hB (fwE (fwE (fw0 wf (by rfl) (fun _ => by rfl)) rfl rfl rfl) rfl rfl rfl) (by rfl) (by rfl) ⟨cv rfl rfl, cv rfl rfl, cv rfl rfl, cv rfl rfl, cv rfl rfl, cv rfl rfl, trivial⟩) ?_
                      refine at_go ?_
                      conv => whnf
                      refine vcT rfl ?_
                      conv => whnf
                      refine cut_go ?_
                      conv => whnf
                      refine ⟨rfl, ⟨_, rfl, ?_⟩⟩
                      conv => whnf
                      refine ⟨⟨rfl, rfl⟩, ⟨_, rfl, Nat.le_of_ble_eq_true rfl, veq_intro [[(.d (.v (.int .i32 65533))), (cI at_), (cI 1), (cB false)]] rfl ?_⟩⟩
                      conv => whnf
                      refine at_go ?_
                      conv => whnf
                      obtain rfl := Option.some.inj hf
                      refine ret_c hB wf (fun _ => by rfl) ?_
                      exact cv rfl rfl
                    · replace hf := ifF h41 hf
                      conv => whnf
                      refine vcF rfl ?_
                      conv => whnf
                      refine vcT rfl ?_
                      conv => whnf
                      refine vcF rfl ?_
                      conv => whnf
                      refine vcF rfl ?_
                      conv => whnf
                      refine vcT rfl ?_
                      conv => whnf
                      refine vcF rfl ?_
                      conv => whnf
                      refine at_sub (env' := [(1, (cI at_)), (4, (.ptr 0 0 0 0)), (6, (.ptr 1 0 0 0)), (7, (cI 3)), (8, (.d (.v (.int .i32 v11)))), (97, (cB (decide (1114111 < v11))))]) (st' := ⟨(upd (upd hp 0 (.row 0 4 T.clerestoryref01_R [[(.d (.v (.int .i32 0))), (cI 0), (cI 0), (cB false)]])) 1 (.row 0 4 T.clerestoryref01_R [[(.d (.v (.int .i32 65533))), (cI at_), (cI 1), (cB false)]])), 2, g⟩) (sk hB (fwE (fwE (fw0 wf (by rfl) (fun _ => by rfl)) rfl rfl rfl) rfl rfl rfl) (by rfl) (by rfl) ⟨cv rfl rfl, cv rfl rfl, cv rfl rfl, cv rfl rfl, cv rfl rfl, cv rfl rfl, trivial⟩) ?_
                      refine at_go ?_
                      conv => whnf
                      refine vcond_intro (t := decide (1114111 < v11)) (fun h42 => ?_) (fun h43 => ?_)
                      · replace hf := ifT h42 hf
                        conv => whnf
                        refine cut_go ?_
                        conv => whnf
                        refine ⟨rfl, ⟨_, rfl, ?_⟩⟩
                        conv => whnf
                        refine ⟨⟨rfl, rfl⟩, ⟨_, rfl, Nat.le_of_ble_eq_true rfl, veq_intro [[(.d (.v (.int .i32 65533))), (cI at_), (cI 1), (cB false)]] rfl ?_⟩⟩
                        conv => whnf
                        refine at_go ?_
                        conv => whnf
                        obtain rfl := Option.some.inj hf
                        refine ret_c hB wf (fun _ => by rfl) ?_
                        exact cv rfl rfl
                      · replace hf := ifF h43 hf
                        conv => whnf
                        refine at_go ?_
                        conv => whnf
                        refine cut_go ?_
                        conv => whnf
                        refine veq_intro 4 rfl ?_
                        conv => whnf
                        refine ⟨⟨rfl, rfl⟩, ⟨_, rfl, Nat.le_of_ble_eq_true rfl, veq_intro [[(.d (.v (.int .i32 v11))), (cI at_), (cI 4), (cB true)]] rfl ?_⟩⟩
                        conv => whnf
                        refine at_go ?_
                        conv => whnf
                        obtain rfl := Option.some.inj hf
                        refine ret_c hB wf (fun _ => by rfl) ?_
                        exact cv rfl rfl
              · replace hf := ifF h33 hf
                conv => whnf
                refine cut_go ?_
                conv => whnf
                refine ⟨rfl, ⟨_, rfl, ?_⟩⟩
                conv => whnf
                refine ⟨⟨rfl, rfl⟩, ⟨_, rfl, Nat.le_of_ble_eq_true rfl, veq_intro [[(.d (.v (.int .i32 65533))), (cI at_), (cI 1), (cB false)]] rfl ?_⟩⟩
                conv => whnf
                refine at_sub (env' := [(4, (.ptr 0 0 0 0))]) (st' := ⟨(upd hp 0 (.row 0 4 T.clerestoryref01_R [[(.d (.v (.int .i32 65533))), (cI at_), (cI 1), (cB false)]])), 1, g⟩) (sk hB (fwE (fw0 wf (by rfl) (fun _ => by rfl)) rfl rfl rfl) (by rfl) (by rfl) ⟨cv rfl rfl, trivial⟩) ?_
                refine at_go ?_
                conv => whnf
                obtain rfl := Option.some.inj hf
                refine ret_c hB wf (fun _ => by rfl) ?_
                exact cv rfl rfl
            · replace hf := ifF h31 hf
              conv => whnf
              refine vcF rfl ?_
              conv => whnf
              refine vcF rfl ?_
              conv => whnf
              refine at_go ?_
              conv => whnf
              refine vcF rfl ?_
              conv => whnf
              refine cut_go ?_
              conv => whnf
              refine ⟨rfl, ⟨_, rfl, ?_⟩⟩
              conv => whnf
              refine ⟨⟨rfl, rfl⟩, ⟨_, rfl, Nat.le_of_ble_eq_true rfl, veq_intro [[(.d (.v (.int .i32 65533))), (cI at_), (cI 1), (cB false)]] rfl ?_⟩⟩
              conv => whnf
              refine at_sub (env' := [(4, (.ptr 0 0 0 0))]) (st' := ⟨(upd hp 0 (.row 0 4 T.clerestoryref01_R [[(.d (.v (.int .i32 65533))), (cI at_), (cI 1), (cB false)]])), 1, g⟩) (sk hB (fwE (fw0 wf (by rfl) (fun _ => by rfl)) rfl rfl rfl) (by rfl) (by rfl) ⟨cv rfl rfl, trivial⟩) ?_
              refine at_go ?_
              conv => whnf
              obtain rfl := Option.some.inj hf
              refine ret_c hB wf (fun _ => by rfl) ?_
              exact cv rfl rfl
        · replace hf := ifF h15 hf
          conv => whnf
          refine vcF rfl ?_
          conv => whnf
          refine vcF rfl ?_
          conv => whnf
          refine at_go ?_
          conv => whnf
          refine vcF rfl ?_
          conv => whnf
          refine cut_go ?_
          conv => whnf
          refine vcond_intro (t := decide (240 ≤ (IntKind.i32.wrap ((x1.toNat : Int))))) (fun h44 => ?_) (fun h45 => ?_)
          · replace hf := ifT h44 hf
            conv => whnf
            refine vcT rfl ?_
            conv => whnf
            refine vcT rfl ?_
            conv => whnf
            refine at_go ?_
            conv => whnf
            refine vcond_intro (t := decide ((IntKind.i32.wrap ((x1.toNat : Int))) < 245)) (fun h46 => ?_) (fun h47 => ?_)
            · replace hf := ifT h46 hf
              conv => whnf
              refine veq_intro (iand .i32 (IntKind.i32.wrap ((x1.toNat : Int))) 7) rfl ?_
              conv => whnf
              refine at_sub (env' := [(0, (cS s_)), (1, (cI at_)), (4, (.ptr 0 0 0 0)), (6, (.ptr 1 0 0 0)), (7, (cI 3)), (8, (.d (.v (.int .i32 (iand .i32 (IntKind.i32.wrap ((x1.toNat : Int))) 7)))))]) (st' := ⟨(upd (upd hp 0 (.row 0 4 T.clerestoryref01_R [[(.d (.v (.int .i32 0))), (cI 0), (cI 0), (cB false)]])) 1 (.row 0 4 T.clerestoryref01_R [[(.d (.v (.int .i32 65533))), (cI at_), (cI 1), (cB false)]])), 2, g⟩) (sk hB (fwE (fwE (fw0 wf (by rfl) (fun _ => by rfl)) rfl rfl rfl) rfl rfl rfl) (by rfl) (by rfl) ⟨cv rfl rfl, cv rfl rfl, cv rfl rfl, cv rfl rfl, cv rfl rfl, cv rfl rfl, trivial⟩) ?_
              refine at_go ?_
              conv => whnf
              refine cut_go ?_
              conv => whnf
              refine cut_go ?_
              conv => whnf
              refine veq_intro (IntKind.i64.wrap (at_ + 1)) rfl ?_
              obtain ⟨x14, h48, hf⟩ := bnd hf
              conv => whnf
              refine (clerestoryref01_cont.pure s_ (IntKind.i64.wrap (at_ + 1)) 3 x14 h48).call ?_
              conv => whnf
              refine at_go ?_
              conv => whnf
              refine vcond_intro (t := !x14) (fun h49 => ?_) (fun h50 => ?_)
              · replace hf := ifT h49 hf
                conv => whnf
                refine cut_go ?_
                conv => whnf
                refine ⟨rfl, ⟨_, rfl, ?_⟩⟩
                conv => whnf
                refine ⟨⟨rfl, rfl⟩, ⟨_, rfl, Nat.le_of_ble_eq_true rfl, veq_intro [[(.d (.v (.int .i32 65533))), (cI at_), (cI 1), (cB false)]] rfl ?_⟩⟩
                conv => whnf
                refine at_go ?_
                conv => whnf
                obtain rfl := Option.some.inj hf
                refine ret_c hB wf (fun _ => by rfl) ?_
                exact cv rfl rfl
              · replace hf := ifF h50 hf
                conv => whnf
                refine at_go ?_
                conv => whnf
                refine cut_go ?_
                conv => whnf
                refine cut_go ?_
                conv => whnf
                refine at_sub (env' := [(0, (cS s_)), (1, (cI at_)), (4, (.ptr 0 0 0 0)), (6, (.ptr 1 0 0 0)), (7, (cI 3)), (8, (.d (.v (.int .i32 (iand .i32 (IntKind.i32.wrap ((x1.toNat : Int))) 7))))), (9, (cI 1))]) (st' := ⟨(upd (upd hp 0 (.row 0 4 T.clerestoryref01_R [[(.d (.v (.int .i32 0))), (cI 0), (cI 0), (cB false)]])) 1 (.row 0 4 T.clerestoryref01_R [[(.d (.v (.int .i32 65533))), (cI at_), (cI 1), (cB false)]])), 2, g⟩) (sk hB (fwE (fwE (fw0 wf (by rfl) (fun _ => by rfl)) rfl rfl rfl) rfl rfl rfl) (by rfl) (by rfl) ⟨cv rfl rfl, cv rfl rfl, cv rfl rfl, cv rfl rfl, cv rfl rfl, cv rfl rfl, cv rfl rfl, trivial⟩) ?_
                refine at_go ?_
                conv => whnf
                refine loop_sub (env' := [(0, (cS s_)), (1, (cI at_)), (4, (.ptr 0 0 0 0)), (6, (.ptr 1 0 0 0)), (7, (cI 3)), (8, (.d (.v (.int .i32 (iand .i32 (IntKind.i32.wrap ((x1.toNat : Int))) 7))))), (9, (cI 1))]) (st' := ⟨(upd (upd hp 0 (.row 0 4 T.clerestoryref01_R [[(.d (.v (.int .i32 0))), (cI 0), (cI 0), (cB false)]])) 1 (.row 0 4 T.clerestoryref01_R [[(.d (.v (.int .i32 65533))), (cI at_), (cI 1), (cB false)]])), 2, g⟩) (sk hB (fwE (fwE (fw0 wf (by rfl) (fun _ => by rfl)) rfl rfl rfl) rfl rfl rfl) (by rfl) (by rfl) ⟨cv rfl rfl, cv rfl rfl, cv rfl rfl, cv rfl rfl, cv rfl rfl, cv rfl rfl, cv rfl rfl, trivial⟩) ?_
                refine loop_f (α := Int × Int) (γ := Unit) (fun (_ : Unit) (v15, v16) => [(0, (cS s_)), (1, (cI at_)), (4, (.ptr 0 0 0 0)), (6, (.ptr 1 0 0 0)), (7, (cI 3)), (8, (.d (.v (.int .i32 v15)))), (9, (cI v16))]) (fun (_ : Unit) (v15, v16) => ⟨(upd (upd hp 0 (.row 0 4 T.clerestoryref01_R [[(.d (.v (.int .i32 0))), (cI 0), (cI 0), (cB false)]])) 1 (.row 0 4 T.clerestoryref01_R [[(.d (.v (.int .i32 65533))), (cI at_), (cI 1), (cB false)]])), 2, g⟩) (fun k s => clerestoryref01_one.w3 s_ at_ k s.1 s.2) (fun _ => rfl) ?_ K0 (iand .i32 (IntKind.i32.wrap ((x1.toNat : Int))) 7, 1) () hf
                intro k3 y gg hf
                obtain ⟨v15, v16⟩ := y
                replace hf : clerestoryref01_one.w3 s_ at_ (k3 + 1) v15 v16 = some _ := hf
                rw [clerestoryref01_one.w3] at hf
                try dsimp only
                conv => whnf
                refine cut_go ?_
                conv => whnf
                refine cut_go ?_
                conv => whnf
                refine at_go ?_
                conv => whnf
                refine vcond_intro (t := decide (v16 ≤ 3)) (fun h51 => ?_) (fun h52 => ?_)
                · replace hf := ifT h51 hf
                  conv => whnf
                  refine at_go ?_
                  conv => whnf
                  refine cut_go ?_
                  conv => whnf
                  refine ⟨by decide, ?_⟩
                  conv => whnf
                  refine veq_intro (ishl .i32 v15 6) rfl ?_
                  conv => whnf
                  refine veq_intro (IntKind.i64.wrap (at_ + v16)) rfl ?_
                  obtain ⟨x17, h53, hf⟩ := bnd hf
                  conv => whnf
                  refine ⟨at_nn h53, ⟨_, at_get h53, ?_⟩⟩
                  conv => whnf
                  refine veq_intro (iand .u8 (x17.toNat : Int) 63) rfl ?_
                  conv => whnf
                  refine veq_intro (IntKind.i32.wrap (iand .u8 (x17.toNat : Int) 63)) rfl ?_
                  conv => whnf
                  refine veq_intro (ior .i32 (ishl .i32 v15 6) (IntKind.i32.wrap (iand .u8 (x17.toNat : Int) 63))) rfl ?_
                  conv => whnf
                  refine at_sub (env' := [(0, (cS s_)), (1, (cI at_)), (4, (.ptr 0 0 0 0)), (6, (.ptr 1 0 0 0)), (7, (cI 3)), (8, (.d (.v (.int .i32 (ior .i32 (ishl .i32 v15 6) (IntKind.i32.wrap (iand .u8 (x17.toNat : Int) 63))))))), (9, (cI v16))]) (st' := ⟨(upd (upd hp 0 (.row 0 4 T.clerestoryref01_R [[(.d (.v (.int .i32 0))), (cI 0), (cI 0), (cB false)]])) 1 (.row 0 4 T.clerestoryref01_R [[(.d (.v (.int .i32 65533))), (cI at_), (cI 1), (cB false)]])), 2, g⟩) (sk hB (fwE (fwE (fw0 wf (by rfl) (fun _ => by rfl)) rfl rfl rfl) rfl rfl rfl) (by rfl) (by rfl) ⟨cv rfl rfl, cv rfl rfl, cv rfl rfl, cv rfl rfl, cv rfl rfl, cv rfl rfl, cv rfl rfl, trivial⟩) ?_
                  refine at_go ?_
                  conv => whnf
                  refine veq_intro (IntKind.i64.wrap (v16 + 1)) rfl ?_
                  conv => whnf
                  exact ⟨(ior .i32 (ishl .i32 v15 6) (IntKind.i32.wrap (iand .u8 (x17.toNat : Int) 63)), IntKind.i64.wrap (v16 + 1)), hf, (), sk hB (fwE (fwE (fw0 wf (by rfl) (fun _ => by rfl)) rfl rfl rfl) rfl rfl rfl) (by rfl) (by rfl) ⟨cv rfl rfl, cv rfl rfl, cv rfl rfl, cv rfl rfl, cv rfl rfl, cv rfl rfl, cv rfl rfl, trivial⟩⟩
                · replace hf := ifF h52 hf
                  conv => whnf
                  refine at_go ?_
                  conv => whnf
                  refine cut_go ?_
                  conv => whnf
                  refine cut_go ?_
                  conv => whnf
                  refine vcF rfl ?_
                  conv => whnf
                  refine vcF rfl ?_
                  conv => whnf
                  refine vcF rfl ?_
                  conv => whnf
                  refine vcF rfl ?_
                  conv => whnf
                  refine vcF rfl ?_
                  conv => whnf
                  refine vcF rfl ?_
                  conv => whnf
                  refine vcF rfl ?_
                  conv => whnf
                  refine vcF rfl ?_
                  conv => whnf
                  refine vcT rfl ?_
                  conv => whnf
                  refine vcT rfl ?_
                  conv => whnf
                  refine vcT rfl ?_
                  conv => whnf
                  refine vcond_intro (t := decide (v15 < 65536)) (fun h54 => ?_) (fun h55 => ?_)
                  · replace hf := ifT h54 hf
                    conv => whnf
                    refine vcT rfl ?_
                    conv => whnf
                    refine vcT rfl ?_
                    conv => whnf
                    refine vcT rfl ?_
                    conv => whnf
                    refine vcF rfl ?_
                    conv => whnf
                    refine vcT rfl ?_
                    conv => whnf
                    refine vcF rfl ?_
                    conv => whnf
                    refine at_sub (env' := [(1, (cI at_)), (4, (.ptr 0 0 0 0)), (6, (.ptr 1 0 0 0)), (7, (cI 3)), (8, (.d (.v (.int .i32 v15)))), (97, (cB true))]) (st' := ⟨(upd (upd hp 0 (.row 0 4 T.clerestoryref01_R [[(.d (.v (.int .i32 0))), (cI 0), (cI 0), (cB false)]])) 1 (.row 0 4 T.clerestoryref01_R [[(.d (.v (.int .i32 65533))), (cI at_), (cI 1), (cB false)]])), 2, g⟩) (sk hB (fwE (fwE (fw0 wf (by rfl) (fun _ => by rfl)) rfl rfl rfl) rfl rfl rfl) (by rfl) (by rfl) ⟨cv rfl rfl, cv rfl rfl, cv rfl rfl, cv rfl rfl, cv rfl rfl, cv rfl rfl, trivial⟩) ?_
                    refine at_go ?_
                    conv => whnf
                    refine vcT rfl ?_
                    conv => whnf
                    refine cut_go ?_
                    conv => whnf
                    refine ⟨rfl, ⟨_, rfl, ?_⟩⟩
                    conv => whnf
                    refine ⟨⟨rfl, rfl⟩, ⟨_, rfl, Nat.le_of_ble_eq_true rfl, veq_intro [[(.d (.v (.int .i32 65533))), (cI at_), (cI 1), (cB false)]] rfl ?_⟩⟩
                    conv => whnf
                    refine at_go ?_
                    conv => whnf
                    obtain rfl := Option.some.inj hf
                    refine ret_c hB wf (fun _ => by rfl) ?_
                    exact cv rfl rfl
                  · replace hf := ifF h55 hf
                    conv => whnf
                    refine vcF rfl ?_
                    conv => whnf
                    refine vcT rfl ?_
                    conv => whnf
                    refine vcF rfl ?_
                    conv => whnf
                    refine vcF rfl ?_
                    conv => whnf
                    refine vcT rfl ?_
                    conv => whnf
                    refine vcF rfl ?_
                    conv => whnf
                    refine at_sub (env' := [(1, (cI at_)), (4, (.ptr 0 0 0 0)), (6, (.ptr 1 0 0 0)), (7, (cI 3)), (8, (.d (.v (.int .i32 v15)))), (97, (cB (decide (1114111 < v15))))]) (st' := ⟨(upd (upd hp 0 (.row 0 4 T.clerestoryref01_R [[(.d (.v (.int .i32 0))), (cI 0), (cI 0), (cB false)]])) 1 (.row 0 4 T.clerestoryref01_R [[(.d (.v (.int .i32 65533))), (cI at_), (cI 1), (cB false)]])), 2, g⟩) (sk hB (fwE (fwE (fw0 wf (by rfl) (fun _ => by rfl)) rfl rfl rfl) rfl rfl rfl) (by rfl) (by rfl) ⟨cv rfl rfl, cv rfl rfl, cv rfl rfl, cv rfl rfl, cv rfl rfl, cv rfl rfl, trivial⟩) ?_
                    refine at_go ?_
                    conv => whnf
                    refine vcond_intro (t := decide (1114111 < v15)) (fun h56 => ?_) (fun h57 => ?_)
                    · replace hf := ifT h56 hf
                      conv => whnf
                      refine cut_go ?_
                      conv => whnf
                      refine ⟨rfl, ⟨_, rfl, ?_⟩⟩
                      conv => whnf
                      refine ⟨⟨rfl, rfl⟩, ⟨_, rfl, Nat.le_of_ble_eq_true rfl, veq_intro [[(.d (.v (.int .i32 65533))), (cI at_), (cI 1), (cB false)]] rfl ?_⟩⟩
                      conv => whnf
                      refine at_go ?_
                      conv => whnf
                      obtain rfl := Option.some.inj hf
                      refine ret_c hB wf (fun _ => by rfl) ?_
                      exact cv rfl rfl
                    · replace hf := ifF h57 hf
                      conv => whnf
                      refine at_go ?_
                      conv => whnf
                      refine cut_go ?_
                      conv => whnf
                      refine veq_intro 4 rfl ?_
                      conv => whnf
                      refine ⟨⟨rfl, rfl⟩, ⟨_, rfl, Nat.le_of_ble_eq_true rfl, veq_intro [[(.d (.v (.int .i32 v15))), (cI at_), (cI 4), (cB true)]] rfl ?_⟩⟩
                      conv => whnf
                      refine at_go ?_
                      conv => whnf
                      obtain rfl := Option.some.inj hf
                      refine ret_c hB wf (fun _ => by rfl) ?_
                      exact cv rfl rfl
            · replace hf := ifF h47 hf
              conv => whnf
              refine cut_go ?_
              conv => whnf
              refine ⟨rfl, ⟨_, rfl, ?_⟩⟩
              conv => whnf
              refine ⟨⟨rfl, rfl⟩, ⟨_, rfl, Nat.le_of_ble_eq_true rfl, veq_intro [[(.d (.v (.int .i32 65533))), (cI at_), (cI 1), (cB false)]] rfl ?_⟩⟩
              conv => whnf
              refine at_sub (env' := [(4, (.ptr 0 0 0 0))]) (st' := ⟨(upd hp 0 (.row 0 4 T.clerestoryref01_R [[(.d (.v (.int .i32 65533))), (cI at_), (cI 1), (cB false)]])), 1, g⟩) (sk hB (fwE (fw0 wf (by rfl) (fun _ => by rfl)) rfl rfl rfl) (by rfl) (by rfl) ⟨cv rfl rfl, trivial⟩) ?_
              refine at_go ?_
              conv => whnf
              obtain rfl := Option.some.inj hf
              refine ret_c hB wf (fun _ => by rfl) ?_
              exact cv rfl rfl
          · replace hf := ifF h45 hf
            conv => whnf
            refine vcF rfl ?_
            conv => whnf
            refine vcF rfl ?_
            conv => whnf
            refine at_go ?_
            conv => whnf
            refine vcF rfl ?_
            conv => whnf
            refine cut_go ?_
            conv => whnf
            refine ⟨rfl, ⟨_, rfl, ?_⟩⟩
            conv => whnf
            refine ⟨⟨rfl, rfl⟩, ⟨_, rfl, Nat.le_of_ble_eq_true rfl, veq_intro [[(.d (.v (.int .i32 65533))), (cI at_), (cI 1), (cB false)]] rfl ?_⟩⟩
            conv => whnf
            refine at_sub (env' := [(4, (.ptr 0 0 0 0))]) (st' := ⟨(upd hp 0 (.row 0 4 T.clerestoryref01_R [[(.d (.v (.int .i32 65533))), (cI at_), (cI 1), (cB false)]])), 1, g⟩) (sk hB (fwE (fw0 wf (by rfl) (fun _ => by rfl)) rfl rfl rfl) (by rfl) (by rfl) ⟨cv rfl rfl, trivial⟩) ?_
            refine at_go ?_
            conv => whnf
            obtain rfl := Option.some.inj hf
            refine ret_c hB wf (fun _ => by rfl) ?_
            exact cv rfl rfl
    · replace hf := ifF h5 hf
      conv => whnf
      refine vcF rfl ?_
      conv => whnf
      refine vcF rfl ?_
      conv => whnf
      refine at_sub (env' := [(0, (cS s_)), (1, (cI at_)), (4, (.ptr 0 0 0 0)), (5, (.d (.v (.int .i32 (IntKind.i32.wrap ((x1.toNat : Int))))))), (6, (.ptr 1 0 0 0)), (23, (cB false))]) (st' := ⟨(upd (upd hp 0 (.row 0 4 T.clerestoryref01_R [[(.d (.v (.int .i32 0))), (cI 0), (cI 0), (cB false)]])) 1 (.row 0 4 T.clerestoryref01_R [[(.d (.v (.int .i32 65533))), (cI at_), (cI 1), (cB false)]])), 2, g⟩) (sk hB (fwE (fwE (fw0 wf (by rfl) (fun _ => by rfl)) rfl rfl rfl) rfl rfl rfl) (by rfl) (by rfl) ⟨cv rfl rfl, cv rfl rfl, cv rfl rfl, cv rfl rfl, cv rfl rfl, cv rfl rfl, trivial⟩) ?_
      refine at_go ?_
      conv => whnf
      refine vcF rfl ?_
      conv => whnf
      refine cut_go ?_
      conv => whnf
      refine vcond_intro (t := decide (224 ≤ (IntKind.i32.wrap ((x1.toNat : Int))))) (fun h58 => ?_) (fun h59 => ?_)
      · replace hf := ifT h58 hf
        conv => whnf
        refine vcT rfl ?_
        conv => whnf
        refine vcT rfl ?_
        conv => whnf
        refine at_go ?_
        conv => whnf
        refine vcond_intro (t := decide ((IntKind.i32.wrap ((x1.toNat : Int))) < 240)) (fun h60 => ?_) (fun h61 => ?_)
        · replace hf := ifT h60 hf
          conv => whnf
          refine veq_intro (iand .i32 (IntKind.i32.wrap ((x1.toNat : Int))) 15) rfl ?_
          conv => whnf
          refine at_go ?_
          conv => whnf
          refine cut_go ?_
          conv => whnf
          refine cut_go ?_
          conv => whnf
          refine veq_intro (IntKind.i64.wrap (at_ + 1)) rfl ?_
          obtain ⟨x18, h62, hf⟩ := bnd hf
          conv => whnf
          refine (clerestoryref01_cont.pure s_ (IntKind.i64.wrap (at_ + 1)) 2 x18 h62).call ?_
          conv => whnf
          refine at_sub (env' := [(0, (cS s_)), (1, (cI at_)), (4, (.ptr 0 0 0 0)), (6, (.ptr 1 0 0 0)), (7, (cI 2)), (8, (.d (.v (.int .i32 (iand .i32 (IntKind.i32.wrap ((x1.toNat : Int))) 15))))), (55, (cB (!x18)))]) (st' := ⟨(upd (upd hp 0 (.row 0 4 T.clerestoryref01_R [[(.d (.v (.int .i32 0))), (cI 0), (cI 0), (cB false)]])) 1 (.row 0 4 T.clerestoryref01_R [[(.d (.v (.int .i32 65533))), (cI at_), (cI 1), (cB false)]])), 2, g⟩) (sk hB (fwE (fwE (fw0 wf (by rfl) (fun _ => by rfl)) rfl rfl rfl) rfl rfl rfl) (by rfl) (by rfl) ⟨cv rfl rfl, cv rfl rfl, cv rfl rfl, cv rfl rfl, cv rfl rfl, cv rfl rfl, cv rfl rfl, trivial⟩) ?_
          refine at_go ?_
          conv => whnf
          refine vcond_intro (t := !x18) (fun h63 => ?_) (fun h64 => ?_)
          · replace hf := ifT h63 hf
            conv => whnf
            refine cut_go ?_
            conv => whnf
            refine ⟨rfl, ⟨_, rfl, ?_⟩⟩
            conv => whnf
            refine ⟨⟨rfl, rfl⟩, ⟨_, rfl, Nat.le_of_ble_eq_true rfl, veq_intro [[(.d (.v (.int .i32 65533))), (cI at_), (cI 1), (cB false)]] rfl ?_⟩⟩
            conv => whnf
            refine at_go ?_
            conv => whnf
            obtain rfl := Option.some.inj hf
            refine ret_c hB wf (fun _ => by rfl) ?_
            exact cv rfl rfl
          · replace hf := ifF h64 hf
            conv => whnf
            refine at_go ?_
            conv => whnf
            refine cut_go ?_
            conv => whnf
            refine cut_go ?_
            conv => whnf
            refine at_go ?_
            conv => whnf
            refine loop_sub (env' := [(0, (cS s_)), (1, (cI at_)), (4, (.ptr 0 0 0 0)), (6, (.ptr 1 0 0 0)), (7, (cI 2)), (8, (.d (.v (.int .i32 (iand .i32 (IntKind.i32.wrap ((x1.toNat : Int))) 15))))), (9, (cI 1))]) (st' := ⟨(upd (upd hp 0 (.row 0 4 T.clerestoryref01_R [[(.d (.v (.int .i32 0))), (cI 0), (cI 0), (cB false)]])) 1 (.row 0 4 T.clerestoryref01_R [[(.d (.v (.int .i32 65533))), (cI at_), (cI 1), (cB false)]])), 2, g⟩) (sk hB (fwE (fwE (fw0 wf (by rfl) (fun _ => by rfl)) rfl rfl rfl) rfl rfl rfl) (by rfl) (by rfl) ⟨cv rfl rfl, cv rfl rfl, cv rfl rfl, cv rfl rfl, cv rfl rfl, cv rfl rfl, cv rfl rfl, trivial⟩) ?_
            refine loop_f (α := Int × Int) (γ := Unit) (fun (_ : Unit) (v19, v20) => [(0, (cS s_)), (1, (cI at_)), (4, (.ptr 0 0 0 0)), (6, (.ptr 1 0 0 0)), (7, (cI 2)), (8, (.d (.v (.int .i32 v19)))), (9, (cI v20))]) (fun (_ : Unit) (v19, v20) => ⟨(upd (upd hp 0 (.row 0 4 T.clerestoryref01_R [[(.d (.v (.int .i32 0))), (cI 0), (cI 0), (cB false)]])) 1 (.row 0 4 T.clerestoryref01_R [[(.d (.v (.int .i32 65533))), (cI at_), (cI 1), (cB false)]])), 2, g⟩) (fun k s => clerestoryref01_one.w4 s_ at_ k s.1 s.2) (fun _ => rfl) ?_ K0 (iand .i32 (IntKind.i32.wrap ((x1.toNat : Int))) 15, 1) () hf
            intro k4 y gg hf
            obtain ⟨v19, v20⟩ := y
            replace hf : clerestoryref01_one.w4 s_ at_ (k4 + 1) v19 v20 = some _ := hf
            rw [clerestoryref01_one.w4] at hf
            try dsimp only
            conv => whnf
            refine cut_go ?_
            conv => whnf
            refine cut_go ?_
            conv => whnf
            refine at_go ?_
            conv => whnf
            refine vcond_intro (t := decide (v20 ≤ 2)) (fun h65 => ?_) (fun h66 => ?_)
            · replace hf := ifT h65 hf
              conv => whnf
              refine at_go ?_
              conv => whnf
              refine cut_go ?_
              conv => whnf
              refine ⟨by decide, ?_⟩
              conv => whnf
              refine veq_intro (ishl .i32 v19 6) rfl ?_
              conv => whnf
              refine veq_intro (IntKind.i64.wrap (at_ + v20)) rfl ?_
              obtain ⟨x21, h67, hf⟩ := bnd hf
              conv => whnf
              refine ⟨at_nn h67, ⟨_, at_get h67, ?_⟩⟩
              conv => whnf
              refine veq_intro (iand .u8 (x21.toNat : Int) 63) rfl ?_
              conv => whnf
              refine veq_intro (IntKind.i32.wrap (iand .u8 (x21.toNat : Int) 63)) rfl ?_
              conv => whnf
              refine veq_intro (ior .i32 (ishl .i32 v19 6) (IntKind.i32.wrap (iand .u8 (x21.toNat : Int) 63))) rfl ?_
              conv => whnf
              refine at_sub (env' := [(0, (cS s_)), (1, (cI at_)), (4, (.ptr 0 0 0 0)), (6, (.ptr 1 0 0 0)), (7, (cI 2)), (8, (.d (.v (.int .i32 (ior .i32 (ishl .i32 v19 6) (IntKind.i32.wrap (iand .u8 (x21.toNat : Int) 63))))))), (9, (cI v20))]) (st' := ⟨(upd (upd hp 0 (.row 0 4 T.clerestoryref01_R [[(.d (.v (.int .i32 0))), (cI 0), (cI 0), (cB false)]])) 1 (.row 0 4 T.clerestoryref01_R [[(.d (.v (.int .i32 65533))), (cI at_), (cI 1), (cB false)]])), 2, g⟩) (sk hB (fwE (fwE (fw0 wf (by rfl) (fun _ => by rfl)) rfl rfl rfl) rfl rfl rfl) (by rfl) (by rfl) ⟨cv rfl rfl, cv rfl rfl, cv rfl rfl, cv rfl rfl, cv rfl rfl, cv rfl rfl, cv rfl rfl, trivial⟩) ?_
              refine at_go ?_
              conv => whnf
              refine veq_intro (IntKind.i64.wrap (v20 + 1)) rfl ?_
              conv => whnf
              exact ⟨(ior .i32 (ishl .i32 v19 6) (IntKind.i32.wrap (iand .u8 (x21.toNat : Int) 63)), IntKind.i64.wrap (v20 + 1)), hf, (), sk hB (fwE (fwE (fw0 wf (by rfl) (fun _ => by rfl)) rfl rfl rfl) rfl rfl rfl) (by rfl) (by rfl) ⟨cv rfl rfl, cv rfl rfl, cv rfl rfl, cv rfl rfl, cv rfl rfl, cv rfl rfl, cv rfl rfl, trivial⟩⟩
            · replace hf := ifF h66 hf
              conv => whnf
              refine at_go ?_
              conv => whnf
              refine cut_go ?_
              conv => whnf
              refine cut_go ?_
              conv => whnf
              refine vcT rfl ?_
              conv => whnf
              refine vcT rfl ?_
              conv => whnf
              refine vcT rfl ?_
              conv => whnf
              refine vcond_intro (t := decide (v19 < 2048)) (fun h68 => ?_) (fun h69 => ?_)
              · replace hf := ifT h68 hf
                conv => whnf
                refine vcT rfl ?_
                conv => whnf
                refine vcT rfl ?_
                conv => whnf
                refine vcT rfl ?_
                conv => whnf
                refine vcT rfl ?_
                conv => whnf
                refine vcT rfl ?_
                conv => whnf
                refine vcT rfl ?_
                conv => whnf
                refine vcT rfl ?_
                conv => whnf
                refine vcT rfl ?_
                conv => whnf
                refine vcT rfl ?_
                conv => whnf
                refine vcT rfl ?_
                conv => whnf
                refine vcT rfl ?_
                conv => whnf
                refine at_sub (env' := [(1, (cI at_)), (4, (.ptr 0 0 0 0)), (6, (.ptr 1 0 0 0)), (7, (cI 2)), (8, (.d (.v (.int .i32 v19)))), (97, (cB true))]) (st' := ⟨(upd (upd hp 0 (.row 0 4 T.clerestoryref01_R [[(.d (.v (.int .i32 0))), (cI 0), (cI 0), (cB false)]])) 1 (.row 0 4 T.clerestoryref01_R [[(.d (.v (.int .i32 65533))), (cI at_), (cI 1), (cB false)]])), 2, g⟩) (sk hB (fwE (fwE (fw0 wf (by rfl) (fun _ => by rfl)) rfl rfl rfl) rfl rfl rfl) (by rfl) (by rfl) ⟨cv rfl rfl, cv rfl rfl, cv rfl rfl, cv rfl rfl, cv rfl rfl, cv rfl rfl, trivial⟩) ?_
                refine at_go ?_
                conv => whnf
                refine vcT rfl ?_
                conv => whnf
                refine cut_go ?_
                conv => whnf
                refine ⟨rfl, ⟨_, rfl, ?_⟩⟩
                conv => whnf
                refine ⟨⟨rfl, rfl⟩, ⟨_, rfl, Nat.le_of_ble_eq_true rfl, veq_intro [[(.d (.v (.int .i32 65533))), (cI at_), (cI 1), (cB false)]] rfl ?_⟩⟩
                conv => whnf
                refine at_go ?_
                conv => whnf
                obtain rfl := Option.some.inj hf
                refine ret_c hB wf (fun _ => by rfl) ?_
                exact cv rfl rfl
              · replace hf := ifF h69 hf
                conv => whnf
                refine vcF rfl ?_
                conv => whnf
                refine vcF rfl ?_
                conv => whnf
                refine vcond_intro (t := decide (55296 ≤ v19)) (fun h70 => ?_) (fun h71 => ?_)
                · replace hf := ifT h70 hf
                  conv => whnf
                  refine vcT rfl ?_
                  conv => whnf
                  refine vcF rfl ?_
                  conv => whnf
                  refine vcT rfl ?_
                  conv => whnf
                  refine vcT rfl ?_
                  conv => whnf
                  refine vcF rfl ?_
                  conv => whnf
                  refine vcT rfl ?_
                  conv => whnf
                  refine vcond_intro (t := decide (v19 < 57344)) (fun h72 => ?_) (fun h73 => ?_)
                  · replace hf := ifT h72 hf
                    conv => whnf
                    refine vcT rfl ?_
                    conv => whnf
                    refine vcT rfl ?_
                    conv => whnf
                    refine vcT rfl ?_
                    conv => whnf
                    refine vcT rfl ?_
                    conv => whnf
                    refine at_sub (env' := [(1, (cI at_)), (4, (.ptr 0 0 0 0)), (6, (.ptr 1 0 0 0)), (7, (cI 2)), (8, (.d (.v (.int .i32 v19)))), (97, (cB true))]) (st' := ⟨(upd (upd hp 0 (.row 0 4 T.clerestoryref01_R [[(.d (.v (.int .i32 0))), (cI 0), (cI 0), (cB false)]])) 1 (.row 0 4 T.clerestoryref01_R [[(.d (.v (.int .i32 65533))), (cI at_), (cI 1), (cB false)]])), 2, g⟩) (sk hB (fwE (fwE (fw0 wf (by rfl) (fun _ => by rfl)) rfl rfl rfl) rfl rfl rfl) (by rfl) (by rfl) ⟨cv rfl rfl, cv rfl rfl, cv rfl rfl, cv rfl rfl, cv rfl rfl, cv rfl rfl, trivial⟩) ?_
                    refine at_go ?_
                    conv => whnf
                    refine vcT rfl ?_
                    conv => whnf
                    refine cut_go ?_
                    conv => whnf
                    refine ⟨rfl, ⟨_, rfl, ?_⟩⟩
                    conv => whnf
                    refine ⟨⟨rfl, rfl⟩, ⟨_, rfl, Nat.le_of_ble_eq_true rfl, veq_intro [[(.d (.v (.int .i32 65533))), (cI at_), (cI 1), (cB false)]] rfl ?_⟩⟩
                    conv => whnf
                    refine at_go ?_
                    conv => whnf
                    obtain rfl := Option.some.inj hf
                    refine ret_c hB wf (fun _ => by rfl) ?_
                    exact cv rfl rfl
                  · replace hf := ifF h73 hf
                    conv => whnf
                    refine vcF rfl ?_
                    conv => whnf
                    refine vcF rfl ?_
                    conv => whnf
                    refine vcF rfl ?_
                    conv => whnf
                    refine vcF rfl ?_
                    conv => whnf
                    refine vcF rfl ?_
                    conv => whnf
                    refine vcF rfl ?_
                    conv => whnf
                    refine vcF rfl ?_
                    conv => whnf
                    refine vcF rfl ?_
                    conv => whnf
                    refine vcF rfl ?_
                    conv => whnf
                    refine at_sub (env' := [(1, (cI at_)), (4, (.ptr 0 0 0 0)), (6, (.ptr 1 0 0 0)), (7, (cI 2)), (8, (.d (.v (.int .i32 v19)))), (97, (cB false))]) (st' := ⟨(upd (upd hp 0 (.row 0 4 T.clerestoryref01_R [[(.d (.v (.int .i32 0))), (cI 0), (cI 0), (cB false)]])) 1 (.row 0 4 T.clerestoryref01_R [[(.d (.v (.int .i32 65533))), (cI at_), (cI 1), (cB false)]])), 2, g⟩) (sk hB (fwE (fwE (fw0 wf (by rfl) (fun _ => by rfl)) rfl rfl rfl) rfl rfl rfl) (by rfl) (by rfl) ⟨cv rfl rfl, cv rfl rfl, cv rfl rfl, cv rfl rfl, cv rfl rfl, cv rfl rfl, trivial⟩) ?_
                    refine at_go ?_
                    conv => whnf
                    refine vcF rfl ?_
                    conv => whnf
                    refine at_go ?_
                    conv => whnf
                    refine cut_go ?_
                    conv => whnf
                    refine veq_intro 3 rfl ?_
                    conv => whnf
                    refine ⟨⟨rfl, rfl⟩, ⟨_, rfl, Nat.le_of_ble_eq_true rfl, veq_intro [[(.d (.v (.int .i32 v19))), (cI at_), (cI 3), (cB true)]] rfl ?_⟩⟩
                    conv => whnf
                    refine at_go ?_
                    conv => whnf
                    obtain rfl := Option.some.inj hf
                    refine ret_c hB wf (fun _ => by rfl) ?_
                    exact cv rfl rfl
                · replace hf := ifF h71 hf
                  conv => whnf
                  refine vcF rfl ?_
                  conv => whnf
                  refine vcF rfl ?_
                  conv => whnf
                  refine vcF rfl ?_
                  conv => whnf
                  refine vcT rfl ?_
                  conv => whnf
                  refine vcF rfl ?_
                  conv => whnf
                  refine vcT rfl ?_
                  conv => whnf
                  refine vcF rfl ?_
                  conv => whnf
                  refine vcF rfl ?_
                  conv => whnf
                  refine vcF rfl ?_
                  conv => whnf
                  refine vcF rfl ?_
                  conv => whnf
                  refine vcF rfl ?_
                  conv => whnf
                  refine vcF rfl ?_
                  conv => whnf
                  refine vcF rfl ?_
                  conv => whnf
                  refine vcF rfl ?_
                  conv => whnf
                  refine vcF rfl ?_
                  conv => whnf
                  refine vcF rfl ?_
                  conv => whnf
                  refine at_sub (env' := [(1, (cI at_)), (4, (.ptr 0 0 0 0)), (6, (.ptr 1 0 0 0)), (7, (cI 2)), (8, (.d (.v (.int .i32 v19)))), (97, (cB false))]) (st' := ⟨(upd (upd hp 0 (.row 0 4 T.clerestoryref01_R [[(.d (.v (.int .i32 0))), (cI 0), (cI 0), (cB false)]])) 1 (.row 0 4 T.clerestoryref01_R [[(.d (.v (.int .i32 65533))), (cI at_), (cI 1), (cB false)]])), 2, g⟩) (sk hB (fwE (fwE (fw0 wf (by rfl) (fun _ => by rfl)) rfl rfl rfl) rfl rfl rfl) (by rfl) (by rfl) ⟨cv rfl rfl, cv rfl rfl, cv rfl rfl, cv rfl rfl, cv rfl rfl, cv rfl rfl, trivial⟩) ?_
                  refine at_go ?_
                  conv => whnf
                  refine vcF rfl ?_
                  conv => whnf
                  refine at_go ?_
                  conv => whnf
                  refine cut_go ?_
                  conv => whnf
                  refine veq_intro 3 rfl ?_
                  conv => whnf
                  refine ⟨⟨rfl, rfl⟩, ⟨_, rfl, Nat.le_of_ble_eq_true rfl, veq_intro [[(.d (.v (.int .i32 v19))), (cI at_), (cI 3), (cB true)]] rfl ?_⟩⟩
                  conv => whnf
                  refine at_go ?_
                  conv => whnf
                  obtain rfl := Option.some.inj hf
                  refine ret_c hB wf (fun _ => by rfl) ?_
                  exact cv rfl rfl
        · replace hf := ifF h61 hf
          conv => whnf
          refine cut_go ?_
          conv => whnf
          refine vcond_intro (t := decide (240 ≤ (IntKind.i32.wrap ((x1.toNat : Int))))) (fun h74 => ?_) (fun h75 => ?_)
          · replace hf := ifT h74 hf
            conv => whnf
            refine vcT rfl ?_
            conv => whnf
            refine vcT rfl ?_
            conv => whnf
            refine at_go ?_
            conv => whnf
            refine vcond_intro (t := decide ((IntKind.i32.wrap ((x1.toNat : Int))) < 245)) (fun h76 => ?_) (fun h77 => ?_)
            · replace hf := ifT h76 hf
              conv => whnf
              refine veq_intro (iand .i32 (IntKind.i32.wrap ((x1.toNat : Int))) 7) rfl ?_
              conv => whnf
              refine at_sub (env' := [(0, (cS s_)), (1, (cI at_)), (4, (.ptr 0 0 0 0)), (6, (.ptr 1 0 0 0)), (7, (cI 3)), (8, (.d (.v (.int .i32 (iand .i32 (IntKind.i32.wrap ((x1.toNat : Int))) 7)))))]) (st' := ⟨(upd (upd hp 0 (.row 0 4 T.clerestoryref01_R [[(.d (.v (.int .i32 0))), (cI 0), (cI 0), (cB false)]])) 1 (.row 0 4 T.clerestoryref01_R [[(.d (.v (.int .i32 65533))), (cI at_), (cI 1), (cB false)]])), 2, g⟩) (sk hB (fwE (fwE (fw0 wf (by rfl) (fun _ => by rfl)) rfl rfl rfl) rfl rfl rfl) (by rfl) (by rfl) ⟨cv rfl rfl, cv rfl rfl, cv rfl rfl, cv rfl rfl, cv rfl rfl, cv rfl rfl, trivial⟩) ?_
              refine at_go ?_
              conv => whnf
              refine cut_go ?_
              conv => whnf
              refine cut_go ?_
              conv => whnf
              refine veq_intro (IntKind.i64.wrap (at_ + 1)) rfl ?_
              obtain ⟨x22, h78, hf⟩ := bnd hf
              conv => whnf
              refine (clerestoryref01_cont.pure s_ (IntKind.i64.wrap (at_ + 1)) 3 x22 h78).call ?_
              conv => whnf
              refine at_go ?_
              conv => whnf
              refine vcond_intro (t := !x22) (fun h79 => ?_) (fun h80 => ?_)
              · replace hf := ifT h79 hf
                conv => whnf
                refine cut_go ?_
                conv => whnf
                refine ⟨rfl, ⟨_, rfl, ?_⟩⟩
                conv => whnf
                refine ⟨⟨rfl, rfl⟩, ⟨_, rfl, Nat.le_of_ble_eq_true rfl, veq_intro [[(.d (.v (.int .i32 65533))), (cI at_), (cI 1), (cB false)]] rfl ?_⟩⟩
                conv => whnf
                refine at_go ?_
                conv => whnf
                obtain rfl := Option.some.inj hf
                refine ret_c hB wf (fun _ => by rfl) ?_
                exact cv rfl rfl
              · replace hf := ifF h80 hf
                conv => whnf
                refine at_go ?_
                conv => whnf
                refine cut_go ?_
                conv => whnf
                refine cut_go ?_
                conv => whnf
                refine at_sub (env' := [(0, (cS s_)), (1, (cI at_)), (4, (.ptr 0 0 0 0)), (6, (.ptr 1 0 0 0)), (7, (cI 3)), (8, (.d (.v (.int .i32 (iand .i32 (IntKind.i32.wrap ((x1.toNat : Int))) 7))))), (9, (cI 1))]) (st' := ⟨(upd (upd hp 0 (.row 0 4 T.clerestoryref01_R [[(.d (.v (.int .i32 0))), (cI 0), (cI 0), (cB false)]])) 1 (.row 0 4 T.clerestoryref01_R [[(.d (.v (.int .i32 65533))), (cI at_), (cI 1), (cB false)]])), 2, g⟩) (sk hB (fwE (fwE (fw0 wf (by rfl) (fun _ => by rfl)) rfl rfl rfl) rfl rfl rfl) (by rfl) (by rfl) ⟨cv rfl rfl, cv rfl rfl, cv rfl rfl, cv rfl rfl, cv rfl rfl, cv rfl rfl, cv rfl rfl, trivial⟩) ?_
                refine at_go ?_
                conv => whnf
                refine loop_sub (env' := [(0, (cS s_)), (1, (cI at_)), (4, (.ptr 0 0 0 0)), (6, (.ptr 1 0 0 0)), (7, (cI 3)), (8, (.d (.v (.int .i32 (iand .i32 (IntKind.i32.wrap ((x1.toNat : Int))) 7))))), (9, (cI 1))]) (st' := ⟨(upd (upd hp 0 (.row 0 4 T.clerestoryref01_R [[(.d (.v (.int .i32 0))), (cI 0), (cI 0), (cB false)]])) 1 (.row 0 4 T.clerestoryref01_R [[(.d (.v (.int .i32 65533))), (cI at_), (cI 1), (cB false)]])), 2, g⟩) (sk hB (fwE (fwE (fw0 wf (by rfl) (fun _ => by rfl)) rfl rfl rfl) rfl rfl rfl) (by rfl) (by rfl) ⟨cv rfl rfl, cv rfl rfl, cv rfl rfl, cv rfl rfl, cv rfl rfl, cv rfl rfl, cv rfl rfl, trivial⟩) ?_
                refine loop_f (α := Int × Int) (γ := Unit) (fun (_ : Unit) (v23, v24) => [(0, (cS s_)), (1, (cI at_)), (4, (.ptr 0 0 0 0)), (6, (.ptr 1 0 0 0)), (7, (cI 3)), (8, (.d (.v (.int .i32 v23)))), (9, (cI v24))]) (fun (_ : Unit) (v23, v24) => ⟨(upd (upd hp 0 (.row 0 4 T.clerestoryref01_R [[(.d (.v (.int .i32 0))), (cI 0), (cI 0), (cB false)]])) 1 (.row 0 4 T.clerestoryref01_R [[(.d (.v (.int .i32 65533))), (cI at_), (cI 1), (cB false)]])), 2, g⟩) (fun k s => clerestoryref01_one.w5 s_ at_ k s.1 s.2) (fun _ => rfl) ?_ K0 (iand .i32 (IntKind.i32.wrap ((x1.toNat : Int))) 7, 1) () hf
                intro k5 y gg hf
                obtain ⟨v23, v24⟩ := y
                replace hf : clerestoryref01_one.w5 s_ at_ (k5 + 1) v23 v24 = some _ := hf
                rw [clerestoryref01_one.w5] at hf
                try dsimp only
                conv => whnf
                refine cut_go ?_
                conv => whnf
                refine cut_go ?_
                conv => whnf
                refine at_go ?_
                conv => whnf
                refine vcond_intro (t := decide (v24 ≤ 3)) (fun h81 => ?_) (fun h82 => ?_)
                · replace hf := ifT h81 hf
                  conv => whnf
                  refine at_go ?_
                  conv => whnf
                  refine cut_go ?_
                  conv => whnf
                  refine ⟨by decide, ?_⟩
                  conv => whnf
                  refine veq_intro (ishl .i32 v23 6) rfl ?_
                  conv => whnf
                  refine veq_intro (IntKind.i64.wrap (at_ + v24)) rfl ?_
                  obtain ⟨x25, h83, hf⟩ := bnd hf
                  conv => whnf
                  refine ⟨at_nn h83, ⟨_, at_get h83, ?_⟩⟩
                  conv => whnf
                  refine veq_intro (iand .u8 (x25.toNat : Int) 63) rfl ?_
                  conv => whnf
                  refine veq_intro (IntKind.i32.wrap (iand .u8 (x25.toNat : Int) 63)) rfl ?_
                  conv => whnf
                  refine veq_intro (ior .i32 (ishl .i32 v23 6) (IntKind.i32.wrap (iand .u8 (x25.toNat : Int) 63))) rfl ?_
                  conv => whnf
                  refine at_sub (env' := [(0, (cS s_)), (1, (cI at_)), (4, (.ptr 0 0 0 0)), (6, (.ptr 1 0 0 0)), (7, (cI 3)), (8, (.d (.v (.int .i32 (ior .i32 (ishl .i32 v23 6) (IntKind.i32.wrap (iand .u8 (x25.toNat : Int) 63))))))), (9, (cI v24))]) (st' := ⟨(upd (upd hp 0 (.row 0 4 T.clerestoryref01_R [[(.d (.v (.int .i32 0))), (cI 0), (cI 0), (cB false)]])) 1 (.row 0 4 T.clerestoryref01_R [[(.d (.v (.int .i32 65533))), (cI at_), (cI 1), (cB false)]])), 2, g⟩) (sk hB (fwE (fwE (fw0 wf (by rfl) (fun _ => by rfl)) rfl rfl rfl) rfl rfl rfl) (by rfl) (by rfl) ⟨cv rfl rfl, cv rfl rfl, cv rfl rfl, cv rfl rfl, cv rfl rfl, cv rfl rfl, cv rfl rfl, trivial⟩) ?_
                  refine at_go ?_
                  conv => whnf
                  refine veq_intro (IntKind.i64.wrap (v24 + 1)) rfl ?_
                  conv => whnf
                  exact ⟨(ior .i32 (ishl .i32 v23 6) (IntKind.i32.wrap (iand .u8 (x25.toNat : Int) 63)), IntKind.i64.wrap (v24 + 1)), hf, (), sk hB (fwE (fwE (fw0 wf (by rfl) (fun _ => by rfl)) rfl rfl rfl) rfl rfl rfl) (by rfl) (by rfl) ⟨cv rfl rfl, cv rfl rfl, cv rfl rfl, cv rfl rfl, cv rfl rfl, cv rfl rfl, cv rfl rfl, trivial⟩⟩
                · replace hf := ifF h82 hf
                  conv => whnf
                  refine at_go ?_
                  conv => whnf
                  refine cut_go ?_
                  conv => whnf
                  refine cut_go ?_
                  conv => whnf
                  refine vcF rfl ?_
                  conv => whnf
                  refine vcF rfl ?_
                  conv => whnf
                  refine vcF rfl ?_
                  conv => whnf
                  refine vcF rfl ?_
                  conv => whnf
                  refine vcF rfl ?_
                  conv => whnf
                  refine vcF rfl ?_
                  conv => whnf
                  refine vcF rfl ?_
                  conv => whnf
                  refine vcF rfl ?_
                  conv => whnf
                  refine vcT rfl ?_
                  conv => whnf
                  refine vcT rfl ?_
                  conv => whnf
                  refine vcT rfl ?_
                  conv => whnf
                  refine vcond_intro (t := decide (v23 < 65536)) (fun h84 => ?_) (fun h85 => ?_)
                  · replace hf := ifT h84 hf
                    conv => whnf
                    refine vcT rfl ?_
                    conv => whnf
                    refine vcT rfl ?_
                    conv => whnf
                    refine vcT rfl ?_
                    conv => whnf
                    refine vcF rfl ?_
                    conv => whnf
                    refine vcT rfl ?_
                    conv => whnf
                    refine vcF rfl ?_
                    conv => whnf
                    refine at_sub (env' := [(1, (cI at_)), (4, (.ptr 0 0 0 0)), (6, (.ptr 1 0 0 0)), (7, (cI 3)), (8, (.d (.v (.int .i32 v23)))), (97, (cB true))]) (st' := ⟨(upd (upd hp 0 (.row 0 4 T.clerestoryref01_R [[(.d (.v (.int .i32 0))), (cI 0), (cI 0), (cB false)]])) 1 (.row 0 4 T.clerestoryref01_R [[(.d (.v (.int .i32 65533))), (cI at_), (cI 1), (cB false)]])), 2, g⟩) (sk hB (fwE (fwE (fw0 wf (by rfl) (fun _ => by rfl)) rfl rfl rfl) rfl rfl rfl) (by rfl) (by rfl) ⟨cv rfl rfl, cv rfl rfl, cv rfl rfl, cv rfl rfl, cv rfl rfl, cv rfl rfl, trivial⟩) ?_
                    refine at_go ?_
                    conv => whnf
                    refine vcT rfl ?_
                    conv => whnf
                    refine cut_go ?_
                    conv => whnf
                    refine ⟨rfl, ⟨_, rfl, ?_⟩⟩
                    conv => whnf
                    refine ⟨⟨rfl, rfl⟩, ⟨_, rfl, Nat.le_of_ble_eq_true rfl, veq_intro [[(.d (.v (.int .i32 65533))), (cI at_), (cI 1), (cB false)]] rfl ?_⟩⟩
                    conv => whnf
                    refine at_go ?_
                    conv => whnf
                    obtain rfl := Option.some.inj hf
                    refine ret_c hB wf (fun _ => by rfl) ?_
                    exact cv rfl rfl
                  · replace hf := ifF h85 hf
                    conv => whnf
                    refine vcF rfl ?_
                    conv => whnf
                    refine vcT rfl ?_
                    conv => whnf
                    refine vcF rfl ?_
                    conv => whnf
                    refine vcF rfl ?_
                    conv => whnf
                    refine vcT rfl ?_
                    conv => whnf
                    refine vcF rfl ?_
                    conv => whnf
                    refine at_sub (env' := [(1, (cI at_)), (4, (.ptr 0 0 0 0)), (6, (.ptr 1 0 0 0)), (7, (cI 3)), (8, (.d (.v (.int .i32 v23)))), (97, (cB (decide (1114111 < v23))))]) (st' := ⟨(upd (upd hp 0 (.row 0 4 T.clerestoryref01_R [[(.d (.v (.int .i32 0))), (cI 0), (cI 0), (cB false)]])) 1 (.row 0 4 T.clerestoryref01_R [[(.d (.v (.int .i32 65533))), (cI at_), (cI 1), (cB false)]])), 2, g⟩) (sk hB (fwE (fwE (fw0 wf (by rfl) (fun _ => by rfl)) rfl rfl rfl) rfl rfl rfl) (by rfl) (by rfl) ⟨cv rfl rfl, cv rfl rfl, cv rfl rfl, cv rfl rfl, cv rfl rfl, cv rfl rfl, trivial⟩) ?_
                    refine at_go ?_
                    conv => whnf
                    refine vcond_intro (t := decide (1114111 < v23)) (fun h86 => ?_) (fun h87 => ?_)
                    · replace hf := ifT h86 hf
                      conv => whnf
                      refine cut_go ?_
                      conv => whnf
                      refine ⟨rfl, ⟨_, rfl, ?_⟩⟩
                      conv => whnf
                      refine ⟨⟨rfl, rfl⟩, ⟨_, rfl, Nat.le_of_ble_eq_true rfl, veq_intro [[(.d (.v (.int .i32 65533))), (cI at_), (cI 1), (cB false)]] rfl ?_⟩⟩
                      conv => whnf
                      refine at_go ?_
                      conv => whnf
                      obtain rfl := Option.some.inj hf
                      refine ret_c hB wf (fun _ => by rfl) ?_
                      exact cv rfl rfl
                    · replace hf := ifF h87 hf
                      conv => whnf
                      refine at_go ?_
                      conv => whnf
                      refine cut_go ?_
                      conv => whnf
                      refine veq_intro 4 rfl ?_
                      conv => whnf
                      refine ⟨⟨rfl, rfl⟩, ⟨_, rfl, Nat.le_of_ble_eq_true rfl, veq_intro [[(.d (.v (.int .i32 v23))), (cI at_), (cI 4), (cB true)]] rfl ?_⟩⟩
                      conv => whnf
                      refine at_go ?_
                      conv => whnf
                      obtain rfl := Option.some.inj hf
                      refine ret_c hB wf (fun _ => by rfl) ?_
                      exact cv rfl rfl
            · replace hf := ifF h77 hf
              conv => whnf
              refine cut_go ?_
              conv => whnf
              refine ⟨rfl, ⟨_, rfl, ?_⟩⟩
              conv => whnf
              refine ⟨⟨rfl, rfl⟩, ⟨_, rfl, Nat.le_of_ble_eq_true rfl, veq_intro [[(.d (.v (.int .i32 65533))), (cI at_), (cI 1), (cB false)]] rfl ?_⟩⟩
              conv => whnf
              refine at_sub (env' := [(4, (.ptr 0 0 0 0))]) (st' := ⟨(upd hp 0 (.row 0 4 T.clerestoryref01_R [[(.d (.v (.int .i32 65533))), (cI at_), (cI 1), (cB false)]])), 1, g⟩) (sk hB (fwE (fw0 wf (by rfl) (fun _ => by rfl)) rfl rfl rfl) (by rfl) (by rfl) ⟨cv rfl rfl, trivial⟩) ?_
              refine at_go ?_
              conv => whnf
              obtain rfl := Option.some.inj hf
              refine ret_c hB wf (fun _ => by rfl) ?_
              exact cv rfl rfl
          · replace hf := ifF h75 hf
            conv => whnf
            refine vcF rfl ?_
            conv => whnf
            refine vcF rfl ?_
            conv => whnf
            refine at_go ?_
            conv => whnf
            refine vcF rfl ?_
            conv => whnf
            refine cut_go ?_
            conv => whnf
            refine ⟨rfl, ⟨_, rfl, ?_⟩⟩
            conv => whnf
            refine ⟨⟨rfl, rfl⟩, ⟨_, rfl, Nat.le_of_ble_eq_true rfl, veq_intro [[(.d (.v (.int .i32 65533))), (cI at_), (cI 1), (cB false)]] rfl ?_⟩⟩
            conv => whnf
            refine at_sub (env' := [(4, (.ptr 0 0 0 0))]) (st' := ⟨(upd hp 0 (.row 0 4 T.clerestoryref01_R [[(.d (.v (.int .i32 65533))), (cI at_), (cI 1), (cB false)]])), 1, g⟩) (sk hB (fwE (fw0 wf (by rfl) (fun _ => by rfl)) rfl rfl rfl) (by rfl) (by rfl) ⟨cv rfl rfl, trivial⟩) ?_
            refine at_go ?_
            conv => whnf
            obtain rfl := Option.some.inj hf
            refine ret_c hB wf (fun _ => by rfl) ?_
            exact cv rfl rfl
      · replace hf := ifF h59 hf
        conv => whnf
        refine vcF rfl ?_
        conv => whnf
        refine vcF rfl ?_
        conv => whnf
        refine at_go ?_
        conv => whnf
        refine vcF rfl ?_
        conv => whnf
        refine cut_go ?_
        conv => whnf
        refine vcond_intro (t := decide (240 ≤ (IntKind.i32.wrap ((x1.toNat : Int))))) (fun h88 => ?_) (fun h89 => ?_)
        · replace hf := ifT h88 hf
          conv => whnf
          refine vcT rfl ?_
          conv => whnf
          refine vcT rfl ?_
          conv => whnf
          refine at_go ?_
          conv => whnf
          refine vcond_intro (t := decide ((IntKind.i32.wrap ((x1.toNat : Int))) < 245)) (fun h90 => ?_) (fun h91 => ?_)
          · replace hf := ifT h90 hf
            conv => whnf
            refine veq_intro (iand .i32 (IntKind.i32.wrap ((x1.toNat : Int))) 7) rfl ?_
            conv => whnf
            refine at_sub (env' := [(0, (cS s_)), (1, (cI at_)), (4, (.ptr 0 0 0 0)), (6, (.ptr 1 0 0 0)), (7, (cI 3)), (8, (.d (.v (.int .i32 (iand .i32 (IntKind.i32.wrap ((x1.toNat : Int))) 7)))))]) (st' := ⟨(upd (upd hp 0 (.row 0 4 T.clerestoryref01_R [[(.d (.v (.int .i32 0))), (cI 0), (cI 0), (cB false)]])) 1 (.row 0 4 T.clerestoryref01_R [[(.d (.v (.int .i32 65533))), (cI at_), (cI 1), (cB false)]])), 2, g⟩) (sk hB (fwE (fwE (fw0 wf (by rfl) (fun _ => by rfl)) rfl rfl rfl) rfl rfl rfl) (by rfl) (by rfl) ⟨cv rfl rfl, cv rfl rfl, cv rfl rfl, cv rfl rfl, cv rfl rfl, cv rfl rfl, trivial⟩) ?_
            refine at_go ?_
            conv => whnf
            refine cut_go ?_
            conv => whnf
            refine cut_go ?_
            conv => whnf
            refine veq_intro (IntKind.i64.wrap (at_ + 1)) rfl ?_
            obtain ⟨x26, h92, hf⟩ := bnd hf
            conv => whnf
            refine (clerestoryref01_cont.pure s_ (IntKind.i64.wrap (at_ + 1)) 3 x26 h92).call ?_
            conv => whnf
            refine at_go ?_
            conv => whnf
            refine vcond_intro (t := !x26) (fun h93 => ?_) (fun h94 => ?_)
            · replace hf := ifT h93 hf
              conv => whnf
              refine cut_go ?_
              conv => whnf
              refine ⟨rfl, ⟨_, rfl, ?_⟩⟩
              conv => whnf
              refine ⟨⟨rfl, rfl⟩, ⟨_, rfl, Nat.le_of_ble_eq_true rfl, veq_intro [[(.d (.v (.int .i32 65533))), (cI at_), (cI 1), (cB false)]] rfl ?_⟩⟩
              conv => whnf
              refine at_go ?_
              conv => whnf
              obtain rfl := Option.some.inj hf
              refine ret_c hB wf (fun _ => by rfl) ?_
              exact cv rfl rfl
            · replace hf := ifF h94 hf
              conv => whnf
              refine at_go ?_
              conv => whnf
              refine cut_go ?_
              conv => whnf
              refine cut_go ?_
              conv => whnf
              refine at_sub (env' := [(0, (cS s_)), (1, (cI at_)), (4, (.ptr 0 0 0 0)), (6, (.ptr 1 0 0 0)), (7, (cI 3)), (8, (.d (.v (.int .i32 (iand .i32 (IntKind.i32.wrap ((x1.toNat : Int))) 7))))), (9, (cI 1))]) (st' := ⟨(upd (upd hp 0 (.row 0 4 T.clerestoryref01_R [[(.d (.v (.int .i32 0))), (cI 0), (cI 0), (cB false)]])) 1 (.row 0 4 T.clerestoryref01_R [[(.d (.v (.int .i32 65533))), (cI at_), (cI 1), (cB false)]])), 2, g⟩) (sk hB (fwE (fwE (fw0 wf (by rfl) (fun _ => by rfl)) rfl rfl rfl) rfl rfl rfl) (by rfl) (by rfl) ⟨cv rfl rfl, cv rfl rfl, cv rfl rfl, cv rfl rfl, cv rfl rfl, cv rfl rfl, cv rfl rfl, trivial⟩) ?_
              refine at_go ?_
              conv => whnf
              refine loop_sub (env' := [(0, (cS s_)), (1, (cI at_)), (4, (.ptr 0 0 0 0)), (6, (.ptr 1 0 0 0)), (7, (cI 3)), (8, (.d (.v (.int .i32 (iand .i32 (IntKind.i32.wrap ((x1.toNat : Int))) 7))))), (9, (cI 1))]) (st' := ⟨(upd (upd hp 0 (.row 0 4 T.clerestoryref01_R [[(.d (.v (.int .i32 0))), (cI 0), (cI 0), (cB false)]])) 1 (.row 0 4 T.clerestoryref01_R [[(.d (.v (.int .i32 65533))), (cI at_), (cI 1), (cB false)]])), 2, g⟩) (sk hB (fwE (fwE (fw0 wf (by rfl) (fun _ => by rfl)) rfl rfl rfl) rfl rfl rfl) (by rfl) (by rfl) ⟨cv rfl rfl, cv rfl rfl, cv rfl rfl, cv rfl rfl, cv rfl rfl, cv rfl rfl, cv rfl rfl, trivial⟩) ?_
              refine loop_f (α := Int × Int) (γ := Unit) (fun (_ : Unit) (v27, v28) => [(0, (cS s_)), (1, (cI at_)), (4, (.ptr 0 0 0 0)), (6, (.ptr 1 0 0 0)), (7, (cI 3)), (8, (.d (.v (.int .i32 v27)))), (9, (cI v28))]) (fun (_ : Unit) (v27, v28) => ⟨(upd (upd hp 0 (.row 0 4 T.clerestoryref01_R [[(.d (.v (.int .i32 0))), (cI 0), (cI 0), (cB false)]])) 1 (.row 0 4 T.clerestoryref01_R [[(.d (.v (.int .i32 65533))), (cI at_), (cI 1), (cB false)]])), 2, g⟩) (fun k s => clerestoryref01_one.w6 s_ at_ k s.1 s.2) (fun _ => rfl) ?_ K0 (iand .i32 (IntKind.i32.wrap ((x1.toNat : Int))) 7, 1) () hf
              intro k6 y gg hf
              obtain ⟨v27, v28⟩ := y
              replace hf : clerestoryref01_one.w6 s_ at_ (k6 + 1) v27 v28 = some _ := hf
              rw [clerestoryref01_one.w6] at hf
              try dsimp only
              conv => whnf
              refine cut_go ?_
              conv => whnf
              refine cut_go ?_
              conv => whnf
              refine at_go ?_
              conv => whnf
              refine vcond_intro (t := decide (v28 ≤ 3)) (fun h95 => ?_) (fun h96 => ?_)
              · replace hf := ifT h95 hf
                conv => whnf
                refine at_go ?_
                conv => whnf
                refine cut_go ?_
                conv => whnf
                refine ⟨by decide, ?_⟩
                conv => whnf
                refine veq_intro (ishl .i32 v27 6) rfl ?_
                conv => whnf
                refine veq_intro (IntKind.i64.wrap (at_ + v28)) rfl ?_
                obtain ⟨x29, h97, hf⟩ := bnd hf
                conv => whnf
                refine ⟨at_nn h97, ⟨_, at_get h97, ?_⟩⟩
                conv => whnf
                refine veq_intro (iand .u8 (x29.toNat : Int) 63) rfl ?_
                conv => whnf
                refine veq_intro (IntKind.i32.wrap (iand .u8 (x29.toNat : Int) 63)) rfl ?_
                conv => whnf
                refine veq_intro (ior .i32 (ishl .i32 v27 6) (IntKind.i32.wrap (iand .u8 (x29.toNat : Int) 63))) rfl ?_
                conv => whnf
                refine at_sub (env' := [(0, (cS s_)), (1, (cI at_)), (4, (.ptr 0 0 0 0)), (6, (.ptr 1 0 0 0)), (7, (cI 3)), (8, (.d (.v (.int .i32 (ior .i32 (ishl .i32 v27 6) (IntKind.i32.wrap (iand .u8 (x29.toNat : Int) 63))))))), (9, (cI v28))]) (st' := ⟨(upd (upd hp 0 (.row 0 4 T.clerestoryref01_R [[(.d (.v (.int .i32 0))), (cI 0), (cI 0), (cB false)]])) 1 (.row 0 4 T.clerestoryref01_R [[(.d (.v (.int .i32 65533))), (cI at_), (cI 1), (cB false)]])), 2, g⟩) (sk hB (fwE (fwE (fw0 wf (by rfl) (fun _ => by rfl)) rfl rfl rfl) rfl rfl rfl) (by rfl) (by rfl) ⟨cv rfl rfl, cv rfl rfl, cv rfl rfl, cv rfl rfl, cv rfl rfl, cv rfl rfl, cv rfl rfl, trivial⟩) ?_
                refine at_go ?_
                conv => whnf
                refine veq_intro (IntKind.i64.wrap (v28 + 1)) rfl ?_
                conv => whnf
                exact ⟨(ior .i32 (ishl .i32 v27 6) (IntKind.i32.wrap (iand .u8 (x29.toNat : Int) 63)), IntKind.i64.wrap (v28 + 1)), hf, (), sk hB (fwE (fwE (fw0 wf (by rfl) (fun _ => by rfl)) rfl rfl rfl) rfl rfl rfl) (by rfl) (by rfl) ⟨cv rfl rfl, cv rfl rfl, cv rfl rfl, cv rfl rfl, cv rfl rfl, cv rfl rfl, cv rfl rfl, trivial⟩⟩
              · replace hf := ifF h96 hf
                conv => whnf
                refine at_go ?_
                conv => whnf
                refine cut_go ?_
                conv => whnf
                refine cut_go ?_
                conv => whnf
                refine vcF rfl ?_
                conv => whnf
                refine vcF rfl ?_
                conv => whnf
                refine vcF rfl ?_
                conv => whnf
                refine vcF rfl ?_
                conv => whnf
                refine vcF rfl ?_
                conv => whnf
                refine vcF rfl ?_
                conv => whnf
                refine vcF rfl ?_
                conv => whnf
                refine vcF rfl ?_
                conv => whnf
                refine vcT rfl ?_
                conv => whnf
                refine vcT rfl ?_
                conv => whnf
                refine vcT rfl ?_
                conv => whnf
                refine vcond_intro (t := decide (v27 < 65536)) (fun h98 => ?_) (fun h99 => ?_)
                · replace hf := ifT h98 hf
                  conv => whnf
                  refine vcT rfl ?_
                  conv => whnf
                  refine vcT rfl ?_
                  conv => whnf
                  refine vcT rfl ?_
                  conv => whnf
                  refine vcF rfl ?_
                  conv => whnf
                  refine vcT rfl ?_
                  conv => whnf
                  refine vcF rfl ?_
                  conv => whnf
                  refine at_sub (env' := [(1, (cI at_)), (4, (.ptr 0 0 0 0)), (6, (.ptr 1 0 0 0)), (7, (cI 3)), (8, (.d (.v (.int .i32 v27)))), (97, (cB true))]) (st' := ⟨(upd (upd hp 0 (.row 0 4 T.clerestoryref01_R [[(.d (.v (.int .i32 0))), (cI 0), (cI 0), (cB false)]])) 1 (.row 0 4 T.clerestoryref01_R [[(.d (.v (.int .i32 65533))), (cI at_), (cI 1), (cB false)]])), 2, g⟩) (sk hB (fwE (fwE (fw0 wf (by rfl) (fun _ => by rfl)) rfl rfl rfl) rfl rfl rfl) (by rfl) (by rfl) ⟨cv rfl rfl, cv rfl rfl, cv rfl rfl, cv rfl rfl, cv rfl rfl, cv rfl rfl, trivial⟩) ?_
                  refine at_go ?_
                  conv => whnf
                  refine vcT rfl ?_
                  conv => whnf
                  refine cut_go ?_
                  conv => whnf
                  refine ⟨rfl, ⟨_, rfl, ?_⟩⟩
                  conv => whnf
                  refine ⟨⟨rfl, rfl⟩, ⟨_, rfl, Nat.le_of_ble_eq_true rfl, veq_intro [[(.d (.v (.int .i32 65533))), (cI at_), (cI 1), (cB false)]] rfl ?_⟩⟩
                  conv => whnf
                  refine at_go ?_
                  conv => whnf
                  obtain rfl := Option.some.inj hf
                  refine ret_c hB wf (fun _ => by rfl) ?_
                  exact cv rfl rfl
                · replace hf := ifF h99 hf
                  conv => whnf
                  refine vcF rfl ?_
                  conv => whnf
                  refine vcT rfl ?_
                  conv => whnf
                  refine vcF rfl ?_
                  conv => whnf
                  refine vcF rfl ?_
                  conv => whnf
                  refine vcT rfl ?_
                  conv => whnf
                  refine vcF rfl ?_
                  conv => whnf
                  refine at_sub (env' := [(1, (cI at_)), (4, (.ptr 0 0 0 0)), (6, (.ptr 1 0 0 0)), (7, (cI 3)), (8, (.d (.v (.int .i32 v27)))), (97, (cB (decide (1114111 < v27))))]) (st' := ⟨(upd (upd hp 0 (.row 0 4 T.clerestoryref01_R [[(.d (.v (.int .i32 0))), (cI 0), (cI 0), (cB false)]])) 1 (.row 0 4 T.clerestoryref01_R [[(.d (.v (.int .i32 65533))), (cI at_), (cI 1), (cB false)]])), 2, g⟩) (sk hB (fwE (fwE (fw0 wf (by rfl) (fun _ => by rfl)) rfl rfl rfl) rfl rfl rfl) (by rfl) (by rfl) ⟨cv rfl rfl, cv rfl rfl, cv rfl rfl, cv rfl rfl, cv rfl rfl, cv rfl rfl, trivial⟩) ?_
                  refine at_go ?_
                  conv => whnf
                  refine vcond_intro (t := decide (1114111 < v27)) (fun h100 => ?_) (fun h101 => ?_)
                  · replace hf := ifT h100 hf
                    conv => whnf
                    refine cut_go ?_
                    conv => whnf
                    refine ⟨rfl, ⟨_, rfl, ?_⟩⟩
                    conv => whnf
                    refine ⟨⟨rfl, rfl⟩, ⟨_, rfl, Nat.le_of_ble_eq_true rfl, veq_intro [[(.d (.v (.int .i32 65533))), (cI at_), (cI 1), (cB false)]] rfl ?_⟩⟩
                    conv => whnf
                    refine at_go ?_
                    conv => whnf
                    obtain rfl := Option.some.inj hf
                    refine ret_c hB wf (fun _ => by rfl) ?_
                    exact cv rfl rfl
                  · replace hf := ifF h101 hf
                    conv => whnf
                    refine at_go ?_
                    conv => whnf
                    refine cut_go ?_
                    conv => whnf
                    refine veq_intro 4 rfl ?_
                    conv => whnf
                    refine ⟨⟨rfl, rfl⟩, ⟨_, rfl, Nat.le_of_ble_eq_true rfl, veq_intro [[(.d (.v (.int .i32 v27))), (cI at_), (cI 4), (cB true)]] rfl ?_⟩⟩
                    conv => whnf
                    refine at_go ?_
                    conv => whnf
                    obtain rfl := Option.some.inj hf
                    refine ret_c hB wf (fun _ => by rfl) ?_
                    exact cv rfl rfl
          · replace hf := ifF h91 hf
            conv => whnf
            refine cut_go ?_
            conv => whnf
            refine ⟨rfl, ⟨_, rfl, ?_⟩⟩
            conv => whnf
            refine ⟨⟨rfl, rfl⟩, ⟨_, rfl, Nat.le_of_ble_eq_true rfl, veq_intro [[(.d (.v (.int .i32 65533))), (cI at_), (cI 1), (cB false)]] rfl ?_⟩⟩
            conv => whnf
            refine at_sub (env' := [(4, (.ptr 0 0 0 0))]) (st' := ⟨(upd hp 0 (.row 0 4 T.clerestoryref01_R [[(.d (.v (.int .i32 65533))), (cI at_), (cI 1), (cB false)]])), 1, g⟩) (sk hB (fwE (fw0 wf (by rfl) (fun _ => by rfl)) rfl rfl rfl) (by rfl) (by rfl) ⟨cv rfl rfl, trivial⟩) ?_
            refine at_go ?_
            conv => whnf
            obtain rfl := Option.some.inj hf
            refine ret_c hB wf (fun _ => by rfl) ?_
            exact cv rfl rfl
        · replace hf := ifF h89 hf
          conv => whnf
          refine vcF rfl ?_
          conv => whnf
          refine vcF rfl ?_
          conv => whnf
          refine at_go ?_
          conv => whnf
          refine vcF rfl ?_
          conv => whnf
          refine cut_go ?_
          conv => whnf
          refine ⟨rfl, ⟨_, rfl, ?_⟩⟩
          conv => whnf
          refine ⟨⟨rfl, rfl⟩, ⟨_, rfl, Nat.le_of_ble_eq_true rfl, veq_intro [[(.d (.v (.int .i32 65533))), (cI at_), (cI 1), (cB false)]] rfl ?_⟩⟩
          conv => whnf
          refine at_sub (env' := [(4, (.ptr 0 0 0 0))]) (st' := ⟨(upd hp 0 (.row 0 4 T.clerestoryref01_R [[(.d (.v (.int .i32 65533))), (cI at_), (cI 1), (cB false)]])), 1, g⟩) (sk hB (fwE (fw0 wf (by rfl) (fun _ => by rfl)) rfl rfl rfl) (by rfl) (by rfl) ⟨cv rfl rfl, trivial⟩) ?_
          refine at_go ?_
          conv => whnf
          obtain rfl := Option.some.inj hf
          refine ret_c hB wf (fun _ => by rfl) ?_
          exact cv rfl rfl

end Go.Eng
