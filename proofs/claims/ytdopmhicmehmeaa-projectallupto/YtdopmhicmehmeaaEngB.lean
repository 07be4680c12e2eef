/-
  Part of the proof that the law ProjectAll returns true at every input of bulk at most 1048576, and leaves its arguments as they were; the whole is stated at the end of the last text.
-/
import Derived.Test.YtdopmhicmehmeaaEngA
/-
  THE ENGINE, PART 2: operations with their types resolved, and what they do on abstract values.
-/
set_option linter.unusedVariables false
namespace Go.Eng
open Go

inductive RX where
  | t (n : Nat)
  | c (x : AV)

/-- Kinds of plain cells. -/
inductive PK where
  | i | b | s

/-- An operation, its types resolved to sizes and places. -/
inductive ROp where
  | mov (x : RX)
  | pick (c a b : RX)
  | alloc (t : TypeId) (zero : List AV)
  | box (t : TypeId) (x : RX)
  | build (zero : List AV) (parts : List (Nat × Nat × RX))
  | bslice (t : TypeId) (k n : Nat) (zero : List AV) (parts : List (Nat × RX))
  | load (ag : Bool) (k : Nat) (x : RX)
  | store (k : Nat) (x y : RX)
  | nilck (x : RX)
  | bin (op : BinOp) (x y : RX)
  | eqp (neg : Bool) (x y : RX)
  | eqb (neg : Bool) (x y : RX)
  | eqs (neg : Bool) (s : Nat) (offs : List (Nat × PK)) (x y : RX)
  | un (op : UnOp) (x : RX)
  | ci (k : IntKind) (x : RX)
  | s2b (t : TypeId) (x : RX)
  | b2s (x : RX)
  | same (x : RX)
  | mkfn (f : Fn) (first cap : List RX)
  | mkif (t : TypeId) (x : RX)
  | mksl (t : TypeId) (k bytes : Nat) (zero : List AV) (len cap : RX)
  | slS (x : RX) (lo hi : Option RX)
  | slR (k : Nat) (x : RX) (lo hi mx : Option RX)
  | faddr (off : Nat) (x : RX)
  | field (ag : Bool) (k off : Nat) (x : RX)
  | iaR (k : Nat) (x i : RX)
  | iaA (k n : Nat) (x i : RX)
  | idxS (x i : RX)
  | extr (x : RX) (i : Nat)
  | lenS (x : RX)
  | lenR (x : RX)
  | app (t : TypeId) (k bytes : Nat) (x y : RX)
  | copy (k : Nat) (x y : RX)
  | clear (zero : List AV) (x : RX)
  | mx (l : List RX)
  | mn (l : List RX)
  | call (f : FuncId) (args : List RX)
  | callv (x : RX) (args : List RX)
  | toU (x : RX)
  | ofU (t : TypeId) (k : Nat) (x : RX)
  | usd (x : RX)
  | ust (t : TypeId) (x n : RX)

/-! ### Reading types -/
def ofVal : Value → AV
  | .agg cs => if cs.all (·.oneCell') then .agg (cs.toList.map fun c => .d (.v c)) else .junk
  | v => .d (.v v)

def rx : Operand → RX
  | .tmp t => .t t
  | .const v => .c (ofVal v)
  | .global g => .c (.d (.v (.pointer (some ⟨g, 0, none⟩))))
  | .func f => .c (.fn (.func f) [] [])

def agD : TypeDesc → Bool
  | .struct _ | .array _ _ => true
  | _ => false

def zeroAV (P : Program) (t : TypeId) : Option (List AV) := (P.info? t).bind fun i => i.zero.bind fun z => if z.cells.all (·.oneCell') then some (z.cells.toList.map fun c => AV.d (.v c)) else none
def sizeT (P : Program) (t : TypeId) : Option Nat := (P.info? t).map (·.size)
def bytesT (P : Program) (t : TypeId) : Option Nat := (P.info? t).map (·.bytes)

/-- Is '==' of this type that of one plain cell? Which? -/
def plainT : TypeDesc → Option PK
  | .bool => some .b
  | .int _ => some .i
  | .string => some .s
  | _ => none

/-- The places of a struct's plain fields; none: a field that isn't plain, or is blank. -/
def eqOffs (P : Program) : Nat → Nat → TypeId → Option (List (Nat × PK))
  | 0, _, _ => none
  | n + 1, off, t =>
    match P.underlying t, sizeT P t with
    | some (.struct fs), some s =>
      if P.stoodInHeld t then none else
      (fs.toList.mapM fun f => if f.name = "_" then none else (sizeT P f.type).bind fun sf => if f.offset + sf ≤ s then eqOffs P n (off + f.offset) f.type else none).map List.flatten
    | some d, some s => if s = 1 then (plainT d).map fun k => [(off, k)] else none
    | _, _ => none

def rop (P : Program) (o : Oper) : Option ROp :=
  match o.op with
  | .move x | .assign x => some (.mov (rx x))
  | .pick c a b => some (.pick (rx c) (rx a) (rx b))
  | .alloc t => (zeroAV P t).map (.alloc t)
  | .box t x => some (.box t (rx x))
  | .build t parts =>
    match zeroAV P t, P.underlying t with
    | some z, some (.struct fs) => (fs.toList.mapM fun f => (P.info? f.type).map fun i => (f.offset, i.size)).bind fun places =>
        (parts.toList.mapM fun (p : Nat × Operand) => (places[p.1]?).map fun os => (os.1, os.2, rx p.2)).map (.build z)
    | some z, some (.array _ e) => (sizeT P e).map fun s => .build z (parts.toList.map fun (p : Nat × Operand) => (p.1 * s, s, rx p.2))
    | _, _ => none
  | .buildSlice t n parts =>
    match P.underlying t with
    | some (.slice e) => (sizeT P e).bind fun s => (zeroAV P e).bind fun z =>
        if n * s ≤ 16777216 ∧ z.length = s ∧ 0 < s then some (.bslice e s n z (parts.toList.map fun (p : Nat × Operand) => (p.1, rx p.2))) else none
    | _ => none
  | .load t x => (P.underlying t).bind fun d => (sizeT P t).map fun s => .load (agD d) s (rx x)
  | .store t x y => (sizeT P t).map fun s => .store s (rx x) (rx y)
  | .nilCheck x => some (.nilck (rx x))
  | .binOp op t x y _ =>
    match P.underlying t with
    | some (.int _) | some .string => some (.bin op (rx x) (rx y))
    | some .bool => match op with | .eql => some (.eqb false (rx x) (rx y)) | .neq => some (.eqb true (rx x) (rx y)) | _ => none
    | some (.struct fs) => match op with
      | .eql => if P.stoodInHeld t || P.eqGuardType P.depth t then none else (sizeT P t).bind fun s => (eqOffs P 8 0 t).map fun l => .eqs false s l (rx x) (rx y)
      | .neq => if P.stoodInHeld t || P.eqGuardType P.depth t then none else (sizeT P t).bind fun s => (eqOffs P 8 0 t).map fun l => .eqs true s l (rx x) (rx y)
      | _ => none
    | some (.pointer e) => match op with
      | .eql => if (sizeT P e).any (0 < ·) then some (.eqp false (rx x) (rx y)) else none
      | .neq => if (sizeT P e).any (0 < ·) then some (.eqp true (rx x) (rx y)) else none
      | _ => none
    | _ => none
  | .unOp op _ x => some (.un op (rx x))
  | .convert s d x =>
    match P.underlying s, P.underlying d with
    | some (.int _), some (.int k) => some (.ci k (rx x))
    | some .string, some .string => some (.same (rx x))
    | some .string, some (.slice e) => match P.underlying e with | some (.int .u8) => some (.s2b e (rx x)) | _ => none
    | some (.slice e), some .string => match P.underlying e with | some (.int .u8) => some (.b2s (rx x)) | _ => none
    | some (.pointer e), some .unsafePointer => if (sizeT P e).any (0 < ·) then some (.toU (rx x)) else none
    | some .unsafePointer, some (.pointer e) => (sizeT P e).bind fun s => if 0 < s then some (.ofU e s (rx x)) else none
    | _, _ => none
  | .makeInterface t x => match P.underlying t with | some (.interface _) => none | some _ => some (.mkif t (rx x)) | none => none
  | .makeFunc f a c => match f with | .func g => some (.mkfn (.func g) (a.toList.map rx) (c.toList.map rx)) | _ => none
  | .makeSlice t l c =>
    match P.underlying t with
    | some (.slice e) => (sizeT P e).bind fun s => (bytesT P e).bind fun b => (zeroAV P e).bind fun z => if z.length = s ∧ 0 < s ∧ b ≤ 8192 then some (.mksl e s b z (rx l) (rx c)) else none
    | _ => none
  | .slice t x lo hi mx =>
    match P.underlying t with
    | some .string => match mx with | none => some (.slS (rx x) (lo.map rx) (hi.map rx)) | some _ => none
    | some (.slice e) => (sizeT P e).map fun s => .slR s (rx x) (lo.map rx) (hi.map rx) (mx.map rx)
    | _ => none
  | .fieldAddr t x f =>
    match P.underlying t with
    | some (.struct fs) => (fs[f]?).bind fun fd => (sizeT P fd.type).bind fun s => if s = 0 then none else some (.faddr fd.offset (rx x))
    | _ => none
  | .field t x f =>
    match P.underlying t with
    | some (.struct fs) => (fs[f]?).bind fun fd => (P.underlying fd.type).bind fun d => (sizeT P fd.type).map fun s => .field (agD d) s fd.offset (rx x)
    | _ => none
  | .indexAddr t x i =>
    match P.underlying t with
    | some (.slice e) => (sizeT P e).map fun s => .iaR s (rx x) (rx i)
    | some (.array n e) => (sizeT P e).map fun s => .iaA s n (rx x) (rx i)
    | _ => none
  | .index t x i => match P.underlying t with | some .string => some (.idxS (rx x) (rx i)) | _ => none
  | .extract x i => some (.extr (rx x) i)
  | .call c =>
    match c.callee with
    | .value (.func f) => match c.args.toList with
      | [x] => if (P.funcs[f]?).any (fun fn => fn.name == "internal/abi.NoEscape" && fn.origin == "" && fn.body.isNone) = true then some (.mov (rx x)) else some (.call f [rx x])
      | l => some (.call f (l.map rx))
    | .value x => some (.callv (rx x) (c.args.toList.map rx))
    | .invoke .. => none
    | .builtin b =>
      match b, c.args.toList, c.argTypes.toList with
      | .len, [x], [t] => match P.underlying t with | some .string => some (.lenS (rx x)) | some (.slice _) => some (.lenR (rx x)) | _ => none
      | .append, [x, y], [t, u] =>
        match P.underlying t, P.underlying u with
        | some (.slice e), some (.slice _) | some (.slice e), some .string => (sizeT P e).bind fun s => (bytesT P e).bind fun b => (zeroAV P e).bind fun z => if z.length = s ∧ 0 < s ∧ 0 < b ∧ b ≤ 8192 then some (.app e s b (rx x) (rx y)) else none
        | _, _ => none
      | .copy, [x, y], [t, u] =>
        match P.underlying t, P.underlying u with
        | some (.slice e), some (.slice _) => (sizeT P e).bind fun s => if 0 < s then some (.copy s (rx x) (rx y)) else none
        | _, _ => none
      | .clear, [x], [t] =>
        match P.underlying t with
        | some (.slice e) => (sizeT P e).bind fun s => (zeroAV P e).bind fun z => if z.length = s ∧ 0 < s then some (.clear z (rx x)) else none
        | _ => none
      | .unsafeSliceData, [x], [t] => (P.underlying o.type).bind fun d => match d with | .pointer _ => some (.usd (rx x)) | _ => none
      | .unsafeString, [x, n], [t, u] => match P.underlying t with
        | some (.pointer e) => match P.underlying e with
          | some (.int .u8) => if sizeT P e = some 1 then some (.ust e (rx x) (rx n)) else none
          | _ => none
        | _ => none
      | .max, l, ts => if ts.all fun t => (P.underlying t).any fun d => match d with | .int _ => true | _ => false then some (.mx (l.map rx)) else none
      | .min, l, ts => if ts.all fun t => (P.underlying t).any fun d => match d with | .int _ => true | _ => false then some (.mn (l.map rx)) else none
      | _, _, _ => none
  | _ => none

/-! ### On abstract values -/
/-- The cells of a value that can be stored. -/
def vcells : AV → Option (List AV)
  | .agg l => some l
  | .tup _ => none
  | .junk => none
  | .anyp => none
  | .d (.v (.agg _)) => none
  | .d (.v (.tuple _)) => none
  | x => some [x]

def loadC (ag : Bool) (k : Nat) (cells : List AV) : Option AV :=
  if ag then (if k ≤ cells.length then some (.agg (cells.take k)) else none) else cells.head?

def splice (l : List AV) (j : Nat) (m : List AV) : List AV := l.take j ++ (m ++ l.drop (j + m.length))

def afill (cells : List AV) : List (Nat × Nat × AV) → Option (List AV)
  | [] => some cells
  | (off, s, x) :: rest =>
    match vcells x with
    | some l => if l.length = s ∧ off + s ≤ cells.length then afill (splice cells off l) rest else none
    | none => none

def afillS (els : List (List AV)) : List (Nat × AV) → Option (List (List AV))
  | [] => some els
  | (i, x) :: rest =>
    match vcells x, els[i]? with
    | some l, some old => if l.length = old.length then afillS (els.set i l) rest else none
    | _, _ => none

/-- The elements that a slice value holds; none: it isn't known. -/
def elemsOf (st : St) : AV → Option (List (List AV))
  | .d (.v (.slice none 0 0)) => some []
  | .d (.sl _ els) => some (els.map fun e => e.map AV.d)
  | .row q ver off len => match st.h q with
    | some (.row ver' _ _ els) => if ver = ver' then some ((els.drop off).take len) else none
    | _ => none
  | _ => none

def bv (b : Bool) : AV := .d (.v (.bool b))
def iv (n : Int) : AV := .d (.v (.int .i64 n))

def binI (op : BinOp) (k : IntKind) (a b : Int) : Option Value :=
  match op with
  | .add => some (.int k (k.wrap (a + b)))
  | .sub => some (.int k (k.wrap (a - b)))
  | .mul => some (.int k (k.wrap (a * b)))
  | .quo => if b = 0 then none else some (.int k (k.wrap (a.tdiv b)))
  | .rem => if b = 0 then none else some (.int k (a.tmod b))
  | .and => some (.int k (k.wrap (BitVec.ofInt k.bits a &&& BitVec.ofInt k.bits b).toNat))
  | .or => some (.int k (k.wrap (BitVec.ofInt k.bits a ||| BitVec.ofInt k.bits b).toNat))
  | .xor => some (.int k (k.wrap (BitVec.ofInt k.bits a ^^^ BitVec.ofInt k.bits b).toNat))
  | .andNot => some (.int k (k.wrap (BitVec.ofInt k.bits a &&& ~~~BitVec.ofInt k.bits b).toNat))
  | .eql => some (.bool (decide (a = b)))
  | .neq => some (.bool (decide (a ≠ b)))
  | .lss => some (.bool (decide (a < b)))
  | .leq => some (.bool (decide (a ≤ b)))
  | .gtr => some (.bool (decide (b < a)))
  | .geq => some (.bool (decide (b ≤ a)))
  | _ => none

def shI (op : BinOp) (k : IntKind) (a b : Int) : Option Value :=
  if b < 0 then none else match op with
  | .shl => some (.int k (k.wrap (a * 2 ^ (min b.toNat k.bits))))
  | .shr => some (.int k (a.fdiv (2 ^ (min b.toNat k.bits))))
  | _ => none

def binS (op : BinOp) (a b : ByteArray) : Option Value :=
  match op with
  | .add => if a.size + b.size ≤ 9223372036854775807 then some (.string (a ++ b)) else none
  | .eql => some (.bool (a.toList == b.toList))
  | .neq => some (.bool !(a.toList == b.toList))
  | .lss => some (.bool (Op.bytesLess a.toList b.toList))
  | .leq => some (.bool (Op.bytesLess a.toList b.toList || a.toList == b.toList))
  | .gtr => some (.bool !(Op.bytesLess a.toList b.toList || a.toList == b.toList))
  | .geq => some (.bool !(Op.bytesLess a.toList b.toList))
  | _ => none

def binV (op : BinOp) : Value → Value → Option Value
  | .int k a, .int k' b => match op with
    | .shl | .shr => shI op k a b
    | _ => if k = k' then binI op k a b else none
  | .string a, .string b => binS op a b
  | _, _ => none

/-- '==' of two plain cells. -/
def eqC : PK → AV → AV → Option Bool
  | .i, .d (.v (.int k a)), .d (.v (.int k' b)) => if k = k' then some (decide (a = b)) else none
  | .s, .d (.v (.string a)), .d (.v (.string b)) => some (a.toList == b.toList)
  | .b, .d (.v (.bool a)), .d (.v (.bool b)) => some (a == b)
  | _, _, _ => none

def eqCs (xs ys : List AV) : List (Nat × PK) → Option Bool
  | [] => some true
  | o :: os => (xs[o.1]?).bind fun x => (ys[o.1]?).bind fun y => (eqC o.2 x y).bind fun a => (eqCs xs ys os).map (a && ·)

def eqP (st : St) : AV → AV → Option Bool
  | .d (.v (.pointer none)), .d (.v (.pointer none)) => some true
  | .ptr _ _ _ _, .d (.v (.pointer none)) => some false
  | .d (.v (.pointer none)), .ptr _ _ _ _ => some false
  | .ptr q v i j, .ptr q' v' i' j' => match st.h q with
    | some (.row ver _ _ _) => if q = q' ∧ v = ver ∧ v' = ver ∧ i = i' ∧ j = j' then some true else none
    | _ => none
  | _, _ => none

def unV (op : UnOp) : Value → Option Value
  | .bool b => match op with | .not => some (.bool !b) | _ => none
  | .int k n => match op with | .neg => some (.int k (k.wrap (0 - n))) | _ => none
  | _ => none

def mxVGo (k : IntKind) (a : Int) : List AV → Option AV
  | [] => some (.d (.v (.int k a)))
  | .d (.v (.int _ b)) :: l => mxVGo k (if b > a then b else a) l
  | _ => none
def mxV : List AV → Option AV
  | .d (.v (.int k a)) :: l => mxVGo k a l
  | _ => none

def mnVGo (k : IntKind) (a : Int) : List AV → Option AV
  | [] => some (.d (.v (.int k a)))
  | .d (.v (.int _ b)) :: l => mnVGo k (if b < a then b else a) l
  | _ => none
def mnV : List AV → Option AV
  | .d (.v (.int k a)) :: l => mnVGo k a l
  | _ => none

/-- A bound of a slice expression: none: as it is by itself. -/
def bound (ρ : RX → AV) (o : Option RX) (dflt : Nat) (most : Nat) : Option Nat :=
  match o with
  | none => some dflt
  | some x => match ρ x with
    | .d (.v (.int _ n)) => if 0 ≤ n ∧ n ≤ most then some n.toNat else none
    | _ => none

/-- What leaves what is live as it is. -/
def aval (op : ROp) (ρ : RX → AV) (st : St) : Option AV :=
  match op with
  | .mov x => some (ρ x)
  | .pick c a b => match ρ c with
    | .d (.v (.bool t)) => some (if t = true then ρ a else ρ b)
    | _ => none
  | .build zero parts => (afill zero (parts.map fun p => (p.1, p.2.1, ρ p.2.2))).map .agg
  | .load ag k x => match ρ x with
    | .ptr q ver i j => match st.h q with
      | some (.row ver' _ _ els) => if ver = ver' then (els[i]?).bind fun cells => loadC ag k (cells.drop j) else none
      | _ => none
    | .iptr cells => loadC ag k (cells.map AV.d)
    | _ => none
  | .nilck x => match ρ x with
    | .ptr q ver i j => match st.h q with
      | some (.row ver' _ _ _) => if ver = ver' then some (.ptr q ver i j) else none
      | _ => none
    | .iptr cells => some (.iptr cells)
    | .fn (.func f) a c => some (.fn (.func f) a c)
    | _ => none
  | .bin op x y => match ρ x, ρ y with
    | .d (.v a), .d (.v b) => (binV op a b).map fun v => .d (.v v)
    | _, _ => none
  | .eqb neg x y => match ρ x, ρ y with
    | .d (.v (.bool a)), .d (.v (.bool b)) => some (bv ((a == b) != neg))
    | _, _ => none
  | .eqp neg x y => (eqP st (ρ x) (ρ y)).map fun b => bv (b != neg)
  | .eqs neg s offs x y => match ρ x, ρ y with
    | .agg xs, .agg ys => if xs.length = s ∧ ys.length = s then (eqCs xs ys offs).map fun b => bv (b != neg) else none
    | _, _ => none
  | .un op x => match ρ x with
    | .d (.v a) => (unV op a).map fun v => .d (.v v)
    | _ => none
  | .ci k x => match ρ x with
    | .d (.v (.int _ n)) => some (.d (.v (.int k (k.wrap n))))
    | _ => none
  | .same x => match ρ x with
    | .d (.v (.string s)) => some (.d (.v (.string s)))
    | _ => none
  | .mkfn f first cap => some (.fn f (first.map ρ) (cap.map ρ))
  | .mkif t x => some (.iface t (ρ x))
  | .slS x lo hi => match ρ x with
    | .d (.v (.string s)) => (bound ρ hi s.size s.size).bind fun h => (bound ρ lo 0 h).map fun l => .d (.v (.string (s.extract l h)))
    | _ => none
  | .slR k x lo hi mx => match ρ x with
    | .row q ver off len => match st.h q with
      | some (.row ver' k' t' _) => if ver = ver' ∧ k = k' then match mx with
        | none => (bound ρ hi len len).bind fun h => (bound ρ lo 0 h).map fun l => .row q ver (off + l) (h - l)
        | some m => match ρ m with
          | .d (.v (.int _ n)) => if hi.isSome = true ∧ n = len then (bound ρ hi len len).bind fun h => if h = len then (bound ρ lo 0 h).map fun l => .row q ver (off + l) (h - l) else none else none
          | _ => none
        else none
      | _ => none
    | .d (.sl k' els) => match mx with
      | none => if k = k' ∧ 0 < k then (bound ρ hi els.length els.length).bind fun h => (bound ρ lo 0 h).map fun l => .d (.sl k ((els.take h).drop l)) else none
      | some _ => none
    | .d (.v (.slice none 0 0)) => if hi.isNone && mx.isSome then none else (bound ρ mx 0 0).bind fun _ => (bound ρ hi 0 0).bind fun _ => (bound ρ lo 0 0).map fun _ => .d (.v (.slice none 0 0))
    | _ => none
  | .faddr off x => match ρ x with
    | .ptr q ver i j => match st.h q with
      | some (.row ver' k t _) => if ver = ver' ∧ j + off ≤ k then some (.ptr q ver i (j + off)) else none
      | _ => none
    | .iptr cells => if off < cells.length then some (.iptr (cells.drop off)) else none
    | _ => none
  | .field ag k off x => match ρ x with
    | .agg l => loadC ag k (l.drop off)
    | _ => none
  | .iaR k x i => match ρ i with
    | .d (.v (.int _ n)) => if 0 ≤ n then match ρ x with
      | .row q ver off len => match st.h q with
        | some (.row ver' k' t' _) => if ver = ver' ∧ k = k' ∧ n < len then some (.ptr q ver (off + n.toNat) 0) else none
        | _ => none
      | .d (.sl k' els) => if k = k' ∧ 0 < k then (els[n.toNat]?).map .iptr else none
      | _ => none
      else none
    | _ => none
  | .iaA k n x i => match ρ i with
    | .d (.v (.int _ m)) => if 0 ≤ m ∧ m < n then match ρ x with
      | .ptr q ver a j => match st.h q with
        | some (.row ver' k' t' _) => if ver = ver' ∧ j + m.toNat * k ≤ k' then some (.ptr q ver a (j + m.toNat * k)) else none
        | _ => none
      | _ => none
      else none
    | _ => none
  | .idxS x i => match ρ x, ρ i with
    | .d (.v (.string s)), .d (.v (.int _ n)) => if 0 ≤ n then (s.data.toList[n.toNat]?).map fun b => .d (.v (.int .u8 b.toNat)) else none
    | _, _ => none
  | .extr x i => match ρ x with
    | .tup l => l[i]?
    | _ => none
  | .lenS x => match ρ x with
    | .d (.v (.string s)) => some (iv s.size)
    | _ => none
  | .lenR x => match ρ x with
    | .d (.v (.slice none 0 0)) => some (iv 0)
    | .d (.sl _ els) => some (iv els.length)
    | .row q ver _ len => match st.h q with
      | some (.row ver' _ _ _) => if ver = ver' then some (iv len) else none
      | _ => none
    | _ => none
  | .mx l => mxV (l.map ρ)
  | .mn l => mnV (l.map ρ)
  | .toU x => match ρ x with
    | .ptr q ver i j => match st.h q with
      | some (.row ver' k _ _) => if ver = ver' ∧ j < k then some (.ptr q ver i j) else none
      | _ => none
    | .d (.v (.pointer none)) => some (.d (.v (.pointer none)))
    | _ => none
  | .ofU t k x => match ρ x with
    | .ptr q ver i j => match st.h q with
      | some (.row ver' k' t' _) => if ver = ver' ∧ j = 0 ∧ k = k' ∧ t = t' then some (.ptr q ver i j) else none
      | _ => none
    | .d (.v (.pointer none)) => some (.d (.v (.pointer none)))
    | _ => none
  | _ => none

/-- One more live object, or another state of one. -/
def upd (h : Int → Option AO) (q : Int) (o : AO) : Int → Option AO := fun r => if r = q then some o else h r
def St.new (st : St) (o : AO) : St := ⟨upd st.h st.nx o, st.nx + 1, st.g⟩
def St.set (st : St) (q : Int) (o : AO) : St := ⟨upd st.h q o, st.nx, st.g⟩

/-- The bytes of a text as elements. -/
def u8s (l : List UInt8) : List (List AV) := l.map fun b => [AV.d (.v (.int .u8 b.toNat))]

/-- What is appended: the elements of a slice, the bytes of a text. -/
def srcOf (st : St) (k : Nat) : AV → Option (List (List AV))
  | .d (.v (.string s)) => if k = 1 then some (u8s s.data.toList) else none
  | x => elemsOf st x

/-- A CONTRACT: called with values that read so, the function returns, and K holds of what its result and the heap of what is live read as. -/
def ACalls (P : Program) (f : FuncId) (args : List AV) (st : St) (K : AV → St → Prop) : Prop :=
  ((P.funcs[f]?).any fun fn => fn.name != "runtime.NumGoroutine" && fn.body.isSome) = true ∧ ∀ (β : Emb) (w : World) (vs : Array Value), HRel β st w → vs.size = args.length → (∀ i (h1 : i < vs.size) (h2 : i < args.length), R β st w vs[i] args[i]) →
    Calls P f vs w fun e w' => ∃ v x β' st', e = .returned v ∧ K x st' ∧ HRel β' st' w' ∧ R β' st' w' v x ∧ Keep (Mut β st.h) w (Mut β' st'.h) w' ∧ Evo β st β' st'

/-- One live object less. -/
def St.del (st : St) (q : Int) : St := ⟨fun r => if r = q then none else st.h r, st.nx, st.g⟩

def undefAV : AV := .d (.v undef)

/-- What an operation does. -/
def aexec (P : Program) (op : ROp) (ρ : RX → AV) (st : St) (K : AV → St → Prop) : Prop :=
  match op with
  | .alloc t zero => K (.ptr st.nx 0 0 0) (st.new (.row 0 zero.length t [zero]))
  | .box t x => match vcells (ρ x) with
    | some l => K (.ptr st.nx 0 0 0) (st.new (.row 0 l.length t [l]))
    | none => False
  | .bslice t k n zero parts => match afillS (List.replicate n zero) (parts.map fun p => (p.1, ρ p.2)) with
    | some els => K (.row st.nx 0 0 n) (st.new (.row 0 k t els))
    | none => False
  | .store k x y => match ρ x, vcells (ρ y) with
    | .ptr q ver i j, some l => match st.h q with
      | some (.row ver' k' t' els) => ver = ver' ∧ l.length = k ∧ match els[i]? with
        | some cells => j + l.length ≤ cells.length ∧ K undefAV (st.set q (.row ver k' t' (els.set i (splice cells j l))))
        | none => False
      | _ => False
    | _, _ => False
  | .s2b t x => match ρ x with
    | .d (.v (.string s)) => K (.row st.nx 0 0 s.size) (st.new (.row 0 1 t (u8s s.data.toList)))
    | _ => False
  | .b2s x => match ρ x with
    | .d (.v (.slice none 0 0)) => K (.d (.v (.string .empty))) st
    | x => ∃ l, elemsOf st x = some (u8s l) ∧ K (.d (.v (.string ⟨l.toArray⟩))) st
  | .mksl t k b zero len cap => match ρ len, ρ cap with
    | .d (.v (.int _ n)), .d (.v (.int _ c)) => 0 ≤ n ∧ n ≤ c ∧ c ≤ 4294967296 ∧ K (.row st.nx 0 0 n.toNat) (st.new (.row 0 k t (List.replicate n.toNat zero)))
    | _, _ => False
  | .app T k b x y => match srcOf st k (ρ y) with
    | some new => (∀ e ∈ new, e.length = k) ∧ match ρ x with
      | .d (.v (.slice none 0 0)) => new.length ≤ 4294967296 ∧ K (.row st.nx 0 0 new.length) (st.new (.row 0 k T new))
      | .row q ver off len => match st.h q with
        | some (.row ver' k' t' els) => ver = ver' ∧ (k = k' ∧ T = t') ∧ off + len = els.length ∧ len + new.length ≤ 4294967296 ∧
            K (.row q (ver + 1) 0 (len + new.length)) (st.set q (.row (ver + 1) k T (els.drop off ++ new)))
        | _ => False
      | _ => False
    | none => False
  | .copy k x y => match srcOf st k (ρ y), ρ x with
    | some src, .row q ver off len => match st.h q with
      | some (.row ver' k' t' els) => ver = ver' ∧ k = k' ∧ (∀ e ∈ src, e.length = k) ∧ off + len ≤ els.length ∧
          K (iv ((min src.length len : Nat) : Int)) (st.set q (.row ver k t' (els.take off ++ (src.take len ++ els.drop (off + min src.length len)))))
      | _ => False
    | _, _ => False
  | .clear zero x => match ρ x with
    | .d (.v (.slice none 0 0)) => K undefAV st
    | .row q ver off len => match st.h q with
      | some (.row ver' k' t' els) => ver = ver' ∧ zero.length = k' ∧ off + len ≤ els.length ∧
          K undefAV (st.set q (.row ver k' t' (els.take off ++ (List.replicate len zero ++ els.drop (off + len)))))
      | _ => False
    | _ => False
  | .usd x => match ρ x with
    | .d (.v (.slice none 0 0)) => K (.d (.v (.pointer none))) st
    | .row q ver off len => match st.h q with
      | some (.row ver' _ _ _) => ver = ver' ∧ (0 < len → K (.ptr q ver off 0) st) ∧ (len = 0 → K .anyp st)
      | _ => False
    | _ => False
  | .ust t x n => match ρ n with
    | .d (.v (.int .i64 n)) => match ρ x with
      | .ptr q ver i j => match st.h q with
        | some (.row ver' k t' els) => ver = ver' ∧ k = 1 ∧ t = t' ∧ j = 0 ∧ ∃ l : List UInt8, l ≠ [] ∧ n = l.length ∧ l.length ≤ 9223372036854775807 ∧ (els.drop i).take l.length = u8s l ∧ K (.d (.v (.string ⟨l.toArray⟩))) (st.del q)
        | _ => False
      | .anyp => n = 0 ∧ K (.d (.v (.string .empty))) st
      | .d (.v (.pointer none)) => n = 0 ∧ K (.d (.v (.string .empty))) st
      | _ => False
    | _ => False
  | .call f args => ACalls P f (args.map ρ) st K
  | .callv x args => match ρ x with
    | .fn (.func f) first cap => ACalls P f (first ++ args.map ρ ++ cap) st K
    | _ => False
  | op => ∃ v, aval op ρ st = some v ∧ K v st

end Go.Eng
