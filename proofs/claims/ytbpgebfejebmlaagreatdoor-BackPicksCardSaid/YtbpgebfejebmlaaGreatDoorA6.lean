/- The abstract layer, part 6: operations over abstract states. -/
import Derived.Test.YtbpgebfejebmlaaGreatDoorA5
import Derived.Laws.StructEq
namespace Go.Proofs.YtbpgebfejebmlaaGreatDoor
open Go Go.RowKit
set_option linter.unusedSimpArgs false
set_option linter.unusedVariables false

inductive LK where
  | int | str | bool
  deriving Inhabited, DecidableEq

inductive AOp where
  | mv (x : Operand)
  | pick (c a b : Operand)
  | alloc (e : TypeId) (zs : List D)
  | box (e : TypeId) (x : Operand)
  | build (zs : List D) (parts : List (Nat × Nat × Operand))
  | bslice (e : TypeId) (sz : Nat) (parts : List Operand)
  | load (agg : Option Nat) (x : Operand)
  | store (sz : Nat) (x y : Operand)
  | ncheck (x : Operand)
  | bin (op : BinOp) (x y : Operand)
  | binB (neg : Bool) (x y : Operand)
  | eqs (neg : Bool) (ks : List LK) (x y : Operand)
  | un (op : UnOp) (x : Operand)
  | conv (k : IntKind) (x : Operand)
  | fieldA (off : Nat) (x : Operand)
  | field (off : Nat) (agg : Option Nat) (x : Operand)
  | idxA (sz : Nat) (x i : Operand)
  | idxS (x i : Operand)
  | extract (x : Operand) (j : Nat)
  | mkfn (f : FuncId) (caps : List Operand)
  | mkif (t : TypeId) (x : Operand)
  | len (x : Operand) (str : Bool)
  | minmax (mx : Bool) (x y : Operand)
  | slcS (x : Operand) (lo hi : Option Operand)
  | slcL (sz : Nat) (x : Operand) (lo hi : Option Operand)
  | append (e : TypeId) (sz bytes : Nat) (x y : Operand)
  | call (f : FuncId) (args : List Operand)
  | callv (x : Operand) (args : List Operand)
  deriving Inhabited

structure AOper where
  guard : Option (Nat × Bool)
  dst : Option Nat
  op : AOp
  deriving Inhabited

def cD0 : Value → D
  | .slice none 0 0 => .nils
  | .agg _ => .any
  | .tuple _ => .any
  | v => .pd (.raw v)

def cD : Value → D
  | .agg cs => .agg (cs.toList.map cD0)
  | v => cD0 v

def St.get (st : St) (i : Nat) : D := (lk st.fr i).getD .any

def St.ev (st : St) : Operand → D
  | .tmp t => st.get t
  | .const v => cD v
  | .func f => .fn f []
  | .global _ => .any

/-- The cells of a value. -/
def D.cells : D → List D
  | .agg ds => ds
  | d => [d]

/-- Are its cells known? -/
def D.fixed : D → Bool
  | .agg _ => true
  | d => d.sc

/-- As plain data: of one cell. -/
def D.toPD : D → Option PD
  | .pd x => some x
  | .nils => some (.slice [])
  | .own _ _ els _ => some (.slice els)
  | _ => none

def D.toPDs : List D → Option (List PD)
  | [] => some []
  | d :: ds => match d.toPD, D.toPDs ds with
    | some x, some xs => some (x :: xs)
    | _, _ => none

/-- A slice's rows. -/
def D.els : D → Option (List (List PD))
  | .pd (.slice els) => some els
  | .nils => some []
  | .own _ _ els _ => some els
  | _ => none

def D.caps : List D → Option (List (Nat × Nat))
  | [] => some []
  | .ptr n o :: ds => (D.caps ds).map ((n, o) :: ·)
  | _ => none

def binV : BinOp → Value → Value → Option Value
  | .add, .int k a, .int j b => if k = j then some (.int k (k.wrap (a + b))) else none
  | .sub, .int k a, .int j b => if k = j then some (.int k (k.wrap (a - b))) else none
  | .mul, .int k a, .int j b => if k = j then some (.int k (k.wrap (a * b))) else none
  | .rem, .int k a, .int j b => if k = j ∧ b ≠ 0 then some (.int k (a.tmod b)) else none
  | .eql, .int k a, .int j b => if k = j then some (.bool (decide (a = b))) else none
  | .neq, .int k a, .int j b => if k = j then some (.bool (!decide (a = b))) else none
  | .lss, .int k a, .int j b => if k = j then some (.bool (decide (a < b))) else none
  | .leq, .int k a, .int j b => if k = j then some (.bool (decide (a ≤ b))) else none
  | .gtr, .int k a, .int j b => if k = j then some (.bool (decide (b < a))) else none
  | .geq, .int k a, .int j b => if k = j then some (.bool (decide (b ≤ a))) else none
  | .add, .string a, .string b => if a.size + b.size ≤ 9223372036854775807 then some (.string (a ++ b)) else none
  | .eql, .string a, .string b => some (.bool (decide (a = b)))
  | .neq, .string a, .string b => some (.bool (!decide (a = b)))
  | .lss, .string a, .string b => some (.bool (Op.bytesLess a.toList b.toList))
  | .geq, .string a, .string b => some (.bool (!Op.bytesLess a.toList b.toList))
  | .gtr, .string a, .string b => some (.bool (!(Op.bytesLess a.toList b.toList || decide (a = b))))
  | .leq, .string a, .string b => some (.bool (Op.bytesLess a.toList b.toList || decide (a = b)))
  | _, _, _ => none

def eqV : LK → Value → Value → Option Bool
  | .int, .int k a, .int j b => if k = j then some (decide (a = b)) else none
  | .str, .string a, .string b => some (decide (a = b))
  | .bool, .bool a, .bool b => some (a == b)
  | _, _, _ => none

def eqVs : List LK → List Value → List Value → Option Bool
  | [], [], [] => some true
  | k :: ks, x :: xs, y :: ys => match eqV k x y, eqVs ks xs ys with
    | some a, some b => some (a && b)
    | _, _ => none
  | _, _, _ => none

def D.raws : List D → Option (List Value)
  | [] => some []
  | d :: ds => match d, D.raws ds with
    | .pd (.raw v), some vs => some (v :: vs)
    | _, _ => none

def binD (op : BinOp) : D → D → Option D
  | .pd (.raw x), .pd (.raw y) => (binV op x y).map fun v => .pd (.raw v)
  | _, _ => none

def unD : UnOp → D → Option D
  | .not, .pd (.raw (.bool b)) => some (.pd (.raw (.bool (!b))))
  | .neg, .pd (.raw (.int k n)) => some (.pd (.raw (.int k (k.wrap (0 - n)))))
  | _, _ => none

def fillD : List D → List (Nat × Nat × List D) → Option (List D)
  | zs, [] => some zs
  | zs, (off, sz, cs) :: r => if cs.length = sz ∧ off + sz ≤ zs.length then fillD (zs.take off ++ (cs ++ zs.drop (off + sz))) r else none

def rowsD (sz : Nat) : List D → Option (List (List PD))
  | [] => some []
  | d :: ds => match D.toPDs d.cells, rowsD sz ds with
    | some r, some rs => if r.length = sz then some (r :: rs) else none
    | _, _ => none

/-- Are all rows of that many cells? -/
def rowsOK (sz : Nat) (els : List (List PD)) : Prop := ∀ r ∈ els, r.length = sz
instance (sz : Nat) (els : List (List PD)) : Decidable (rowsOK sz els) := inferInstanceAs (Decidable (∀ r ∈ els, r.length = sz))

/-- A slice expression's bound. -/
def boundD (st : St) (n : Nat) : Option Operand → Option Nat
  | none => some n
  | some x => match st.ev x with
    | .pd (.raw (.int _ i)) => if 0 ≤ i then some i.toNat else none
    | _ => none

def AOp.ex (dst : Option Nat) (st : St) : AOp → Option (D × St)
  | .mv x => some (st.ev x, st)
  | .alloc _ zs => match dst with
    | some n => some (.ptr n 0, { st.drop n with bs := (n, zs) :: (st.drop n).bs })
    | none => none
  | .box _ x => match dst with
    | some n => if (st.ev x).fixed then some (.ptr n 0, { st.drop n with bs := (n, D.drops n (st.ev x).cells) :: (st.drop n).bs }) else none
    | none => none
  | .build zs parts => if parts.all (fun p => (st.ev p.2.2).fixed) = false then none else (fillD zs (parts.map fun p => (p.1, p.2.1, (st.ev p.2.2).cells))).map fun ds => (.agg ds, st)
  | .bslice e sz parts => match dst, rowsD sz (parts.map st.ev) with
    | some t, some rows => some (.own e sz rows t, st.purge t)
    | _, _ => none
  | .load none x => match st.ev x with
    | .ptr n off => ((lk st.bs n).bind (·[off]?)).map fun d => (d, st)
    | .eptr (c :: _) => some (.pd c, st)
    | _ => none
  | .load (some k) x => match st.ev x with
    | .ptr n off => (lk st.bs n).bind fun ds => if off + k ≤ ds.length then some (.agg ((ds.drop off).take k), st) else none
    | .eptr cs => if k ≤ cs.length then some (.agg ((cs.take k).map .pd), st) else none
    | _ => none
  | .store sz x y => match st.ev x with
    | .ptr n off => (lk st.bs n).bind fun ds =>
      if (st.ev y).cells.length = sz ∧ off + sz ≤ ds.length ∧ (st.ev y).cells.all D.sc = true ∧ n < 1000000 then
        some (.any, { st with bs := (n, ds.take off ++ ((st.ev y).cells ++ ds.drop (off + sz))) :: st.bs })
      else none
    | _ => none
  | .ncheck x => match st.ev x with
    | .ptr n off => some (.ptr n off, st)
    | .eptr cs => some (.eptr cs, st)
    | .fn f caps => some (.fn f caps, st)
    | _ => none
  | .bin op x y => (binD op (st.ev x) (st.ev y)).map fun d => (d, st)
  | .binB neg x y => match st.ev x, st.ev y with
    | .pd (.raw (.bool a)), .pd (.raw (.bool b)) => some (.pd (.raw (.bool (if neg then !(a == b) else a == b))), st)
    | _, _ => none
  | .eqs neg ks x y => match st.ev x, st.ev y with
    | .agg ds, .agg es => match D.raws ds, D.raws es with
      | some xs, some ys => (eqVs ks xs ys).map fun b => (.pd (.raw (.bool (if neg then !b else b))), st)
      | _, _ => none
    | _, _ => none
  | .un op x => (unD op (st.ev x)).map fun d => (d, st)
  | .conv k x => match st.ev x with
    | .pd (.raw (.int _ n)) => some (.pd (.raw (.int k (k.wrap n))), st)
    | _ => none
  | .fieldA off x => match st.ev x with
    | .ptr n o => some (.ptr n (o + off), st)
    | .eptr cs => some (.eptr (cs.drop off), st)
    | _ => none
  | .field off none x => match st.ev x with
    | .agg ds => (ds[off]?).map fun d => (d, st)
    | _ => none
  | .field off (some k) x => match st.ev x with
    | .agg ds => if off + k ≤ ds.length then some (.agg ((ds.drop off).take k), st) else none
    | _ => none
  | .idxA sz x i => match (st.ev x).els, st.ev i with
    | some els, .pd (.raw (.int _ n)) => if 0 ≤ n then match els[n.toNat]? with
      | some row => if row.length = sz then some (.eptr row, st) else none
      | none => none
      else none
    | _, _ => none
  | .idxS x i => match st.ev x, st.ev i with
    | .pd (.raw (.string s)), .pd (.raw (.int _ n)) => if 0 ≤ n then (s[n.toNat]?).map fun b => (.pd (.raw (.int .u8 b.toNat)), st) else none
    | _, _ => none
  | .extract x j => match st.ev x with
    | .tup ds => (ds[j]?).map fun d => (d, st)
    | _ => none
  | .mkfn f caps => (D.caps (caps.map st.ev)).map fun cs => (.fn f cs, st)
  | .mkif t x => match st.ev x with
    | .agg ds => (D.toPDs ds).map fun cs => (.pd (.iface t true cs), st)
    | d => d.toPD.map fun c => (.pd (.iface t false [c]), st)
  | .slcS x lo hi => match st.ev x with
    | .pd (.raw (.string s)) => match boundD st 0 lo, boundD st s.size hi with
      | some l, some h => if l ≤ h ∧ h ≤ s.size then some (.pd (.raw (.string (s.extract l h))), st) else none
      | _, _ => none
    | _ => none
  | .slcL sz x lo hi => match (st.ev x).els with
    | some els => match boundD st 0 lo, boundD st els.length hi with
      | some l, some h => if l ≤ h ∧ h ≤ els.length ∧ rowsOK sz els then some (.pd (.slice ((els.take h).drop l)), st) else none
      | _, _ => none
    | none => none
  | .minmax mx x y => match st.ev x, st.ev y with
    | .pd (.raw (.int k a)), .pd (.raw (.int j b)) => if k = j then some (.pd (.raw (.int k (if mx then (if a < b then b else a) else (if b < a then b else a)))), st) else none
    | _, _ => none
  | .len x true => match st.ev x with
    | .pd (.raw (.string s)) => some (.pd (.raw (.int .i64 s.size)), st)
    | _ => none
  | .len x false => (st.ev x).els.map fun els => (.pd (.raw (.int .i64 els.length)), st)
  | _ => none

/-- Operations that change nothing but their own slot, and yield their value in every world where what they read stands. -/
def AOp.quiet : AOp → Bool
  | .alloc .. | .box .. | .bslice .. | .store .. | .pick .. | .append .. | .call .. | .callv .. => false
  | _ => true

/-- The variable that it reads. -/
def AOp.reads (st : St) : AOp → Option Nat
  | .load _ x => match st.ev x with
    | .ptr n _ => some n
    | _ => none
  | _ => none

/-- The variable that it touches. -/
def AOp.touch (dst : Option Nat) (st : St) : AOp → Option Nat
  | .alloc .. => dst
  | .box .. => dst
  | .store _ x _ => match st.ev x with
    | .ptr n _ => some n
    | _ => none
  | _ => none

mutual
/-- The cells of a type that can be compared cell by cell. -/
def leafs (P : Program) : Nat → TypeId → Option (List LK)
  | 0, _ => none
  | n + 1, t => match P.underlying t with
    | some (.int _) => some [.int]
    | some .string => some [.str]
    | some .bool => some [.bool]
    | some (.struct fs) => if P.stoodInHeld t then none else leafsF P n fs.toList 0
    | _ => none
def leafsF (P : Program) : Nat → List Field → Nat → Option (List LK)
  | _, [], _ => some []
  | 0, _ :: _, _ => none
  | n + 1, f :: fs, off => if f.name = "_" ∨ f.offset ≠ off then none else match leafs P n f.type, P.info? f.type with
    | some ks, some i => if i.size = ks.length then (leafsF P n fs (off + ks.length)).map (ks ++ ·) else none
    | _, _ => none
end

/-- What an operation is, its types looked up. -/
def aggSize (P : Program) (t : TypeId) : Option (Option Nat) :=
  match P.underlying t, P.info? t with
  | some (.struct _), some i => some (some i.size)
  | some (.array _ _), _ => none
  | some _, some _ => some none
  | _, _ => none

def partsOf (P : Program) (fs : Array Field) : List (Nat × Operand) → Option (List (Nat × Nat × Operand))
  | [] => some []
  | (j, x) :: r => match fs[j]?, partsOf P fs r with
    | some f, some rs => match P.info? f.type with
      | some i => some ((f.offset, i.size, x) :: rs)
      | none => none
    | _, _ => none

def comp (P : Program) : Op → Option AOp
  | .move x => some (.mv x)
  | .assign x => some (.mv x)
  | .pick c a b => some (.pick c a b)
  | .alloc e => match P.info? e with
    | some i => match i.zero with
      | some z => if z.cells.all (·.oneCell') then some (.alloc e (z.cells.toList.map cD0)) else none
      | none => none
    | none => none
  | .box e x => some (.box e x)
  | .build t parts => match P.underlying t, P.info? t with
    | some (.struct fs), some i => match i.zero, partsOf P fs parts.toList with
      | some z, some ps => if z.cells.all (·.oneCell') ∧ fs.toList.all (fun f => (P.info? f.type).isSome) then some (.build (z.cells.toList.map cD0) ps) else none
      | _, _ => none
    | _, _ => none
  | .buildSlice t n parts => match P.underlying t with
    | some (.slice e) => match P.info? e with
      | some i => match i.zero with
        | some z => if parts.toList.map (·.1) = List.range n ∧ z.cells.size = i.size ∧ 0 < i.size ∧ n * i.size ≤ 16777216 then some (.bslice e i.size (parts.toList.map (·.2))) else none
        | none => none
      | none => none
    | _ => none
  | .load t x => (aggSize P t).map fun k => .load k x
  | .store t x y => match P.info? t with
    | some i => some (.store i.size x y)
    | none => none
  | .nilCheck x => some (.ncheck x)
  | .binOp op t x y _ => match P.underlying t with
    | some (.int _) => some (.bin op x y)
    | some .string => some (.bin op x y)
    | some .bool => match op with
      | .eql => some (.binB false x y)
      | .neq => some (.binB true x y)
      | _ => none
    | some (.struct _) => match op, leafs P 40 t with
      | .eql, some ks => if P.eqGuardType P.depth t then none else some (.eqs false ks x y)
      | .neq, some ks => if P.eqGuardType P.depth t then none else some (.eqs true ks x y)
      | _, _ => none
    | _ => none
  | .unOp op _ x => some (.un op x)
  | .convert s t x => match P.underlying s, P.underlying t with
    | some (.int _), some (.int k) => some (.conv k x)
    | _, _ => none
  | .fieldAddr s x f => match P.underlying s with
    | some (.struct fs) => match fs[f]? with
      | some fd => match P.info? fd.type with
        | some i => if i.size = 0 then none else some (.fieldA fd.offset x)
        | none => none
      | none => none
    | _ => none
  | .field s x f => match P.underlying s with
    | some (.struct fs) => match fs[f]? with
      | some fd => (aggSize P fd.type).map fun k => .field fd.offset k x
      | none => none
    | _ => none
  | .indexAddr t x i => match P.underlying t with
    | some (.slice e) => match P.info? e with
      | some ie => some (.idxA ie.size x i)
      | none => none
    | _ => none
  | .index t x i => match P.underlying t with
    | some .string => some (.idxS x i)
    | _ => none
  | .extract x j => some (.extract x j)
  | .makeFunc (.func f) first caps => if first = #[] then some (.mkfn f caps.toList) else none
  | .makeInterface t x => match P.underlying t with
    | some (.interface _) => none
    | some _ => some (.mkif t x)
    | none => none
  | .call c => match c.callee with
    | .value (.func f) => some (.call f c.args.toList)
    | .value x => some (.callv x c.args.toList)
    | .builtin .len => match c.args.toList, c.argTypes.toList with
      | [x], [t] => match P.underlying t with
        | some .string => some (.len x true)
        | some (.slice _) => some (.len x false)
        | _ => none
      | _, _ => none
    | .builtin .max => match c.args.toList with
      | [x, y] => some (.minmax true x y)
      | _ => none
    | .builtin .min => match c.args.toList with
      | [x, y] => some (.minmax false x y)
      | _ => none
    | .builtin .append => match c.args.toList, c.argTypes.toList with
      | [x, y], [t, u] => if t = u then match P.underlying t with
        | some (.slice e) => match P.info? e with
          | some i => match i.zero with
            | some z => if z.cells.size = i.size ∧ 0 < i.size then some (.append e i.size i.bytes x y) else none
            | none => none
          | none => none
        | _ => none
        else none
      | _, _ => none
    | _ => none
  | .slice t x lo hi none => match P.underlying t with
    | some .string => some (.slcS x lo hi)
    | some (.slice e) => match P.info? e with
      | some i => some (.slcL i.size x lo hi)
      | none => none
    | _ => none
  | _ => none

def compO (P : Program) (ops : Array Oper) (o : Oper) : Option AOper :=
  match comp P o.op with
  | some ao => match o.guard with
    | none => some ⟨none, o.dst, ao⟩
    | some (j, b) => ((ops[j]?).bind (·.dst)).map fun s => ⟨some (s, b), o.dst, ao⟩
  | none => none

def compL (P : Program) (ops : Array Oper) : List Nat → Option (List AOper)
  | [] => some []
  | i :: l => match ops[i]? with
    | some o => match compO P ops o, compL P ops l with
      | some a, some as => some (a :: as)
      | _, _ => none
    | none => none

end Go.Proofs.YtbpgebfejebmlaaGreatDoor
