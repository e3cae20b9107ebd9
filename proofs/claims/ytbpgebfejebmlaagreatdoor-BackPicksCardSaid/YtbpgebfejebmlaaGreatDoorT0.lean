/- The program's data, as plain data of the layer. -/
import Derived.Test.YtbpgebfejebmlaaGreatDoorBI
import Derived.Test.YtbpgebfejebmlaaGreatDoorProg
import Derived.IntWalk
namespace Go.Proofs.YtbpgebfejebmlaaGreatDoor
open Go Go.RowKit
set_option linter.unusedSimpArgs false
set_option linter.unusedVariables false

theorem follows : Tryz.prog.follows .mixedOrders = true := by kernel_rfl

abbrev int (n : Int) : D := .pd (.raw (.int .i64 n))
abbrev u64 (n : Int) : D := .pd (.raw (.int .u64 n))
abbrev bln (b : Bool) : D := .pd (.raw (.bool b))
abbrev str (s : ByteArray) : D := .pd (.raw (.string s))
abbrev pInt (n : Int) : PD := .raw (.int .i64 n)
abbrev pStr (s : ByteArray) : PD := .raw (.string s)
abbrev pBln (b : Bool) : PD := .raw (.bool b)

/-- A slice of things of some kind. -/
abbrev rows {α : Type} (f : α → List PD) (l : List α) : List (List PD) := l.map f

theorem rows_get {α : Type} {f : α → List PD} {l : List α} {i : Nat} {x : α} (h : l[i]? = some x) : (rows f l)[i]? = some (f x) := by simp [rows, h]
theorem rows_len {α : Type} {f : α → List PD} {l : List α} : (rows f l).length = l.length := by simp [rows]
theorem rows_row {α : Type} {f : α → List PD} {n : Nat} (hf : ∀ x, (f x).length = n) (l : List α) : ∀ r ∈ rows f l, r.length = n := by
  intro r hr
  obtain ⟨x, _, rfl⟩ := List.mem_map.1 hr
  exact hf x
theorem rows_one {α : Type} {f : α → List PD} (l : List α) (x : α) : rows f l ++ [f x] = rows f (l ++ [x]) := by simp [rows]
theorem rows_append {α : Type} {f : α → List PD} (l m : List α) : rows f l ++ rows f m = rows f (l ++ m) := by simp [rows]

theorem rowsOK_rows {α : Type} {f : α → List PD} {n : Nat} (hf : ∀ x, (f x).length = n) (l : List α) : rowsOK n (rows f l) = True := eq_true (rows_row hf l)

/-- a row of ints -/
abbrev cInt (n : Int) : List PD := [pInt n]
abbrev cStr (s : ByteArray) : List PD := [pStr s]
abbrev ints (l : List Int) : List (List PD) := rows cInt l
abbrev strs (l : List ByteArray) : List (List PD) := rows cStr l

theorem ints_get {l : List Int} {i : Nat} {x : Int} (h : l[i]? = some x) : (ints l)[i]? = some [.raw (.int .i64 x)] := rows_get h
theorem ints_len (l : List Int) : (ints l).length = l.length := rows_len
theorem ints_append (l m : List Int) : ints l ++ ints m = ints (l ++ m) := rows_append l m
theorem ints_one (l : List Int) (x : Int) : ints l ++ [[.raw (.int .i64 x)]] = ints (l ++ [x]) := rows_one l x
theorem ints_row (l : List Int) : ∀ r ∈ ints l, r.length = 1 := rows_row (f := cInt) (n := 1) (fun _ => rfl) l

structure ARef where
  kind : Int
  space : ByteArray
  name : ByteArray

abbrev ARef.pd (r : ARef) : List PD := [pInt r.kind, pStr r.space, pStr r.name]
abbrev ARef.d (r : ARef) : D := .agg [int r.kind, str r.space, str r.name]
abbrev ARef.val (r : ARef) : Value := .agg #[.int .i64 r.kind, .string r.space, .string r.name]

structure APair where
  name : ByteArray
  val : ByteArray

abbrev APair.pd (p : APair) : List PD := [pStr p.name, pStr p.val]

structure ANeed where
  kind : Int
  name : ByteArray
  vals : List ByteArray

abbrev ANeed.pd (n : ANeed) : List PD := [pInt n.kind, pStr n.name, .slice (strs n.vals)]

structure AListener where
  name : ByteArray
  port : Int
  tls : Bool
  host : ByteArray
  cert : ARef
  from_ : Int
  needs : List ANeed

abbrev AListener.pd (l : AListener) : List PD := [pStr l.name, pInt l.port, pBln l.tls, pStr l.host, pInt l.cert.kind, pStr l.cert.space, pStr l.cert.name, pInt l.from_, .slice (rows ANeed.pd l.needs)]

structure AParent where
  space : ByteArray
  name : ByteArray
  section_ : ByteArray
  port : Int

abbrev AParent.pd (p : AParent) : List PD := [pStr p.space, pStr p.name, pStr p.section_, pInt p.port]

structure ABackend where
  ref : ARef
  port : Int
  weight : Int

abbrev ABackend.pd (b : ABackend) : List PD := [pInt b.ref.kind, pStr b.ref.space, pStr b.ref.name, pInt b.port, pInt b.weight]

abbrev ABackend.d (b : ABackend) : D := .agg [int b.ref.kind, str b.ref.space, str b.ref.name, int b.port, int b.weight]

structure AMatch where
  pkind : Int
  pval : ByteArray
  method : ByteArray
  head : List APair
  query : List APair

abbrev AMatch.pd (m : AMatch) : List PD := [pInt m.pkind, pStr m.pval, pStr m.method, .slice (rows APair.pd m.head), .slice (rows APair.pd m.query)]

structure AFilter where
  kind : Int
  name : ByteArray
  val : ByteArray
  host : ByteArray
  port : Int
  path : ByteArray
  whole : Bool
  code : Int

abbrev AFilter.pd (f : AFilter) : List PD := [pInt f.kind, pStr f.name, pStr f.val, pStr f.host, pInt f.port, pStr f.path, pBln f.whole, pInt f.code]

structure ARule where
  matches_ : List AMatch
  filters : List AFilter
  backends : List ABackend

abbrev ARule.pd (r : ARule) : List PD := [.slice (rows AMatch.pd r.matches_), .slice (rows AFilter.pd r.filters), .slice (rows ABackend.pd r.backends)]

structure ASide where
  kind : Int
  space : ByteArray
  name : ByteArray

abbrev ASide.pd (s : ASide) : List PD := [pInt s.kind, pStr s.space, pStr s.name]

structure AObj where
  ref : ARef
  good : Bool
  labels : List APair
  ports : List Int
  cls : ByteArray
  listeners : List AListener
  parents : List AParent
  hosts : List ByteArray
  rules : List ARule
  from_ : List ASide
  to_ : List ASide

abbrev AObj.pd (o : AObj) : List PD := [pInt o.ref.kind, pStr o.ref.space, pStr o.ref.name, pBln o.good, .slice (rows APair.pd o.labels), .slice (ints o.ports), pStr o.cls, .slice (rows AListener.pd o.listeners),
  .slice (rows AParent.pd o.parents), .slice (strs o.hosts), .slice (rows ARule.pd o.rules), .slice (rows ASide.pd o.from_), .slice (rows ASide.pd o.to_)]
abbrev AObj.d (o : AObj) : D := .agg [int o.ref.kind, str o.ref.space, str o.ref.name, bln o.good, .pd (.slice (rows APair.pd o.labels)), .pd (.slice (ints o.ports)), str o.cls, .pd (.slice (rows AListener.pd o.listeners)),
  .pd (.slice (rows AParent.pd o.parents)), .pd (.slice (strs o.hosts)), .pd (.slice (rows ARule.pd o.rules)), .pd (.slice (rows ASide.pd o.from_)), .pd (.slice (rows ASide.pd o.to_))]

structure AGoal where
  ref : ARef
  port : Int
  weight : Int
  bad : Bool

abbrev AGoal.pd (g : AGoal) : List PD := [pInt g.ref.kind, pStr g.ref.space, pStr g.ref.name, pInt g.port, pInt g.weight, pBln g.bad]
abbrev AGoal.d (g : AGoal) : D := .agg [int g.ref.kind, str g.ref.space, str g.ref.name, int g.port, int g.weight, bln g.bad]

theorem at_lt {α : Type} {l : List α} {i : Nat} (h : i < l.length) : ∃ x, l[i]? = some x := ⟨_, List.getElem?_eq_getElem h⟩

theorem drop_at {α : Type} {l : List α} {i : Nat} {x : α} (h : l[i]? = some x) : l.drop i = x :: l.drop (i + 1) := by
  obtain ⟨hi, hx⟩ := List.getElem?_eq_some_iff.1 h
  rw [List.drop_eq_getElem_cons hi, hx]

theorem take_at {α : Type} {l : List α} {i : Nat} {x : α} (h : l[i]? = some x) : l.take (i + 1) = l.take i ++ [x] := by
  rw [List.take_add_one, h]; rfl

theorem filter_at {α : Type} {p : α → Bool} {l : List α} {i : Nat} {x : α} (h : l[i]? = some x) (hp : p x = true) : (l.filter p)[((l.take i).filter p).length]? = some x := by
  conv => lhs; arg 1; rw [← List.take_append_drop i l, drop_at h]
  rw [List.filter_append, List.getElem?_append_right (Nat.le_refl _), Nat.sub_self, List.filter_cons_of_pos hp]
  rfl

theorem filter_yes {α : Type} {p : α → Bool} {l : List α} {i : Nat} {x : α} (h : l[i]? = some x) (hp : p x = true) : ((l.take (i + 1)).filter p).length = ((l.take i).filter p).length + 1 := by
  rw [take_at h, List.filter_append, List.filter_cons_of_pos hp, List.length_append]; rfl

theorem filter_no {α : Type} {p : α → Bool} {l : List α} {i : Nat} {x : α} (h : l[i]? = some x) (hp : p x = false) : ((l.take (i + 1)).filter p).length = ((l.take i).filter p).length := by
  rw [take_at h, List.filter_append, List.filter_cons_of_neg (by simp [hp]), List.length_append]; rfl

end Go.Proofs.YtbpgebfejebmlaaGreatDoor
