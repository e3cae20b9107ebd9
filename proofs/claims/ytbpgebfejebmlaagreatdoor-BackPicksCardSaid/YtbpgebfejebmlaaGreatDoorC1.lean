/- The abstract layer, part 19: walking code over abstract states, what is still to come on a stack. -/
import Derived.Test.YtbpgebfejebmlaaGreatDoorBA
namespace Go.Proofs.YtbpgebfejebmlaaGreatDoor
open Go Go.RowKit
set_option linter.unusedSimpArgs false
set_option linter.unusedVariables false

/-- Two ways: a structure, so that nobody walks a way that is not gone. -/
structure Gif (c : Bool) (A B : Prop) : Prop where
  yes : c = true → A
  no : c = false → B

structure GifP (p : Prop) (A B : Prop) : Prop where
  yes : p → A
  no : ¬ p → B

theorem gif_true {A B : Prop} : Gif true A B = A := propext ⟨fun h => h.yes rfl, fun h => ⟨fun _ => h, fun e => by cases e⟩⟩
theorem gif_false {A B : Prop} : Gif false A B = B := propext ⟨fun h => h.no rfl, fun h => ⟨(fun e => by cases e), fun _ => h⟩⟩
theorem gif_not {c : Bool} {A B : Prop} : Gif (!c) A B = Gif c B A := by
  cases c <;> simp only [Bool.not_true, Bool.not_false, gif_true, gif_false]
theorem gif_dec {p : Prop} [Decidable p] {A B : Prop} : Gif (decide p) A B = GifP p A B :=
  propext ⟨fun h => ⟨fun hp => h.yes (decide_eq_true hp), fun hp => h.no (decide_eq_false hp)⟩, fun h => ⟨fun hp => h.yes (of_decide_eq_true hp), fun hp => h.no (of_decide_eq_false hp)⟩⟩
theorem gifP_true {A B : Prop} : GifP True A B = A := propext ⟨fun h => h.yes trivial, fun h => ⟨fun _ => h, fun e => (e trivial).elim⟩⟩
theorem gifP_false {A B : Prop} : GifP False A B = B := propext ⟨fun h => h.no id, fun h => ⟨fun e => e.elim, fun _ => h⟩⟩
theorem gifP_not {p : Prop} {A B : Prop} : GifP (¬ p) A B = GifP p B A :=
  propext ⟨fun h => ⟨fun hp => h.no (fun k => k hp), fun hp => h.yes hp⟩, fun h => ⟨fun hp => h.no hp, fun hp => h.yes (Classical.byContradiction hp)⟩⟩
theorem gif_and {c : Bool} {A B : Prop} : ((c = true → A) ∧ (c = false → B)) = Gif c A B := propext ⟨fun h => ⟨h.1, h.2⟩, fun h => ⟨h.yes, h.no⟩⟩

theorem boolm {A B : Bool → Prop} (h : ∀ b, A b = B b) (d : D) : (match d with | .pd (.raw (.bool b)) => A b | _ => False) = (match d with | .pd (.raw (.bool b)) => B b | _ => False) := by rw [show A = B from funext h]

theorem boolt {A B : Bool → Prop} {N : Prop} (h : ∀ b, A b = B b) (d : D) : (match d with | .pd (.raw (.bool b)) => A b | .tup [] => N | _ => False) = (match d with | .pd (.raw (.bool b)) => B b | .tup [] => N | _ => False) := by rw [show A = B from funext h]

inductive Fr where
  | seq (y : AC)
  | block (id : Nat)
  | round (J : St → Prop)

/-- What is still to come. -/
def contS (P : Program) : List Fr → (Exit → St → Prop) → Exit → St → Prop
  | [], K, e, s => K e s
  | .seq y :: S, K, e, s => match e with
    | .normal => run P y s (contS P S K)
    | e => contS P S K e s
  | .block id :: S, K, e, s => match e with
    | .exit j => if j = id then contS P S K .normal s else contS P S K (.exit j) s
    | e => contS P S K e s
  | .round J :: S, K, e, s => match e with
    | .normal => J s
    | e => contS P S K e s

/-- What comes behind a region. -/
def nextS (P : Program) (kp : Option (List Nat)) (S : List Fr) (K : Exit → St → Prop) (s : St) : Prop := contS P S K .normal (s.keep kp)

section
variable {P : Program} {S : List Fr} {K : Exit → St → Prop} {st s : St} {x y : AC}

theorem run_start : run P x st K = run P x st (contS P [] K) := propext Iff.rfl
theorem run_seq : run P (.seq x y) st (contS P S K) = run P x st (contS P (.seq y :: S) K) := by
  simp only [run]
  congr 1
theorem run_block {id : Nat} : run P (.block id x) st (contS P S K) = run P x st (contS P (.block id :: S) K) := by
  simp only [run]
  congr 1
theorem run_skip : run P .skip st (contS P S K) = contS P S K .normal st := propext Iff.rfl
theorem run_ret : run P .ret st (contS P S K) = contS P S K .ret st := propext Iff.rfl
theorem run_exit {id : Nat} : run P (.exit id) st (contS P S K) = contS P S K (.exit id) st := propext Iff.rfl
theorem run_region {l : List AOper} {kp : Option (List Nat)} : run P (.region l kp) st (contS P S K) = aops P l st (nextS P kp S K) := propext Iff.rfl
theorem run_draw {l : List AOper} {tb : List (List Nat)} {p : Plan} {kp : Option (List Nat)} : run P (.draw l tb p kp) st (contS P S K) = drun P l tb p [] st (nextS P kp S K) := propext Iff.rfl
theorem run_cond {c : Operand} : run P (.cond c x y) st (contS P S K) = match st.ev c with
    | .pd (.raw (.bool b)) => Gif b (run P x (st.know c true) (contS P S K)) (run P y (st.know c false) (contS P S K))
    | _ => False := by
  exact boolm (fun _ => gif_and) (st.ev c)
theorem run_rangeF {ns : List Nat} {p : Nat} {x : Operand} : run P (.rangeF ns p x y) st (contS P S K) = match st.ev x with
    | .fn f caps => caps.all (fun c => !ns.contains c.1 && decide (c.1 < 1000000)) = true ∧ ns.all (fun n => (lk st.bs n).isSome && decide (n < 200000)) = true ∧
      ∃ (xs : List Value) (J : Nat → List (Nat × List D) → Prop), IterW P f caps st xs ∧ J 0 (bsOf false st.bs ns ns) ∧
      (∀ i v bs, xs[i]? = some v → J i bs → run P y ⟨(p, cD v) :: cutFr ns st.fr, bs, [], .no⟩ (contS P [] (roundK (J (i + 1)) (contS P S K) st ns))) ∧ ∀ bs, J xs.length bs → contS P S K .normal (st.after ns bs)
    | _ => False := propext Iff.rfl
theorem contS_nil {e : Exit} : contS P [] K e s = K e s := propext Iff.rfl
theorem contS_seq : contS P (.seq y :: S) K .normal s = run P y s (contS P S K) := propext Iff.rfl
theorem contS_seq_ret : contS P (.seq y :: S) K .ret s = contS P S K .ret s := propext Iff.rfl
theorem contS_seq_exit {j : Nat} : contS P (.seq y :: S) K (.exit j) s = contS P S K (.exit j) s := propext Iff.rfl
theorem contS_block {id : Nat} : contS P (.block id :: S) K .normal s = contS P S K .normal s := propext Iff.rfl
theorem contS_block_ret {id : Nat} : contS P (.block id :: S) K .ret s = contS P S K .ret s := propext Iff.rfl
theorem contS_block_exit {id j : Nat} : contS P (.block id :: S) K (.exit j) s = if j = id then contS P S K .normal s else contS P S K (.exit j) s := propext Iff.rfl
theorem contS_round {J : St → Prop} : contS P (.round J :: S) K .normal s = J s := propext Iff.rfl
theorem contS_round_ret {J : St → Prop} : contS P (.round J :: S) K .ret s = contS P S K .ret s := propext Iff.rfl
theorem contS_round_exit {J : St → Prop} {j : Nat} : contS P (.round J :: S) K (.exit j) s = contS P S K (.exit j) s := propext Iff.rfl
theorem nextS_eq {kp : Option (List Nat)} : nextS P kp S K s = contS P S K .normal (s.keep kp) := propext Iff.rfl

end

/-- What comes behind an operation: a structure, so that nobody unfolds it unasked. -/
structure AopsK (P : Program) (r : List AOper) (K : St → Prop) (st : St) : Prop where
  out : aops P r st K

/-- What comes behind a call. -/
def putK (dst : Option Nat) (K : St → Prop) (d : D) (st : St) : Prop := K (st.puto dst d)

section
variable {P : Program} {gd : Option (Nat × Bool)} {dst : Option Nat} {st : St} {K : St → Prop}
theorem aopsK_eq {r : List AOper} : AopsK P r K st = aops P r st K := propext ⟨fun h => h.out, fun h => ⟨h⟩⟩
theorem aopsK_fun {r : List AOper} : (fun st' => aops P r st' K) = AopsK P r K := funext fun _ => aopsK_eq.symm
theorem aops_nil : aops P [] st K = K st := propext Iff.rfl
theorem aops_none {op : AOp} {r : List AOper} : aops P (⟨none, dst, op⟩ :: r) st K = ystep P ⟨none, dst, op⟩ st (AopsK P r K) := by rw [← aopsK_fun]; rfl
theorem aops_yes {s : Nat} {op : AOp} {r : List AOper} : aops P (⟨some (s, true), dst, op⟩ :: r) st K = match st.get s with
      | .pd (.raw (.bool c)) => Gif c (ystep P ⟨some (s, true), dst, op⟩ (st.know (.tmp s) true) (AopsK P r K)) (aops P r ((st.know (.tmp s) false).puto dst (.tup [])) K)
      | .tup [] => aops P r (st.puto dst (.tup [])) K
      | _ => False := by
  rw [← aopsK_fun]
  exact boolt (fun _ => gif_and) (st.get s)
theorem aops_no {s : Nat} {op : AOp} {r : List AOper} : aops P (⟨some (s, false), dst, op⟩ :: r) st K = match st.get s with
      | .pd (.raw (.bool c)) => Gif c (aops P r ((st.know (.tmp s) true).puto dst (.tup [])) K) (ystep P ⟨some (s, false), dst, op⟩ (st.know (.tmp s) false) (AopsK P r K))
      | .tup [] => aops P r (st.puto dst (.tup [])) K
      | _ => False := by
  rw [← aopsK_fun]
  exact boolt (fun _ => propext ⟨fun h => ⟨h.2, h.1⟩, fun h => ⟨h.no, h.yes⟩⟩) (st.get s)
theorem y_callv (x : Operand) (args : List Operand) : ystep P ⟨gd, dst, .callv x args⟩ st K = match st.ev x with
    | .pd (.raw (.func (.yield l) first caps)) => match st.hs, valsD (args.map st.ev) with
      | .it l' xs i false, some vs => l' = l ∧ first = #[] ∧ caps = #[] ∧ xs[i]? = some vs ∧
        K (St.puto { st with hs := .it l xs (i + 1) false } dst (.pd (.raw (.bool true)))) ∧ K (St.puto { st with hs := .it l xs (i + 1) true } dst (.pd (.raw (.bool false))))
      | _, _ => False
    | .fn f caps => CallW P f (args.map st.ev ++ caps.map fun c => .ptr c.1 c.2) st (putK dst K)
    | _ => False := by
  simp only [ystep, astep]
  cases st.ev x with
  | pd p =>
    cases p with
    | raw v => cases v <;> first | rfl | (rename_i t _ _; cases t <;> rfl)
    | _ => rfl
  | _ => rfl
theorem putK_eq {d : D} : putK dst K d st = K (st.puto dst d) := propext Iff.rfl
theorem y_mv (x : Operand) : ystep P ⟨gd, dst, .mv x⟩ st K = astep P ⟨gd, dst, .mv x⟩ st K := propext Iff.rfl
theorem y_pick (c x y : Operand) : ystep P ⟨gd, dst, .pick c x y⟩ st K = match st.ev c with
    | .pd (.raw (.bool b)) => Gif b (K ((st.know c true).puto dst (st.ev x))) (K ((st.know c false).puto dst (st.ev y)))
    | _ => False := by
  exact boolm (fun _ => gif_and) (st.ev c)
theorem y_alloc (e : TypeId) (zs : List D) : ystep P ⟨gd, dst, .alloc e zs⟩ st K = astep P ⟨gd, dst, .alloc e zs⟩ st K := propext Iff.rfl
theorem y_box (e : TypeId) (x : Operand) : ystep P ⟨gd, dst, .box e x⟩ st K = astep P ⟨gd, dst, .box e x⟩ st K := propext Iff.rfl
theorem y_build (zs : List D) (parts : List (Nat × Nat × Operand)) : ystep P ⟨gd, dst, .build zs parts⟩ st K = astep P ⟨gd, dst, .build zs parts⟩ st K := propext Iff.rfl
theorem y_bslice (e : TypeId) (sz : Nat) (parts : List Operand) : ystep P ⟨gd, dst, .bslice e sz parts⟩ st K = astep P ⟨gd, dst, .bslice e sz parts⟩ st K := propext Iff.rfl
theorem y_load (k : Option Nat) (x : Operand) : ystep P ⟨gd, dst, .load k x⟩ st K = astep P ⟨gd, dst, .load k x⟩ st K := propext Iff.rfl
theorem y_store (sz : Nat) (x y : Operand) : ystep P ⟨gd, dst, .store sz x y⟩ st K = astep P ⟨gd, dst, .store sz x y⟩ st K := propext Iff.rfl
theorem y_ncheck (x : Operand) : ystep P ⟨gd, dst, .ncheck x⟩ st K = astep P ⟨gd, dst, .ncheck x⟩ st K := propext Iff.rfl
theorem y_bin (op : BinOp) (x y : Operand) : ystep P ⟨gd, dst, .bin op x y⟩ st K = astep P ⟨gd, dst, .bin op x y⟩ st K := propext Iff.rfl
theorem y_binB (neg : Bool) (x y : Operand) : ystep P ⟨gd, dst, .binB neg x y⟩ st K = astep P ⟨gd, dst, .binB neg x y⟩ st K := propext Iff.rfl
theorem y_eqs (neg : Bool) (ks : List LK) (x y : Operand) : ystep P ⟨gd, dst, .eqs neg ks x y⟩ st K = astep P ⟨gd, dst, .eqs neg ks x y⟩ st K := propext Iff.rfl
theorem y_un (op : UnOp) (x : Operand) : ystep P ⟨gd, dst, .un op x⟩ st K = astep P ⟨gd, dst, .un op x⟩ st K := propext Iff.rfl
theorem y_conv (k : IntKind) (x : Operand) : ystep P ⟨gd, dst, .conv k x⟩ st K = astep P ⟨gd, dst, .conv k x⟩ st K := propext Iff.rfl
theorem y_fieldA (off : Nat) (x : Operand) : ystep P ⟨gd, dst, .fieldA off x⟩ st K = astep P ⟨gd, dst, .fieldA off x⟩ st K := propext Iff.rfl
theorem y_field (off : Nat) (k : Option Nat) (x : Operand) : ystep P ⟨gd, dst, .field off k x⟩ st K = astep P ⟨gd, dst, .field off k x⟩ st K := propext Iff.rfl
theorem y_idxA (sz : Nat) (x i : Operand) : ystep P ⟨gd, dst, .idxA sz x i⟩ st K = astep P ⟨gd, dst, .idxA sz x i⟩ st K := propext Iff.rfl
theorem y_idxS (x i : Operand) : ystep P ⟨gd, dst, .idxS x i⟩ st K = astep P ⟨gd, dst, .idxS x i⟩ st K := propext Iff.rfl
theorem y_extract (x : Operand) (j : Nat) : ystep P ⟨gd, dst, .extract x j⟩ st K = astep P ⟨gd, dst, .extract x j⟩ st K := propext Iff.rfl
theorem y_mkfn (f : FuncId) (caps : List Operand) : ystep P ⟨gd, dst, .mkfn f caps⟩ st K = astep P ⟨gd, dst, .mkfn f caps⟩ st K := propext Iff.rfl
theorem y_mkif (t : TypeId) (x : Operand) : ystep P ⟨gd, dst, .mkif t x⟩ st K = astep P ⟨gd, dst, .mkif t x⟩ st K := propext Iff.rfl
theorem y_len (x : Operand) (str : Bool) : ystep P ⟨gd, dst, .len x str⟩ st K = astep P ⟨gd, dst, .len x str⟩ st K := propext Iff.rfl
theorem y_minmax (mx : Bool) (x y : Operand) : ystep P ⟨gd, dst, .minmax mx x y⟩ st K = astep P ⟨gd, dst, .minmax mx x y⟩ st K := propext Iff.rfl
theorem y_slcS (x : Operand) (lo hi : Option Operand) : ystep P ⟨gd, dst, .slcS x lo hi⟩ st K = astep P ⟨gd, dst, .slcS x lo hi⟩ st K := propext Iff.rfl
theorem y_slcL (sz : Nat) (x : Operand) (lo hi : Option Operand) : ystep P ⟨gd, dst, .slcL sz x lo hi⟩ st K = astep P ⟨gd, dst, .slcL sz x lo hi⟩ st K := propext Iff.rfl
theorem y_append (e : TypeId) (sz bytes : Nat) (x y : Operand) : ystep P ⟨gd, dst, .append e sz bytes x y⟩ st K = astep P ⟨gd, dst, .append e sz bytes x y⟩ st K := propext Iff.rfl
theorem y_call (f : FuncId) (args : List Operand) : ystep P ⟨gd, dst, .call f args⟩ st K = CallW P f (args.map st.ev) st (putK dst K) := propext Iff.rfl
end

section
variable {P : Program} {S : List Fr} {K : Exit → St → Prop} {st s : St} {x y : AC}
/-- What a round's end is to hand on. -/
def Round (P : Program) (I : Nat → St → Prop) (n : Nat) (s : St) : Prop := ∃ m s2, m < n ∧ Weak P s s2 ∧ I m s2

theorem loopS (I : Nat → St → Prop) (n0 : Nat) (s0 : St) (hw : Weak P st s0) (h0 : I n0 s0) (h : ∀ n s, I n s → run P x s (contS P (.round (Round P I n) :: S) K)) : run P (.loop x) st (contS P S K) := by
  simp only [run]
  refine ⟨I, ⟨n0, s0, hw, h0⟩, fun n s hi => ?_⟩
  exact h n s hi
/-- A range over a function. -/
theorem rangeS {ns : List Nat} {p : Nat} {c : Operand} {f : FuncId} {caps : List (Nat × Nat)} (xs : List Value) (J : Nat → List (Nat × List D) → Prop) (hev : st.ev c = .fn f caps)
    (hc : caps.all (fun c => !ns.contains c.1 && decide (c.1 < 1000000)) = true) (hn : ns.all (fun n => (lk st.bs n).isSome && decide (n < 200000)) = true) (hit : IterW P f caps st xs) (h0 : J 0 (bsOf false st.bs ns ns))
    (hr : ∀ i v bs, xs[i]? = some v → J i bs → run P y ⟨(p, cD v) :: cutFr ns st.fr, bs, [], .no⟩ (contS P [] (roundK (J (i + 1)) (contS P S K) st ns))) (he : ∀ bs, J xs.length bs → contS P S K .normal (st.after ns bs)) :
    run P (.rangeF ns p c y) st (contS P S K) := by
  rw [run_rangeF, hev]
  exact ⟨hc, hn, xs, J, hit, h0, hr, he⟩

end

/-! What may be forgotten, or told anew. -/

def lessL {α : Type} : List (Nat × α) → List (Nat × α) → Prop
  | [], _ => True
  | (i, d) :: r, l => lk l i = some d ∧ lessL r l

theorem lessL_lk {α : Type} : ∀ {r l : List (Nat × α)}, lessL r l → ∀ (i : Nat) (d : α), lk r i = some d → lk l i = some d
  | [], _, _, _, _, h => by simp [lk] at h
  | (j, e) :: r, l, h, i, d, hl => by
    simp only [lk] at hl
    split at hl
    · rename_i hij
      subst hij
      cases hl
      exact h.1
    · exact lessL_lk h.2 i d hl

theorem Weak.less {P : Program} {st st' : St} (hf : lessL st'.fr st.fr) (hb : lessL st'.bs st.bs) (hm : lessL st'.ms st.ms) (hh : st'.hs = st.hs) : Weak P st st' :=
  fun _ g _ _ _ h => ⟨g, h.less (fun i d hd => .inl (lessL_lk hf i d hd)) (lessL_lk hb) (lessL_lk hm) hh⟩

theorem SR.tell {C : Ctx} {st : St} {g : Gh} {a : Act} {w : World} (h : SR C st g a w) {i : Nat} (hi : i < C.N) {d : D} (hd : Rep g w d (a.tmps.getD i undef)) : SR C (st.put i d) g a w := by
  refine ⟨h.defers, h.size, fun j e hj => ?_, h.mem, h.x, h.fix⟩
  simp only [St.put, lk] at hj
  split at hj
  · rename_i hji
    subst hji
    cases hj
    exact ⟨hi, hd⟩
  · exact h.rep j e hj

theorem grownBy_same (w : World) (row : Option Nat) : w.grownBy w row := ⟨rfl, rfl, rfl, Nat.le_refl _, fun _ _ _ => rfl⟩

/-- The nil slice is a row of one's own. -/
theorem Weak.own0 {P : Program} {st : St} (i t : Nat) (e : TypeId) {ti : TypeInfo} (hi : P.info? e = some ti) (hpos : 0 < ti.size) (h : lk st.fr i = some .nils) : Weak P st ((st.purge t).put i (.own e ti.size [] t)) := by
  intro C g a w hP hs
  subst hP
  obtain ⟨hN, hr⟩ := hs.rep i _ h
  simp only [Rep] at hr
  have h1 := hs.purge t
  obtain ⟨h2, _⟩ := SR.owned h1 t (by simp) (grownBy_same w none) _ h1.x (fun k e => by cases e) (fun _ h => h) (fun k e => by cases e) e ti hi hpos (.slice none 0 0) 0 [] (World.ownsRow_nil _ _ _ _) (fun b hb => by cases hb) (fun b o _ hb => by cases hb)
  refine ⟨_, h2.tell hN ?_⟩
  rw [hr]
  simp only [Rep]
  exact ⟨.empty _ _, by simp, by simp⟩

/-- The nil slice is a row of one's own, and the rest is less. -/
theorem Weak.own1 {P : Program} {st st' : St} (i t : Nat) (e : TypeId) (sz : Nat) (hi : (P.info? e).map (·.size) = some sz) (hpos : 0 < sz) (h : lk st.fr i = some .nils)
    (hf : lessL st'.fr ((st.purge t).put i (.own e sz [] t)).fr) (hb : lessL st'.bs (st.purge t).bs) (hm : lessL st'.ms st.ms) (hh : st'.hs = st.hs) : Weak P st st' := by
  obtain ⟨ti, h1, rfl⟩ := Option.map_eq_some_iff.1 hi
  exact (Weak.own0 i t e h1 hpos h).trans (Weak.less hf hb hm hh)

/-! Drawn regions. -/

/-- What comes behind an operation that is taken first. -/
structure DtK (P : Program) (l : List AOper) (tb : List (List Nat)) (p : Plan) (T : List (Nat × Nat)) (i : Nat) (K : St → Prop) (r : Option Nat) (st : St) : Prop where
  out : drun P l tb p (pendTo T i r) st K

/-- What comes behind one that has come up. -/
structure DrK (P : Program) (l : List AOper) (tb : List (List Nat)) (p : Plan) (T : List (Nat × Nat)) (K : St → Prop) (t : Option Nat) (st : St) : Prop where
  free : clear T t = true
  out : drun P l tb p T st K

/-- What comes behind a call that has come up. -/
def putN (dst : Option Nat) (K : Option Nat → St → Prop) (st : St) (d : D) : Prop := K none (st.puto dst d)

section
variable {P : Program} {gd : Option (Nat × Bool)} {dst : Option Nat} {st : St} {K : St → Prop} {KT : Option Nat → St → Prop} {l : List AOper} {tb : List (List Nat)} {p : Plan} {T : List (Nat × Nat)} {i : Nat}
theorem dtK_eq {r : Option Nat} : DtK P l tb p T i K r st = drun P l tb p (pendTo T i r) st K := propext ⟨fun h => h.out, fun h => ⟨h⟩⟩
theorem drK_eq {t : Option Nat} : DrK P l tb p T K t st = (clear T t = true ∧ drun P l tb p T st K) := propext ⟨fun h => ⟨h.free, h.out⟩, fun h => ⟨h.1, h.2⟩⟩
theorem dtK_fun : (fun r st' => drun P l tb p (pendTo T i r) st' K) = DtK P l tb p T i K := funext fun _ => funext fun _ => dtK_eq.symm
theorem drK_fun : (fun t st' => clear T t = true ∧ drun P l tb p T st' K) = DrK P l tb p T K := funext fun _ => funext fun _ => drK_eq.symm
theorem putN_eq {d : D} : putN dst KT st d = KT none (st.puto dst d) := propext Iff.rfl
theorem d_done : drun P l tb .done T st K = K st := propext Iff.rfl
theorem d_take : drun P l tb (.take i p) T st K = match l[i]? with
    | some o => guarded o st (fun st => tstep o st (DtK P l tb p T i K)) (fun st => drun P l tb p T (st.puto o.dst (.tup [])) K)
    | none => False := by rw [← dtK_fun]; rfl
theorem d_alts {L : Alts} : drun P l tb (.alts L) T st K = dalts P l tb L T st K := propext Iff.rfl
theorem d_nil : dalts P l tb .nil T st K = True := propext Iff.rfl
theorem d_cons {L : Alts} : dalts P l tb (.cons i p L) T st K = ((match l[i]? with
    | some o => guarded o st (fun st => xstep P o st (DrK P l tb p (T.filter fun q => !waits tb i q.1) K)) (fun st => drun P l tb p (T.filter fun q => !waits tb i q.1) (st.puto o.dst (.tup [])) K)
    | none => False) ∧ dalts P l tb L T st K) := by rw [← drK_fun]; rfl
theorem g_none {op : AOp} {yes no : St → Prop} : guarded ⟨none, dst, op⟩ st yes no = yes st := propext Iff.rfl
theorem g_yes {s : Nat} {op : AOp} {yes no : St → Prop} : guarded ⟨some (s, true), dst, op⟩ st yes no = match st.get s with
    | .pd (.raw (.bool c)) => Gif c (yes (st.know (.tmp s) true)) (no (st.know (.tmp s) false))
    | .tup [] => no st
    | _ => False := by
  exact boolt (fun _ => gif_and) (st.get s)
theorem g_no {s : Nat} {op : AOp} {yes no : St → Prop} : guarded ⟨some (s, false), dst, op⟩ st yes no = match st.get s with
    | .pd (.raw (.bool c)) => Gif c (no (st.know (.tmp s) true)) (yes (st.know (.tmp s) false))
    | .tup [] => no st
    | _ => False := by
  exact boolt (fun _ => propext ⟨fun h => ⟨h.2, h.1⟩, fun h => ⟨h.no, h.yes⟩⟩) (st.get s)
theorem clear_none : clear T none = true := rfl
theorem clear_some {t : Nat} : clear T (some t) = T.all fun p => p.2 != t := rfl
theorem pendTo_none : pendTo T i none = T := rfl
theorem pendTo_some {n : Nat} : pendTo T i (some n) = (i, n) :: T := rfl
theorem x_call (f : FuncId) (args : List Operand) : xstep P ⟨gd, dst, .call f args⟩ st KT = PureW P f (args.map st.ev) st (putN dst KT st) := propext Iff.rfl
theorem x_callv (x : Operand) (args : List Operand) : xstep P ⟨gd, dst, .callv x args⟩ st KT = match st.ev x with
    | .fn f caps => PureW P f (args.map st.ev ++ caps.map fun c => .ptr c.1 c.2) st (putN dst KT st)
    | _ => False := propext Iff.rfl
theorem x_mv (x : Operand) : xstep P ⟨gd, dst, .mv x⟩ st KT = astep P ⟨gd, dst, .mv x⟩ st (KT none) := propext Iff.rfl
theorem t_mv (x : Operand) : tstep ⟨gd, dst, .mv x⟩ st KT = match (AOp.mv x).ex dst st with
    | some (d, _) => KT none (st.puto dst d)
    | none => False := propext Iff.rfl
theorem x_build (zs : List D) (parts : List (Nat × Nat × Operand)) : xstep P ⟨gd, dst, .build zs parts⟩ st KT = astep P ⟨gd, dst, .build zs parts⟩ st (KT none) := propext Iff.rfl
theorem t_build (zs : List D) (parts : List (Nat × Nat × Operand)) : tstep ⟨gd, dst, .build zs parts⟩ st KT = match (AOp.build zs parts).ex dst st with
    | some (d, _) => KT none (st.puto dst d)
    | none => False := propext Iff.rfl
theorem x_load (k : Option Nat) (x : Operand) : xstep P ⟨gd, dst, .load k x⟩ st KT = astep P ⟨gd, dst, .load k x⟩ st (KT none) := propext Iff.rfl
theorem t_load (k : Option Nat) (x : Operand) : tstep ⟨gd, dst, .load k x⟩ st KT = match (AOp.load k x).ex dst st with
    | some (d, _) => KT (match st.ev x with | .ptr n _ => some n | _ => none) (st.puto dst d)
    | none => False := propext Iff.rfl
theorem x_ncheck (x : Operand) : xstep P ⟨gd, dst, .ncheck x⟩ st KT = astep P ⟨gd, dst, .ncheck x⟩ st (KT none) := propext Iff.rfl
theorem t_ncheck (x : Operand) : tstep ⟨gd, dst, .ncheck x⟩ st KT = match (AOp.ncheck x).ex dst st with
    | some (d, _) => KT none (st.puto dst d)
    | none => False := propext Iff.rfl
theorem x_bin (op : BinOp) (x y : Operand) : xstep P ⟨gd, dst, .bin op x y⟩ st KT = astep P ⟨gd, dst, .bin op x y⟩ st (KT none) := propext Iff.rfl
theorem t_bin (op : BinOp) (x y : Operand) : tstep ⟨gd, dst, .bin op x y⟩ st KT = match (AOp.bin op x y).ex dst st with
    | some (d, _) => KT none (st.puto dst d)
    | none => False := propext Iff.rfl
theorem x_binB (neg : Bool) (x y : Operand) : xstep P ⟨gd, dst, .binB neg x y⟩ st KT = astep P ⟨gd, dst, .binB neg x y⟩ st (KT none) := propext Iff.rfl
theorem t_binB (neg : Bool) (x y : Operand) : tstep ⟨gd, dst, .binB neg x y⟩ st KT = match (AOp.binB neg x y).ex dst st with
    | some (d, _) => KT none (st.puto dst d)
    | none => False := propext Iff.rfl
theorem x_eqs (neg : Bool) (ks : List LK) (x y : Operand) : xstep P ⟨gd, dst, .eqs neg ks x y⟩ st KT = astep P ⟨gd, dst, .eqs neg ks x y⟩ st (KT none) := propext Iff.rfl
theorem t_eqs (neg : Bool) (ks : List LK) (x y : Operand) : tstep ⟨gd, dst, .eqs neg ks x y⟩ st KT = match (AOp.eqs neg ks x y).ex dst st with
    | some (d, _) => KT none (st.puto dst d)
    | none => False := propext Iff.rfl
theorem x_un (op : UnOp) (x : Operand) : xstep P ⟨gd, dst, .un op x⟩ st KT = astep P ⟨gd, dst, .un op x⟩ st (KT none) := propext Iff.rfl
theorem t_un (op : UnOp) (x : Operand) : tstep ⟨gd, dst, .un op x⟩ st KT = match (AOp.un op x).ex dst st with
    | some (d, _) => KT none (st.puto dst d)
    | none => False := propext Iff.rfl
theorem x_conv (k : IntKind) (x : Operand) : xstep P ⟨gd, dst, .conv k x⟩ st KT = astep P ⟨gd, dst, .conv k x⟩ st (KT none) := propext Iff.rfl
theorem t_conv (k : IntKind) (x : Operand) : tstep ⟨gd, dst, .conv k x⟩ st KT = match (AOp.conv k x).ex dst st with
    | some (d, _) => KT none (st.puto dst d)
    | none => False := propext Iff.rfl
theorem x_fieldA (off : Nat) (x : Operand) : xstep P ⟨gd, dst, .fieldA off x⟩ st KT = astep P ⟨gd, dst, .fieldA off x⟩ st (KT none) := propext Iff.rfl
theorem t_fieldA (off : Nat) (x : Operand) : tstep ⟨gd, dst, .fieldA off x⟩ st KT = match (AOp.fieldA off x).ex dst st with
    | some (d, _) => KT none (st.puto dst d)
    | none => False := propext Iff.rfl
theorem x_field (off : Nat) (k : Option Nat) (x : Operand) : xstep P ⟨gd, dst, .field off k x⟩ st KT = astep P ⟨gd, dst, .field off k x⟩ st (KT none) := propext Iff.rfl
theorem t_field (off : Nat) (k : Option Nat) (x : Operand) : tstep ⟨gd, dst, .field off k x⟩ st KT = match (AOp.field off k x).ex dst st with
    | some (d, _) => KT none (st.puto dst d)
    | none => False := propext Iff.rfl
theorem x_idxA (sz : Nat) (x i : Operand) : xstep P ⟨gd, dst, .idxA sz x i⟩ st KT = astep P ⟨gd, dst, .idxA sz x i⟩ st (KT none) := propext Iff.rfl
theorem t_idxA (sz : Nat) (x i : Operand) : tstep ⟨gd, dst, .idxA sz x i⟩ st KT = match (AOp.idxA sz x i).ex dst st with
    | some (d, _) => KT none (st.puto dst d)
    | none => False := propext Iff.rfl
theorem x_idxS (x i : Operand) : xstep P ⟨gd, dst, .idxS x i⟩ st KT = astep P ⟨gd, dst, .idxS x i⟩ st (KT none) := propext Iff.rfl
theorem t_idxS (x i : Operand) : tstep ⟨gd, dst, .idxS x i⟩ st KT = match (AOp.idxS x i).ex dst st with
    | some (d, _) => KT none (st.puto dst d)
    | none => False := propext Iff.rfl
theorem x_extract (x : Operand) (j : Nat) : xstep P ⟨gd, dst, .extract x j⟩ st KT = astep P ⟨gd, dst, .extract x j⟩ st (KT none) := propext Iff.rfl
theorem t_extract (x : Operand) (j : Nat) : tstep ⟨gd, dst, .extract x j⟩ st KT = match (AOp.extract x j).ex dst st with
    | some (d, _) => KT none (st.puto dst d)
    | none => False := propext Iff.rfl
theorem x_mkfn (f : FuncId) (caps : List Operand) : xstep P ⟨gd, dst, .mkfn f caps⟩ st KT = astep P ⟨gd, dst, .mkfn f caps⟩ st (KT none) := propext Iff.rfl
theorem t_mkfn (f : FuncId) (caps : List Operand) : tstep ⟨gd, dst, .mkfn f caps⟩ st KT = match (AOp.mkfn f caps).ex dst st with
    | some (d, _) => KT none (st.puto dst d)
    | none => False := propext Iff.rfl
theorem x_mkif (t : TypeId) (x : Operand) : xstep P ⟨gd, dst, .mkif t x⟩ st KT = astep P ⟨gd, dst, .mkif t x⟩ st (KT none) := propext Iff.rfl
theorem t_mkif (t : TypeId) (x : Operand) : tstep ⟨gd, dst, .mkif t x⟩ st KT = match (AOp.mkif t x).ex dst st with
    | some (d, _) => KT none (st.puto dst d)
    | none => False := propext Iff.rfl
theorem x_len (x : Operand) (str : Bool) : xstep P ⟨gd, dst, .len x str⟩ st KT = astep P ⟨gd, dst, .len x str⟩ st (KT none) := propext Iff.rfl
theorem t_len (x : Operand) (str : Bool) : tstep ⟨gd, dst, .len x str⟩ st KT = match (AOp.len x str).ex dst st with
    | some (d, _) => KT none (st.puto dst d)
    | none => False := propext Iff.rfl
theorem x_minmax (mx : Bool) (x y : Operand) : xstep P ⟨gd, dst, .minmax mx x y⟩ st KT = astep P ⟨gd, dst, .minmax mx x y⟩ st (KT none) := propext Iff.rfl
theorem t_minmax (mx : Bool) (x y : Operand) : tstep ⟨gd, dst, .minmax mx x y⟩ st KT = match (AOp.minmax mx x y).ex dst st with
    | some (d, _) => KT none (st.puto dst d)
    | none => False := propext Iff.rfl
theorem x_slcS (x : Operand) (lo hi : Option Operand) : xstep P ⟨gd, dst, .slcS x lo hi⟩ st KT = astep P ⟨gd, dst, .slcS x lo hi⟩ st (KT none) := propext Iff.rfl
theorem t_slcS (x : Operand) (lo hi : Option Operand) : tstep ⟨gd, dst, .slcS x lo hi⟩ st KT = match (AOp.slcS x lo hi).ex dst st with
    | some (d, _) => KT none (st.puto dst d)
    | none => False := propext Iff.rfl
theorem x_slcL (sz : Nat) (x : Operand) (lo hi : Option Operand) : xstep P ⟨gd, dst, .slcL sz x lo hi⟩ st KT = astep P ⟨gd, dst, .slcL sz x lo hi⟩ st (KT none) := propext Iff.rfl
theorem t_slcL (sz : Nat) (x : Operand) (lo hi : Option Operand) : tstep ⟨gd, dst, .slcL sz x lo hi⟩ st KT = match (AOp.slcL sz x lo hi).ex dst st with
    | some (d, _) => KT none (st.puto dst d)
    | none => False := propext Iff.rfl
theorem x_pick (c x y : Operand) : xstep P ⟨gd, dst, .pick c x y⟩ st KT = ystep P ⟨gd, dst, .pick c x y⟩ st (KT none) := propext Iff.rfl
theorem x_alloc (e : TypeId) (zs : List D) : xstep P ⟨gd, dst, .alloc e zs⟩ st KT = astep P ⟨gd, dst, .alloc e zs⟩ st (KT dst) := propext Iff.rfl
theorem x_box (e : TypeId) (x : Operand) : xstep P ⟨gd, dst, .box e x⟩ st KT = astep P ⟨gd, dst, .box e x⟩ st (KT dst) := propext Iff.rfl
theorem x_bslice (e : TypeId) (sz : Nat) (parts : List Operand) : xstep P ⟨gd, dst, .bslice e sz parts⟩ st KT = astep P ⟨gd, dst, .bslice e sz parts⟩ st (KT none) := propext Iff.rfl
theorem x_store (sz : Nat) (x y : Operand) : xstep P ⟨gd, dst, .store sz x y⟩ st KT = astep P ⟨gd, dst, .store sz x y⟩ st (KT (match st.ev x with | .ptr n _ => some n | _ => none)) := propext Iff.rfl
theorem x_append (e : TypeId) (sz bytes : Nat) (x y : Operand) : xstep P ⟨gd, dst, .append e sz bytes x y⟩ st KT = astep P ⟨gd, dst, .append e sz bytes x y⟩ st (KT none) := propext Iff.rfl
theorem t_pick (c x y : Operand) : tstep ⟨gd, dst, .pick c x y⟩ st KT = match st.ev c with
    | .pd (.raw (.bool b)) => Gif b (KT none ((st.know c true).puto dst (st.ev x))) (KT none ((st.know c false).puto dst (st.ev y)))
    | _ => False := by
  exact boolm (fun _ => gif_and) (st.ev c)
end

theorem PureW.mono {P : Program} {f : FuncId} {args : List D} {st : St} {R R' : D → Prop} (h : PureW P f args st R) (hr : ∀ d, R d → R' d) : PureW P f args st R' :=
  ⟨h.1, fun C g a w vs hc hs hv => (h.2 C g a w vs hc hs hv).mono fun _ _ ⟨v, d, g', e, h1, h2⟩ => ⟨v, d, g', e, hr d h1, h2⟩⟩

theorem Pure.callX {P : Program} {f : FuncId} {args as' : List D} {R : D → Prop} (he : Enters P f) (h : Pure P f as' R) (st : St) (ha : D.pubs args = as') (hc : D.closeds as' = true) {K : D → Prop} (hk : ∀ d, R d → K d) : PureW P f args st K :=
  (h.pureW he st ha hc).mono hk

theorem PureB.callX {P : Program} {f : FuncId} {args args0 : List D} {bs0 : List (Nat × List D)} {R : D → Prop} (he : Enters P f) (h : PureB P f args0 bs0 R) (st : St) (ren : List (Nat × Nat)) (hok : renOK ren = true)
    (ha : D.sees ren args = args0) (hb : seeBs ren st.bs ren = bs0) {K : D → Prop} (hk : ∀ d, R d → K d) : PureW P f args st K :=
  (h.pureW he st ren hok ha hb).mono hk

end Go.Proofs.YtbpgebfejebmlaaGreatDoor
