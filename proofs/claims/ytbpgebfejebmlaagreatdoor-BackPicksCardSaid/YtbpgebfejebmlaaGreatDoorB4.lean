/- The abstract layer, part 13: operations one behind the other. -/
import Derived.Test.YtbpgebfejebmlaaGreatDoorB3
namespace Go.Proofs.YtbpgebfejebmlaaGreatDoor
open Go Go.RowKit
set_option linter.unusedSimpArgs false
set_option linter.unusedVariables false

variable {C : Ctx} {st st' : St} {g : Gh} {a : Act} {w : World}

def AOp.calls : AOp → Bool
  | .call .. | .callv .. => true
  | _ => false

/-- Operations that are told by 'ex' alone. -/
def AOp.plain : AOp → Bool
  | .pick .. | .append .. | .call .. | .callv .. => false
  | _ => true

theorem comp_sound {o : Oper} {ao : AOp} (h : comp C.P o.op = some ao) (hp : ao.plain = true) : Sound C o ao := by
  unfold comp at h
  split at h
  case h_1 x ho => cases h; exact snd_mv (.inl ho)
  case h_2 x ho => cases h; exact snd_mv (.inr ho)
  case h_3 => cases h; cases hp
  case h_4 e ho =>
    split at h
    · rename_i i hi
      split at h
      · rename_i z hz
        split at h
        · cases h; exact snd_alloc ho hi hz
        · cases h
      · cases h
    · cases h
  case h_5 e x ho => cases h; exact snd_box ho
  case h_6 t parts ho =>
    split at h
    · rename_i fs i hu hi
      split at h
      · rename_i z ps hz hps
        split at h
        · rename_i hc; cases h; exact snd_build ho hu hi hz hps hc.2
        · cases h
      · cases h
    · cases h
  case h_7 t n parts ho =>
    split at h
    · rename_i e hu
      split at h
      · rename_i i hi
        split at h
        · rename_i z hz
          split at h
          · rename_i hc; cases h; exact snd_bslice ho hu hi hz hc.1 hc.2.1 hc.2.2.1 hc.2.2.2
          · cases h
        · cases h
      · cases h
    · cases h
  case h_8 t x ho =>
    obtain ⟨k, hk, rfl⟩ := Option.map_eq_some_iff.1 h
    cases k with
    | none => exact snd_load_none ho hk
    | some k => exact snd_load_some ho hk
  case h_9 t x y ho =>
    split at h
    · rename_i i hi; cases h; exact snd_store ho hi
    · cases h
  case h_10 x ho => cases h; exact snd_ncheck ho
  case h_11 op t x y t2 ho =>
    split at h
    · cases h; exact snd_bin ho
    · cases h; exact snd_bin ho
    · rename_i hu
      split at h
      · cases h; exact snd_binB (neg := false) (by simpa using ho) hu
      · cases h; exact snd_binB (neg := true) (by simpa using ho) hu
      · cases h
    · rename_i fs hu
      split at h
      · rename_i ks hk
        split at h
        · cases h
        · rename_i hg; cases h; exact snd_eqs (neg := false) (by simpa using ho) hu hk (by simpa using hg)
      · rename_i ks hk
        split at h
        · cases h
        · rename_i hg; cases h; exact snd_eqs (neg := true) (by simpa using ho) hu hk (by simpa using hg)
      · cases h
    · cases h
  case h_12 op t x ho => cases h; exact snd_un ho
  case h_13 s t x ho =>
    split at h
    · rename_i q k hs ht; cases h; exact snd_conv ho hs ht
    · cases h
  case h_14 s x f ho =>
    split at h
    · rename_i fs hu
      split at h
      · rename_i fd hf
        split at h
        · rename_i i hi
          split at h
          · cases h
          · rename_i h0; cases h; exact snd_fieldA ho hu hf hi h0
        · cases h
      · cases h
    · cases h
  case h_15 s x f ho =>
    split at h
    · rename_i fs hu
      split at h
      · rename_i fd hf
        obtain ⟨k, hk, rfl⟩ := Option.map_eq_some_iff.1 h
        exact snd_field ho hu hf hk
      · cases h
    · cases h
  case h_16 t x i ho =>
    split at h
    · rename_i e hu
      split at h
      · rename_i ie hi; cases h; exact snd_idxA ho hu hi
      · cases h
    · cases h
  case h_17 t x i ho =>
    split at h
    · rename_i hu; cases h; exact snd_idxS ho hu
    · cases h
  case h_18 x j ho => cases h; exact snd_extract ho
  case h_19 f first caps ho =>
    split at h
    · rename_i hf; subst hf; cases h; exact snd_mkfn ho
    · cases h
  case h_20 t x ho =>
    split at h
    · cases h
    · rename_i u hn hu; cases h; exact snd_mkif ho hu (fun ms e => hn ms e)
    · cases h
  case h_21 c ho =>
    split at h
    · cases h; cases hp
    · cases h; cases hp
    · rename_i hc
      split at h
      · rename_i x t ha ht
        split at h
        · rename_i hu; cases h; exact snd_len ho hc ha ht hu (.inl rfl)
        · rename_i e hu; cases h; exact snd_len ho hc ha ht hu (.inr ⟨e, rfl⟩)
        · cases h
      · cases h
    · rename_i hc
      split at h
      · rename_i x y ha; cases h; exact snd_minmax (mx := true) ho hc ha
      · cases h
    · rename_i hc
      split at h
      · rename_i x y ha; cases h; exact snd_minmax (mx := false) ho hc ha
      · cases h
    · split at h
      · split at h
        · split at h
          · split at h
            · split at h
              · split at h
                · cases h; cases hp
                · cases h
              · cases h
            · cases h
          · cases h
        · cases h
      · cases h
    · cases h
  case h_22 t x lo hi ho =>
    split at h
    · rename_i hu; cases h; exact snd_slcS ho hu
    · rename_i e hu
      split at h
      · rename_i i hi'; cases h; exact snd_slcL ho hu hi'
      · cases h
    · cases h
  case h_23 => cases h

/-- A call, over abstract values: what it needs of the variables, and what it leaves: any that meets R. -/
def CallW (P : Program) (f : FuncId) (args : List D) (st : St) (K : D → St → Prop) : Prop :=
  (∀ (vs : Array Value) (w : World), (callFunc f vs).run P w = .ok (.enter f vs) w) ∧ ∀ (C : Ctx) (g : Gh) (a : Act) (w : World) (vs : List Value), C.P = P → SR C st g a w → Reps g w args vs →
    Calls P f vs.toArray w fun e w' => ∃ v d st' g', e = .returned v ∧ K d st' ∧ SR C st' g' a w' ∧ Rep g' w' d v

/-- A call that leaves the state as it is, and all old blocks. -/
def PureW (P : Program) (f : FuncId) (args : List D) (st : St) (R : D → Prop) : Prop :=
  (∀ (vs : Array Value) (w : World), (callFunc f vs).run P w = .ok (.enter f vs) w) ∧ ∀ (C : Ctx) (g : Gh) (a : Act) (w : World) (vs : List Value), C.P = P → SR C st g a w → Reps g w args vs →
    Calls P f vs.toArray w fun e w' => ∃ v d g', e = .returned v ∧ R d ∧ SR C st g' a w' ∧ Rep g' w' d v ∧ SF g w g' w' none

theorem PureW.callW {P : Program} {f : FuncId} {args : List D} {st : St} {R : D → Prop} (h : PureW P f args st R) {K : D → St → Prop} (hk : ∀ d, R d → K d st) : CallW P f args st K :=
  ⟨h.1, fun C g a w vs hc hs hr => (h.2 C g a w vs hc hs hr).mono fun _ _ ⟨v, d, g', e, h1, h2, h3, _⟩ => ⟨v, d, st, g', e, hk d h1, h2, h3⟩⟩

def St.puto (st : St) : Option Nat → D → St
  | some i, d => st.put i d
  | none, _ => st

/-- A truth value that is known from here on. -/
def St.know (st : St) (x : Operand) (b : Bool) : St := match x with
  | .tmp s => st.put s (.pd (.raw (.bool b)))
  | _ => st

/-- One operation. -/
def astep (P : Program) (o : AOper) (st : St) (K : St → Prop) : Prop :=
  match o.op with
  | .pick c x y => match st.ev c with
    | .pd (.raw (.bool b)) => (b = true → K ((st.know c true).puto o.dst (st.ev x))) ∧ (b = false → K ((st.know c false).puto o.dst (st.ev y)))
    | _ => False
  | .append e sz bytes x y => match o.dst, (st.ev x), (st.ev y).els with
    | some t, .own e' sz' els s, some es => e' = e ∧ sz' = sz ∧ (∀ r ∈ es, r.length = sz) ∧ els.length + es.length ≤ maxLen ∧ (els.length + es.length) * bytes ≤ 140737488355328 ∧
        K (((st.purge s).purge t).put t (.own e sz (els ++ es) t))
    | some t, .nils, some es => (∀ r ∈ es, r.length = sz) ∧ es.length ≤ maxLen ∧ es.length * bytes ≤ 140737488355328 ∧ K ((st.purge t).put t (.own e sz es t))
    | _, _, _ => False
  | .call f args => CallW P f (args.map st.ev) st fun d st' => K (st'.puto o.dst d)
  | .callv x args => match st.ev x with
    | .fn f caps => CallW P f (args.map st.ev ++ caps.map fun c => .ptr c.1 c.2) st fun d st' => K (st'.puto o.dst d)
    | _ => False
  | op => match op.ex o.dst st with
    | some (d, st') => K (st'.puto o.dst d)
    | none => False

def valD : D → Option Value
  | .pd (.raw v) => some v
  | .agg ds => (D.raws ds).map fun vs => .agg vs.toArray
  | _ => none

def valsD : List D → Option (List Value)
  | [] => some []
  | d :: ds => match valD d, valsD ds with
    | some v, some vs => some (v :: vs)
    | _, _ => none

/-- One operation; an iterator hands on its next element. -/
def ystep (P : Program) (o : AOper) (st : St) (K : St → Prop) : Prop :=
  match o.op with
  | .callv x args => match st.ev x with
    | .pd (.raw (.func (.yield l) first caps)) => match st.hs, valsD (args.map st.ev) with
      | .it l' xs i false, some vs => l' = l ∧ first = #[] ∧ caps = #[] ∧ xs[i]? = some vs ∧
        K (St.puto { st with hs := .it l xs (i + 1) false } o.dst (.pd (.raw (.bool true)))) ∧ K (St.puto { st with hs := .it l xs (i + 1) true } o.dst (.pd (.raw (.bool false))))
      | _, _ => False
    | _ => astep P o st K
  | _ => astep P o st K

def aops (P : Program) : List AOper → St → (St → Prop) → Prop
  | [], st, K => K st
  | o :: r, st, K => match o.guard with
    | none => ystep P o st fun st' => aops P r st' K
    | some (s, b) => match st.get s with
      | .pd (.raw (.bool c)) => (c = b → ystep P o (st.know (.tmp s) b) fun st' => aops P r st' K) ∧ (c = (!b) → aops P r ((st.know (.tmp s) (!b)).puto o.dst (.tup [])) K)
      | .tup [] => aops P r (st.puto o.dst (.tup [])) K
      | _ => False

/-- All slots that are written are there. -/
def dstOK (p : Nat → Bool) (o : AOper) : Bool := match o.dst with
  | some d => p d
  | none => true

theorem SR.puto (h : SR C st g a w) {dst : Option Nat} (hd : ∀ d, dst = some d → C.wr d = true) {d : D} {v : Value} (hr : Rep g w d v) : SR C (st.puto dst d) g (a.put dst v) w := by
  cases dst with
  | none => exact h
  | some i => exact h.put (hd i rfl) hr

theorem SR.know (h : SR C st g a w) {x : Operand} {b : Bool} (hx : st.ev x = .pd (.raw (.bool b))) : SR C (st.know x b) g a w := by
  cases x with
  | tmp s =>
    simp only [St.know]
    have hr := h.ev (.tmp s)
    refine ⟨h.defers, h.size, fun i d hd => ?_, h.mem, h.x, h.fix⟩
    simp only [St.put, lk] at hd
    split at hd
    · rename_i his
      subst his
      cases hd
      rw [hx] at hr
      refine ⟨?_, hr⟩
      simp only [St.ev, St.get] at hx
      cases hl : lk st.fr i with
      | none => rw [hl] at hx; cases hx
      | some d => exact (h.rep i d hl).1
    · exact h.rep i d hd
  | const v => exact h
  | func f => exact h
  | global n => exact h

end Go.Proofs.YtbpgebfejebmlaaGreatDoor
