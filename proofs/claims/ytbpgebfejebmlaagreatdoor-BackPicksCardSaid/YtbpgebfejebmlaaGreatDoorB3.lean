/- The abstract layer, part 12: each operation does what it says: the last of them, and all together. -/
import Derived.Test.YtbpgebfejebmlaaGreatDoorB2
namespace Go.Proofs.YtbpgebfejebmlaaGreatDoor
open Go Go.RowKit
set_option linter.unusedSimpArgs false
set_option linter.unusedVariables false

variable {C : Ctx} {st st' : St} {g : Gh} {a : Act} {w : World}

theorem rep_raw {v : Value} (h : v.oneCell' = true) : Rep g w (.pd (.raw v)) v := by simp only [Rep]; exact .raw v h

theorem snd_bin {o : Oper} {op : BinOp} {t t2 : TypeId} {x y : Operand} (ho : o.op = .binOp op t x y t2) : Sound C o (.bin op x y) := by
  refine Sound.quiet fun st g a w d st' hs he => ?_
  simp only [AOp.ex] at he
  obtain ⟨d1, h1, h2⟩ := Option.map_eq_some_iff.1 he
  cases h2
  unfold binD at h1
  split at h1
  · rename_i u v hu hv
    obtain ⟨r, h3, rfl⟩ := Option.map_eq_some_iff.1 h1
    have hx := hs.ev x
    have hy := hs.ev y
    rw [hu] at hx
    rw [hv] at hy
    have ex := raw_inv hx
    have ey := raw_inv hy
    refine ⟨rfl, r, ?_, rep_raw (binV_one h3)⟩
    intro w' _
    have := binV_run (P := C.P) h3 t x y w'
    unfold execOp
    simp only [ho, ex, ey]
    rw [Sem.run_bind, this]
    rfl
  · cases h1

theorem binOp_eql_bool (t : TypeId) (a b : Bool) : binOp .eql t (.bool a) (.bool b) = (do pure (.bool (← Op.equal t (.bool a) (.bool b)))) := rfl
theorem binOp_neq_bool (t : TypeId) (a b : Bool) : binOp .neq t (.bool a) (.bool b) = (do pure (.bool (!(← Op.equal t (.bool a) (.bool b))))) := rfl
theorem binOp_eql_agg (t : TypeId) (a b : Array Value) : binOp .eql t (.agg a) (.agg b) = (do pure (.bool (← Op.equal t (.agg a) (.agg b)))) := rfl
theorem binOp_neq_agg (t : TypeId) (a b : Array Value) : binOp .neq t (.agg a) (.agg b) = (do pure (.bool (!(← Op.equal t (.agg a) (.agg b))))) := rfl

theorem snd_binB {o : Oper} {neg : Bool} {t t2 : TypeId} {x y : Operand} (ho : o.op = .binOp (if neg then .neq else .eql) t x y t2) (hu : C.P.underlying t = some .bool) : Sound C o (.binB neg x y) := by
  refine Sound.quiet fun st g a w d st' hs he => ?_
  simp only [AOp.ex] at he
  split at he
  · rename_i u v hu' hv'
    cases he
    have hx := hs.ev x
    have hy := hs.ev y
    rw [hu'] at hx
    rw [hv'] at hy
    have ex := raw_inv hx
    have ey := raw_inv hy
    refine ⟨rfl, _, ?_, rep_raw rfl⟩
    intro w' _
    have heq : (Op.equal t (.bool u) (.bool v)).run C.P w' = .ok (u == v) w' := eq_scalar w' 9999 t .bool _ _ _ rfl (.inr (.inr ⟨hu, rfl⟩))
    unfold execOp
    cases neg
    · simp only [ho, ex, ey, Bool.false_eq_true, if_false, binOp_eql_bool]
      simp [eqGuard, heq]
    · simp only [ho, ex, ey, if_true, binOp_neq_bool]
      simp [eqGuard, heq]
  · cases he

theorem raws_inv : ∀ {ds : List D} {vs us : List Value}, Reps g w ds vs → D.raws ds = some us → vs = us
  | [], _, _, h, hr => by
    simp only [D.raws, Option.some.injEq] at hr
    simp only [Reps] at h
    rw [h, ← hr]
  | d :: ds, _, _, h, hr => by
    simp only [Reps] at h
    obtain ⟨v, vs', rfl, hv, hs⟩ := h
    simp only [D.raws] at hr
    split at hr
    · rename_i u us' h1
      cases hr
      rw [raw_inv hv, raws_inv hs h1]
    · cases hr

theorem snd_eqs {o : Oper} {neg : Bool} {t t2 : TypeId} {fs : Array Field} {ks : List LK} {x y : Operand} (ho : o.op = .binOp (if neg then .neq else .eql) t x y t2) (hu : C.P.underlying t = some (.struct fs))
    (hk : leafs C.P 40 t = some ks) (hg : C.P.eqGuardType C.P.depth t = false) : Sound C o (.eqs neg ks x y) := by
  refine Sound.quiet fun st g a w d st' hs he => ?_
  simp only [AOp.ex] at he
  split at he
  · rename_i ds es hu' hv'
    split at he
    · rename_i xs ys hxs hys
      obtain ⟨b, h1, h2⟩ := Option.map_eq_some_iff.1 he
      cases h2
      have hx := hs.ev x
      have hy := hs.ev y
      rw [hu'] at hx
      rw [hv'] at hy
      simp only [Rep] at hx hy
      obtain ⟨vs, ex, hx⟩ := hx
      obtain ⟨us, ey, hy⟩ := hy
      have e1 := raws_inv hx hxs
      have e2 := raws_inv hy hys
      subst e1; subst e2
      have heq : ∀ w, (Op.equal t (.agg vs.toArray) (.agg us.toArray)).run C.P w = .ok b w := fun w => (eq_run (P := C.P) w 40 t ks hk Op.maxDepth (by decide) vs us b h1).1 fs hu
      refine ⟨rfl, _, ?_, rep_raw rfl⟩
      intro w' _
      unfold execOp
      cases neg
      · simp only [ho, ex, ey, Bool.false_eq_true, if_false, binOp_eql_agg]
        simp [eqGuard, hg, heq]
      · simp only [ho, ex, ey, if_true, binOp_neq_agg]
        simp [eqGuard, hg, heq]
    · cases he
  · cases he

theorem snd_un {o : Oper} {op : UnOp} {t : TypeId} {x : Operand} (ho : o.op = .unOp op t x) : Sound C o (.un op x) := by
  refine Sound.quiet fun st g a w d st' hs he => ?_
  simp only [AOp.ex] at he
  obtain ⟨d1, h1, h2⟩ := Option.map_eq_some_iff.1 he
  cases h2
  have hx := hs.ev x
  unfold unD at h1
  split at h1
  · rename_i b hb
    cases h1
    rw [hb] at hx
    have ex := raw_inv hx
    exact ⟨rfl, _, fun w' _ => by unfold execOp; simp [ho, ex, Op.unary], rep_raw rfl⟩
  · rename_i k n hb
    cases h1
    rw [hb] at hx
    have ex := raw_inv hx
    exact ⟨rfl, _, fun w' _ => by unfold execOp; simp [ho, ex, Op.unary, Op.intArith], rep_raw rfl⟩
  · cases h1

theorem snd_conv {o : Oper} {s t : TypeId} {k q : IntKind} {x : Operand} (ho : o.op = .convert s t x) (hs1 : C.P.underlying s = some (.int q)) (ht : C.P.underlying t = some (.int k)) : Sound C o (.conv k x) := by
  refine Sound.quiet fun st g a w d st' hs he => ?_
  simp only [AOp.ex] at he
  have hx := hs.ev x
  split at he
  · rename_i j n hb
    cases he
    rw [hb] at hx
    have ex := raw_inv hx
    exact ⟨rfl, _, fun w' _ => by unfold execOp; simp [ho, ex, convert, run_underlying hs1, run_underlying ht, Conv.intToInt], rep_raw rfl⟩
  · cases he

theorem add_off (b o n : Nat) : (⟨b, o, none⟩ : Addr).add n = ⟨b, o + n, none⟩ := Addr.add_mid b o n

theorem snd_fieldA {o : Oper} {s : TypeId} {f : Nat} {fs : Array Field} {fd : Field} {i : TypeInfo} {x : Operand} (ho : o.op = .fieldAddr s x f) (hu : C.P.underlying s = some (.struct fs)) (hf : fs[f]? = some fd)
    (hi : C.P.info? fd.type = some i) (h0 : i.size ≠ 0) : Sound C o (.fieldA fd.offset x) := by
  have key : ∀ (a : Act) (w : World) (b off : Nat), a.eval x = .pointer (some ⟨b, off, none⟩) → (execOp a.eval o).run C.P w = .ok (.value (.pointer (some ⟨b, off + fd.offset, none⟩))) w := fun a w b off h1 => by
    unfold execOp
    simp [ho, h1, Instr.fieldAt, run_underlying hu, hf, Instr.sureAddr, fieldPlace, sizeOf, typeInfo, hi, h0, add_off]
  refine Sound.quiet fun st g a w d st' hs he => ?_
  simp only [AOp.ex] at he
  have hx := hs.ev x
  split at he
  · rename_i n off hb
    cases he
    rw [hb] at hx
    simp only [Rep] at hx
    obtain ⟨b, h1, h2⟩ := hx
    exact ⟨rfl, _, fun w' _ => key a w' b off h2, by simp only [Rep]; exact ⟨b, h1, rfl⟩⟩
  · rename_i cs hb
    cases he
    rw [hb] at hx
    simp only [Rep] at hx
    obtain ⟨b, off, vs, h1, h2, h3⟩ := hx
    refine ⟨rfl, _, fun w' _ => key a w' b off h1, ?_⟩
    simp only [Rep]
    refine ⟨b, off + fd.offset, vs.drop fd.offset, rfl, h2.drop _, fun j u hu => ?_⟩
    rw [List.getElem?_drop] at hu
    have := h3 _ _ hu
    rw [Nat.add_assoc]
    exact this
  · cases he

theorem snd_field {o : Oper} {s : TypeId} {f : Nat} {fs : Array Field} {fd : Field} {x : Operand} {k : Option Nat} (ho : o.op = .field s x f) (hu : C.P.underlying s = some (.struct fs)) (hf : fs[f]? = some fd)
    (hk : aggSize C.P fd.type = some k) : Sound C o (.field fd.offset k x) := by
  refine Sound.quiet fun st g a w d st' hs he => ?_
  have hx := hs.ev x
  cases k with
  | none =>
    simp only [AOp.ex] at he
    split at he
    · rename_i ds hb
      obtain ⟨d1, h1, h2⟩ := Option.map_eq_some_iff.1 he
      cases h2
      rw [hb] at hx
      simp only [Rep] at hx
      obtain ⟨vs, ex, hr⟩ := hx
      obtain ⟨v, h3, h4⟩ := hr.get _ _ h1
      obtain ⟨d0, hu0, hd0⟩ := aggSize_none hk
      refine ⟨rfl, v, ?_, h4⟩
      intro w' _
      unfold execOp
      simp [ho, ex, Instr.field, run_underlying hu, hf, asAgg, part_scalar w' fd.type vs fd.offset d0 hu0 hd0 v h3]
    · cases he
  | some k =>
    simp only [AOp.ex] at he
    split at he
    · rename_i ds hb
      split at he
      · rename_i hle
        cases he
        rw [hb] at hx
        simp only [Rep] at hx
        obtain ⟨vs, ex, hr⟩ := hx
        obtain ⟨gs, i, hu0, hi0, rfl⟩ := aggSize_some hk
        refine ⟨rfl, .agg ((vs.drop fd.offset).take i.size).toArray, ?_, ?_⟩
        · intro w' _
          unfold execOp
          simp [ho, ex, Instr.field, run_underlying hu, hf, asAgg, part_struct w' fd.type vs fd.offset gs hu0 i hi0]
        · simp only [Rep]
          exact ⟨_, rfl, (hr.drop _).take _⟩
      · cases he
    · cases he

theorem snd_idxA {o : Oper} {t e : TypeId} {ie : TypeInfo} {x i : Operand} (ho : o.op = .indexAddr t x i) (hu : C.P.underlying t = some (.slice e)) (hi : C.P.info? e = some ie) : Sound C o (.idxA ie.size x i) := by
  refine Sound.quiet fun st g a w d st' hs he => ?_
  simp only [AOp.ex] at he
  have hx := hs.ev x
  have hix := hs.ev i
  split at he
  · rename_i els k n hel hev
    split at he
    · rename_i h0
      split at he
      · rename_i row hrow
        split at he
        · rename_i hlen
          cases he
          rw [hev] at hix
          have ei := raw_inv hix
          have hp := hx.els hel
          obtain ⟨hlt, hget⟩ := List.getElem?_eq_some_iff.1 hrow
          generalize hv : a.eval x = v at hp
          cases hp with
          | empty => simp at hlt
          | slice b off m cap sz els vals hn hpos hcap hmax hlens hc hr =>
            subst hn
            have hrr := hr n.toNat hlt
            rw [List.getD_eq_getElem?_getD, hrow, Option.getD_some] at hrr
            have hsz : sz = ie.size := by rw [← hlens n.toNat hlt, hrr.length]; exact hlen
            subst hsz
            have hn' : n < (els.length : Int) := by omega
            refine ⟨rfl, .pointer (some ⟨b, off + n.toNat * ie.size, none⟩), ?_, ?_⟩
            · intro w' _
              unfold execOp
              simp [ho, hv, ei, Instr.indexAt, asIntOf, run_underlying hu, h0, hn', sizeOf, typeInfo, hi, add_off]
            · simp only [Rep]
              exact ⟨b, _, vals n.toNat, rfl, hrr, fun j u hj => hc n.toNat j u hlt hj⟩
        · cases he
      · cases he
    · cases he
  · cases he

theorem snd_idxS {o : Oper} {t : TypeId} {x i : Operand} (ho : o.op = .index t x i) (hu : C.P.underlying t = some .string) : Sound C o (.idxS x i) := by
  refine Sound.quiet fun st g a w d st' hs he => ?_
  simp only [AOp.ex] at he
  have hx := hs.ev x
  have hix := hs.ev i
  split at he
  · rename_i s k n hel hev
    split at he
    · rename_i h0
      obtain ⟨b, h1, h2⟩ := Option.map_eq_some_iff.1 he
      cases h2
      rw [hev] at hix
      rw [hel] at hx
      have ei := raw_inv hix
      have ex := raw_inv hx
      refine ⟨rfl, _, ?_, rep_raw rfl⟩
      intro w' _
      unfold execOp
      simp [ho, ex, ei, Instr.index, asIntOf, run_underlying hu, h0, h1]
    · cases he
  · cases he

theorem snd_extract {o : Oper} {x : Operand} {j : Nat} (ho : o.op = .extract x j) : Sound C o (.extract x j) := by
  refine Sound.quiet fun st g a w d st' hs he => ?_
  simp only [AOp.ex] at he
  have hx := hs.ev x
  split at he
  · rename_i ds hb
    obtain ⟨d1, h1, h2⟩ := Option.map_eq_some_iff.1 he
    cases h2
    rw [hb] at hx
    simp only [Rep] at hx
    obtain ⟨vs, ex, hr⟩ := hx
    obtain ⟨v, h3, h4⟩ := hr.get _ _ h1
    exact ⟨rfl, v, fun w' _ => by unfold execOp; simp [ho, ex, Instr.extract, h3], h4⟩
  · cases he

theorem snd_mkfn {o : Oper} {f : FuncId} {caps : Array Operand} (ho : o.op = .makeFunc (.func f) #[] caps) : Sound C o (.mkfn f caps.toList) := by
  refine Sound.quiet fun st g a w d st' hs he => ?_
  simp only [AOp.ex] at he
  obtain ⟨cs, h1, h2⟩ := Option.map_eq_some_iff.1 he
  cases h2
  have := Reps.caps (Reps.evs hs caps.toList) h1
  refine ⟨rfl, .func (.func f) #[] (caps.map a.eval), fun w' _ => by unfold execOp; simp [ho, Instr.makeFunc], ?_⟩
  simp only [Rep]
  exact ⟨caps.toList.map a.eval, by rw [← Array.toList_map], this⟩

theorem snd_mkif {o : Oper} {t : TypeId} {u : TypeDesc} {x : Operand} (ho : o.op = .makeInterface t x) (hu : C.P.underlying t = some u) (hn : ∀ ms, u ≠ .interface ms) : Sound C o (.mkif t x) := by
  have key : ∀ (a : Act) (w : World), (execOp a.eval o).run C.P w = .ok (.value (.iface t (a.eval x))) w := fun a w => by
    unfold execOp
    simp only [ho, Instr.makeInterface, Sem.run_bind, run_underlying hu, Result.andThen_ok]
    cases u <;> first | rfl | exact absurd rfl (hn _)
  refine Sound.quiet fun st g a w d st' hs he => ?_
  simp only [AOp.ex] at he
  have hx := hs.ev x
  split at he
  · rename_i ds hb
    obtain ⟨cs, h1, h2⟩ := Option.map_eq_some_iff.1 he
    cases h2
    rw [hb] at hx
    simp only [Rep] at hx
    obtain ⟨vs, ex, hr⟩ := hx
    refine ⟨rfl, _, fun w' _ => key a w', ?_⟩
    rw [ex]
    simp only [Rep]
    exact .ifaceAgg t vs cs (hr.toPDs h1)
  · obtain ⟨c, h1, h2⟩ := Option.map_eq_some_iff.1 he
    cases h2
    refine ⟨rfl, _, fun w' _ => key a w', ?_⟩
    simp only [Rep]
    exact .iface t _ c (hx.toPD h1)

theorem els_slice {d : D} {v : Value} {els : List (List PD)} (h : Rep g w d v) (hx : d.els = some els) : ∃ b cap, v = .slice b els.length cap := by
  have hp := h.els hx
  cases hp with
  | empty a cap => exact ⟨a, cap, rfl⟩
  | slice b off n cap sz els vals hn hpos hcap hmax hlen hc hr => subst hn; exact ⟨_, cap, rfl⟩

theorem snd_len {o : Oper} {c : Call} {t : TypeId} {u : TypeDesc} {x : Operand} (ho : o.op = .call c) (hc : c.callee = .builtin .len) (ha : c.args.toList = [x]) (ht : c.argTypes.toList = [t])
    (hu : C.P.underlying t = some u) (hsu : u = .string ∨ ∃ e, u = .slice e) : Sound C o (.len x (match u with | .string => true | _ => false)) := by
  have ha' : c.args = #[x] := by rw [← Array.toArray_toList (xs := c.args), ha]
  have ht' : c.argTypes = #[t] := by rw [← Array.toArray_toList (xs := c.argTypes), ht]
  refine Sound.quiet fun st g a w d st' hs he => ?_
  have hx := hs.ev x
  rcases hsu with rfl | ⟨e, rfl⟩
  · simp only [AOp.ex] at he
    split at he
    · rename_i s hb
      cases he
      rw [hb] at hx
      have ex := raw_inv hx
      refine ⟨rfl, _, ?_, rep_raw rfl⟩
      intro w' _
      unfold execOp
      simp [ho, resolve, hc, ha', ht', invoke, builtin, Builtin.len_, run_underlying hu, ex, goInt]
    · cases he
  · simp only [AOp.ex] at he
    obtain ⟨els, h1, h2⟩ := Option.map_eq_some_iff.1 he
    cases h2
    obtain ⟨b, cap, ex⟩ := els_slice hx h1
    refine ⟨rfl, _, ?_, rep_raw rfl⟩
    intro w' _
    unfold execOp
    simp [ho, resolve, hc, ha', ht', invoke, builtin, Builtin.len_, run_underlying hu, ex, goInt]

theorem bound_run (hs : SR C st g a w) {n h : Nat} {x : Option Operand} (hb : boundD st n x = some h) : (x = none ∧ h = n) ∨ ∃ y k i, x = some y ∧ a.eval y = .int k i ∧ 0 ≤ i ∧ h = i.toNat := by
  unfold boundD at hb
  split at hb
  · cases hb; exact .inl ⟨rfl, rfl⟩
  · rename_i y
    split at hb
    · rename_i k i hev
      split at hb
      · rename_i h0
        cases hb
        have hy := hs.ev y
        rw [hev] at hy
        exact .inr ⟨y, k, i, rfl, raw_inv hy, h0, rfl⟩
      · cases hb
    · cases hb

theorem bounds_run (hs : SR C st g a w) {len l h cap : Nat} {lo hi : Option Operand} (hlo : boundD st 0 lo = some l) (hhi : boundD st len hi = some h) (h1 : l ≤ h) (h2 : h ≤ len) (hc : len ≤ cap) (isS : Bool) (w' : World) :
    (Instr.sliceBounds isS len cap (lo.map a.eval) (hi.map a.eval) none).run C.P w' = .ok (l, h, cap) w' := by
  rcases bound_run hs hlo with ⟨rfl, rfl⟩ | ⟨y, k, i, rfl, e1, e2, rfl⟩ <;> rcases bound_run hs hhi with ⟨rfl, rfl⟩ | ⟨y', k', i', rfl, e3, e4, rfl⟩
  · simp [Instr.sliceBounds]
  · have h5 : i' ≤ (cap : Int) := by omega
    simp [Instr.sliceBounds, e3, run_sliceBound, e4, h5]
  · have h5 : i ≤ (h : Int) := by omega
    simp [Instr.sliceBounds, e1, run_sliceBound, e2, h5]
  · have h5 : i' ≤ (cap : Int) := by omega
    have h6 : i ≤ i' := by omega
    have h7 : (i'.toNat : Int) = i' := Int.toNat_of_nonneg e4
    simp [Instr.sliceBounds, e1, e3, run_sliceBound, e2, e4, h5, h6, h7]

theorem snd_slcS {o : Oper} {t : TypeId} {x : Operand} {lo hi : Option Operand} (ho : o.op = .slice t x lo hi none) (hu : C.P.underlying t = some .string) : Sound C o (.slcS x lo hi) := by
  refine Sound.quiet fun st g a w d st' hs he => ?_
  simp only [AOp.ex] at he
  split at he
  · rename_i s hev
    split at he
    · rename_i l h hl hh
      split at he
      · rename_i hc
        cases he
        have hx := hs.ev x
        rw [hev] at hx
        have ex := raw_inv hx
        refine ⟨rfl, _, fun w' _ => ?_, rep_raw rfl⟩
        unfold execOp
        simp [ho, ex, run_sliceAt_string _ _ _ _ _ _ hu, Instr.slice, run_underlying hu, bounds_run hs hl hh hc.1 hc.2 (Nat.le_refl _) false w']
      · cases he
    · cases he
  · cases he

theorem snd_slcL {o : Oper} {t e : TypeId} {ie : TypeInfo} {x : Operand} {lo hi : Option Operand} (ho : o.op = .slice t x lo hi none) (hu : C.P.underlying t = some (.slice e)) (hi' : C.P.info? e = some ie) : Sound C o (.slcL ie.size x lo hi) := by
  refine Sound.quiet fun st g a w d st' hs he => ?_
  simp only [AOp.ex] at he
  split at he
  · rename_i els hel
    split at he
    · rename_i l h hl hh
      split at he
      · rename_i hc
        cases he
        have hp := (hs.ev x).els hel
        have hsl : ∀ w' v, (Instr.sliceAt t v (lo.map a.eval) (hi.map a.eval) none).run C.P w' = (Instr.slice t v (lo.map a.eval) (hi.map a.eval) none).run C.P w' := fun w' v => by
          simp [Instr.sliceAt, run_underlying hu]
        generalize hv : a.eval x = v at hp
        cases hp with
        | empty ad cap =>
          have hh0 : h = 0 := by simpa using hc.2.1
          subst hh0
          have hl0 : l = 0 := by omega
          subst hl0
          refine ⟨rfl, .slice (if cap = 0 then ad else ad.map fun q => q.add 0) 0 cap, fun w' _ => ?_, ?_⟩
          · unfold execOp
            have hb := bounds_run (len := 0) (cap := cap) hs hl hh hc.1 hc.2.1 (Nat.zero_le cap) true w'
            simp only [ho, hv, Sem.run_bind, Option.map_none, hsl]
            simp [Instr.slice, run_underlying hu, hb, sizeOf, typeInfo, hi']
          · simp only [Rep]
            simp only [List.take_nil, List.drop_nil]
            exact .empty _ _
        | slice b off m cap sz els vals hn hpos hcap hmax hlens hcl hr =>
          subst hn
          have hrun : ∀ w', (execOp a.eval o).run C.P w' = .ok (.value (.slice (if cap = l then some ⟨b, off, none⟩ else some ⟨b, off + l * ie.size, none⟩) (h - l) (cap - l))) w' := fun w' => by
            unfold execOp
            have hb := bounds_run hs hl hh hc.1 hc.2.1 hcap true w'
            simp only [ho, hv, Sem.run_bind, Option.map_none, hsl]
            simp [Instr.slice, run_underlying hu, hb, sizeOf, typeInfo, hi', add_off]
          refine ⟨rfl, _, fun w' _ => hrun w', ?_⟩
          simp only [Rep]
          have hlen : ((els.take h).drop l).length = h - l := by rw [List.length_drop, List.length_take]; omega
          rcases Nat.eq_zero_or_pos (h - l) with h0 | hp
          · have e1 : (els.take h).drop l = [] := List.eq_nil_of_length_eq_zero (by omega)
            rw [e1, h0]
            exact .empty _ _
          · have hsz : sz = ie.size := by
              rw [← hlens 0 hpos, (hr 0 hpos).length, List.getD_eq_getElem?_getD, List.getElem?_eq_getElem hpos, Option.getD_some]
              exact hc.2.2 _ (List.getElem_mem _)
            subst hsz
            rw [if_neg (by omega)]
            refine .slice b (off + l * ie.size) (h - l) (cap - l) ie.size _ (fun j => vals (l + j)) hlen hp (by omega) (by omega) (fun j hj => hlens _ (by omega)) (fun j i u hj hu => ?_) (fun j hj => ?_)
            · have := hcl (l + j) i u (by omega) hu
              rw [Nat.add_mul] at this
              rw [Nat.add_assoc off]
              exact this
            · have := hr (l + j) (by omega)
              rw [List.getD_eq_getElem?_getD] at this ⊢
              rw [List.getElem?_drop, List.getElem?_take_of_lt (by omega)]
              exact this
      · cases he
    · cases he
  · cases he

theorem snd_minmax {o : Oper} {c : Call} {mx : Bool} {x y : Operand} (ho : o.op = .call c) (hc : c.callee = .builtin (if mx then .max else .min)) (ha : c.args.toList = [x, y]) : Sound C o (.minmax mx x y) := by
  have ha' : c.args = #[x, y] := by rw [← Array.toArray_toList (xs := c.args), ha]
  refine Sound.quiet fun st g a w d st' hs he => ?_
  simp only [AOp.ex] at he
  split at he
  · rename_i k p j q h1 h2
    split at he
    · rename_i hkj
      subst hkj
      cases he
      have hx := hs.ev x
      have hy := hs.ev y
      rw [h1] at hx
      rw [h2] at hy
      have ex := raw_inv hx
      have ey := raw_inv hy
      refine ⟨rfl, _, fun w' _ => ?_, rep_raw rfl⟩
      unfold execOp
      cases mx
      · simp [ho, resolve, hc, ha', invoke, builtin, Builtin.min_, Builtin.min2, ex, ey]
      · simp [ho, resolve, hc, ha', invoke, builtin, Builtin.max_, Builtin.max2, ex, ey]
    · cases he
  · cases he

end Go.Proofs.YtbpgebfejebmlaaGreatDoor
