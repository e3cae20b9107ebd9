/- Texts of the prover's, joined: AN AO B4 B5 B6 BU B7 BB B8. -/
import Derived.Test.YtjgpdjakehoofaaGreatDoorVS1
import Derived.Laws.BytesString
import Derived.OrdersHeld
import Derived.RangeFuncOwn
import Derived.RangeFuncLeaves
import Derived.RangeFuncRecord
import Derived.RangeFuncSeq
import Derived.Deep.LoopGhost
import Derived.Shelf.Abstract

namespace Go.Proofs.YtjgpdjakehoofaaGreatDoor
open Go Go.RowKit
set_option linter.unusedSimpArgs false
set_option linter.unusedVariables false
set_option maxRecDepth 100000

variable {C : Ctx} {st : St} {g : Gh} {a : Act} {w : World}

theorem mp_inv {n : Nat} {v : Value} (h : Rep g w (.mp n) v) : ∃ b, g.bx n = some b ∧ v = .map (some b) := by simpa only [Rep] using h

theorem findNow_spec {k k0 : IntKind} {j : Int} : ∀ (es : List MapEntry) (i : Nat) (r : Option (Nat × Value)), findM k j (es.map fun e => (e.key, e.val)) i = some r → Instr.findNow (.int k0) (.int k j) es i = some r
 | [], i, r, h => by simpa [findM, Instr.findNow] using h
 | e :: es, i, r, h => by
   simp only [List.map_cons] at h
   unfold Instr.findNow
   cases hk : e.key with
   | int k' b =>
     rw [hk] at h
     simp only [findM] at h
     split at h
     ·rename_i hkk
      subst hkk
      split at h
      ·rename_i hj
       subst hj
       simp only [Option.some.injEq] at h
       subst h
       simp [Instr.sameNow]
      ·rename_i hj
       have ih := findNow_spec (k0 := k0) es (i + 1) r h
       have hb' : (j == b) = false := beq_eq_false_iff_ne.2 hj
       simp [Instr.sameNow, hb', ih]
     ·cases h
   | _ => rw [hk] at h; simp [findM] at h

theorem checkKey_int {P : Program} {kt : TypeId} {k0 k : IntKind} {j : Int} (hu : P.underlying kt = some (.int k0)) (e : Bool) (w : World) : (Instr.checkKey e 10000 kt (.int k j)).run P w = .ok () w := by
 unfold Instr.checkKey
 simp only [Sem.run_bind, run_underlying hu, Result.andThen_ok, Sem.run_pure]

theorem findKey_run {P : Program} {kt : TypeId} {k0 k : IntKind} {j : Int} (hu : P.underlying kt = some (.int k0)) {es : Array MapEntry} {r : Option (Nat × Value)} (h : findM k j (es.toList.map fun e => (e.key, e.val)) 0 = some r) (w : World) :
 (Instr.findKey kt (.int k j) es.toList).run P w = .ok r w := by
 unfold Instr.findKey
 simp only [Sem.run_bind, run_underlying hu, Result.andThen_ok, findNow_spec _ _ _ h, Sem.run_pure]

mutual
theorem ck_run {P : Program} (w : World) (em : Bool) : ∀ (n : Nat) (t : TypeId) (ks : List LK), leafs P n t = some ks → ∀ (d : Nat), n ≤ d → ∀ (xs : List Value), xs.length = ks.length →
 (∀ fs, P.underlying t = some (.struct fs) → (Instr.checkKey em d t (.agg xs.toArray)).run P w = .ok () w) ∧
 ((∃ u, P.underlying t = some u ∧ u.isRow = false) → ks.length = 1 ∧ ∀ x, (Instr.checkKey em d t x).run P w = .ok () w)
 | 0, _, _, h, _, _, _, _ => by simp [leafs] at h
 | n + 1, t, ks, h, d, hd, xs, hl => by
   obtain ⟨d, rfl⟩ : ∃ m, d = m + 1 := ⟨d - 1, by omega⟩
   simp only [leafs] at h
   split at h
   ·rename_i q hu
    cases h
    exact ⟨(fun fs hf => by rw [hu] at hf; cases hf), fun _ => ⟨rfl, fun x => by rw [Instr.checkKey, Sem.run_bind, run_underlying hu w]; simp⟩⟩
   ·rename_i hu
    cases h
    exact ⟨(fun fs hf => by rw [hu] at hf; cases hf), fun _ => ⟨rfl, fun x => by rw [Instr.checkKey, Sem.run_bind, run_underlying hu w]; simp⟩⟩
   ·rename_i hu
    cases h
    exact ⟨(fun fs hf => by rw [hu] at hf; cases hf), fun _ => ⟨rfl, fun x => by rw [Instr.checkKey, Sem.run_bind, run_underlying hu w]; simp⟩⟩
   ·rename_i fs hu
    split at h
    ·cases h
    ·refine ⟨fun fs' hf => ?_, fun ⟨u, h1, h2⟩ => by rw [hu] at h1; cases h1; simp [TypeDesc.isRow] at h2⟩
     have each := ckF_run w em n fs.toList 0 ks h d (by omega) xs (by simpa using hl)
     rw [Instr.checkKey]
     simp only [Sem.run_bind, run_underlying hu, Result.andThen_ok]
     rw [← Array.forIn_toList]
     generalize fs.toList = L at each
     induction L with
     | nil => simp
     | cons f L ih =>
       obtain ⟨hn, a, p1, p2⟩ := each f (by simp)
       simp only [List.forIn_cons, Sem.run_bind, hn, ne_eq, not_false_eq_true, if_true, Result.andThen_ok, p1, p2, Sem.run_pure]
       exact ih (fun y hy => each y (by simp [hy]))
   ·cases h
theorem ckF_run {P : Program} (w : World) (em : Bool) : ∀ (n : Nat) (fs : List Field) (off : Nat) (ks : List LK), leafsF P n fs off = some ks → ∀ (d : Nat), n ≤ d → ∀ (xs : List Value), (xs.drop off).length = ks.length →
 ∀ f ∈ fs, f.name ≠ "_" ∧ ∃ a, (part f.type xs.toArray f.offset).run P w = .ok a w ∧ (Instr.checkKey em d f.type a).run P w = .ok () w
 | _, [], _, _, _, _, _, _, _, _, hf => by cases hf
 | 0, _ :: _, _, _, h, _, _, _, _, _, _ => by simp [leafsF] at h
 | n + 1, f :: fs, off, ks, h, d, hd, xs, hl, f', hf' => by
   simp only [leafsF] at h
   split at h
   ·cases h
   ·rename_i hname
    have hn : f.name ≠ "_" := fun e => hname (.inl e)
    have ho : f.offset = off := by
     rcases Nat.decEq f.offset off with h1 | h1
     ·exact absurd (.inr h1) hname
     ·exact h1
    split at h
    ·rename_i kf i h1 h2
     split at h
     ·rename_i hsz
      obtain ⟨ks', h3, rfl⟩ := Option.map_eq_some_iff.1 h
      rw [List.length_append, List.length_drop] at hl
      rcases List.mem_cons.1 hf' with rfl | hf'
      ·refine ⟨hn, ?_⟩
       have ih := ck_run w em n f'.type kf h1 d (by omega) ((xs.drop off).take kf.length) (by simp; omega)
       cases hu : P.underlying f'.type with
       | none => cases n <;> simp [leafs, hu] at h1
       | some u =>
         by_cases hr : u.isRow = false
         ·obtain ⟨e1, er⟩ := ih.2 ⟨u, hu, hr⟩
          have hlt : off < xs.length := by omega
          exact ⟨xs[off], part_scalar w _ _ _ u hu hr _ (by rw [ho]; simp [hlt]), er _⟩
         ·cases u with
          | struct gs =>
            refine ⟨_, part_struct w _ _ _ gs hu i h2, ?_⟩
            rw [ho, hsz]
            exact ih.1 gs hu
          | array m e => cases n <;> simp [leafs, hu] at h1
          | _ => exact absurd rfl hr
      ·exact ckF_run w em n fs (off + kf.length) ks' h3 d (by omega) xs (by rw [List.length_drop]; omega) f' hf'
     ·cases h
    ·cases h
end

theorem eqV_true {k : LK} {x y : Value} (h : eqV k x y = some true) : x = y := by
 cases k <;> cases x <;> cases y <;> simp only [eqV, reduceCtorEq] at h
 ·split at h
  ·rename_i e; subst e; simpa using h
  ·cases h
 ·simpa using h
 ·simpa using h

theorem eqVs_true : ∀ {ks : List LK} {xs ys : List Value}, eqVs ks xs ys = some true → xs = ys
 | [], [], [], _ => rfl
 | k :: ks, x :: xs, y :: ys, h => by
   simp only [eqVs] at h
   split at h
   ·rename_i a c h1 h2
    simp only [Option.some.injEq, Bool.and_eq_true] at h
    obtain ⟨rfl, rfl⟩ := h
    rw [eqV_true h1, eqVs_true h2]
   ·cases h
 | [], _ :: _, _, h => by simp [eqVs] at h
 | [], [], _ :: _, h => by simp [eqVs] at h
 | _ :: _, [], _, h => by simp [eqVs] at h
 | _ :: _, _ :: _, [], h => by simp [eqVs] at h

theorem bytes_same (s : ByteArray) : (s == s) = true := by
 have h : ∀ a b : Array UInt8, (a == b) = true ↔ a = b := fun a b => by simp
 obtain ⟨d⟩ := s
 exact (h d d).2 rfl

theorem same_bits {k : LK} {x : Value} {b : Bool} (h : eqV k x x = some b) (n : Nat) : Instr.sameBits n x x = true := by
 cases k <;> cases x <;> simp only [eqV, reduceCtorEq] at h <;> cases n <;> simp [Instr.sameBits, bytes_same]

theorem same_bitss : ∀ {ks : List LK} {xs : List Value} {b : Bool}, eqVs ks xs xs = some b → ∀ n, (xs.zip xs).all (fun p => Instr.sameBits n p.1 p.2) = true
 | [], [], _, _, _ => rfl
 | k :: ks, x :: xs, b, h, n => by
   simp only [eqVs] at h
   split at h
   ·rename_i a c h1 h2
    simp only [List.zip_cons_cons, List.all_cons, same_bits h1, same_bitss h2 n, Bool.and_self]
   ·cases h
 | [], _ :: _, _, h, _ => by simp [eqVs] at h
 | _ :: _, [], _, h, _ => by simp [eqVs] at h

theorem findS_run {P : Program} (w : World) {kt : TypeId} {fs : Array Field} (hu : P.underlying kt = some (.struct fs)) {ks : List LK} (hk : leafs P 40 kt = some ks) {vs : List Value} : ∀ (es : List MapEntry) (i : Nat) (r : Option (Nat × Value)),
 findS ks vs (es.map fun e => (e.key, e.val)) i = some r → (Instr.findAsking kt (.agg vs.toArray) es i).run P w = .ok r w
 | [], i, r, h => by simp only [List.map_nil, findS, Option.some.injEq] at h; subst h; simp [Instr.findAsking]
 | e :: es, i, r, h => by
   simp only [List.map_cons] at h
   unfold Instr.findAsking
   cases hkey : e.key with
   | agg cs =>
     rw [hkey] at h
     simp only [findS] at h
     split at h
     ·rename_i he
      cases h
      have := (eq_run (P := P) w 40 kt ks hk Op.maxDepth (by decide) vs cs.toList true he).1 fs hu
      have h' : (Op.equal kt (.agg vs.toArray) (.agg cs)).run P w = .ok true w := by simpa [Op.equal] using this
      simp [h']
     ·rename_i he
      have := (eq_run (P := P) w 40 kt ks hk Op.maxDepth (by decide) vs cs.toList false he).1 fs hu
      have h' : (Op.equal kt (.agg vs.toArray) (.agg cs)).run P w = .ok false w := by simpa [Op.equal] using this
      simp [h', findS_run w hu hk es (i + 1) r h]
     ·cases h
   | _ => rw [hkey] at h; simp [findS] at h

theorem findS_at {ks : List LK} {vs : List Value} : ∀ (es : List (Value × Value)) (i0 : Nat) (i : Nat) (v : Value), findS ks vs es i0 = some (some (i, v)) → i0 ≤ i ∧ es[i - i0]? = some (.agg vs.toArray, v) ∧ eqVs ks vs vs = some true
 | [], i0, i, v, h => by simp [findS] at h
 | e :: es, i0, i, v, h => by
   obtain ⟨key, val⟩ := e
   cases key with
   | agg cs =>
     simp only [findS] at h
     split at h
     ·rename_i he
      have hv := eqVs_true he
      simp only [Option.some.injEq, Prod.mk.injEq] at h
      obtain ⟨rfl, rfl⟩ := h
      refine ⟨Nat.le_refl _, ?_, by rw [← hv] at he; exact he⟩
      rw [hv]
      simp
     ·obtain ⟨h1, h2, h3⟩ := findS_at es (i0 + 1) i v h
      refine ⟨by omega, ?_, h3⟩
      rw [show i - i0 = (i - (i0 + 1)) + 1 by omega, List.getElem?_cons_succ]
      exact h2
     ·cases h
   | _ => simp [findS] at h

theorem findM_at {k : IntKind} {j : Int} : ∀ (es : List (Value × Value)) (i0 : Nat) (i : Nat) (v : Value), findM k j es i0 = some (some (i, v)) → i0 ≤ i ∧ es[i - i0]? = some (.int k j, v)
 | [], i0, i, v, h => by simp [findM] at h
 | e :: es, i0, i, v, h => by
   obtain ⟨key, val⟩ := e
   cases key with
   | int k' b =>
     simp only [findM] at h
     split at h
     ·rename_i hkk
      subst hkk
      split at h
      ·rename_i hj
       subst hj
       simp only [Option.some.injEq, Prod.mk.injEq] at h
       obtain ⟨rfl, rfl⟩ := h
       simp
      ·obtain ⟨h1, h2⟩ := findM_at es (i0 + 1) i v h
       refine ⟨by omega, ?_⟩
       rw [show i - i0 = (i - (i0 + 1)) + 1 by omega, List.getElem?_cons_succ]
       exact h2
     ·cases h
   | _ => simp [findM] at h

theorem raws_inv' : ∀ {ds : List D} {vs us : List Value}, Reps g w ds vs → D.raws ds = some us → vs = us
 | [], vs, us, hs, hr => by
   simp only [D.raws, Option.some.injEq] at hr
   subst hr
   simpa only [Reps] using hs
 | d :: ds, vs, us, hs, hr => by
   simp only [Reps] at hs
   obtain ⟨v, vs', rfl, hv, hs⟩ := hs
   simp only [D.raws] at hr
   split at hr
   ·rename_i u us' h1
    cases hr
    rw [raw_inv hv, raws_inv' hs h1]
   ·cases hr

theorem keyD_inv {ks : List LK} {d : D} {kv : List Value} {v : Value} (h : keyD ks d = some kv) (hr : Rep g w d v) : v = keyV ks kv := by
 unfold keyD at h
 split at h
 ·cases h
  exact raw_inv hr
 ·simp only [Rep] at hr
  obtain ⟨vs, e, hr⟩ := hr
  rw [e, raws_inv' hr h]
  rfl
 ·cases h

theorem key_run {P : Program} {kt : TypeId} {ks : List LK} (hk : keyKs P kt = some ks) {kv : List Value} {es : Array MapEntry} {r : Option (Nat × Value)} (h : findK ks kv (es.toList.map fun e => (e.key, e.val)) = some r) :
 (∀ w em, (Instr.checkKey em 10000 kt (keyV ks kv)).run P w = .ok () w) ∧ (∀ w, (Instr.findKey kt (keyV ks kv) es.toList).run P w = .ok r w) ∧
 (∀ i v, r = some (i, v) → (es.toList.map fun e => (e.key, e.val))[i]? = some (keyV ks kv, v) ∧ Instr.sameBits 10000 (keyV ks kv) (keyV ks kv) = true) := by
 cases ks with
 | nil =>
   match kv, h with
   | [.int k j], h =>
     simp only [findK] at h
     simp only [keyV]
     unfold keyKs at hk
     split at hk
     ·rename_i k0 hu
      refine ⟨fun w em => checkKey_int hu em w, fun w => findKey_run hu h w, fun i v e => ?_⟩
      subst e
      obtain ⟨_, h5⟩ := findM_at _ _ _ _ h
      exact ⟨by simpa using h5, by simp [Instr.sameBits]⟩
     ·split at hk <;> simp at hk
     ·cases hk
 | cons k ks =>
   simp only [findK] at h
   split at h
   ·rename_i hl
    unfold keyKs at hk
    split at hk
    ·simp at hk
    ·rename_i fs hu
     split at hk
     ·rename_i k' ks' hlf
      cases hk
      simp only [keyV]
      refine ⟨fun w em => (ck_run w em 40 kt _ hlf 10000 (by decide) kv hl).1 fs hu, fun w => ?_, fun i v e => ?_⟩
      ·unfold Instr.findKey
       simp only [Sem.run_bind, run_underlying hu, Result.andThen_ok]
       have hf := findS_run (P := P) w hu hlf es.toList 0 r h
       cases hes : es.toList with
       | nil =>
         rw [hes] at h
         simp only [List.map_nil, findS, Option.some.injEq] at h
         subst h
         simp [Instr.findNow]
       | cons e es' =>
         rw [hes] at hf
         have : Instr.findNow (.struct fs) (.agg kv.toArray) (e :: es') 0 = none := by simp [Instr.findNow, Instr.sameNow]
         simp only [this, hf]
      ·subst e
       obtain ⟨_, h5, h6⟩ := findS_at _ _ _ _ h
       refine ⟨by simpa using h5, ?_⟩
       have := same_bitss h6 9999
       unfold Instr.sameBits
       simpa using this
     ·cases hk
    ·cases hk
   ·cases h

theorem snd_mkmap {o : Oper} {t : TypeId} (ho : o.op = .makeMap t none) : Sound C o .mkmap := by
 intro hdw st g a w d st' hs he
 simp only [AOp.ex] at he
 split at he
 ·rename_i n hn
  cases he
  have h1 := hs.drop n (C.wrok n (hdw n hn)).2
  obtain ⟨h2, h3⟩ := SR.newobj h1 n (by simp) (.map []) (.map #[] 0) ⟨#[], 0, rfl, rfl, rfl, fun i e h => by simp at h⟩
  refine ⟨(fun h => by cases h), _, _, _, ?_, h2, SF.newbox hs hn rfl h3.ex, .inl ⟨.map (some w.heap.size), rfl, ?_⟩⟩
  ·unfold execOp
   simp only [ho]
   rfl
  ·simp only [Rep]
   exact ⟨w.heap.size, by simp, rfl⟩
 ·cases he

theorem snd_mget {o : Oper} {t : TypeId} {x i : Operand} {z : Value} {ks : List LK} (ho : o.op = .lookup t x i false) (hk : mapKs C.P t = some ks) (hz : mapZero C.P t = some z) : Sound C o (.mget ks z x i) := by
 refine Sound.quiet fun st g a w d st' hs he => ?_
 unfold mapKs at hk
 split at hk
 ·rename_i kt et hu
  unfold mapZero at hz
  rw [hu] at hz
  simp only at hz
  split at hz
  ·rename_i ti hi
   split at hz
   ·rename_i z' hz'
    split at hz
    ·cases hz
     simp only [AOp.ex] at he
     split at he
     ·rename_i n kv hx hj
      obtain ⟨es, h10, h2⟩ := Option.bind_eq_some_iff.1 he
      obtain ⟨mo, h1, h11⟩ := Option.bind_eq_some_iff.1 h10
      obtain rfl : mo = .map es := by cases mo <;> simp [MO.ents] at h11; rw [h11]
      obtain ⟨r, h3, h4⟩ := Option.map_eq_some_iff.1 h2
      cases h4
      refine ⟨rfl, (r.map (·.2)).getD z, fun w' hk' => ?_, cD0_rep _ _ _⟩
      have e1 := hs.ev x
      rw [hx] at e1
      obtain ⟨b, hb, e1⟩ := mp_inv e1
      have e2 := keyD_inv hj (hs.ev i)
      obtain ⟨b', ob, q1, q2, ents, clock, rfl, q3, q5⟩ := hs.mem.mps n _ h1
      rw [hb] at q1
      cases q1
      have q4 : w'.heap[b]? = some (.map ents clock) := (hk'.bx n b (by simp only [AOp.reads, hx]) hb).trans q2
      subst q3
      obtain ⟨hck, hfk, _⟩ := key_run hk h3
      have hg : (getObj b).run C.P w' = .ok (.map ents clock) w' := by simp [getObj, Sem.run, q4]
      have hzv : (zeroValue et).run C.P w' = .ok z w' := by
       simp only [zeroValue, typeInfo, Sem.run_bind, run_program, Result.andThen_ok, hi, hz', Sem.run_pure]
      unfold execOp
      simp only [ho, e1, e2, Instr.lookup, Sem.run_bind, run_underlying hu, Result.andThen_ok, Sem.run_pure, hg, hck, hfk]
      cases r with
      | none => simp [hzv]
      | some p => obtain ⟨i', v'⟩ := p; simp
     ·cases he
    ·cases hz
   ·cases hz
  ·cases hz
 ·cases hk

theorem valM_inv {d : D} {u v : Value} (h : valM d = some u) (hr : Rep g w d v) : v = u := by
 unfold valM at h
 split at h
 ·cases h; exact raw_inv hr
 ·cases h
  simp only [Rep] at hr
  obtain ⟨cv, rfl, hc⟩ := hr
  simp only [Caps] at hc
  subst hc
  rfl
 ·cases h

theorem Stamped.push {ents : Array MapEntry} {clock : Nat} (h : Stamped ents clock) (e : MapEntry) (he : e.born = clock := by rfl) : Stamped (ents.push e) (clock + 1) := by
 obtain ⟨h1, h2⟩ := h
 refine ⟨by simp [h1], fun i e' hi => ?_⟩
 rw [Array.getElem?_push] at hi
 split at hi
 ·rename_i hs
  cases hi
  rw [he, h1, hs]
 ·exact h2 i e' hi

theorem Stamped.modify {ents : Array MapEntry} {clock : Nat} (h : Stamped ents clock) (i : Nat) {f : MapEntry → MapEntry} (hf : ∀ e, (f e).born = e.born) : Stamped (ents.modify i f) clock := by
 obtain ⟨h1, h2⟩ := h
 refine ⟨by simp [h1], fun j e' hj => ?_⟩
 rw [Array.getElem?_modify] at hj
 split at hj
 ·rename_i e
  obtain ⟨e0, h3, rfl⟩ := Option.map_eq_some_iff.1 hj
  rw [hf, h2 j e0 h3]
 ·exact h2 j e' hj

theorem Stamped.find {ents : Array MapEntry} {clock : Nat} (h : Stamped ents clock) {p : Nat} {e : MapEntry} (he : ents[p]? = some e) : ents.findIdx? (fun e => (e.born : Int) == (p : Int)) = some p := by
 obtain ⟨h1, h2⟩ := h
 obtain ⟨hp, hpe⟩ := Array.getElem?_eq_some_iff.1 he
 rw [Array.findIdx?_eq_some_iff_getElem]
 refine ⟨hp, ?_, fun j hj => ?_⟩
 ·rw [hpe, h2 p e he]; simp
 ·have := h2 j _ (Array.getElem?_eq_getElem (by omega))
  rw [this]
  simp only [Bool.not_eq_true, beq_eq_false_iff_ne, ne_eq]
  omega

theorem snd_mset {o : Oper} {t : TypeId} {x i v : Operand} {ks : List LK} (ho : o.op = .mapUpdate t x i v ∨ o.op = .insert t x i v) (ht : mapKs C.P t = some ks) : Sound C o (.mset ks x i v) := by
 intro _ st g a w d st' hs he
 unfold mapKs at ht
 split at ht
 ·rename_i kt et hu
  ·simp only [AOp.ex] at he
   split at he
   ·rename_i n kv u hx hj hv
    obtain ⟨es, h10, h2⟩ := Option.bind_eq_some_iff.1 he
    obtain ⟨mo, h1, h11⟩ := Option.bind_eq_some_iff.1 h10
    obtain rfl : mo = .map es := by cases mo <;> simp [MO.ents] at h11; rw [h11]
    split at h2
    ·rename_i hn
     obtain ⟨r, h3, h4⟩ := Option.map_eq_some_iff.1 h2
     cases h4
     have e1 := hs.ev x
     rw [hx] at e1
     obtain ⟨b, hb, e1⟩ := mp_inv e1
     have e3 := valM_inv hv (hs.ev v)
     obtain ⟨b', ob, q1, q2, ents, clock, rfl, q3, q5⟩ := hs.mem.mps n _ h1
     rw [hb] at q1
     cases q1
     subst q3
     have e2 := keyD_inv hj (hs.ev i)
     obtain ⟨hck, hfk, hat⟩ := key_run ht h3
     obtain ⟨K, hK⟩ : ∃ K, keyV ks kv = K := ⟨_, rfl⟩
     rw [hK] at e2 hck hfk hat ⊢
     have hg : (getObj b).run C.P w = .ok (.map ents clock) w := by simp [getObj, Sem.run, q2]
     have hset : ∀ ob, (setObj b ob).run C.P w = .ok () (w.putObj b ob) := fun ob => by
      have hlt := (Array.getElem?_eq_some_iff.1 q2).1
      simp [setObj, Sem.run, q2, World.putObj]
     obtain ⟨ents', clock', hrun, hents⟩ : ∃ ents' clock', (Instr.mapUpdate t (a.eval x) (a.eval i) (a.eval v)).run C.P w = .ok () (w.putObj b (.map ents' clock')) ∧
      ents'.toList.map (fun e => (e.key, e.val)) = putM K u r (ents.toList.map fun e => (e.key, e.val)) ∧ Stamped ents' clock' := by
      cases r with
      | none =>
        refine ⟨ents.push { key := K, val := u, born := clock }, clock + 1, ?_, ?_⟩
        ·unfold Instr.mapUpdate
         simp only [e1, e2, e3, Sem.run_bind, run_underlying hu, Result.andThen_ok, Sem.run_pure, hg, hck, hfk, hset]
        ·exact ⟨by simp [putM], q5.push _⟩
      | some p =>
        obtain ⟨i', v'⟩ := p
        obtain ⟨h5, hsb⟩ := hat i' v' rfl
        simp only [List.getElem?_map, Array.getElem?_toList] at h5
        obtain ⟨en, h6, h7⟩ := Option.map_eq_some_iff.1 h5
        have h8 : en.key = K := congrArg Prod.fst h7
        refine ⟨ents.modify i' fun e => { e with key := K, val := u }, clock, ?_, ?_⟩
        ·have hst : (Instr.keyThatStays (((ents[i']?).map (·.key)).getD K) K).run C.P w = .ok K w := by
          rw [h6]
          simp only [Option.map_some, Option.getD_some, h8]
          unfold Instr.keyThatStays
          simp only [hsb, if_true, Sem.run_pure]
         unfold Instr.mapUpdate
         simp only [e1, e2, e3, Sem.run_bind, run_underlying hu, Result.andThen_ok, Sem.run_pure, hg, hck, hfk, hst, hset]
        ·refine ⟨?_, q5.modify _ (fun _ => rfl)⟩
         simp only [putM]
         refine List.ext_getElem? fun m => ?_
         rw [List.getElem?_map, List.getElem?_set, Array.getElem?_toList, Array.getElem?_modify]
         have hi' : i' < ents.size := (Array.getElem?_eq_some_iff.1 h6).1
         by_cases hm : i' = m
         ·subst hm
          simp [h6, hi']
         ·simp [hm]
     have hs' := hs.setobj n b hb (.map (ents.toList.map fun e => (e.key, e.val))) (.map ents clock) ⟨ents, clock, rfl, rfl, q5⟩ q2 hn (.map _) (.map ents' clock') ⟨ents', clock', rfl, hents.1, hents.2⟩
     have hkeep : ∀ m b0, some n ≠ some m → g.bx m = some b0 → g.bx m = some b0 ∧ (w.putObj b (.map ents' clock')).heap[b0]? = w.heap[b0]? := fun m b0 hm hb0 => ⟨hb0, World.putObj_heap_other (fun e => by
      subst e
      exact hm (by rw [hs.mem.bxinj n m b0 hb hb0]))⟩
     have hex : Ex g.Fz w g.Fz (w.putObj b (.map ents' clock')) := fun b0 o0 hf => ⟨hf, World.cell?_of_block (World.putObj_heap_other (fun e => by
      subst e
      exact (hs.mem.bxok n b0 hb).2.2 o0 hf))⟩
     refine ⟨(fun h => by cases h), .skip, _, g, ?_, hs', ⟨hex, fun m b0 hm hb0 => hkeep m b0 (by simpa only [AOp.touch, hx] using hm) hb0⟩, .inr ⟨rfl, rfl⟩⟩
     unfold execOp
     rcases ho with ho | ho <;> simp only [ho, Sem.run_bind, hrun, Result.andThen_ok, Sem.run_pure]
    ·cases h2
   ·cases he
 ·cases ht

theorem snd_mentry {o : Oper} {t : TypeId} {x i : Operand} {ks : List LK} {z : Value} (ho : o.op = .mapEntry t x i) (ht : mapKs C.P t = some ks) (hz : mapZero C.P t = some z) : Sound C o (.mentry ks z x i) := by
 intro _ st g a w d st' hs he
 unfold mapKs at ht
 split at ht
 ·rename_i kt et hu
  unfold mapZero at hz
  rw [hu] at hz
  simp only at hz
  split at hz
  ·rename_i ti hi0
   split at hz
   ·rename_i z' hz'
    split at hz
    ·cases hz
     simp only [AOp.ex] at he
     split at he
     ·rename_i n kv hx hj
      obtain ⟨es, h10, h2⟩ := Option.bind_eq_some_iff.1 he
      obtain ⟨mo, h1, h11⟩ := Option.bind_eq_some_iff.1 h10
      obtain rfl : mo = .map es := by cases mo <;> simp [MO.ents] at h11; rw [h11]
      split at h2
      ·rename_i hn
       obtain ⟨r, h3, h4⟩ := Option.map_eq_some_iff.1 h2
       cases h4
       have e1 := hs.ev x
       rw [hx] at e1
       obtain ⟨b, hb, e1⟩ := mp_inv e1
       obtain ⟨b', ob, q1, q2, ents, clock, rfl, q3, q5⟩ := hs.mem.mps n _ h1
       rw [hb] at q1
       cases q1
       subst q3
       have e2 := keyD_inv hj (hs.ev i)
       obtain ⟨hck, hfk, hat⟩ := key_run ht h3
       obtain ⟨K, hK⟩ : ∃ K, keyV ks kv = K := ⟨_, rfl⟩
       rw [hK] at e2 hck hfk hat ⊢
       have hg : (getObj b).run C.P w = .ok (.map ents clock) w := by simp [getObj, Sem.run, q2]
       have hset : ∀ ob, (setObj b ob).run C.P w = .ok () (w.putObj b ob) := fun ob => by
        have hlt := (Array.getElem?_eq_some_iff.1 q2).1
        simp [setObj, Sem.run, q2, World.putObj]
       have hzv : (zeroValue et).run C.P w = .ok z w := by
        simp only [zeroValue, typeInfo, Sem.run_bind, run_program, Result.andThen_ok, hi0, hz', Sem.run_pure]
       obtain ⟨ents', clock', hrun, hents⟩ : ∃ ents' clock', (Instr.mapEntry t (a.eval x) (a.eval i)).run C.P w = .ok (.tuple #[(r.map (·.2)).getD z, .int .i64 (stampM r (ents.toList.map fun e => (e.key, e.val)))]) (w.putObj b (.map ents' clock')) ∧
        ents'.toList.map (fun e => (e.key, e.val)) = putM K ((r.map (·.2)).getD z) r (ents.toList.map fun e => (e.key, e.val)) ∧ Stamped ents' clock' := by
        cases r with
        | none =>
          refine ⟨ents.push { key := K, val := z, born := clock }, clock + 1, ?_, ?_⟩
          ·unfold Instr.mapEntry
           simp only [e1, e2, hzv, Sem.run_bind, run_underlying hu, Result.andThen_ok, Sem.run_pure, hg, hck, hfk, hset]
           simp [stampM, q5.1, goInt]
          ·exact ⟨by simp [putM], q5.push _⟩
        | some p =>
          obtain ⟨i', v'⟩ := p
          obtain ⟨h5, hsb⟩ := hat i' v' rfl
          simp only [List.getElem?_map, Array.getElem?_toList] at h5
          obtain ⟨en, h6, h7⟩ := Option.map_eq_some_iff.1 h5
          have h8 : en.key = K := congrArg Prod.fst h7
          have h9 : en.val = v' := congrArg Prod.snd h7
          refine ⟨ents.modify i' fun e => { e with key := K }, clock, ?_, ?_⟩
          ·have hst : (Instr.keyThatStays (((ents[i']?).map (·.key)).getD K) K).run C.P w = .ok K w := by
            rw [h6]
            simp only [Option.map_some, Option.getD_some, h8]
            unfold Instr.keyThatStays
            simp only [hsb, if_true, Sem.run_pure]
           unfold Instr.mapEntry
           simp only [e1, e2, Sem.run_bind, run_underlying hu, Result.andThen_ok, Sem.run_pure, hg, hck, hfk, hst, hset]
           simp [stampM, h6, q5.2 i' en h6, goInt]
          ·refine ⟨?_, q5.modify _ (fun _ => rfl)⟩
           simp only [putM, Option.map_some, Option.getD_some]
           refine List.ext_getElem? fun m => ?_
           rw [List.getElem?_map, List.getElem?_set, Array.getElem?_toList, Array.getElem?_modify]
           have hi' : i' < ents.size := (Array.getElem?_eq_some_iff.1 h6).1
           by_cases hm : i' = m
           ·subst hm
            simp [h6, hi', h9, (Array.getElem?_eq_some_iff.1 h6).2]
           ·simp [hm]
       have hs' := hs.setobj n b hb (.map (ents.toList.map fun e => (e.key, e.val))) (.map ents clock) ⟨ents, clock, rfl, rfl, q5⟩ q2 hn (.map _) (.map ents' clock') ⟨ents', clock', rfl, hents.1, hents.2⟩
       have hkeep : ∀ m b0, some n ≠ some m → g.bx m = some b0 → g.bx m = some b0 ∧ (w.putObj b (.map ents' clock')).heap[b0]? = w.heap[b0]? := fun m b0 hm hb0 => ⟨hb0, World.putObj_heap_other (fun e => by
        subst e
        exact hm (by rw [hs.mem.bxinj n m b0 hb hb0]))⟩
       have hex : Ex g.Fz w g.Fz (w.putObj b (.map ents' clock')) := fun b0 o0 hf => ⟨hf, World.cell?_of_block (World.putObj_heap_other (fun e => by
        subst e
        exact (hs.mem.bxok n b0 hb).2.2 o0 hf))⟩
       refine ⟨(fun h => by cases h), .value (.tuple #[(r.map (·.2)).getD z, .int .i64 (stampM r (ents.toList.map fun e => (e.key, e.val)))]), _, g, ?_, hs', ⟨hex, fun m b0 hm hb0 => hkeep m b0 (by simpa only [AOp.touch, hx] using hm) hb0⟩, .inl ⟨_, rfl, ?_⟩⟩
       ·unfold execOp
        simp only [ho, Sem.run_bind, hrun, Result.andThen_ok, Sem.run_pure]
       ·simp only [Rep, Reps]
        exact ⟨_, rfl, _, _, rfl, cD0_rep _ _ _, _, _, rfl, .raw _ rfl, rfl⟩
      ·cases h2
     ·cases he
    ·cases hz
   ·cases hz
  ·cases hz
 ·cases ht

theorem snd_mstore {o : Oper} {t : TypeId} {x s v : Operand} (ho : o.op = .entryStore t x s v) : Sound C o (.mstore x s v) := by
 intro _ st g a w d st' hs he
 simp only [AOp.ex] at he
 split at he
 ·rename_i n p u hx hj hv
  obtain ⟨es, h10, h2⟩ := Option.bind_eq_some_iff.1 he
  obtain ⟨mo, h1, h11⟩ := Option.bind_eq_some_iff.1 h10
  obtain rfl : mo = .map es := by cases mo <;> simp [MO.ents] at h11; rw [h11]
  split at h2
  ·rename_i hn
   obtain ⟨es', h3, h4⟩ := Option.map_eq_some_iff.1 h2
   cases h4
   unfold setAt at h3
   split at h3
   ·rename_i h0
    obtain ⟨en0, h5, rfl⟩ := Option.map_eq_some_iff.1 h3
    obtain ⟨q, rfl⟩ : ∃ q : Nat, p = q := ⟨p.toNat, by omega⟩
    have e1 := hs.ev x
    rw [hx] at e1
    obtain ⟨b, hb, e1⟩ := mp_inv e1
    have e2 := hs.ev s
    rw [hj] at e2
    have e2 := raw_inv e2
    have e3 := valM_inv hv (hs.ev v)
    obtain ⟨b', ob, q1, q2, ents, clock, rfl, q3, q5⟩ := hs.mem.mps n _ h1
    rw [hb] at q1
    cases q1
    subst q3
    rw [Int.toNat_natCast] at h5 ⊢
    simp only [List.getElem?_map, Array.getElem?_toList] at h5
    obtain ⟨en, h6, rfl⟩ := Option.map_eq_some_iff.1 h5
    have hg : (getObj b).run C.P w = .ok (.map ents clock) w := by simp [getObj, Sem.run, q2]
    have hset : ∀ ob, (setObj b ob).run C.P w = .ok () (w.putObj b ob) := fun ob => by
     have hlt := (Array.getElem?_eq_some_iff.1 q2).1
     simp [setObj, Sem.run, q2, World.putObj]
    have hfi := q5.find h6
    have hrun : (Instr.entryStore t (a.eval x) (a.eval s) (a.eval v)).run C.P w = .ok () (w.putObj b (.map (ents.modify q fun e => { e with val := u }) clock)) := by
     unfold Instr.entryStore
     simp only [e1, e2, e3, asInt, asIntOf, Sem.run_bind, Result.andThen_ok, Sem.run_pure, hg, hfi, hset]
    have hents : (ents.modify q fun e => { e with val := u }).toList.map (fun e => (e.key, e.val)) = (ents.toList.map fun e => (e.key, e.val)).set q (en.key, u) := by
     refine List.ext_getElem? fun m => ?_
     rw [List.getElem?_map, List.getElem?_set, Array.getElem?_toList, Array.getElem?_modify]
     have hi' : q < ents.size := (Array.getElem?_eq_some_iff.1 h6).1
     by_cases hm : q = m
     ·subst hm
      simp [h6, hi', (Array.getElem?_eq_some_iff.1 h6).2]
     ·simp [hm]
    have hs' := hs.setobj n b hb (.map (ents.toList.map fun e => (e.key, e.val))) (.map ents clock) ⟨ents, clock, rfl, rfl, q5⟩ q2 hn (.map _) (.map (ents.modify q fun e => { e with val := u }) clock) ⟨_, clock, rfl, hents, q5.modify _ (fun _ => rfl)⟩
    have hkeep : ∀ m b0, some n ≠ some m → g.bx m = some b0 → g.bx m = some b0 ∧ (w.putObj b (.map (ents.modify q fun e => { e with val := u }) clock)).heap[b0]? = w.heap[b0]? := fun m b0 hm hb0 => ⟨hb0, World.putObj_heap_other (fun e => by
     subst e
     exact hm (by rw [hs.mem.bxinj n m b0 hb hb0]))⟩
    have hex : Ex g.Fz w g.Fz (w.putObj b (.map (ents.modify q fun e => { e with val := u }) clock)) := fun b0 o0 hf => ⟨hf, World.cell?_of_block (World.putObj_heap_other (fun e => by
     subst e
     exact (hs.mem.bxok n b0 hb).2.2 o0 hf))⟩
    refine ⟨(fun h => by cases h), .skip, _, g, ?_, hs', ⟨hex, fun m b0 hm hb0 => hkeep m b0 (by simpa only [AOp.touch, hx] using hm) hb0⟩, .inr ⟨rfl, rfl⟩⟩
    unfold execOp
    simp only [ho, Sem.run_bind, hrun, Result.andThen_ok, Sem.run_pure]
   ·cases h3
  ·cases h2
 ·cases he

theorem snd_srange {o : Oper} {t : TypeId} {x : Operand} (ho : o.op = .range t x) (ht : C.P.underlying t = some .string) : Sound C o (.srange x) := by
 intro hdw st g a w d st' hs he
 simp only [AOp.ex] at he
 split at he
 ·rename_i n s hn hx
  cases he
  have e1 := hs.ev x
  rw [hx] at e1
  have e1 := raw_inv e1
  have h1 := hs.drop n (C.wrok n (hdw n hn)).2
  obtain ⟨h2, h3⟩ := SR.newobj h1 n (by simp) (.sit s 0) (.stringIter s 0) rfl
  refine ⟨(fun h => by cases h), _, _, _, ?_, h2, SF.newbox hs hn rfl h3.ex, .inl ⟨.pointer (some ⟨w.heap.size, 0, none⟩), rfl, ?_⟩⟩
  ·unfold execOp
   simp only [ho, e1, Instr.range, Sem.run_bind, run_underlying ht, Result.andThen_ok, Sem.run_pure]
   rfl
  ·simp only [Rep]
   exact ⟨w.heap.size, by simp, rfl⟩
 ·cases he

theorem snd_snext {o : Oper} {x : Operand} (ho : o.op = .next x true) : Sound C o (.snext x) := by
 intro _ st g a w d st' hs he
 simp only [AOp.ex] at he
 split at he
 ·rename_i n hx
  obtain ⟨p, h10, h2⟩ := Option.bind_eq_some_iff.1 he
  obtain ⟨mo, h1, h11⟩ := Option.bind_eq_some_iff.1 h10
  obtain ⟨s, pos⟩ := p
  obtain rfl : mo = .sit s pos := by cases mo <;> simp [MO.iter] at h11; rw [h11.1, h11.2]
  split at h2
  ·rename_i hn
   have e1 := hs.ev x
   rw [hx] at e1
   simp only [Rep] at e1
   obtain ⟨b, hb, e1⟩ := e1
   obtain ⟨b', ob, q1, q2, q3⟩ := hs.mem.mps n _ h1
   rw [hb] at q1
   cases q1
   simp only [MO.at] at q3
   subst q3
   have hg : (getObj b).run C.P w = .ok (.stringIter s pos) w := by simp [getObj, Sem.run, q2]
   have hset : ∀ ob, (setObj b ob).run C.P w = .ok () (w.putObj b ob) := fun ob => by
    have hlt := (Array.getElem?_eq_some_iff.1 q2).1
    simp [setObj, Sem.run, q2, World.putObj]
   split at h2
   ·rename_i hlt
    cases h2
    have hs' := hs.setobj n b hb (.sit s pos) (.stringIter s pos) rfl q2 hn (.sit s (pos + (Utf8.decode s pos).2)) (.stringIter s (pos + (Utf8.decode s pos).2)) rfl
    have hkeep : ∀ m b0, some n ≠ some m → g.bx m = some b0 → g.bx m = some b0 ∧ (w.putObj b (.stringIter s (pos + (Utf8.decode s pos).2))).heap[b0]? = w.heap[b0]? := fun m b0 hm hb0 => ⟨hb0, World.putObj_heap_other (fun e => by
     subst e
     exact hm (by rw [hs.mem.bxinj n m b0 hb hb0]))⟩
    have hex : Ex g.Fz w g.Fz (w.putObj b (.stringIter s (pos + (Utf8.decode s pos).2))) := fun b0 o0 hf => ⟨hf, World.cell?_of_block (World.putObj_heap_other (fun e => by
     subst e
     exact (hs.mem.bxok n b0 hb).2.2 o0 hf))⟩
    refine ⟨(fun h => by cases h), .value (.tuple #[.bool true, .int .i64 pos, .int .i32 (Utf8.decode s pos).1]), _, g, ?_, hs', ⟨hex, fun m b0 hm hb0 => hkeep m b0 (by simpa only [AOp.touch, hx] using hm) hb0⟩, .inl ⟨_, rfl, ?_⟩⟩
    ·unfold execOp
     simp only at hlt
     simp only [ho, e1, Instr.next, Sem.run_bind, hg, Result.andThen_ok, if_pos hlt, hset, Sem.run_pure]
     rfl
    ·simp only [Rep, Reps]
     exact ⟨_, rfl, _, _, rfl, .raw _ rfl, _, _, rfl, .raw _ rfl, _, _, rfl, .raw _ rfl, rfl⟩
   ·rename_i hlt
    cases h2
    refine ⟨(fun h => by cases h), .value (.tuple #[.bool false]), w, g, ?_, hs, ⟨Ex.refl _ _, fun m b0 _ hb0 => ⟨hb0, rfl⟩⟩, .inl ⟨_, rfl, ?_⟩⟩
    ·unfold execOp
     simp only at hlt
     simp only [ho, e1, Instr.next, Sem.run_bind, hg, Result.andThen_ok, if_neg hlt, Sem.run_pure]
    ·simp only [Rep, Reps]
     exact ⟨_, rfl, _, _, rfl, .raw _ rfl, rfl⟩
  ·cases h2
 ·cases he


variable {C : Ctx} {st : St} {g : Gh} {a : Act} {w : World}

theorem snd_isnil {o : Oper} {neg : Bool} {t t2 : TypeId} {x : Operand} {ms : Array (String × TypeId)} (ho : o.op = .binOp (if neg then .neq else .eql) t x (.const .nilIface) t2) (hu : C.P.underlying t = some (.interface ms)) : Sound C o (.isnil neg x) := by
 refine Sound.quiet fun st g a w d st' hs he => ?_
 simp only [AOp.ex] at he
 have hx := hs.ev x
 split at he
 ·rename_i hev
  cases he
  rw [hev] at hx
  have ex : a.eval x = .nilIface := raw_inv hx
  refine ⟨rfl, .bool (!neg), fun w' _ => ?_, rep_raw rfl⟩
  have heq : (Op.equal t .nilIface .nilIface).run C.P w' = .ok true w' := by
   unfold Op.equal
   show (Op.equalIn (9999 + 1) t _ _).run C.P w' = _
   unfold Op.equalIn
   simp only [Sem.run_bind, run_underlying hu, Result.andThen_ok, Sem.run_pure]
  have ey : a.eval (.const .nilIface) = .nilIface := rfl
  unfold execOp
  cases neg
  ·simp only [ho, ex, ey, Bool.false_eq_true, if_false]
   simp [eqGuard, binOp, heq]
  ·simp only [ho, ex, ey, if_true]
   simp [eqGuard, binOp, heq]
 ·rename_i tt agg cs hev
  cases he
  rw [hev] at hx
  simp only [Rep] at hx
  obtain ⟨u, hu2⟩ : ∃ u, a.eval x = .iface tt u := by
   generalize a.eval x = v at hx
   cases hx <;> exact ⟨_, rfl⟩
  refine ⟨rfl, .bool neg, fun w' _ => ?_, rep_raw rfl⟩
  have heq : (Op.equal t (.iface tt u) .nilIface).run C.P w' = .ok false w' := by
   unfold Op.equal
   show (Op.equalIn (9999 + 1) t _ _).run C.P w' = _
   unfold Op.equalIn
   simp only [Sem.run_bind, run_underlying hu, Result.andThen_ok, Sem.run_pure]
  have ey : a.eval (.const .nilIface) = .nilIface := rfl
  unfold execOp
  cases neg
  ·simp only [ho, hu2, ey, Bool.false_eq_true, if_false]
   simp [eqGuard, binOp, heq]
  ·simp only [ho, hu2, ey, if_true]
   simp [eqGuard, binOp, heq]
 ·cases he

theorem snd_tassert {o : Oper} {xt t : TypeId} {u : TypeDesc} {i : TypeInfo} {z : Value} {x : Operand} (ho : o.op = .typeAssert x xt t true) (hu : C.P.underlying t = some u) (hn : ∀ ms, u ≠ .interface ms) (hi : C.P.info? t = some i) (hz : i.zero = some z) : Sound C o (.tassert t z x) := by
 have hzero : ∀ w, (zeroValue t).run C.P w = .ok z w := fun w => by
  simp only [zeroValue, typeInfo, Sem.run_bind, run_program, Result.andThen_ok, hi, hz, Sem.run_pure]
 refine Sound.quiet fun st g a w d st' hs he => ?_
 simp only [AOp.ex] at he
 have hx := hs.ev x
 split at he
 ·rename_i hev
  cases he
  rw [hev] at hx
  have ex : a.eval x = .nilIface := raw_inv hx
  refine ⟨rfl, .tuple #[z, .bool false], fun w' _ => ?_, ?_⟩
  ·unfold execOp
   simp only [ho, ex, Instr.typeAssert, Sem.run_bind, run_underlying hu, Result.andThen_ok]
   cases u <;> first | exact absurd rfl (hn _) | simp [hzero]
  ·simp only [Rep]
   exact ⟨[z, .bool false], rfl, by simp only [Reps]; exact ⟨_, _, rfl, cD_rep _ _ z, _, _, rfl, by simp only [Rep]; exact .raw _ rfl, rfl⟩⟩
 ·rename_i tt agg cs hev
  rw [hev] at hx
  simp only [Rep] at hx
  obtain ⟨v, hv, hcs⟩ : ∃ v, a.eval x = .iface tt v ∧ ((agg = true ∧ ∃ vs : List Value, v = .agg vs.toArray ∧ PReps g.Fz w vs cs) ∨ (agg = false ∧ ∃ c, cs = [c] ∧ PRep g.Fz w v c)) := by
   generalize a.eval x = y at hx
   cases hx with
   | iface _ v c h => exact ⟨v, rfl, .inr ⟨rfl, c, rfl, h⟩⟩
   | ifaceAgg _ vs ds h => exact ⟨_, rfl, .inl ⟨rfl, vs, rfl, h⟩⟩
  split at he
  ·rename_i htt
   subst htt
   rcases hcs with ⟨rfl, vs, rfl, h⟩ | ⟨rfl, c, rfl, h⟩
   ·simp only at he
    cases he
    refine ⟨rfl, .tuple #[.agg vs.toArray, .bool true], fun w' _ => ?_, ?_⟩
    ·unfold execOp
     simp only [ho, hv, Instr.typeAssert, Sem.run_bind, run_underlying hu, Result.andThen_ok]
     cases u <;> first | exact absurd rfl (hn _) | simp
    ·simp only [Rep]
     exact ⟨[.agg vs.toArray, .bool true], rfl, by simp only [Reps]; exact ⟨_, _, rfl, by simp only [Rep]; exact ⟨vs, rfl, Reps.of_pd h⟩, _, _, rfl, by simp only [Rep]; exact .raw _ rfl, rfl⟩⟩
   ·simp only at he
    cases he
    refine ⟨rfl, .tuple #[v, .bool true], fun w' _ => ?_, ?_⟩
    ·unfold execOp
     simp only [ho, hv, Instr.typeAssert, Sem.run_bind, run_underlying hu, Result.andThen_ok]
     cases u <;> first | exact absurd rfl (hn _) | simp
    ·simp only [Rep]
     exact ⟨[v, .bool true], rfl, by simp only [Reps]; exact ⟨_, _, rfl, by simp only [Rep]; exact h, _, _, rfl, by simp only [Rep]; exact .raw _ rfl, rfl⟩⟩
  ·rename_i htt
   cases he
   refine ⟨rfl, .tuple #[z, .bool false], fun w' _ => ?_, ?_⟩
   ·unfold execOp
    simp only [ho, hv, Instr.typeAssert, Sem.run_bind, run_underlying hu, Result.andThen_ok]
    cases u <;> first | exact absurd rfl (hn _) | simp [hzero, htt]
   ·simp only [Rep]
    exact ⟨[z, .bool false], rfl, by simp only [Reps]; exact ⟨_, _, rfl, cD_rep _ _ z, _, _, rfl, by simp only [Rep]; exact .raw _ rfl, rfl⟩⟩
 ·cases he

theorem octets_inv : ∀ {els : List (List PD)} {ns : List Int}, octets els = some ns → els = ns.map fun n => [PD.raw (.int .u8 n)]
 | [], ns, h => by simp only [octets, Option.some.injEq] at h; subst h; rfl
 | r :: els, ns, h => by
   unfold octets at h
   split at h
   ·rename_i e; cases e
   ·rename_i n r' e
    cases e
    obtain ⟨ns', h1, rfl⟩ := Option.map_eq_some_iff.1 h
    rw [octets_inv h1]; rfl
   ·cases h

theorem bstr_run {P : Program} {v : Value} {els : List (List PD)} {ns : List Int} (h : PRep g.Fz w v (.slice els)) (hn : octets els = some ns) {w' : World} (hk : ∀ b o, g.Fz b o → w'.cell? ⟨b, o, none⟩ = w.cell? ⟨b, o, none⟩) :
 (Conv.bytesToString v).run P w' = .ok (.string (octStr ns)) w' := by
 have h' := h.mono (Fz' := g.Fz) (w' := w') (fun b o hf => ⟨hf, hk b o hf⟩)
 have he := octets_inv hn
 clear h hn
 cases h' with
 | empty ad cap =>
   have : ns = [] := by cases ns <;> simp_all
   subst this
   cases ad with
   | none => unfold Conv.bytesToString; simp only [Sem.run_pure]; rfl
   | some ad =>
     have hl := run_loadCells_list (P := P) (w := w') ad ([] : List Value) (fun j v hv => by simp at hv)
     rw [show ([] : List Value).length = 0 from rfl] at hl
     rw [run_bytesToString w' ad 0 cap [] (by simpa using hl)]
     rfl
 | slice b off n cap sz _ vals hlen hpos hcap hmax hl hc hr =>
   subst he
   have hlen' : ns.length = n := by simpa using hlen
   have hv : ∀ j (x : Int), ns[j]? = some x → vals j = [.int .u8 x] := fun j x hx => by
    have hjn : j < n := by have := (List.getElem?_eq_some_iff.1 hx).1; omega
    have h1 := hr j hjn
    have h2 : (ns.map fun n => [PD.raw (.int .u8 n)]).getD j [] = [PD.raw (.int .u8 x)] := by
     rw [List.getD_eq_getElem?_getD, List.getElem?_map, hx]; rfl
    rw [h2] at h1
    generalize vals j = vs at h1
    cases h1 with
    | cons v d vs ds h3 h4 =>
      cases h4
      cases h3
      rfl
   have hcell : ∀ j v, (ns.map (Value.int .u8))[j]? = some v → w'.cell? ((⟨b, off, none⟩ : Addr).add j) = some v := fun j v hj => by
    rw [List.getElem?_map] at hj
    obtain ⟨x, hx, rfl⟩ := Option.map_eq_some_iff.1 hj
    have hjn : j < n := by have := (List.getElem?_eq_some_iff.1 hx).1; omega
    have hsz : sz = 1 := by rw [← hl j hjn, hv j x hx]; rfl
    have h1 := (hc j 0 (.int .u8 x) hjn (by rw [hv j x hx]; rfl)).1
    rw [add_off]
    rw [hsz] at h1
    simpa using h1
   have hload := run_loadCells_list (P := P) (w := w') (⟨b, off, none⟩ : Addr) (ns.map (Value.int .u8)) hcell
   rw [List.length_map, hlen'] at hload
   rw [run_bytesToString w' _ n cap ns hload]
   rfl

theorem snd_bstr {o : Oper} {s t e : TypeId} {x : Operand} (ho : o.op = .convert s t x) (hs1 : C.P.underlying s = some (.slice e)) (ht : C.P.underlying t = some .string) (he0 : C.P.underlying e = some (.int .u8)) : Sound C o (.bstr x) := by
 have key : ∀ (g : Gh) (a : Act) (w : World) (els : List (List PD)) (ns : List Int), PRep g.Fz w (a.eval x) (.slice els) → octets els = some ns → ∀ w', Keep g none w w' →
  (execOp a.eval o).run C.P w' = .ok (.value (.string (octStr ns))) w' := fun g a w els ns hr hn w' hk => by
  have h1 := bstr_run (P := C.P) hr hn (w' := w') hk.fz
  unfold execOp
  obtain ⟨ad, l, c, hv⟩ : ∃ ad l c, a.eval x = .slice ad l c := by
   generalize a.eval x = v at hr
   cases hr <;> exact ⟨_, _, _, rfl⟩
  rw [hv] at h1
  simp only [ho, hv, Sem.run_bind, run_convert_bytes_string w' s t e ad l c hs1 he0 ht, h1, Result.andThen_ok, Sem.run_pure]
 refine Sound.quiet fun st g a w d st' hs he => ?_
 simp only [AOp.ex] at he
 have hx := hs.ev x
 split at he
 ·rename_i els hev
  obtain ⟨ns, h1, h2⟩ := Option.map_eq_some_iff.1 he
  cases h2
  rw [hev] at hx
  simp only [Rep] at hx
  exact ⟨rfl, _, key g a w els ns hx h1, rep_raw rfl⟩
 ·rename_i e1 els tk hev
  obtain ⟨ns, h1, h2⟩ := Option.map_eq_some_iff.1 he
  cases h2
  rw [hev] at hx
  simp only [Rep] at hx
  exact ⟨rfl, _, key g a w els ns hx.1 h1, rep_raw rfl⟩
 ·cases he


variable {C : Ctx} {st st' : St} {g : Gh} {a : Act} {w : World}

def AOp.calls : AOp → Bool
 | .call .. | .callv .. => true
 | _ => false

def AOp.plain : AOp → Bool
 | .pick .. | .append .. | .call .. | .callv .. | .nilS .. => false
 | _ => true

theorem comp_sound {o : Oper} {ao : AOp} (h : comp C.P o.op = some ao) (hp : ao.plain = true) : Sound C o ao := by
 unfold comp at h
 split at h
 case h_1 x ho => cases h; exact snd_mv (.inl ho)
 case h_2 x ho => cases h; exact snd_mv (.inr ho)
 case h_3 => cases h; cases hp
 case h_4 e ho =>
  split at h
  ·rename_i i hi
   split at h
   ·rename_i z hz
    split at h
    ·cases h; exact snd_alloc ho hi hz
    ·cases h
   ·cases h
  ·cases h
 case h_5 e x ho => cases h; exact snd_box ho
 case h_6 t parts ho =>
  split at h
  ·rename_i fs i hu hi
   split at h
   ·rename_i z ps hz hps
    split at h
    ·rename_i hc; cases h; exact snd_build ho hu hi hz hps hc.2
    ·cases h
   ·cases h
  ·cases h
 case h_7 t n parts ho =>
  split at h
  ·rename_i e hu
   split at h
   ·rename_i i hi
    split at h
    ·rename_i z hz
     split at h
     ·rename_i hc; cases h; exact snd_bslice ho hu hi hz hc.1 hc.2.1 hc.2.2.1 hc.2.2.2
     ·cases h
    ·cases h
   ·cases h
  ·cases h
 case h_8 t x ho =>
  obtain ⟨k, hk, rfl⟩ := Option.map_eq_some_iff.1 h
  cases k with
  | none => exact snd_load_none ho hk
  | some k => exact snd_load_some ho hk
 case h_9 t x y ho =>
  split at h
  ·rename_i i hi; cases h; exact snd_store ho hi
  ·cases h
 case h_10 x ho => cases h; exact snd_ncheck ho
 case h_11 op t x y t2 ho =>
  split at h
  ·cases h; exact snd_bin ho
  ·cases h; exact snd_bin ho
  ·rename_i hu
   split at h
   ·cases h; exact snd_binB (neg := false) (by simpa using ho) hu
   ·cases h; exact snd_binB (neg := true) (by simpa using ho) hu
   ·cases h
  ·rename_i fs hu
   split at h
   ·rename_i ks hk
    split at h
    ·cases h
    ·rename_i hg; cases h; exact snd_eqs (neg := false) (by simpa using ho) hu hk (by simpa using hg)
   ·rename_i ks hk
    split at h
    ·cases h
    ·rename_i hg; cases h; exact snd_eqs (neg := true) (by simpa using ho) hu hk (by simpa using hg)
   ·cases h
  ·rename_i ms hu
   split at h
   ·cases h; exact snd_isnil (neg := false) (by simpa using ho) hu
   ·cases h; exact snd_isnil (neg := true) (by simpa using ho) hu
   ·cases h
  ·split at h
   ·cases h; cases hp
   ·cases h; cases hp
   ·cases h
  ·cases h
 case h_12 op t x ho => cases h; exact snd_un ho
 case h_13 s t x ho =>
  split at h
  ·rename_i q k hs ht; cases h; exact snd_conv ho hs ht
  ·rename_i e hs ht
   split at h
   ·rename_i he; cases h; exact snd_bstr ho hs ht he
   ·cases h
  ·cases h
 case h_14 s x f ho =>
  split at h
  ·rename_i fs hu
   split at h
   ·rename_i fd hf
    split at h
    ·rename_i i hi
     split at h
     ·cases h
     ·rename_i h0; cases h; exact snd_fieldA ho hu hf hi h0
    ·cases h
   ·cases h
  ·cases h
 case h_15 s x f ho =>
  split at h
  ·rename_i fs hu
   split at h
   ·rename_i fd hf
    obtain ⟨k, hk, rfl⟩ := Option.map_eq_some_iff.1 h
    exact snd_field ho hu hf hk
   ·cases h
  ·cases h
 case h_16 t x i ho =>
  split at h
  ·rename_i e hu
   split at h
   ·rename_i ie hi; cases h; exact snd_idxA ho hu hi
   ·cases h
  ·cases h
 case h_17 t x i ho =>
  split at h
  ·rename_i hu; cases h; exact snd_idxS ho hu
  ·cases h
 case h_18 x j ho => cases h; exact snd_extract ho
 case h_19 f first caps ho =>
  split at h
  ·rename_i hf; subst hf; cases h; exact snd_mkfn ho
  ·cases h
 case h_20 t x ho =>
  split at h
  ·cases h
  ·rename_i u hn hu; cases h; exact snd_mkif ho hu (fun ms e => hn ms e)
  ·cases h
 case h_21 c ho =>
  split at h
  ·cases h; cases hp
  ·cases h; cases hp
  ·rename_i hc
   split at h
   ·rename_i x t ha ht
    split at h
    ·rename_i hu; cases h; exact snd_len ho hc ha ht hu (.inl rfl)
    ·rename_i e hu; cases h; exact snd_len ho hc ha ht hu (.inr ⟨e, rfl⟩)
    ·cases h
   ·cases h
  ·rename_i hc
   split at h
   ·rename_i x y ha; cases h; exact snd_minmax (mx := true) ho hc ha
   ·cases h
  ·rename_i hc
   split at h
   ·rename_i x y ha; cases h; exact snd_minmax (mx := false) ho hc ha
   ·cases h
  ·split at h
   ·split at h
    ·split at h
     ·split at h
      ·split at h
       ·split at h
        ·cases h; cases hp
        ·cases h
       ·cases h
      ·cases h
     ·cases h
    ·cases h
   ·cases h
  ·cases h
 case h_22 t x lo hi ho =>
  split at h
  ·rename_i hu; cases h; exact snd_slcS ho hu
  ·rename_i e hu
   split at h
   ·rename_i i hi'; cases h; exact snd_slcL ho hu hi'
   ·cases h
  ·cases h
 case h_23 t ho => cases h; exact snd_mkmap ho
 case h_24 t x i ho =>
  obtain ⟨ks, hk, h⟩ := Option.bind_eq_some_iff.1 h
  obtain ⟨z, hz, rfl⟩ := Option.map_eq_some_iff.1 h
  exact snd_mget ho hk hz
 case h_25 t x i v ho =>
  obtain ⟨ks, hk, rfl⟩ := Option.map_eq_some_iff.1 h
  exact snd_mset (.inl ho) hk
 case h_26 t x i v ho =>
  obtain ⟨ks, hk, rfl⟩ := Option.map_eq_some_iff.1 h
  exact snd_mset (.inr ho) hk
 case h_27 t x ho =>
  split at h
  ·rename_i ht; cases h; exact snd_srange ho ht
  ·cases h
 case h_28 x ho => cases h; exact snd_snext ho
 case h_29 t x i ho =>
  obtain ⟨ks, hk, h⟩ := Option.bind_eq_some_iff.1 h
  obtain ⟨z, hz, rfl⟩ := Option.map_eq_some_iff.1 h
  exact snd_mentry ho hk hz
 case h_30 t x s v ho => cases h; exact snd_mstore ho
 case h_31 x xt t ho =>
  split at h
  ·cases h
  ·rename_i u hn hu
   split at h
   ·rename_i i hi
    obtain ⟨z, hz, rfl⟩ := Option.map_eq_some_iff.1 h
    exact snd_tassert ho hu (fun ms e => hn ms e) hi hz
   ·cases h
  ·cases h
 case h_32 t x hi mx ho =>
  split at h
  ·rename_i e hu
   split at h
   ·rename_i i hi'; cases h; exact snd_slcF ho hu hi'
   ·cases h
  ·cases h
 case h_33 => cases h

def CallW (P : Program) (f : FuncId) (args : List D) (st : St) (K : D → St → Prop) : Prop :=
 (∀ (vs : Array Value) (w : World), (callFunc f vs).run P w = .ok (.enter f vs) w) ∧ ∀ (C : Ctx) (g : Gh) (a : Act) (w : World) (vs : List Value), C.P = P → SR C st g a w → Reps g w args vs →
  Calls P f vs.toArray w fun e w' => ∃ v d st' g', e = .returned v ∧ K d st' ∧ SR C st' g' a w' ∧ Rep g' w' d v

def PureW (P : Program) (f : FuncId) (args : List D) (st : St) (R : D → Prop) : Prop :=
 (∀ (vs : Array Value) (w : World), (callFunc f vs).run P w = .ok (.enter f vs) w) ∧ ∀ (C : Ctx) (g : Gh) (a : Act) (w : World) (vs : List Value), C.P = P → SR C st g a w → Reps g w args vs →
  Calls P f vs.toArray w fun e w' => ∃ v d g', e = .returned v ∧ R d ∧ SR C st g' a w' ∧ Rep g' w' d v ∧ SF g w g' w' none

theorem PureW.callW {P : Program} {f : FuncId} {args : List D} {st : St} {R : D → Prop} (h : PureW P f args st R) {K : D → St → Prop} (hk : ∀ d, R d → K d st) : CallW P f args st K :=
 ⟨h.1, fun C g a w vs hc hs hr => (h.2 C g a w vs hc hs hr).mono fun _ _ ⟨v, d, g', e, h1, h2, h3, _⟩ => ⟨v, d, st, g', e, hk d h1, h2, h3⟩⟩

def St.puto (st : St) : Option Nat → D → St
 | some i, d => st.put i d
 | none, _ => st

def St.know (st : St) (x : Operand) (b : Bool) : St := match x with
 | .tmp s => st.put s (.pd (.raw (.bool b)))
 | _ => st

def astep (P : Program) (o : AOper) (st : St) (K : St → Prop) : Prop :=
 match o.op with
 | .pick c x y => match st.ev c with
   | .pd (.raw (.bool b)) => (b = true → K ((st.know c true).puto o.dst (st.ev x))) ∧ (b = false → K ((st.know c false).puto o.dst (st.ev y)))
   | _ => False
 | .append e sz bytes x y => match o.dst, (st.ev x), (st.ev y).els with
   | some t, .own e' sz' els s, some es => e' = e ∧ sz' = sz ∧ (∀ r ∈ es, r.length = sz) ∧ els.length + es.length ≤ maxLen ∧ (els.length + es.length) * bytes ≤ 140737488355328 ∧
    K (((st.purge s).purge t).put t (.own e sz (els ++ es) t))
   | some t, .full sz' els, some es => sz' = sz ∧ (∀ r ∈ es, r.length = sz) ∧ els.length + es.length ≤ maxLen ∧ (els.length + es.length) * bytes ≤ 140737488355328 ∧
    (es = [] → K (st.put t (.full sz els))) ∧ (es ≠ [] → K ((st.purge t).put t (.own e sz (els ++ es) t)))
   | some t, .nils, some es => (∀ r ∈ es, r.length = sz) ∧ es.length ≤ maxLen ∧ es.length * bytes ≤ 140737488355328 ∧ K ((st.purge t).put t (.own e sz es t))
   | _, _, _ => False
 | .nilS neg x => match st.ev x with
   | .nils => K (st.puto o.dst (.pd (.raw (.bool (!neg)))))
   | d => match d.els with
     | some [] => K (st.puto o.dst (.pd (.raw (.bool true)))) ∧ K (st.puto o.dst (.pd (.raw (.bool false))))
     | some (_ :: _) => K (st.puto o.dst (.pd (.raw (.bool neg))))
     | none => False
 | .call f args => CallW P f (args.map st.ev) st fun d st' => K (st'.puto o.dst d)
 | .callv x args => match st.ev x with
   | .fn f caps => CallW P f (args.map st.ev ++ caps.map fun c => .ptr c.1 c.2) st fun d st' => K (st'.puto o.dst d)
   | .pd (.raw (.func (.func f) first caps)) => first = #[] ∧ caps = #[] ∧ CallW P f (args.map st.ev) st fun d st' => K (st'.puto o.dst d)
   | _ => False
 | op => match op.ex o.dst st with
   | some (d, st') => K (st'.puto o.dst d)
   | none => False

def valD : D → Option Value
 | .pd (.raw v) => some v
 | .agg ds => (D.raws ds).map fun vs => .agg vs.toArray
 | _ => none

def valsD : List D → Option (List Value)
 | [] => some []
 | d :: ds => match valD d, valsD ds with
   | some v, some vs => some (v :: vs)
   | _, _ => none

def ystep (P : Program) (o : AOper) (st : St) (K : St → Prop) : Prop :=
 match o.op with
 | .callv x args => match st.ev x with
   | .pd (.raw (.func (.yield l) first caps)) => match st.hs, valsD (args.map st.ev) with
     | .it l' xs i false, some vs => l' = l ∧ first = #[] ∧ caps = #[] ∧ xs[i]? = some vs ∧
       K (St.puto { st with hs := .it l xs (i + 1) false } o.dst (.pd (.raw (.bool true)))) ∧ K (St.puto { st with hs := .it l xs (i + 1) true } o.dst (.pd (.raw (.bool false))))
     | _, _ => False
   | _ => astep P o st K
 | _ => astep P o st K

def aops (P : Program) : List AOper → St → (St → Prop) → Prop
 | [], st, K => K st
 | o :: r, st, K => match o.guard with
   | none => ystep P o st fun st' => aops P r st' K
   | some (s, b) => match st.get s with
     | .pd (.raw (.bool c)) => (c = b → ystep P o (st.know (.tmp s) b) fun st' => aops P r st' K) ∧ (c = (!b) → aops P r ((st.know (.tmp s) (!b)).puto o.dst (.tup [])) K)
     | .tup [] => aops P r (st.puto o.dst (.tup [])) K
     | _ => False

def dstOK (p : Nat → Bool) (o : AOper) : Bool := match o.dst with
 | some d => p d
 | none => true

theorem SR.puto (h : SR C st g a w) {dst : Option Nat} (hd : ∀ d, dst = some d → C.wr d = true) {d : D} {v : Value} (hr : Rep g w d v) : SR C (st.puto dst d) g (a.put dst v) w := by
 cases dst with
 | none => exact h
 | some i => exact h.put (hd i rfl) hr

theorem SR.know (h : SR C st g a w) {x : Operand} {b : Bool} (hx : st.ev x = .pd (.raw (.bool b))) : SR C (st.know x b) g a w := by
 cases x with
 | tmp s =>
   simp only [St.know]
   have hr := h.ev (.tmp s)
   refine ⟨h.defers, h.size, fun i d hd => ?_, h.mem, h.x, h.fix⟩
   simp only [St.put, lk] at hd
   split at hd
   ·rename_i his
    subst his
    cases hd
    rw [hx] at hr
    refine ⟨?_, hr⟩
    simp only [St.ev, St.get] at hx
    cases hl : lk st.fr i with
    | none => rw [hl] at hx; cases hx
    | some d => exact (h.rep i d hl).1
   ·exact h.rep i d hd
 | const v => exact h
 | func f => exact h
 | global n => exact h


variable {C : Ctx} {st st' : St} {g : Gh} {a : Act} {w : World}

theorem astep_plain {P : Program} {o : AOper} (hp : o.op.plain = true) (K : St → Prop) : astep P o st K = (match o.op.ex o.dst st with | some (d, st') => K (st'.puto o.dst d) | none => False) := by
 obtain ⟨gd, dst, ao⟩ := o
 cases ao <;> first | rfl | cases hp

theorem Caps.reps : ∀ {cs : List (Nat × Nat)} {vs : List Value}, Caps g cs vs → Reps g w (cs.map fun c => .ptr c.1 c.2) vs
 | [], _, h => by simp only [Caps] at h; simp [h, Reps]
 | c :: cs, _, h => by
   simp only [Caps] at h
   obtain ⟨b, vs', rfl, hb, hs⟩ := h
   simp only [List.map_cons, Reps]
   exact ⟨_, vs', rfl, by simp only [Rep]; exact ⟨b, hb, rfl⟩, Caps.reps hs⟩

theorem call_sound {f : FuncId} {ds : List D} {K : D → St → Prop} (h : CallW C.P f ds st K) (hs : SR C st g a w) {vs : List Value} (hv : Reps g w ds vs) {o : Oper} {c : Call} (ho : o.op = .call c)
 (hr : (do let d ← resolve a.eval c o.type; invoke d.target d.args : Sem Next).run C.P w = (callFunc f vs.toArray).run C.P w) (next : Act → World → Prop) (Q : Exit → Act → World → Prop)
 (hn : ∀ d st' g' v w', SR C st' g' a w' → Rep g' w' d v → K d st' → next (a.put o.dst v) w') : o.wp C.P a w next Q := by
 have hrun : (execOp a.eval o).run C.P w = .ok (.enter f vs.toArray) w := by
  unfold execOp
  simp only [ho]
  rw [hr, h.1]
 unfold Oper.wp
 rw [hrun, Oper.upon_enter]
 refine (h.2 C g a w vs rfl hs hv).mono ?_
 rintro e w' ⟨v, d, st', g', rfl, hk, hsr, hrep⟩
 exact hn d st' g' v w' hsr hrep hk

theorem map_arr {α β : Type} (f : α → β) (l : Array α) : (l.toList.map f).toArray = l.map f := by rw [← Array.toList_map]

theorem comp_inv {P : Program} {op : Op} {ao : AOp} (h : comp P op = some ao) (hp : ao.plain = false) :
 (∃ c x y, op = .pick c x y ∧ ao = .pick c x y) ∨ (∃ c f, op = .call c ∧ c.callee = .value (.func f) ∧ ao = .call f c.args.toList) ∨
 (∃ c x, op = .call c ∧ c.callee = .value x ∧ ao = .callv x c.args.toList) ∨
 (∃ c x y t e i z, op = .call c ∧ c.callee = .builtin .append ∧ c.args.toList = [x, y] ∧ c.argTypes.toList = [t, t] ∧ P.underlying t = some (.slice e) ∧ P.info? e = some i ∧ i.zero = some z ∧
  z.cells.size = i.size ∧ 0 < i.size ∧ ao = .append e i.size i.bytes x y) ∨
 (∃ neg t x t2 e, op = .binOp (if neg then .neq else .eql) t x (.const (.slice none 0 0)) t2 ∧ P.underlying t = some (.slice e) ∧ ao = .nilS neg x) := by
 unfold comp at h
 split at h
 case h_3 c x y => cases h; exact .inl ⟨c, x, y, rfl, rfl⟩
 case h_11 op t x y t2 =>
  split at h
  ·cases h; cases hp
  ·cases h; cases hp
  ·split at h
   ·cases h; cases hp
   ·cases h; cases hp
   ·cases h
  ·split at h
   ·split at h
    ·cases h
    ·cases h; cases hp
   ·split at h
    ·cases h
    ·cases h; cases hp
   ·cases h
  ·split at h
   ·cases h; cases hp
   ·cases h; cases hp
   ·cases h
  ·rename_i e hu
   split at h
   ·cases h; exact .inr (.inr (.inr (.inr ⟨false, t, x, t2, e, rfl, hu, rfl⟩)))
   ·cases h; exact .inr (.inr (.inr (.inr ⟨true, t, x, t2, e, rfl, hu, rfl⟩)))
   ·cases h
  ·cases h
 case h_21 c =>
  split at h
  ·rename_i f hc; cases h; exact .inr (.inl ⟨c, f, rfl, hc, rfl⟩)
  ·rename_i x _ hc; cases h; exact .inr (.inr (.inl ⟨c, x, rfl, hc, rfl⟩))
  ·repeat' split at h
   all_goals first | (cases h; done) | (cases h; cases hp; done)
  ·repeat' split at h
   all_goals first | (cases h; done) | (cases h; cases hp; done)
  ·repeat' split at h
   all_goals first | (cases h; done) | (cases h; cases hp; done)
  ·rename_i hc
   split at h
   ·rename_i x y t u ha ht
    split at h
    ·rename_i htu
     subst htu
     split at h
     ·rename_i e hu
      split at h
      ·rename_i i hi
       split at h
       ·rename_i z hz
        split at h
        ·rename_i hh; cases h; exact .inr (.inr (.inr (.inl ⟨c, x, y, t, e, i, z, rfl, hc, ha, ht, hu, hi, hz, hh.1, hh.2, rfl⟩)))
        ·cases h
       ·cases h
      ·cases h
     ·cases h
    ·cases h
   ·cases h
  ·cases h
 all_goals (repeat' split at h)
 all_goals first | (cases h; done) | (cases h; cases hp; done) | (obtain ⟨k, _, rfl⟩ := Option.map_eq_some_iff.1 h; cases hp) | (obtain ⟨_, _, h⟩ := Option.bind_eq_some_iff.1 h; obtain ⟨k, _, rfl⟩ := Option.map_eq_some_iff.1 h; cases hp)

theorem append_sound (hs : SR C st g a w) {o : Oper} {c : Call} {x y : Operand} {t e : TypeId} {i : TypeInfo} {z : Value} (ho : o.op = .call c) (hc : c.callee = .builtin .append) (ha : c.args.toList = [x, y]) (ht : c.argTypes.toList = [t, t])
 (hu : C.P.underlying t = some (.slice e)) (hi : C.P.info? e = some i) (hz : i.zero = some z) (hzs : z.cells.size = i.size) (hpos : 0 < i.size) (n : Nat) (hn : o.dst = some n) (hd : C.wr n = true)
 (st1 : St) (g1 : Gh) (hs1 : SR C st1 g1 a w) (htk : g1.tk n = none) (hfz : g1.Fz = g.Fz) (hbxe : g1.bx = g.bx) (els es : List (List PD)) (hv : PRep g.Fz w (a.eval x) (.slice els)) (hl : ∀ r ∈ els, r.length = i.size)
 (O : Nat → Prop) (hxO : C.X st1.hs O w) (hO1 : ∀ k, (a.eval x).ownBlock = some k → O k) (hO2 : ∀ k, g1.has C.w0.heap.size k → O k)
 (m : Nat) (xs : List Value) (hown : w.ownsRow 0 e i.size (a.eval x) m xs) (hfr : ∀ b, (a.eval x).ownBlock = some b → (C.w0.heap.size ≤ b ∨ C.S b) ∧ ∀ o, g.Fz b o → o < m * i.size)
 (hbx : ∀ b, (a.eval x).ownBlock = some b → ∀ k, g1.bx k ≠ some b) (htks : ∀ b, (a.eval x).ownBlock = some b → ∀ s u f, g1.tk s = some (u, f) → u.ownBlock ≠ some b)
 (hy : (st.ev y).els = some es) (hly : ∀ r ∈ es, r.length = i.size) (h63 : els.length + es.length ≤ maxLen) (hbytes : (els.length + es.length) * i.bytes ≤ 140737488355328) {K : St → Prop} (hk : K (st1.put n (.own e i.size (els ++ es) n)))
 (next : Act → World → Prop) (Q : Exit → Act → World → Prop) (hnx : ∀ st' g' a' w', SR C st' g' a' w' → K st' → SF g w g' w' none → next a' w') : o.wp C.P a w next Q := by
 have ha' : c.args = #[x, y] := by rw [← Array.toArray_toList (xs := c.args), ha]
 have ht' : c.argTypes = #[t, t] := by rw [← Array.toArray_toList (xs := c.argTypes), ht]
 obtain ⟨v', w', g', hrun, hsr, hrep, hsf⟩ := hs1.append n htk t o.type e i z hu hi hz hzs hpos (a.eval x) (a.eval y) els es (by rw [hfz]; exact hv) hl O hxO hO1 hO2 m xs hown (by rw [hfz]; exact hfr) hbx htks
  (by rw [hfz]; exact (hs.ev y).els hy) hly h63 hbytes
 have hex : (execOp a.eval o).run C.P w = .ok (.value v') w' := by
  unfold execOp
  simp only [ho, resolve, hc, ha', ht', invoke, builtin, Sem.run_bind, Sem.run_pure, Result.andThen_ok, List.map_toArray, List.map_cons, List.map_nil, hrun]
 unfold Oper.wp
 rw [hex]
 refine hnx _ _ _ _ (SR.puto hsr (dst := o.dst) (fun d e => by rw [hn] at e; cases e; exact hd) hrep) ?_ ⟨by rw [← hfz]; exact hsf.ex, by rw [← hbxe]; exact hsf.bx⟩
 rw [hn]
 exact hk

theorem run_nilS (hs : SR C st g a w) {o : Oper} {neg : Bool} {t e t2 : TypeId} {x : Operand} (ho : o.op = .binOp (if neg then .neq else .eql) t x (.const (.slice none 0 0)) t2) (hu : C.P.underlying t = some (.slice e)) {els : List (List PD)} (hx : PRep g.Fz w (a.eval x) (.slice els)) :
 ∃ q, (execOp a.eval o).run C.P w = .ok (.value (.bool (if neg then !q else q))) w ∧ (els ≠ [] → q = false) ∧ (a.eval x = .slice none 0 0 → q = true) := by
 obtain ⟨ad, n, cap, e1, h0⟩ : ∃ ad n cap, a.eval x = .slice ad n cap ∧ (els ≠ [] → ad.isNone = false) := by
  generalize a.eval x = v at hx
  cases hx with
  | empty ad cap => exact ⟨ad, 0, cap, rfl, fun h => absurd rfl h⟩
  | slice b off n cap sz els vals => exact ⟨_, n, cap, rfl, fun _ => rfl⟩
 refine ⟨ad.isNone, ?_, h0, fun h => by rw [h] at e1; injection e1 with e2; rw [← e2]; rfl⟩
 have heq : (Op.equal t (.slice ad n cap) (.slice none 0 0)).run C.P w = .ok ad.isNone w := by
  unfold Op.equal
  show (Op.equalIn (9999 + 1) t _ _).run C.P w = _
  unfold Op.equalIn
  cases ad <;> simp only [Sem.run_bind, run_underlying hu, Result.andThen_ok, Sem.run_pure, Option.isNone_none, Option.isNone_some]
 have ey : a.eval (.const (.slice none 0 0)) = .slice none 0 0 := rfl
 unfold execOp
 cases neg
 ·simp only [ho, e1, ey, Bool.false_eq_true, if_false]
  simp [eqGuard, binOp, heq]
 ·simp only [ho, e1, ey, if_true]
  simp [eqGuard, binOp, heq]

theorem SR.cat (h : SR C st g a w) (t : Nat) (htk : g.tk t = none) (ty ty' e : TypeId) (i : TypeInfo) (z : Value) (ht : C.P.underlying ty = some (.slice e)) (hi : C.P.info? e = some i) (hz : i.zero = some z)
 (hzs : z.cells.size = i.size) (hsz : 0 < i.size) (v y : Value) (els es : List (List PD)) (hv : PRep g.Fz w v (.slice els)) (hf : ∃ ad, v = .slice ad els.length els.length) (hl : ∀ r ∈ els, r.length = i.size)
 (hy : PRep g.Fz w y (.slice es)) (hly : ∀ r ∈ es, r.length = i.size) (hne : es ≠ []) (h63 : els.length + es.length ≤ maxLen) (hbytes : (els.length + es.length) * i.bytes ≤ 140737488355328) :
 ∃ v' w' g', (Builtin.append_ #[ty, ty] ty' #[v, y]).run C.P w = .ok v' w' ∧ SR C st g' a w' ∧ Rep g' w' (.own e i.size (els ++ es) t) v' ∧ SF g w g' w' none := by
 have m := h.mem
 obtain ⟨ya, yc, yss, rfl, hyc, _, hyr, hyx⟩ := hy.rows hly
 obtain ⟨va, vc, vss, rfl, hvc, _, hvr, hvx⟩ := hv.rows hl
 obtain ⟨ad, had⟩ := hf
 have hva : va = ad := by injection had
 have hvc' : vc = els.length := by injection had
 subst hva; subst hvc'
 have hpos : 0 < es.length := List.length_pos_iff.2 hne
 obtain ⟨yb, yoff, rfl, hycell⟩ := hyx hpos
 have hvl := RowsR.sizes hvr hl
 have hyl := RowsR.sizes hyr hly
 have hyf : yss.flatten.length = es.length * i.size := by rw [flat_len i.size yss hyl, hyr.length]
 have hvf : vss.flatten.length = els.length * i.size := by rw [flat_len i.size vss hvl, hvr.length]
 have hlen : (vss.flatten ++ yss.flatten).length = (els.length + es.length) * i.size := by rw [List.length_append, hvf, hyf, Nat.add_mul]
 have hsmall : els.length + es.length ≤ 9223372036854775807 := by simp only [maxLen] at h63; omega
 have hynews : ∀ j u, yss.flatten[j]? = some u → w.cell? ((⟨yb, yoff, none⟩ : Addr).add j) = some u := fun j u hu => by rw [Addr.add_mid]; exact (hycell j u hu).1
 obtain ⟨old, hold, hrun⟩ : ∃ old, old < els.length + es.length ∧ (Builtin.append_ #[ty, ty] ty' #[.slice va els.length els.length, .slice (some ⟨yb, yoff, none⟩) es.length yc]).run C.P w =
  .ok (.slice (some ⟨w.heap.size, 0, none⟩) (els.length + es.length) (grownCap w (els.length + es.length) old e))
   (w.drew.alloc (.cells (vss.flatten.toArray ++ yss.flatten.toArray ++ Builtin.zeroCells z.cells (grownCap w (els.length + es.length) old e - (els.length + es.length))) e)) := by
  cases va with
  | none =>
    have h0 : els = [] := by
     rcases Nat.eq_zero_or_pos els.length with h0 | hp
     ·exact List.eq_nil_of_length_eq_zero h0
     ·obtain ⟨b, off, e1, _⟩ := hvx hp; cases e1
    subst h0
    have hvn : vss.flatten = [] := List.eq_nil_of_length_eq_zero (by simpa using hvf)
    refine ⟨0, by simpa using hpos, ?_⟩
    have hr := run_append_nil (P := C.P) w ty ty' e i z ht hi hz ⟨yb, yoff, none⟩ es.length yc yss.flatten hyf hynews hpos (by omega) (by simp only [List.length_nil, Nat.zero_add] at hbytes; omega)
    simpa only [hvn, List.length_nil, Nat.zero_add, Array.empty_append] using hr
  | some q =>
    refine ⟨els.length, by omega, ?_⟩
    refine run_append_grow (P := C.P) w ty ty' e i z ht hi hz q els.length els.length vss.flatten hvf (fun j u hu => ?_) ⟨yb, yoff, none⟩ es.length yc yss.flatten hyf hynews (by omega) (by omega) (growslice_fits (by omega) hbytes)
    have hp : 0 < els.length := by
     rcases Nat.eq_zero_or_pos els.length with h0 | hp
     ·have : vss.flatten = [] := List.eq_nil_of_length_eq_zero (by rw [hvf, h0, Nat.zero_mul])
      rw [this] at hu; cases hu
     ·exact hp
    obtain ⟨b, off, e1, hc⟩ := hvx hp
    cases e1
    rw [Addr.add_mid]
    exact (hc j u hu).1
 have hge := grownCap_ge w (els.length + es.length) old e
 have hcm : grownCap w (els.length + es.length) old e ≤ maxLen := grownCap_le_maxLen w (els.length + es.length) old e h63
 have hown' : (w.drew.alloc (.cells (vss.flatten.toArray ++ yss.flatten.toArray ++ Builtin.zeroCells z.cells (grownCap w (els.length + es.length) old e - (els.length + es.length))) e)).ownsRow 0 e i.size
  (.slice (some ⟨w.heap.size, 0, none⟩) (els.length + es.length) (grownCap w (els.length + es.length) old e)) (els.length + es.length) (vss.flatten ++ yss.flatten) := by
  refine ⟨hlen, .inr ⟨w.heap.size, _, _, rfl, Nat.zero_le _, Go.heap_alloc_new w.drew _, hge, hcm, ?_, ?_⟩⟩
  ·simp only [Array.size_append, List.size_toArray, size_zeroCells, hzs, hvf, hyf, ← Nat.add_mul]
   congr 1
   omega
  ·simp only [Array.toList_append, List.append_assoc]
   rw [← List.append_assoc, ← hlen]
   exact List.take_left
 have hg : w.grownBy (w.drew.alloc (.cells (vss.flatten.toArray ++ yss.flatten.toArray ++ Builtin.zeroCells z.cells (grownCap w (els.length + es.length) old e - (els.length + es.length))) e)) none :=
  ⟨rfl, rfl, rfl, by simp, fun k hk _ => Below.heap_alloc w.drew _ k hk⟩
 generalize w.drew.alloc (.cells (vss.flatten.toArray ++ yss.flatten.toArray ++ Builtin.zeroCells z.cells (grownCap w (els.length + es.length) old e - (els.length + es.length))) e) = W' at hrun hown' hg
 have howned := SR.owned h t htk hg (g.has C.w0.heap.size) h.x (fun k e => by cases e) (fun k hk => hk) (fun k e => by cases e) e i hi hsz _ (els.length + es.length) _ hown' (fun b hb => by cases hb; exact .inr (Nat.le_refl _)) (fun b o _ e => by cases e)
 refine ⟨_, _, _, hrun, howned.1, ?_, howned.2.ex, fun k b _ hk => ⟨hk, hg.block b (m.bxok k b hk).1 (fun e => by cases e)⟩⟩
 simp only [Rep]
 refine ⟨?_, by simp, ?_⟩
 ·have hrows : RowsR (g.withOwn t (.slice (some ⟨w.heap.size, 0, none⟩) (els.length + es.length) (grownCap w (els.length + es.length) old e)) e ((els.length + es.length) * i.size)).Fz W' (vss ++ yss) (els ++ es) := (hvr.mono howned.2.ex).append (hyr.mono howned.2.ex)
  have hp : PRep (g.withOwn t (.slice (some ⟨w.heap.size, 0, none⟩) (els.length + es.length) (grownCap w (els.length + es.length) old e)) e ((els.length + es.length) * i.size)).Fz W' (.slice (some ⟨w.heap.size, 0, none⟩) (els ++ es).length (grownCap w (els.length + es.length) old e)) (.slice (els ++ es)) := by
   refine PRep.of_rows (sz := i.size) hrows (fun r hr => ?_) (by simpa using hge) (by simpa using h63) (fun j u hu => ?_)
   ·rcases List.mem_append.1 hr with hr | hr
    ·exact hl r hr
    ·exact hly r hr
   ·have hj : j < (els.length + es.length) * i.size := by
     have := (List.getElem?_eq_some_iff.1 hu).1
     rw [List.flatten_append, List.length_append, hvf, hyf, ← Nat.add_mul] at this
     exact this
    exact ⟨own_cell hown' rfl j u (by rw [← List.flatten_append]; exact hu), .inr ⟨rfl, hj⟩⟩
  rwa [List.length_append] at hp
 ·intro r hr
  rcases List.mem_append.1 hr with hr | hr
  ·exact hl r hr
  ·exact hly r hr

theorem cat_sound (hs : SR C st g a w) {o : Oper} {c : Call} {x y : Operand} {t e : TypeId} {i : TypeInfo} {z : Value} (ho : o.op = .call c) (hc : c.callee = .builtin .append) (ha : c.args.toList = [x, y]) (ht : c.argTypes.toList = [t, t])
 (hu : C.P.underlying t = some (.slice e)) (hi : C.P.info? e = some i) (hz : i.zero = some z) (hzs : z.cells.size = i.size) (hpos : 0 < i.size) (n : Nat) (hn : o.dst = some n) (hd : C.wr n = true) (els es : List (List PD))
 (hx : st.ev x = .full i.size els) (hy : (st.ev y).els = some es) (hly : ∀ r ∈ es, r.length = i.size) (h63 : els.length + es.length ≤ maxLen) (hbytes : (els.length + es.length) * i.bytes ≤ 140737488355328) {K : St → Prop}
 (hk1 : es = [] → K (st.put n (.full i.size els))) (hk2 : es ≠ [] → K ((st.purge n).put n (.own e i.size (els ++ es) n)))
 (next : Act → World → Prop) (Q : Exit → Act → World → Prop) (hnx : ∀ st' g' a' w', SR C st' g' a' w' → K st' → SF g w g' w' none → next a' w') : o.wp C.P a w next Q := by
 have ha' : c.args = #[x, y] := by rw [← Array.toArray_toList (xs := c.args), ha]
 have ht' : c.argTypes = #[t, t] := by rw [← Array.toArray_toList (xs := c.argTypes), ht]
 have hxr := hs.ev x
 rw [hx] at hxr
 by_cases hne : es = []
 ·subst hne
  have hrun : (Builtin.append_ #[t, t] o.type #[a.eval x, a.eval y]).run C.P w = .ok (a.eval x) w := by
   have hxr' := hxr
   simp only [Rep] at hxr'
   obtain ⟨hp, ⟨ad, e1⟩, hl⟩ := hxr'
   obtain ⟨ya, yc, yss, e2, _, _, hyr, _⟩ := ((hs.ev y).els hy).rows hly
   rw [e1, e2]
   cases ad with
   | none => cases ya <;> simp [Builtin.append_, run_underlying hu, sizeOf, typeInfo, hi, Builtin.lenOf, Builtin.firstCells, loadCells, loadCellsFrom, storeCells]
   | some q => cases ya <;> simp [Builtin.append_, run_underlying hu, sizeOf, typeInfo, hi, Builtin.lenOf, Builtin.firstCells, loadCells, loadCellsFrom, storeCells]
  have hex : (execOp a.eval o).run C.P w = .ok (.value (a.eval x)) w := by
   unfold execOp
   simp only [ho, resolve, hc, ha', ht', invoke, builtin, Sem.run_bind, Sem.run_pure, Result.andThen_ok, List.map_toArray, List.map_cons, List.map_nil, hrun]
  unfold Oper.wp
  rw [hex]
  refine hnx _ _ _ _ (SR.puto hs (dst := o.dst) (fun d e => by rw [hn] at e; cases e; exact hd) hxr) ?_ (SF.refl _ _ _)
  rw [hn]
  exact hk1 rfl
 ·have hxr' := hxr
  simp only [Rep] at hxr'
  obtain ⟨hp, hf, hl⟩ := hxr'
  obtain ⟨v', w', g', hrun, hsr, hrep, hsf⟩ := (hs.purge n).cat n (by simp) t o.type e i z hu hi hz hzs hpos (a.eval x) (a.eval y) els es hp hf hl ((hs.ev y).els hy) hly hne h63 hbytes
  have hex : (execOp a.eval o).run C.P w = .ok (.value v') w' := by
   unfold execOp
   simp only [ho, resolve, hc, ha', ht', invoke, builtin, Sem.run_bind, Sem.run_pure, Result.andThen_ok, List.map_toArray, List.map_cons, List.map_nil, hrun]
  unfold Oper.wp
  rw [hex]
  refine hnx _ _ _ _ (SR.puto hsr (dst := o.dst) (fun d e => by rw [hn] at e; cases e; exact hd) hrep) ?_ ⟨hsf.ex, hsf.bx⟩
  rw [hn]
  exact hk2 hne

theorem astep_sound {o : Oper} {ao : AOp} (h : comp C.P o.op = some ao) (hd : ∀ d, o.dst = some d → C.wr d = true) (gd : Option (Nat × Bool)) {K : St → Prop} (hs : SR C st g a w) (hk : astep C.P ⟨gd, o.dst, ao⟩ st K)
 (next : Act → World → Prop) (Q : Exit → Act → World → Prop) (hn : ∀ st' g' a' w', SR C st' g' a' w' → K st' → (ao.calls = false → SF g w g' w' (ao.touch o.dst st)) → next a' w') : o.wp C.P a w next Q := by
 by_cases hp : ao.plain = true
 ·rw [astep_plain (by exact hp)] at hk
  simp only at hk
  split at hk
  ·rename_i d st1 he
   obtain ⟨nx, w', g', hrun, hsr, hsf, hres⟩ := (comp_sound h hp hd st g a w d st1 hs he).2
   unfold Oper.wp
   rw [hrun]
   rcases hres with ⟨v, rfl, hv⟩ | ⟨rfl, rfl⟩
   ·exact hn _ _ _ _ (hsr.puto hd hv) hk fun _ => hsf
   ·exact hn _ _ _ _ (hsr.puto hd (by simp only [Rep])) hk fun _ => hsf
  ·exact hk.elim
 ·rcases comp_inv h (by simpa using hp) with ⟨c, x, y, ho, rfl⟩ | ⟨c, f, ho, hc, rfl⟩ | ⟨c, x, ho, hc, rfl⟩ | ⟨c, x, y, t, e, i, z, ho, hc, ha, ht, hu, hi, hz, hzs, hpos, rfl⟩ | ⟨neg, t, x, t2, e, ho, hu, rfl⟩
  ·simp only [astep] at hk
   split at hk
   ·rename_i b hb
    have hx := hs.ev c
    rw [hb] at hx
    have ex := raw_inv hx
    have hrun : (execOp a.eval o).run C.P w = .ok (.value (if b then a.eval x else a.eval y)) w := by
     unfold execOp
     simp only [ho, ex, asBool]
     rfl
    unfold Oper.wp
    rw [hrun]
    cases b
    ·exact hn _ _ _ _ ((hs.know hb).puto hd (hs.ev y)) (hk.2 rfl) fun _ => SF.refl _ _ _
    ·exact hn _ _ _ _ ((hs.know hb).puto hd (hs.ev x)) (hk.1 rfl) fun _ => SF.refl _ _ _
   ·exact hk.elim
  ·simp only [astep] at hk
   refine call_sound hk hs (Reps.evs hs c.args.toList) ho ?_ next Q (fun d st' g' v w' h1 h2 h3 => hn _ _ _ _ (h1.puto hd h2) h3 fun e => by cases e)
   simp [resolve, hc, Act.eval, Deferred.ofValue, invoke, map_arr]
  ·simp only [astep] at hk
   split at hk
   ·rename_i f caps hev
    have hx := hs.ev x
    rw [hev] at hx
    simp only [Rep] at hx
    obtain ⟨cv, ex, hcs⟩ := hx
    refine call_sound hk hs ((Reps.evs hs c.args.toList).append hcs.reps) ho ?_ next Q (fun d st' g' v w' h1 h2 h3 => hn _ _ _ _ (h1.puto hd h2) h3 fun e => by cases e)
    simp [resolve, hc, ex, Deferred.ofValue, invoke, map_arr, ← List.append_toArray]
   ·rename_i f first caps hev
    obtain ⟨rfl, rfl, hk⟩ := hk
    have hx := hs.ev x
    rw [hev] at hx
    have ex := raw_inv hx
    refine call_sound hk hs (Reps.evs hs c.args.toList) ho ?_ next Q (fun d st' g' v w' h1 h2 h3 => hn _ _ _ _ (h1.puto hd h2) h3 fun e => by cases e)
    simp [resolve, hc, ex, Deferred.ofValue, invoke, map_arr]
   ·exact hk.elim
  ·simp only [astep] at hk
   split at hk
   ·rename_i n e' sz' els s es hn' hx hy
    obtain ⟨rfl, rfl, hly, h63, hbytes, hk⟩ := hk
    have hxr := hs.ev x
    rw [hx] at hxr
    simp only [Rep] at hxr
    obtain ⟨hpr, htk, hl⟩ := hxr
    obtain ⟨i', m, xs, hi', _, hown, hfr⟩ := hs.mem.tks s _ _ htk
    rw [hi] at hi'; cases hi'
    have h1 := (hs.purge s).purge n
    refine append_sound hs ho hc ha ht hu hi hz hzs hpos n hn' (hd n hn') _ _ h1 (by simp) rfl rfl els es hpr hl (g.has C.w0.heap.size) hs.x (fun k hk => .inr (.inl ⟨s, _, _, htk, hk⟩)) (fun k hk => hasPurge (hasPurge hk)) m xs hown hfr ?_ ?_ hy hly h63 hbytes hk next Q fun st' g' a' w' k1 k2 k3 => hn st' g' a' w' k1 k2 fun _ => k3
    ·intro b hb k hk'
     exact hs.mem.bxtk k s b _ _ hk' htk hb
    ·intro b hb r u f hr hu'
     have hr' : r ≠ n ∧ r ≠ s ∧ g.tk r = some (u, f) := by
      by_cases h1 : r = n
      ·simp [h1] at hr
      ·by_cases h2 : r = s
       ·simp [h1, h2] at hr
       ·simpa [h1, h2] using hr
     exact hr'.2.1 (hs.mem.tkinj r s u _ f _ b hr'.2.2 htk hu' hb)
   ·rename_i n sz' els es hn' hx hy
    obtain ⟨rfl, hly, h63, hbytes, hk1, hk2⟩ := hk
    exact cat_sound hs ho hc ha ht hu hi hz hzs hpos n hn' (hd n hn') els es hx hy hly h63 hbytes hk1 hk2 next Q fun st' g' a' w' k1 k2 k3 => hn st' g' a' w' k1 k2 fun _ => k3
   ·rename_i n es hn' hx hy
    obtain ⟨hly, h63, hbytes, hk⟩ := hk
    have hxr := hs.ev x
    rw [hx] at hxr
    simp only [Rep] at hxr
    have h1 := hs.purge n
    refine append_sound hs ho hc ha ht hu hi hz hzs hpos n hn' (hd n hn') _ _ h1 (by simp) rfl rfl [] es (by rw [hxr]; exact .empty _ _) (by simp) (g.has C.w0.heap.size) hs.x (by rw [hxr]; simp [Value.ownBlock]) (fun k hk => hasPurge hk) 0 [] (by rw [hxr]; exact World.ownsRow_nil _ _ _ _) (by rw [hxr]; simp [Value.ownBlock]) ?_ ?_ hy hly (by simpa using h63) (by simpa using hbytes) (by simpa using hk) next Q fun st' g' a' w' k1 k2 k3 => hn st' g' a' w' k1 k2 fun _ => k3
    ·rw [hxr]; simp [Value.ownBlock]
    ·rw [hxr]; simp [Value.ownBlock]
   ·exact hk.elim
  ·simp only [astep] at hk
   have hxr := hs.ev x
   have go : ∀ (els : List (List PD)), PRep g.Fz w (a.eval x) (.slice els) → (∀ q, (els ≠ [] → q = false) → (a.eval x = .slice none 0 0 → q = true) → K (st.puto o.dst (.pd (.raw (.bool (if neg then !q else q)))))) → o.wp C.P a w next Q := fun els hp' hK => by
    obtain ⟨q, hrun, h1, h2⟩ := run_nilS hs ho hu hp'
    unfold Oper.wp
    rw [hrun]
    exact hn _ _ _ _ (hs.puto hd (rep_raw rfl)) (hK q h1 h2) fun _ => SF.refl _ _ _
   split at hk
   ·rename_i hev
    rw [hev] at hxr
    simp only [Rep] at hxr
    refine go [] (by rw [hxr]; exact .empty _ _) fun q _ hq => ?_
    rw [hq hxr]
    cases neg <;> exact hk
   ·split at hk
    ·rename_i hel
     refine go [] (hxr.els hel) fun q _ _ => ?_
     cases neg <;> cases q <;> first | exact hk.1 | exact hk.2
    ·rename_i r rs hel
     refine go _ (hxr.els hel) fun q hq _ => ?_
     rw [hq (by simp)]
     cases neg <;> exact hk
    ·exact hk.elim


inductive Reach (md : Region.Mode) (ops : Array Oper) : Array Bool → Prop
 | init : Reach md ops (Array.replicate ops.size false)
 | step (listed : Array Bool) (i : Nat) (h : Reach md ops listed) (hi : i ∈ Region.ready md ops listed) : Reach md ops (listed.setIfInBounds i true)

def waits (tb : List Nat) (j i : Nat) : Bool := (tb.getD j 0 / 2 ^ i) % 2 == 1

def tabOK (md : Region.Mode) (ops : Array Oper) (tb : List Nat) : Bool :=
 (List.range ops.size).all fun j => decide (tb.getD j 0 < 2 ^ ops.size) && (List.range ops.size).all fun i => !waits tb j i || match ops[j]? with
  | some o => o.after.any fun e => Region.binds md e && (e.on == i || waits tb e.on i)
  | none => false

theorem waits_lt {tb : List Nat} {n j i : Nat} (h : tb.getD j 0 < 2 ^ n) (hw : waits tb j i = true) : i < n := by
 rcases Nat.lt_or_ge i n with h1 | h1
 ·exact h1
 ·unfold waits at hw
  rw [Nat.div_eq_of_lt (Nat.lt_of_lt_of_le h (Nat.pow_le_pow_right (by decide) h1))] at hw
  cases hw

theorem tab_ready {md : Region.Mode} {ops : Array Oper} {tb : List Nat} (ht : tabOK md ops tb = true) {listed : Array Bool} (hr : Reach md ops listed) :
 (∀ j i, listed.getD j false = true → waits tb j i = true → listed.getD i false = true) ∧ listed.size = ops.size := by
 have key : ∀ (listed : Array Bool) (j i : Nat), j ∈ Region.ready md ops listed → waits tb j i = true → (∀ j i, listed.getD j false = true → waits tb j i = true → listed.getD i false = true) → listed.getD i false = true := by
  intro listed j i hj hw ih
  obtain ⟨_, o, ho, hall⟩ := mem_ready.1 hj
  have hlt := (Array.getElem?_eq_some_iff.1 ho).1
  have h0 := List.all_eq_true.1 ht j (List.mem_range.2 hlt)
  rw [Bool.and_eq_true, decide_eq_true_eq] at h0
  have h1 := List.all_eq_true.1 h0.2 i (List.mem_range.2 (waits_lt h0.1 hw))
  simp only [hw, Bool.not_true, Bool.false_or, ho] at h1
  obtain ⟨e, he, hb⟩ := Array.any_eq_true'.1 h1
  simp only [Bool.and_eq_true, Bool.or_eq_true, beq_iff_eq] at hb
  have h2 := hall e he hb.1
  rcases hb.2 with h3 | h3
  ·rw [← h3]; exact h2
  ·exact ih e.on i h2 h3
 induction hr with
 | init => exact ⟨fun j i hj _ => by
  rw [Array.getD_eq_getD_getElem?, Array.getElem?_replicate] at hj
  split at hj <;> simp at hj, by simp⟩
 | step listed m h hm ih =>
   refine ⟨fun j i hj hw => ?_, by simpa using ih.2⟩
   by_cases hjm : m = j
   ·subst hjm
    exact getD_set_true (key listed m i hm hw ih.1)
   ·rw [getD_set_ne false hjm] at hj
    exact getD_set_true (ih.1 j i hj hw)

theorem waits_ready {md : Region.Mode} {ops : Array Oper} {tb : List Nat} (ht : tabOK md ops tb = true) {listed : Array Bool} (hr : Reach md ops listed) {i j : Nat}
 (hj : j ∈ Region.ready md ops listed) (hi : i ∈ Region.ready md ops listed) : waits tb j i = false := by
 cases hw : waits tb j i with
 | false => rfl
 | true =>
   have h1 := (tab_ready ht (Reach.step listed j hr hj)).1 j i (by
    obtain ⟨_, o, ho, _⟩ := mem_ready.1 hj
    have hlt : j < listed.size := by rw [(tab_ready ht hr).2]; exact (Array.getElem?_eq_some_iff.1 ho).1
    simp [hlt]) hw
   have h0 := (mem_ready.1 hi).1
   by_cases hij : j = i
   ·subst hij
    -- a thing that waits for itself never comes up
    obtain ⟨_, o, ho, hall⟩ := mem_ready.1 hj
    have hlt := (Array.getElem?_eq_some_iff.1 ho).1
    have h0' := List.all_eq_true.1 ht j (List.mem_range.2 hlt)
    rw [Bool.and_eq_true, decide_eq_true_eq] at h0'
    have h2 := List.all_eq_true.1 h0'.2 j (List.mem_range.2 (waits_lt h0'.1 hw))
    simp only [hw, Bool.not_true, Bool.false_or, ho] at h2
    obtain ⟨e, he, hb⟩ := Array.any_eq_true'.1 h2
    simp only [Bool.and_eq_true, Bool.or_eq_true, beq_iff_eq] at hb
    have h3 := hall e he hb.1
    have h4 : listed.getD j false = true := by
     rcases hb.2 with h5 | h5
     ·rw [← h5]; exact h3
     ·exact (tab_ready ht hr).1 e.on j h3 h5
    exfalso
    rcases Nat.lt_or_ge j listed.size with h' | h'
    ·simp [h'] at h0 h4; rw [h0] at h4; cases h4
    ·simp [Array.getElem?_eq_none h'] at h4
   ·rw [getD_set_ne false hij] at h1
    exfalso
    rcases Nat.lt_or_ge i listed.size with h' | h'
    ·simp [h'] at h0 h1; rw [h0] at h1; cases h1
    ·simp [Array.getElem?_eq_none h'] at h1

abbrev Pend := List (Nat × (World → Prop))

def wpAnyT (P : Program) (md : Region.Mode) (ops : Array Oper) (Q : Exit → Act → World → Prop) (tb : List Nat) : Nat → Pend → Array Bool → Act → World → Prop
 | 0, _, listed, a, w => Region.ready md ops listed = [] ∧ Q .normal a w
 | fuel + 1, T, listed, a, w =>
   (Region.ready md ops listed = [] → Q .normal a w) ∧
   ∀ j ∈ Region.ready md ops listed, wpOp P ops Q j (fun a' w' => (∀ p ∈ T.filter (fun p => !waits tb j p.1), p.2 w') ∧ wpAnyT P md ops Q tb fuel (T.filter fun p => !waits tb j p.1) (listed.setIfInBounds j true) a' w') a w

section
variable {P : Program} {ops : Array Oper} {Q : Exit → Act → World → Prop} {md : Region.Mode} {tb : List Nat}

theorem wpAny_of_T : ∀ (fuel : Nat) (T : Pend) (listed : Array Bool) (a : Act) (w : World), wpAnyT P md ops Q tb fuel T listed a w → wpAny P md ops Q fuel listed a w
 | 0, _, _, _, _, h => h
 | fuel + 1, _, _, _, _, h => ⟨h.1, fun i hi => wpOp_mono (fun a' w' h' => wpAny_of_T fuel _ _ a' w' h'.2) (h.2 i hi)⟩

theorem wpAnyT_less : ∀ (fuel : Nat) (p : Nat × (World → Prop)) (T : Pend) (listed : Array Bool) (a : Act) (w : World), wpAnyT P md ops Q tb fuel (p :: T) listed a w → wpAnyT P md ops Q tb fuel T listed a w
 | 0, _, _, _, _, _, h => h
 | fuel + 1, p, T, listed, a, w, h => ⟨h.1, fun j hj => wpOp_mono (fun a' w' h' => by
  by_cases hp : (!waits tb j p.1) = true
  ·rw [List.filter_cons_of_pos (by simpa using hp)] at h'
   exact ⟨fun q hq => h'.1 q (List.mem_cons_of_mem _ hq), wpAnyT_less fuel p _ _ a' w' h'.2⟩
  ·rw [List.filter_cons_of_neg (by simpa using hp)] at h'
   exact h') (h.2 j hj)⟩

theorem wpAnyT_first (ht : tabOK md ops tb = true) {i : Nat} {oi : Oper} {v : Value} {S : World → Prop} (hi : ops[i]? = some oi) (hsel : ∀ (j : Nat) (o : Oper) cs b, ops[j]? = some o → o.op ≠ .select cs b)
 (hQ : ∀ c a w, Q (.panic c) (a.put oi.dst v) w → Q (.panic c) a w) :
 ∀ (fuel : Nat) (T : Pend) (listed : Array Bool) (a : Act) (w : World), Reach md ops listed →
   (∀ j oj, ops[j]? = some oj → j ≠ i → listed.getD j true = false → (∀ e ∈ oj.after, Region.binds md e = true → e.on ≠ i) → oi.apart ops oj = true) →
   i ∈ Region.ready md ops listed → YieldsIf P ops S oi v a → S w → (∀ p ∈ T.filter (fun p => !waits tb i p.1), p.2 w) →
   wpAnyT P md ops Q tb fuel ((i, S) :: T) (listed.setIfInBounds i true) (a.put oi.dst v) w → wpAnyT P md ops Q tb (fuel + 1) T listed a w := by
 have done : ∀ (fuel : Nat) (T : Pend) (listed : Array Bool) (a : Act) (w : World), YieldsIf P ops S oi v a → S w → (∀ p ∈ T.filter (fun p => !waits tb i p.1), p.2 w) →
  wpAnyT P md ops Q tb fuel ((i, S) :: T) (listed.setIfInBounds i true) (a.put oi.dst v) w → wpOp P ops Q i (fun a' w' => (∀ p ∈ T.filter (fun p => !waits tb i p.1), p.2 w') ∧ wpAnyT P md ops Q tb fuel (T.filter fun p => !waits tb i p.1) (listed.setIfInBounds i true) a' w') a w := by
  intro fuel T listed a w hy hS hT H
  refine hy.wpOp hi hS ⟨hT, ?_⟩
  have H1 := wpAnyT_less fuel _ _ _ _ _ H
  clear H
  -- fewer pending things
  suffices hsuf : ∀ (q : Nat → Bool) (fuel : Nat) (T : Pend) (listed : Array Bool) (a : Act) (w : World), wpAnyT P md ops Q tb fuel T listed a w → wpAnyT P md ops Q tb fuel (T.filter fun p => q p.1) listed a w from hsuf (fun k => !waits tb i k) fuel T _ _ w H1
  intro q fuel
  induction fuel with
  | zero => intro T listed a w h; exact h
  | succ fuel ih =>
    intro T listed a w h
    refine ⟨h.1, fun j hj => wpOp_mono (fun a' w' h' => ?_) (h.2 j hj)⟩
    rw [List.filter_filter]
    have e : (T.filter fun p => !waits tb j p.1 && q p.1) = (T.filter fun p => !waits tb j p.1).filter fun p => q p.1 := by
     rw [List.filter_filter]
     congr 1; funext p; rw [Bool.and_comm]
    rw [e]
    exact ⟨fun p hp => h'.1 p (List.mem_filter.1 hp).1, ih _ _ _ _ h'.2⟩
 intro fuel
 induction fuel with
 | zero =>
   intro T listed a w hreach _ hr hy hS hT H
   refine ⟨fun h => (by rw [h] at hr; cases hr), fun j hj => ?_⟩
   by_cases hji : j = i
   ·subst hji; exact done 0 T listed a w hy hS hT H
   ·have := ready_mono hj hji
    rw [H.1] at this
    cases this
 | succ fuel ih =>
   intro T listed a w hreach hfree hr hy hS hT H
   refine ⟨fun h => (by rw [h] at hr; cases hr), fun j hj => ?_⟩
   by_cases hji : j = i
   ·subst hji; exact done (fuel + 1) T listed a w hy hS hT H
   ·have h1 := H.2 j (ready_mono hj hji)
    obtain ⟨hjun, oj, hoj, hall⟩ := mem_ready.1 hj
    have hwj : waits tb j i = false := waits_ready ht hreach hj hr
    have hnot : ∀ e ∈ oj.after, Region.binds md e = true → e.on ≠ i := fun e he hb heq => by
     have h1 := hall e he hb
     have h0 := (mem_ready.1 hr).1
     rw [heq] at h1
     rcases Nat.lt_or_ge i listed.size with h' | h'
     ·simp [h'] at h0 h1; rw [h0] at h1; cases h1
     ·simp [Array.getElem?_eq_none h'] at h1
    have h2 := wpOp_putIf hoj (hfree j oj hoj hji hjun hnot) (fun cs b => hsel i oi cs b hi) (fun cs b => hsel j oj cs b hoj) hQ hy h1
    have hfree' : ∀ k ok, ops[k]? = some ok → k ≠ i → (listed.setIfInBounds j true).getD k true = false →
     (∀ e ∈ ok.after, Region.binds md e = true → e.on ≠ i) → oi.apart ops ok = true := fun k ok hk hki hun hno => by
     refine hfree k ok hk hki ?_ hno
     by_cases hjk : j = k
     ·subst hjk; exact hjun
     ·rw [getD_set_ne true hjk] at hun; exact hun
    have hf : ((i, S) :: T).filter (fun p => !waits tb j p.1) = (i, S) :: T.filter (fun p => !waits tb j p.1) := List.filter_cons_of_pos (by simp [hwj])
    rw [hf] at h2
    refine wpOp_mono (fun a' w' h3 => ?_) h2
    obtain ⟨hy', hT', H'⟩ := h3
    refine ⟨fun p hp => hT' p (List.mem_cons_of_mem _ hp), ih _ (listed.setIfInBounds j true) a' w' (Reach.step _ _ hreach hj) hfree' (ready_mono hr (Ne.symm hji)) hy' (hT' _ List.mem_cons_self) (fun p hp => hT' p (List.mem_cons_of_mem _ (List.mem_filter.1 hp).1)) ?_⟩
    rw [Array.setIfInBounds_comm _ _ hji]
    exact H'
end


def rowIn (fr : List (Nat × D)) (t : Nat) : List (Nat × D) → Option (TypeId × Nat × List (List PD))
 | [] => none
 | (i, _) :: r => match lk fr i with
   | some (.own e sz els s) => if s = t then some (e, sz, els) else rowIn fr t r
   | _ => rowIn fr t r

def updD (t : Nat) (e : TypeId) (row : List (List PD)) : D → D
 | .pd (.raw v) => .pd (.raw v)
 | .own _ _ _ s => if s = t then .own e 1 row t else .any
 | _ => .any

def updF (t : Nat) (e : TypeId) (row : List (List PD)) : List (Nat × D) → List (Nat × D)
 | [] => []
 | (i, d) :: r => (i, updD t e row d) :: updF t e row r

def flatR (els : List (List PD)) : Prop := ∀ r ∈ els, ∃ u, r = [.raw u]

def updP (e : Bool) (t j sz n : Nat) (st : St) (y : D) (K : St → Prop) : Prop :=
 match rowIn st.fr t st.fr, y with
 | some (ty, k, els), .pd (.raw v) => e = true ∧ sz = 1 ∧ n = 1 ∧ k = 1 ∧ v.oneCell' = true ∧ st.hs = .solo ∧ j < els.length ∧ flatR els ∧ K ⟨updF t ty (els.set j [.raw v]) st.fr, [], [], st.hs⟩
 | _, _ => False

theorem lk_updF {t : Nat} {e : TypeId} {row : List (List PD)} : ∀ (fr : List (Nat × D)) (i : Nat), lk (updF t e row fr) i = (lk fr i).map (updD t e row)
 | [], _ => rfl
 | (j, d) :: r, i => by
   simp only [updF, lk]
   split
   ·rfl
   ·exact lk_updF r i

theorem rowIn_lk {fr : List (Nat × D)} {t : Nat} {e : TypeId} {k : Nat} {els : List (List PD)} : ∀ (r : List (Nat × D)), rowIn fr t r = some (e, k, els) → ∃ i, lk fr i = some (.own e k els t)
 | [], h => by cases h
 | (i, _) :: r, h => by
   simp only [rowIn] at h
   split at h
   ·rename_i e' sz' els' s hi
    split at h
    ·rename_i hst
     cases h
     subst hst
     exact ⟨i, hi⟩
    ·exact rowIn_lk r h
   ·exact rowIn_lk r h

theorem comp_store {P : Program} {op : Op} {sz : Nat} {x y : Operand} (h : comp P op = some (.store sz x y)) : ∃ t i, op = .store t x y ∧ P.info? t = some i ∧ sz = i.size := by
 unfold comp at h
 split at h
 case h_9 t x' y' =>
  split at h
  ·rename_i i hi; cases h; exact ⟨t, i, rfl, hi, rfl⟩
  ·cases h
 all_goals (repeat' split at h)
 all_goals first | (cases h; done) | (obtain ⟨k, _, h⟩ := Option.map_eq_some_iff.1 h; cases h; done) | (obtain ⟨_, _, h⟩ := Option.bind_eq_some_iff.1 h; obtain ⟨k, _, h⟩ := Option.map_eq_some_iff.1 h; cases h; done)

theorem PRep.flat0 {Fz Fz' : Nat → Nat → Prop} {w w' : World} {u v : Value} (h : PRep Fz w v (.raw u)) : PRep Fz' w' v (.raw u) := by
 cases h with
 | raw v h1 => exact .raw _ h1

theorem PReps.flat1 {Fz Fz' : Nat → Nat → Prop} {w w' : World} {u : Value} {vs : List Value} (h : PReps Fz w vs [.raw u]) : PReps Fz' w' vs [.raw u] := by
 cases h with
 | cons v' _ vs' _ h5 h6 =>
   cases h6
   exact .cons _ _ _ _ h5.flat0 .nil

variable {C : Ctx} {st st' : St} {g : Gh} {a : Act} {w : World}

theorem SR.upd (hs : SR C st g a w) {o : Oper} {ty : TypeId} {i : TypeInfo} {x y : Operand} (ho : o.op = .store ty x y) (hi : C.P.info? ty = some i) (hsz : i.size = 1) {t j : Nat} {cs : List PD} (hx : st.ev x = .oelt t j cs) (hc : cs.length = 1)
 {e : TypeId} {els : List (List PD)} (hrow : rowIn st.fr t st.fr = some (e, 1, els)) {v : Value} (hy : st.ev y = .pd (.raw v)) (hv1 : v.oneCell' = true) (hsolo : st.hs = .solo) (hjl : j < els.length) (hflat : flatR els) :
 ∃ w', (execOp a.eval o).run C.P w = .ok .skip w' ∧ SR C ⟨updF t e (els.set j [.raw v]) st.fr, [], [], st.hs⟩ g a w' := by
 have m := hs.mem
 have hx1 := hs.ev x
 rw [hx] at hx1
 simp only [Rep] at hx1
 obtain ⟨⟨b, off, vs, he1, hvs, hcell⟩, b2, len, cap, e2, htk, he2⟩ := hx1
 rw [he1] at he2
 cases he2
 rw [hc, Nat.mul_one] at he1 hcell
 have hy1 := hs.ev y
 rw [hy] at hy1
 have hyv := raw_inv hy1
 obtain ⟨u, hu⟩ : ∃ u, vs[0]? = some u := by
  have := hvs.length
  cases vs with
  | nil => rw [hc] at this; cases this
  | cons u r => exact ⟨u, rfl⟩
 obtain ⟨hcu, hfu⟩ := hcell 0 u hu
 rw [Nat.add_zero] at hcu hfu
 obtain ⟨si, hsi⟩ := rowIn_lk _ hrow
 have hR := (hs.rep si _ hsi).2
 simp only [Rep] at hR
 obtain ⟨hpr, htk2, hlens⟩ := hR
 rw [htk] at htk2
 obtain ⟨hV, rfl⟩ : a.tmps.getD si undef = .slice (some ⟨b, 0, none⟩) len cap ∧ e2 = e := by
  have h1 := Option.some.inj htk2
  exact ⟨(congrArg Prod.fst h1).symm, congrArg Prod.snd h1⟩
 rw [hV] at hpr
 obtain ⟨ie, n, xs, hie, hpos, hown, hfz⟩ := m.tks t _ _ htk
 obtain ⟨hbl, hfo⟩ := hfz b rfl
 have hS := C.solo _ _ (by rw [← hsolo]; exact hs.x)
 have hbge : C.w0.heap.size ≤ b := hbl.resolve_right (hS b)
 obtain ⟨hxl, hform⟩ := hown
 obtain ⟨cur, hn, hheap, hnc, hcm, hcs, htake⟩ : ∃ cur, n = len ∧ w.heap[b]? = some (.cells cur e2 (0, 0)) ∧ n ≤ cap ∧ cap ≤ maxLen ∧ cur.size = cap * ie.size ∧ cur.toList.take (n * ie.size) = xs := by
  rcases hform with ⟨h1, _⟩ | ⟨g1, cap1, cur, h1, _, h3, h4, h5, h6, h7⟩
  ·cases h1
  ·cases h1; exact ⟨cur, rfl, h3, h4, h5, h6, h7⟩
 subst hn
 have hown : w.ownsRow 0 e2 ie.size (.slice (some ⟨b, 0, none⟩) n cap) n xs := ⟨hxl, hform⟩
 have hjn : j < n * ie.size := hfo j hfu
 have hjc : j < cur.size := by
  have := Nat.mul_le_mul_right ie.size hnc
  omega
 obtain ⟨cur', hcur'⟩ : ∃ cur', cur' = (cur.toList.take (j + 0) ++ [v] ++ cur.toList.drop (j + 0 + [v].length)).toArray := ⟨_, rfl⟩
 have hset : cur'.toList = cur.toList.set j v := by
  rw [hcur']
  simp only [Nat.add_zero, List.length_singleton, List.append_assoc, List.singleton_append]
  rw [List.set_eq_take_append_cons_drop, if_pos (by simpa using hjc)]
 have hrun := run_storeCells_at (P := C.P) b j e2 [v] 0 cur w hheap (by simp; omega) (by simpa using hv1)
 rw [← hcur'] at hrun
 have hvc : v.cells = #[v] := by
  cases v <;> first | rfl | cases hv1
 obtain ⟨w', hw'⟩ : ∃ w', w' = w.setRow b cur' := ⟨_, rfl⟩
 have hb' : w'.heap[b]? = some (.cells cur' e2 (0, 0)) := by rw [hw']; exact setRow_heap w b cur cur' e2 _ hheap
 have hot : ∀ k, k ≠ b → w'.heap[k]? = w.heap[k]? := fun k hk => by rw [hw']; exact setRow_other w b k _ hk
 have hsize : w'.heap.size = w.heap.size := by rw [hw']; simp [World.setRow]
 have hgb : w.grownBy w' (some b) := ⟨by rw [hw']; rfl, by rw [hw']; rfl, by rw [hw']; rfl, by rw [hsize]; exact Nat.le_refl _, fun k _ hk => hot k (fun e => hk (by rw [e]))⟩
 have hown' : w'.ownsRow 0 e2 ie.size (.slice (some ⟨b, 0, none⟩) n cap) n (xs.set j v) := by
  refine ⟨by rw [List.length_set]; exact hxl, .inr ⟨b, cap, cur', rfl, Nat.zero_le _, hb', hnc, hcm, ?_, ?_⟩⟩
  ·rw [← Array.length_toList, hset, List.length_set]; exact hcs
  ·rw [hset, List.take_set, htake]
 have hcelln : ∀ k, k ≠ j → w'.cell? ⟨b, k, none⟩ = w.cell? ⟨b, k, none⟩ := fun k hk => by
  simp only [World.cell?, hb', hheap]
  rw [← Array.getElem?_toList, ← Array.getElem?_toList, hset, List.getElem?_set_ne (Ne.symm hk)]
 have hcellj : w'.cell? ⟨b, j, none⟩ = some v := by
  simp only [World.cell?, hb']
  rw [← Array.getElem?_toList, hset, List.getElem?_set_self (by simpa using hjc)]
  rfl
 -- the row
 have hpr' : PRep g.Fz w' (.slice (some ⟨b, 0, none⟩) n cap) (.slice (els.set j [.raw v])) := by
  cases hpr with
  | empty => omega
  | slice _ _ _ _ sz _ vals hn1 hpos1 hcap1 hmax1 hlen1 hc1 hr1 =>
    have h1 : sz = 1 := by
     have hr0 := hr1 0 hpos1
     have hl0 := hlen1 0 hpos1
     have h2 := hr0.length
     obtain ⟨u0, h3⟩ := hflat (els.getD 0 []) (by
      rw [List.getD_eq_getElem?_getD, List.getElem?_eq_getElem (by omega)]
      exact List.getElem_mem _)
     rw [h3] at h2
     rw [← hl0, h2]; rfl
    subst h1
    have hjn' : j < n := by omega
    refine .slice b 0 n cap 1 _ (fun k => if k = j then [v] else vals k) (by rw [List.length_set]; exact hn1) hpos1 hcap1 hmax1 (fun k hk => ?_) (fun k i u hk hu => ?_) (fun k hk => ?_)
    ·by_cases e : k = j
     ·simp [e]
     ·simp [e, hlen1 k hk]
    ·by_cases e : k = j
     ·subst e
      simp only [if_pos] at hu
      cases i with
      | zero =>
        cases hu
        exact ⟨by simpa using hcellj, by simpa using hfu⟩
      | succ i => simp at hu
     ·simp only [if_neg e] at hu
      obtain ⟨h2, h3⟩ := hc1 k i u hk hu
      have hi0 : i = 0 := by
       have := (List.getElem?_eq_some_iff.1 hu).1
       rw [hlen1 k hk] at this
       omega
      subst hi0
      exact ⟨(hcelln _ (by omega)).trans h2, h3⟩
    ·by_cases e : k = j
     ·subst e
      simp only [if_pos]
      rw [List.getD_eq_getElem?_getD, List.getElem?_set_self (by omega)]
      exact .cons _ _ _ _ (.raw v hv1) .nil
     ·simp only [if_neg e]
      have h2 := hr1 k hk
      have h3 : els.getD k [] ∈ els := by
       rw [List.getD_eq_getElem?_getD, List.getElem?_eq_getElem (by omega)]
       exact List.getElem_mem _
      obtain ⟨u0, h4⟩ := hflat _ h3
      rw [List.getD_eq_getElem?_getD, List.getElem?_set_ne (Ne.symm e), ← List.getD_eq_getElem?_getD, h4]
      rw [h4] at h2
      exact h2.flat1
 refine ⟨w', ?_, ?_⟩
 ·unfold execOp
  simp only [ho, he1, hyv, Instr.storeAt, Instr.sureAddr, storeVar, sizeOf, typeInfo, Sem.run_bind, run_program, Result.andThen_ok, hi, Sem.run_pure, hsz, hvc, ne_eq, not_true_eq_false, if_false, Sem.run_ite, List.size_toArray, List.length_singleton]
  rw [hw']
  simp [hrun]
 ·exact {
   defers := hs.defers
   size := hs.size
   rep := fun k d hd => by
    simp only [lk_updF] at hd
    obtain ⟨d0, h0, rfl⟩ := Option.map_eq_some_iff.1 hd
    obtain ⟨h1, h2⟩ := hs.rep k d0 h0
    refine ⟨h1, ?_⟩
    unfold updD
    split
    ·rename_i v0
     simp only [Rep] at h2 ⊢
     exact h2.flat0
    ·split
     ·rename_i hst
      subst hst
      simp only [Rep] at h2 ⊢
      obtain ⟨_, h4, _⟩ := h2
      rw [htk] at h4
      have hVk : a.tmps.getD k undef = .slice (some ⟨b, 0, none⟩) n cap := (congrArg Prod.fst (Option.some.inj h4)).symm
      rw [hVk]
      refine ⟨hpr', htk, fun r hr => ?_⟩
      rcases List.mem_or_eq_of_mem_set hr with h5 | h5
      ·exact hlens r h5
      ·rw [h5]; rfl
     ·simp only [Rep]
    ·simp only [Rep]
   mem := {
    os := by rw [hw']; exact m.os
    tape := by rw [hw']; exact m.tape
    output := by rw [hw']; exact m.output
    hsz := by rw [hsize]; exact m.hsz
    old := fun k hk h1 h2 => (hot k (by omega)).trans (m.old k hk h1 h2)
    keep := fun b1 o1 hf => by
     obtain ⟨h1, h2⟩ := m.keep b1 o1 hf
     refine ⟨h1, ?_⟩
     by_cases e1 : b1 = b
     ·exfalso
      subst e1
      have h3 := hfo o1 h1
      have h4 : w.cell? ⟨b1, o1, none⟩ = some (xs[o1]'(by omega)) := own_cell hown rfl o1 _ (List.getElem?_eq_getElem _)
      rw [h4] at h2
      have h5 : C.w0.heap[b1]? = none := Array.getElem?_eq_none hbge
      simp [World.cell?, h5] at h2
     ·exact (World.cell?_of_block (hot b1 e1)).trans h2
    newfz := m.newfz
    fzlt := fun b1 o1 hf => by rw [hsize]; exact m.fzlt b1 o1 hf
    bxs := fun _ _ h => by simp [lk] at h
    mps := fun _ _ h => by simp [lk] at h
    bxok := fun n1 b1 h => by rw [hsize]; exact m.bxok n1 b1 h
    bxinj := m.bxinj
    tks := fun s u f hsf => by
     by_cases e1 : s = t
     ·subst e1
      rw [htk] at hsf
      cases hsf
      exact ⟨ie, n, _, hie, hpos, hown', hfz⟩
     ·obtain ⟨i1, n1, xs1, h1, h2, h3, h4⟩ := m.tks s u f hsf
      refine ⟨i1, n1, xs1, h1, h2, h3.kept hgb ?_, h4⟩
      right
      intro e2
      exact e1 (m.tkinj s t _ _ _ _ b hsf htk e2 rfl)
    tkinj := m.tkinj
    bxtk := m.bxtk
    dfs := fun D hD => by
     obtain ⟨h1, h2⟩ := m.dfs D hD
     refine ⟨h1, (hot D (fun e1 => ?_)).trans h2⟩
     subst e1
     rw [hheap] at h2; cases h2
    dnd := m.dnd
    bxdf := m.bxdf
    bxdm := m.bxdm }
   x := C.Xok _ _ _ (fun k => k = b) _ _ hs.x ⟨hgb.os, hgb.tape, hgb.output, hgb.size, fun k hk hne => hot k hne⟩ (fun k e1 => .inr (.inl ⟨t, _, _, htk, by rw [e1]; rfl⟩)) (fun _ h => .inl h)
   fix := hs.fix }


mutual
inductive Plan where
 | done
 | take (i : Nat) (p : Plan)
 | alts (l : Alts)
 | late (js is : List Nat) (p : Plan)
inductive Alts where
 | nil
 | cons (i : Nat) (e : Bool) (p : Plan) (l : Alts)
 | consF (i : Nat) (p : Plan) (l : Alts)
end

instance : Inhabited Plan := ⟨.done⟩

def Alts.ids : Alts → List Nat
 | .nil => []
 | .cons i _ _ l => i :: l.ids
 | .consF i _ l => i :: l.ids

def setAll (listed : Array Bool) (l : List Nat) : Array Bool := l.foldl (fun a i => a.setIfInBounds i true) listed

def seqOK (ops : Array Oper) (js : List Nat) : Array Bool → List Nat → Bool
 | _, [] => true
 | lb, i :: is => Region.ready .any ops (setAll lb js) == [i] && seqOK ops js (lb.setIfInBounds i true) is

def lateOK (ops : Array Oper) (listed : Array Bool) (js is : List Nat) : Bool :=
 js.all (fun j => (Region.ready .any ops listed).contains j) && decide js.Nodup && seqOK ops js listed is && js.all fun j => Region.ready .any ops (setAll (setAll listed is) (js.erase j)) == [j]

mutual
def planOK (ops : Array Oper) (tb : List Nat) (listed : Array Bool) : Plan → Bool
 | .done => Region.ready .any ops listed == []
 | .take i p => Region.free .any ops listed i && (Region.ready .any ops listed).contains i && planOK ops tb (listed.setIfInBounds i true) p
 | .alts l => Region.ready .any ops listed == l.ids && !(l.ids == []) && altsOK ops tb listed l
 | .late js is p => lateOK ops listed js is && planOK ops tb (setAll (setAll listed is) js) p
def altsOK (ops : Array Oper) (tb : List Nat) (listed : Array Bool) : Alts → Bool
 | .nil => true
 | .cons i e p l => (!e || (List.range listed.size).all fun k => !listed.getD k false || waits tb i k) && planOK ops tb (listed.setIfInBounds i true) p && altsOK ops tb listed l
 | .consF i p l => planOK ops tb (listed.setIfInBounds i true) p && altsOK ops tb listed l
end

mutual
def Plan.size : Plan → Nat
 | .done => 0
 | .take _ p => p.size + 1
 | .alts l => l.size + 1
 | .late js is p => is.length + js.length + p.size
def Alts.size : Alts → Nat
 | .nil => 0
 | .cons _ _ p l => max p.size l.size
 | .consF _ p l => max p.size l.size
end

def xstep (P : Program) (e : Bool) (o : AOper) (st : St) (K : Option Nat → St → Prop) : Prop :=
 match o.op with
 | .call f args => PureW P f (args.map st.ev) st fun d => K none (st.puto o.dst d)
 | .callv x args => match st.ev x with
   | .fn f caps => PureW P f (args.map st.ev ++ caps.map fun c => .ptr c.1 c.2) st fun d => K none (st.puto o.dst d)
   | .pd (.raw (.func (.func f) first caps)) => e = true ∧ first = #[] ∧ caps = #[] ∧ CallW P f (args.map st.ev) st fun d st' => K none (st'.puto o.dst d)
   | _ => False
 | .store sz x y => match st.ev x with
   | .oelt t j cs => updP e t j sz cs.length st (st.ev y) fun s => K none (s.puto o.dst .any)
   | _ => astep P o st (K (o.op.touch o.dst st))
 | op => astep P o st (K (op.touch o.dst st))

def tstep (o : AOper) (st : St) (K : Option Nat → St → Prop) : Prop :=
 match o.op with
 | .pick c x y => match st.ev c with
   | .pd (.raw (.bool b)) => (b = true → K none ((st.know c true).puto o.dst (st.ev x))) ∧ (b = false → K none ((st.know c false).puto o.dst (st.ev y)))
   | _ => False
 | op => if op.quiet then match op.ex o.dst st with
  | some (d, _) => K (op.reads st) (st.puto o.dst d)
  | none => False
   else False

def guarded (o : AOper) (st : St) (yes no : St → Prop) : Prop :=
 match o.guard with
 | none => yes st
 | some (s, b) => match st.get s with
   | .pd (.raw (.bool c)) => (c = b → yes (st.know (.tmp s) b)) ∧ (c = (!b) → no (st.know (.tmp s) (!b)))
   | .tup [] => no st
   | _ => False

def clear (T : List (Nat × Nat)) : Option Nat → Bool
 | none => true
 | some t => T.all fun p => p.2 != t

def pendTo (T : List (Nat × Nat)) (i : Nat) : Option Nat → List (Nat × Nat)
 | none => T
 | some n => (i, n) :: T

mutual
def D.still : D → Bool
 | .pd _ => true
 | .nils => true
 | .agg ds => D.stills ds
 | .tup ds => D.stills ds
 | _ => false
def D.stills : List D → Bool
 | [] => true
 | d :: ds => D.still d && D.stills ds
end

mutual
def D.noRef (ns : List Nat) : D → Bool
 | .ptr m _ => !ns.contains m
 | .fn _ caps => caps.all fun c => !ns.contains c.1
 | .mp m => !ns.contains m
 | .agg ds => D.noRefs ns ds
 | .tup ds => D.noRefs ns ds
 | _ => true
def D.noRefs (ns : List Nat) : List D → Bool
 | [] => true
 | d :: ds => D.noRef ns d && D.noRefs ns ds
end

def lateOf (l : List AOper) (j : Nat) : Nat × List D := match l[j]? with
 | some ⟨none, some n, .alloc _ zs⟩ => (n, zs)
 | _ => (0, [])
def lateIs (l : List AOper) (j : Nat) : Bool := match l[j]? with
 | some ⟨none, some _, .alloc _ zs⟩ => D.stills zs
 | _ => false

def fresh (ns : List Nat) (st : St) : Bool := st.fr.all (fun p => !ns.contains p.1 && D.noRef ns p.2) && st.bs.all (fun p => !ns.contains p.1 && D.noRefs ns p.2) && st.ms.all fun p => !ns.contains p.1

def nodupB : List Nat → Bool
 | [] => true
 | n :: l => !l.contains n && nodupB l

theorem nodupB_ok : ∀ {l : List Nat}, nodupB l = true → l.Nodup
 | [], _ => List.nodup_nil
 | n :: l, h => by
   simp only [nodupB, Bool.and_eq_true, Bool.not_eq_true'] at h
   refine List.nodup_cons.2 ⟨fun e => ?_, nodupB_ok h.2⟩
   have h1 := h.1
   rw [List.contains_iff_mem.2 e] at h1
   cases h1

def lateB (l : List AOper) (js : List Nat) (T : List (Nat × Nat)) (st : St) : Bool :=
 js.all (lateIs l) && nodupB (js.map fun j => (lateOf l j).1) && fresh (js.map fun j => (lateOf l j).1) st && js.all fun j => clear T (some (lateOf l j).1)

def adds (e : List (Nat × List D)) (st : St) : St := { st with fr := e.map (fun p => (p.1, .ptr p.1 0)) ++ st.fr, bs := e ++ st.bs }

def lateRun (P : Program) (l : List AOper) (ns : List Nat) : List Nat → St → (St → Prop) → Prop
 | [], st, K => K st
 | i :: is, st, K => match l[i]? with
   | some ⟨none, some t, .call f args⟩ => ns.contains t = false ∧ PureW P f (args.map st.ev) st fun d => d.still = true ∧ lateRun P l ns is (st.put t d) K
   | _ => False

def WriteW (P : Program) (f : FuncId) (args : List D) (st : St) (t : Option Nat) (K : D → St → Prop) : Prop :=
 (∀ (vs : Array Value) (w : World), (callFunc f vs).run P w = .ok (.enter f vs) w) ∧ ∀ (C : Ctx) (g : Gh) (a : Act) (w : World) (vs : List Value), C.P = P → SR C st g a w → Reps g w args vs →
  Calls P f vs.toArray w fun e w' => ∃ v d st' g', e = .returned v ∧ K d st' ∧ SR C st' g' a w' ∧ Rep g' w' d v ∧ SF g w g' w' t

def fstep (P : Program) : AOper → St → (Option Nat → St → Prop) → Prop
 | ⟨none, dst, .callv x args⟩, st, K => match st.ev x with
   | .fn f caps => ∃ t, WriteW P f (args.map st.ev ++ caps.map fun c => .ptr c.1 c.2) st t fun d st' => K t (st'.puto dst d)
   | _ => False
 | ⟨none, dst, .call f args⟩, st, K => ∃ t, WriteW P f (args.map st.ev) st t fun d st' => K t (st'.puto dst d)
 | _, _, _ => False

mutual
def drun (P : Program) (l : List AOper) (tb : List Nat) : Plan → List (Nat × Nat) → St → (St → Prop) → Prop
 | .done, _, st, K => K st
 | .take i p, T, st, K => match l[i]? with
   | some o => guarded o st (fun st => tstep o st fun r st' => drun P l tb p (pendTo T i r) st' K) (fun st => drun P l tb p T (st.puto o.dst (.tup [])) K)
   | none => False
 | .alts L, T, st, K => dalts P l tb L T st K
 | .late js is p, T, st, K => lateB l js T st = true ∧ lateRun P l (js.map fun j => (lateOf l j).1) is st fun st' => drun P l tb p T (adds (js.map (lateOf l)) st') K
def dalts (P : Program) (l : List AOper) (tb : List Nat) : Alts → List (Nat × Nat) → St → (St → Prop) → Prop
 | .nil, _, _, _ => True
 | .cons i e p r, T, st, K => (match l[i]? with
   | some o => guarded o st (fun st => xstep P e o st fun t st' => clear (T.filter fun q => !waits tb i q.1) t = true ∧ drun P l tb p (T.filter fun q => !waits tb i q.1) st' K)
    (fun st => drun P l tb p (T.filter fun q => !waits tb i q.1) (st.puto o.dst (.tup [])) K)
   | none => False) ∧ dalts P l tb r T st K
 | .consF i p r, T, st, K => (match l[i]? with
   | some o => fstep P o st fun t st' => clear (T.filter fun q => !waits tb i q.1) t = true ∧ drun P l tb p (T.filter fun q => !waits tb i q.1) st' K
   | none => False) ∧ dalts P l tb r T st K
end

mutual
theorem D.still_noRef (ns : List Nat) : ∀ {d : D}, d.still = true → d.noRef ns = true
 | .pd _, _ => rfl
 | .nils, _ => rfl
 | .agg ds, h => by simp only [D.still, D.noRef] at h ⊢; exact D.stills_noRefs ns h
 | .tup ds, h => by simp only [D.still, D.noRef] at h ⊢; exact D.stills_noRefs ns h
 | .ptr .., h => by simp [D.still] at h
 | .fn .., h => by simp [D.still] at h
 | .mp .., h => by simp [D.still] at h
 | .own .., h => by simp [D.still] at h
 | .full .., h => by simp [D.still] at h
 | .eptr .., h => by simp [D.still] at h
 | .oelt .., h => by simp [D.still] at h
 | .any, h => by simp [D.still] at h
theorem D.stills_noRefs (ns : List Nat) : ∀ {ds : List D}, D.stills ds = true → D.noRefs ns ds = true
 | [], _ => rfl
 | _ :: _, h => by simp only [D.stills, D.noRefs, Bool.and_eq_true] at h ⊢; exact ⟨D.still_noRef ns h.1, D.stills_noRefs ns h.2⟩
end

mutual
theorem D.noRef_drop {ns : List Nat} {n : Nat} (hn : ns.contains n = true) : ∀ {d : D}, d.noRef ns = true → d.drop n = d
 | .pd _, _ => rfl
 | .nils, _ => rfl
 | .own .., _ => rfl
 | .full .., _ => rfl
 | .eptr _, _ => rfl
 | .oelt .., _ => rfl
 | .any, _ => rfl
 | .agg ds, h => by simp only [D.noRef, D.drop] at h ⊢; rw [D.noRefs_drops hn h]
 | .tup ds, h => by simp only [D.noRef, D.drop] at h ⊢; rw [D.noRefs_drops hn h]
 | .ptr m o, h => by
   simp only [D.noRef, Bool.not_eq_true'] at h
   simp only [D.drop]
   rw [if_neg (fun e => by rw [e, hn] at h; cases h)]
 | .mp m, h => by
   simp only [D.noRef, Bool.not_eq_true'] at h
   simp only [D.drop]
   rw [if_neg (fun e => by rw [e, hn] at h; cases h)]
 | .fn f caps, h => by
   simp only [D.noRef, List.all_eq_true, Bool.not_eq_true'] at h
   simp only [D.drop]
   rw [if_neg]
   intro hc
   obtain ⟨c, hc1, hc2⟩ := List.any_eq_true.1 hc
   have := h c hc1
   rw [beq_iff_eq.1 hc2, hn] at this
   cases this
theorem D.noRefs_drops {ns : List Nat} {n : Nat} (hn : ns.contains n = true) : ∀ {ds : List D}, D.noRefs ns ds = true → D.drops n ds = ds
 | [], _ => rfl
 | _ :: _, h => by simp only [D.noRefs, D.drops, Bool.and_eq_true] at h ⊢; rw [D.noRef_drop hn h.1, D.noRefs_drops hn h.2]
end

mutual
theorem Rep.still {g g' : Gh} {w w' : World} (hx : Ex g.Fz w g'.Fz w') : ∀ {d : D} {v : Value}, d.still = true → Rep g w d v → Rep g' w' d v
 | .pd _, _, _, h => by simp only [Rep] at h ⊢; exact h.mono hx
 | .nils, _, _, h => by simp only [Rep] at h ⊢; exact h
 | .agg ds, _, hc, h => by simp only [Rep, D.still] at h hc ⊢; obtain ⟨vs, e, hs⟩ := h; exact ⟨vs, e, Reps.still hx hc hs⟩
 | .tup ds, _, hc, h => by simp only [Rep, D.still] at h hc ⊢; obtain ⟨vs, e, hs⟩ := h; exact ⟨vs, e, Reps.still hx hc hs⟩
 | .ptr .., _, h, _ => by simp [D.still] at h
 | .fn .., _, h, _ => by simp [D.still] at h
 | .mp .., _, h, _ => by simp [D.still] at h
 | .own .., _, h, _ => by simp [D.still] at h
 | .full .., _, h, _ => by simp [D.still] at h
 | .eptr .., _, h, _ => by simp [D.still] at h
 | .oelt .., _, h, _ => by simp [D.still] at h
 | .any, _, h, _ => by simp [D.still] at h
theorem Reps.still {g g' : Gh} {w w' : World} (hx : Ex g.Fz w g'.Fz w') : ∀ {ds : List D} {vs : List Value}, D.stills ds = true → Reps g w ds vs → Reps g' w' ds vs
 | [], _, _, h => by simp only [Reps] at h ⊢; exact h
 | _ :: _, _, hc, h => by
   simp only [D.stills, Bool.and_eq_true] at hc
   simp only [Reps] at h ⊢
   obtain ⟨v, vs', e, hv, hs⟩ := h
   exact ⟨v, vs', e, Rep.still hx hc.1 hv, Reps.still hx hc.2 hs⟩
end

theorem lk_app {α : Type} : ∀ (l m : List (Nat × α)) (i : Nat), lk (l ++ m) i = (lk l i).or (lk m i)
 | [], m, i => by simp [lk]
 | (j, d) :: r, m, i => by
   simp only [List.cons_append, lk]
   split
   ·rfl
   ·exact lk_app r m i

theorem lk_in {α : Type} : ∀ {l : List (Nat × α)} {i : Nat} {d : α}, lk l i = some d → (i, d) ∈ l
 | (j, e) :: r, i, d, h => by
   simp only [lk] at h
   split at h
   ·rename_i hij; cases h; rw [hij]; exact List.mem_cons_self
   ·exact List.mem_cons_of_mem _ (lk_in h)

theorem in_lk {α : Type} : ∀ {l : List (Nat × α)} {i : Nat} {d : α}, (l.map (·.1)).Nodup → (i, d) ∈ l → lk l i = some d
 | (j, e) :: r, i, d, hn, h => by
   simp only [List.map_cons, List.nodup_cons] at hn
   simp only [lk]
   rcases List.mem_cons.1 h with h | h
   ·cases h; rw [if_pos rfl]
   ·rw [if_neg, in_lk hn.2 h]
    intro hij
    exact hn.1 (List.mem_map.2 ⟨(i, d), h, hij⟩)

theorem lk_perm {α : Type} {l m : List (Nat × α)} (h : l.Perm m) (hn : (m.map (·.1)).Nodup) (i : Nat) : lk l i = lk m i := by
 have hn' : (l.map (·.1)).Nodup := ((h.map _).nodup_iff).2 hn
 cases h1 : lk l i with
 | some d => exact (in_lk hn (h.mem_iff.1 (lk_in h1))).symm
 | none =>
   cases h2 : lk m i with
   | none => rfl
   | some d =>
     have := in_lk hn' (h.mem_iff.2 (lk_in h2))
     rw [this] at h1
     cases h1

theorem fresh_no {ns : List Nat} {st : St} (h : fresh ns st = true) {n : Nat} (hn : ns.contains n = true) : lk st.fr n = none ∧ lk st.bs n = none := by
 simp only [fresh, Bool.and_eq_true, List.all_eq_true, Bool.not_eq_true'] at h
 constructor
 ·cases hl : lk st.fr n with
  | none => rfl
  | some d => have := (h.1.1 _ (lk_in hl)).1; simp only at this; rw [hn] at this; cases this
 ·cases hl : lk st.bs n with
  | none => rfl
  | some d => have := (h.1.2 _ (lk_in hl)).1; simp only at this; rw [hn] at this; cases this

theorem fresh_adds {ns : List Nat} {st : St} (h : fresh ns st = true) {m : Nat} (hm : ns.contains m = true) {e : List (Nat × List D)} (hem : ∀ p ∈ e, p.1 ≠ m ∧ D.stills p.2 = true) : (adds e st).drop m = adds e st := by
 simp only [fresh, Bool.and_eq_true, List.all_eq_true, Bool.not_eq_true'] at h
 obtain ⟨fr, bs, ms, hs⟩ := st
 have e1 : ∀ (k : Nat), ns.contains k = false → (k != m) = true := fun k hk => by
  rw [bne_iff_ne]
  intro e
  rw [e, hm] at hk
  cases hk
 unfold adds St.drop
 simp only at h ⊢
 congr 1
 ·conv => rhs; rw [← List.map_id (e.map (fun p => (p.1, D.ptr p.1 0)) ++ fr)]
  refine List.map_congr_left fun p hp => ?_
  rcases List.mem_append.1 hp with hp | hp
  ·obtain ⟨q, hq, rfl⟩ := List.mem_map.1 hp
   simp only [D.drop]
   rw [if_neg (hem q hq).1]; rfl
  ·rw [D.noRef_drop hm (h.1.1 p hp).2]; rfl
 ·rw [List.filter_eq_self.2 fun p hp => (List.mem_append.1 hp).elim (fun hp => bne_iff_ne.2 (hem p hp).1) fun hp => e1 _ (h.1.2 p hp).1]
  conv => rhs; rw [← List.map_id (e ++ bs)]
  refine List.map_congr_left fun p hp => ?_
  rcases List.mem_append.1 hp with hp | hp
  ·rw [D.noRefs_drops hm (D.stills_noRefs ns (hem p hp).2)]; rfl
  ·rw [D.noRefs_drops hm (h.1.2 p hp).2]; rfl
 ·exact List.filter_eq_self.2 fun p hp => e1 _ (h.2 p hp)

theorem fresh_put {ns : List Nat} {st : St} (h : fresh ns st = true) {t : Nat} (ht : ns.contains t = false) {d : D} (hd : d.still = true) : fresh ns (st.put t d) = true := by
 unfold fresh St.put at *
 simp only [List.all_cons, ht, D.still_noRef ns hd, Bool.not_false, Bool.true_and]
 exact h

section
variable {C : Ctx} {st st' : St} {g : Gh} {a : Act} {w : World}

theorem lk_ptrs : ∀ (e : List (Nat × List D)) (i : Nat), lk (e.map fun p => (p.1, D.ptr p.1 0)) i = (lk e i).map fun _ => D.ptr i 0
 | [], _ => rfl
 | (j, ds) :: r, i => by
   simp only [List.map_cons, lk]
   split
   ·rename_i h; rw [h]; rfl
   ·exact lk_ptrs r i

theorem SR.unadds {e : List (Nat × List D)} (h : SR C (adds e st) g a w) (he : ∀ p ∈ e, lk st.fr p.1 = none ∧ lk st.bs p.1 = none) : SR C st g a w := by
 have hn : ∀ i, (lk st.fr i ≠ none ∨ lk st.bs i ≠ none) → lk e i = none := fun i hi => by
  cases hl : lk e i with
  | none => rfl
  | some ds =>
    have := he _ (lk_in hl)
    rcases hi with hi | hi
    ·exact absurd this.1 hi
    ·exact absurd this.2 hi
 refine h.less (fun i d hd => .inl ?_) (fun n ds hd => ?_) (fun _ _ h => h) rfl
 ·show lk (_ ++ st.fr) i = _
  rw [lk_app, lk_ptrs, hn i (.inl (by rw [hd]; simp))]
  exact hd
 ·show lk (e ++ st.bs) n = _
  rw [lk_app, hn n (.inr (by rw [hd]; simp))]
  exact hd

theorem SR.readds {e : List (Nat × List D)} {g' : Gh} {w' : World} (h0 : SR C (adds e st) g a w) (h1 : SR C st g' a w') (hf : SF g w g' w' none) (he : ∀ p ∈ e, D.stills p.2 = true) : SR C (adds e st) g' a w' := by
 have hb : ∀ n ds, lk (adds e st).bs n = some ds → ∃ b cs t, g'.bx n = some b ∧ w'.heap[b]? = some (.cells cs t (0, 0)) ∧ Reps g' w' ds cs.toList := by
  intro n ds hn
  have hn' : lk (e ++ st.bs) n = some ds := hn
  rw [lk_app] at hn'
  cases hl : lk e n with
  | none => rw [hl] at hn'; exact h1.mem.bxs n ds hn'
  | some es =>
    rw [hl] at hn'
    simp only [Option.some_or, Option.some.injEq] at hn'
    subst hn'
    obtain ⟨b, cs, t, k1, k2, k3⟩ := h0.mem.bxs n es hn
    have := hf.bx n b (by simp) k1
    exact ⟨b, cs, t, this.1, this.2.trans k2, Reps.still hf.ex (he _ (lk_in hl)) k3⟩
 refine ⟨h1.defers, h1.size, fun i d hd => ?_, { h1.mem with bxs := hb }, h1.x, h1.fix⟩
 have h2 := h0.rep i d hd
 have hd' : lk (e.map (fun p => (p.1, D.ptr p.1 0)) ++ st.fr) i = some d := hd
 rw [lk_app, lk_ptrs] at hd'
 cases hl : lk e i with
 | none => rw [hl] at hd'; exact h1.rep i d hd'
 | some ds =>
   rw [hl] at hd'
   simp only [Option.map_some, Option.some_or, Option.some.injEq] at hd'
   subst hd'
   refine ⟨h2.1, ?_⟩
   have h3 := h2.2
   simp only [Rep] at h3 ⊢
   obtain ⟨b, hb, e⟩ := h3
   exact ⟨b, (hf.bx _ b (by simp) hb).1, e⟩

theorem SR.adds_put {e : List (Nat × List D)} {t : Nat} {d : D} (h : SR C ((adds e st).put t d) g a w) (ht : lk e t = none) : SR C (adds e (st.put t d)) g a w := by
 refine h.less (fun i x hx => .inl ?_) (fun _ _ h => h) (fun _ _ h => h) rfl
 have hx' : lk (e.map (fun p => (p.1, D.ptr p.1 0)) ++ (t, d) :: st.fr) i = some x := hx
 show lk ((t, d) :: (e.map (fun p => (p.1, D.ptr p.1 0)) ++ st.fr)) i = some x
 rw [lk_app, lk_ptrs] at hx'
 simp only [lk] at hx' ⊢
 by_cases hi : i = t
 ·subst hi
  rw [ht] at hx'
  simpa using hx'
 ·rw [if_neg hi] at hx' ⊢
  rw [lk_app, lk_ptrs]
  exact hx'

theorem SR.adds_perm {e e' : List (Nat × List D)} (h : SR C (adds e st) g a w) (hp : e.Perm e') (hn : (e'.map (·.1)).Nodup) : SR C (adds e' st) g a w := by
 refine h.less (fun i x hx => .inl ?_) (fun n x hx => ?_) (fun _ _ h => h) rfl
 ·have hx' : lk (e'.map (fun p => (p.1, D.ptr p.1 0)) ++ st.fr) i = some x := hx
  show lk (e.map (fun p => (p.1, D.ptr p.1 0)) ++ st.fr) i = some x
  rw [lk_app, lk_ptrs] at hx' ⊢
  rw [lk_perm hp hn]
  exact hx'
 ·have hx' : lk (e' ++ st.bs) n = some x := hx
  show lk (e ++ st.bs) n = some x
  rw [lk_app] at hx' ⊢
  rw [lk_perm hp hn]
  exact hx'
end

theorem nodup_inj {α β : Type} {f : α → β} : ∀ {l : List α} {a b : α}, (l.map f).Nodup → a ∈ l → b ∈ l → f a = f b → a = b
 | x :: l, a, b, hn, ha, hb, h => by
   simp only [List.map_cons, List.nodup_cons] at hn
   rcases List.mem_cons.1 ha with rfl | ha'
   ·rcases List.mem_cons.1 hb with rfl | hb'
    ·rfl
    ·exact absurd (List.mem_map.2 ⟨b, hb', h.symm⟩) hn.1
   ·rcases List.mem_cons.1 hb with rfl | hb'
    ·exact absurd (List.mem_map.2 ⟨a, ha', h⟩) hn.1
    ·exact nodup_inj hn.2 ha' hb' h

theorem setAll_size : ∀ (l : List Nat) (a : Array Bool), (setAll a l).size = a.size
 | [], _ => rfl
 | j :: l, a => by
   show (setAll (a.setIfInBounds j true) l).size = _
   rw [setAll_size l]; simp

theorem getD_set (a : Array Bool) (i k : Nat) : (a.setIfInBounds i true).getD k false = (a.getD k false || (decide (k = i) && decide (k < a.size))) := by
 rw [Array.getD_eq_getD_getElem?, Array.getD_eq_getD_getElem?]
 by_cases h : k = i
 ·subst h
  rcases Nat.lt_or_ge k a.size with h1 | h1
  ·simp [h1]
  ·simp [Nat.not_lt.2 h1]
 ·rw [Array.getElem?_setIfInBounds_ne (Ne.symm h)]
  simp [h]

theorem setAll_get : ∀ (l : List Nat) (a : Array Bool) (k : Nat), (setAll a l).getD k false = (a.getD k false || (decide (k ∈ l) && decide (k < a.size)))
 | [], a, k => by simp [setAll]
 | j :: l, a, k => by
   show (setAll (a.setIfInBounds j true) l).getD k false = _
   rw [setAll_get l, getD_set, Array.size_setIfInBounds]
   by_cases h1 : k = j <;> by_cases h2 : k ∈ l <;> by_cases h3 : k < a.size <;> simp [h1, h2, h3] <;> simp_all

theorem getD_true {a : Array Bool} {k : Nat} : a.getD k true = false ↔ k < a.size ∧ a.getD k false = false := by
 rw [Array.getD_eq_getD_getElem?, Array.getD_eq_getD_getElem?]
 rcases Nat.lt_or_ge k a.size with h | h
 ·simp [h]
 ·simp [Array.getElem?_eq_none h, Nat.not_lt.2 h]

theorem ready_mono {ops : Array Oper} {lc lm : Array Bool} {k : Nat} (h : ∀ m, lc.getD m false = true → lm.getD m false = true) (hk : lm.getD k true = false) (hr : k ∈ Region.ready .any ops lc) : k ∈ Region.ready .any ops lm := by
 obtain ⟨_, o, ho, hd⟩ := mem_ready.1 hr
 exact mem_ready.2 ⟨hk, o, ho, fun e he hb => h _ (hd e he hb)⟩

theorem arr_ext {a b : Array Bool} (hs : a.size = b.size) (h : ∀ k, a.getD k false = b.getD k false) : a = b := by
 refine Array.ext hs fun i h1 h2 => ?_
 have := h i
 rw [Array.getD_eq_getD_getElem?, Array.getD_eq_getD_getElem?, Array.getElem?_eq_getElem h1, Array.getElem?_eq_getElem h2] at this
 simpa using this

section
variable {C : Ctx} {st st' : St} {g : Gh} {a : Act} {w : World}

def TL (Ta : List (Nat × Nat)) (Tc : Pend) (g : Gh) (w : World) : Prop :=
 ∀ p ∈ Tc, ∃ r, (r = none ∨ ∃ n, r = some n ∧ (p.1, n) ∈ Ta) ∧ ∀ w', Keep g r w w' → p.2 w'

theorem TL.here {Ta : List (Nat × Nat)} {Tc : Pend} (h : TL Ta Tc g w) : ∀ p ∈ Tc, p.2 w := fun p hp =>
 let ⟨_, _, h2⟩ := h p hp
 h2 w (Keep.refl _ _ _)

theorem TL.filter {Ta : List (Nat × Nat)} {Tc : Pend} (h : TL Ta Tc g w) (q : Nat → Bool) : TL (Ta.filter fun p => q p.1) (Tc.filter fun p => q p.1) g w := fun p hp => by
 obtain ⟨h1, h2⟩ := List.mem_filter.1 hp
 obtain ⟨r, h3, h4⟩ := h p h1
 refine ⟨r, ?_, h4⟩
 rcases h3 with h3 | ⟨n, h3, h5⟩
 ·exact .inl h3
 ·exact .inr ⟨n, h3, List.mem_filter.2 ⟨h5, h2⟩⟩

theorem TL.push {Ta : List (Nat × Nat)} {Tc : Pend} (h : TL Ta Tc g w) (i : Nat) (r : Option Nat) {S : World → Prop} (hS : ∀ w', Keep g r w w' → S w') : TL (pendTo Ta i r) ((i, S) :: Tc) g w := fun p hp => by
 rcases List.mem_cons.1 hp with rfl | hp
 ·refine ⟨r, ?_, hS⟩
  cases r with
  | none => exact .inl rfl
  | some n => exact .inr ⟨n, rfl, by simp [pendTo]⟩
 ·obtain ⟨r', h3, h4⟩ := h p hp
  refine ⟨r', ?_, h4⟩
  rcases h3 with h3 | ⟨n, h3, h5⟩
  ·exact .inl h3
  ·refine .inr ⟨n, h3, ?_⟩
   cases r with
   | none => exact h5
   | some m => exact List.mem_cons_of_mem _ h5

theorem Keep.after {r t : Option Nat} {g' : Gh} {w' w'' : World} (hs : SF g w g' w' t) (ht : ∀ n, r = some n → t ≠ some n) (hk : Keep g' r w' w'') : Keep g r w w'' :=
 ⟨fun b o hf => (hk.fz b o (hs.ex b o hf).1).trans (hs.ex b o hf).2, fun n b hr hb => by
  obtain ⟨h1, h2⟩ := hs.bx n b (ht n hr) hb
  exact (hk.bx n b hr h1).trans h2⟩

theorem TL.after {Ta : List (Nat × Nat)} {Tc : Pend} (h : TL Ta Tc g w) {t : Option Nat} (hc : clear Ta t = true) {g' : Gh} {w' : World} (hs : SF g w g' w' t) : TL Ta Tc g' w' := fun p hp => by
 obtain ⟨r, h3, h4⟩ := h p hp
 refine ⟨r, h3, fun w'' hk => h4 w'' (hk.after hs fun n hr ht => ?_)⟩
 rcases h3 with rfl | ⟨m, rfl, h5⟩
 ·cases hr
 ·cases hr
  subst ht
  have := List.all_eq_true.1 (by simpa [clear] using hc : Ta.all (fun p => p.2 != n) = true) _ h5
  simp at this

theorem tstep_sound {o : Oper} {ao : AOp} (h : comp C.P o.op = some ao) (hd : ∀ d, o.dst = some d → C.wr d = true) (gd : Option (Nat × Bool)) {K : Option Nat → St → Prop} (hs : SR C st g a w) (hk : tstep ⟨gd, o.dst, ao⟩ st K) :
 ∃ v r st', (∀ w', Keep g r w w' → (execOp a.eval o).run C.P w' = .ok (.value v) w') ∧ SR C st' g (a.put o.dst v) w ∧ K r st' := by
 unfold tstep at hk
 split at hk
 ·rename_i c x y hao
  simp only at hao
  subst hao
  split at hk
  ·rename_i b hb
   have hx := hs.ev c
   rw [hb] at hx
   have ex := raw_inv hx
   have ho : o.op = .pick c x y := by
    by_cases hp : (AOp.pick c x y).plain = true
    ·cases hp
    ·rcases comp_inv h (by simpa using hp) with ⟨c', x', y', ho, he⟩ | ⟨c, f, ho, hc, he⟩ | ⟨c, x, ho, hc, he⟩ | ⟨c, x, y, t, e, i, z, ho, hc, ha, ht, hu, hi, hz, hzs, hpos, he⟩ | ⟨neg, t, x, t2, e, ho, hu, he⟩
     ·cases he; exact ho
     all_goals cases he
   refine ⟨if b then a.eval x else a.eval y, none, (st.know c b).puto o.dst (if b then st.ev x else st.ev y), fun w' _ => ?_, ?_, ?_⟩
   ·unfold execOp
    simp only [ho, ex, asBool]
    rfl
   ·refine (hs.know hb).puto hd ?_
    cases b
    ·exact hs.ev y
    ·exact hs.ev x
   ·cases b
    ·exact hk.2 rfl
    ·exact hk.1 rfl
  ·exact hk.elim
 ·split at hk
  ·rename_i hq
   split at hk
   ·rename_i d st1 he
    have hp : ao.plain = true := by cases ao <;> first | rfl | cases hq
    obtain ⟨h1, _⟩ := comp_sound h hp hd st g a w d st1 hs he
    obtain ⟨_, v, h2, h3⟩ := h1 hq
    exact ⟨v, _, _, h2, hs.puto hd h3, hk⟩
   ·exact hk.elim
  ·exact hk.elim

theorem pure_sound {f : FuncId} {ds : List D} {R : D → Prop} (h : PureW C.P f ds st R) (hs : SR C st g a w) {vs : List Value} (hv : Reps g w ds vs) {o : Oper} {c : Call} (ho : o.op = .call c)
 (hr : (do let d ← resolve a.eval c o.type; invoke d.target d.args : Sem Next).run C.P w = (callFunc f vs.toArray).run C.P w) (next : Act → World → Prop) (Q : Exit → Act → World → Prop)
 (hn : ∀ d g' v w', SR C st g' a w' → Rep g' w' d v → R d → SF g w g' w' none → next (a.put o.dst v) w') : o.wp C.P a w next Q := by
 have hrun : (execOp a.eval o).run C.P w = .ok (.enter f vs.toArray) w := by
  unfold execOp
  simp only [ho]
  rw [hr, h.1]
 unfold Oper.wp
 rw [hrun, Oper.upon_enter]
 refine (h.2 C g a w vs rfl hs hv).mono ?_
 rintro e w' ⟨v, d, g', rfl, hk, hsr, hrep, hsf⟩
 exact hn d g' v w' hsr hrep hk hsf

theorem write_sound {f : FuncId} {ds : List D} {t : Option Nat} {K : D → St → Prop} (h : WriteW C.P f ds st t K) (hs : SR C st g a w) {vs : List Value} (hv : Reps g w ds vs) {o : Oper} {c : Call} (ho : o.op = .call c)
 (hr : (do let d ← resolve a.eval c o.type; invoke d.target d.args : Sem Next).run C.P w = (callFunc f vs.toArray).run C.P w) (next : Act → World → Prop) (Q : Exit → Act → World → Prop)
 (hn : ∀ d st' g' v w', SR C st' g' a w' → Rep g' w' d v → K d st' → SF g w g' w' t → next (a.put o.dst v) w') : o.wp C.P a w next Q := by
 have hrun : (execOp a.eval o).run C.P w = .ok (.enter f vs.toArray) w := by
  unfold execOp
  simp only [ho]
  rw [hr, h.1]
 unfold Oper.wp
 rw [hrun, Oper.upon_enter]
 refine (h.2 C g a w vs rfl hs hv).mono ?_
 rintro e w' ⟨v, d, st', g', rfl, hk, hsr, hrep, hsf⟩
 exact hn d st' g' v w' hsr hrep hk hsf

theorem fstep_sound {o : Oper} {ao : AOper} (h : comp C.P o.op = some ao.op) (hdst : ao.dst = o.dst) (hd : ∀ d, o.dst = some d → C.wr d = true) {K : Option Nat → St → Prop} (hs : SR C st g a w) (hk : fstep C.P ao st K)
 (next : Act → World → Prop) (Q : Exit → Act → World → Prop) (hn : ∀ st' g' a' w' t, SR C st' g' a' w' → K t st' → SF g w g' w' t → next a' w') : ao.guard = none ∧ o.wp C.P a w next Q := by
 unfold fstep at hk
 split at hk
 ·rename_i dst x args
  refine ⟨rfl, ?_⟩
  rcases comp_inv h (by rfl) with ⟨c, x', y, ho, he⟩ | ⟨c, f, ho, hc, he⟩ | ⟨c, x', ho, hc, he⟩ | ⟨c, x', y, t, e, i, z, ho, hc, ha, ht, hu, hi, hz, hzs, hpos, he⟩ | ⟨neg, t, x', t2, e, ho, hu, he⟩
  ·cases he
  ·cases he
  ·cases he
   simp only at hdst
   split at hk
   ·rename_i f caps hev
    obtain ⟨t, hk⟩ := hk
    have hx := hs.ev x
    rw [hev] at hx
    simp only [Rep] at hx
    obtain ⟨cv, ex, hcs⟩ := hx
    refine write_sound hk hs ((Reps.evs hs c.args.toList).append hcs.reps) ho ?_ next Q (fun d st' g' v w' h1 h2 h3 h4 => hn _ _ _ _ t (h1.puto hd h2) (by rw [← hdst]; exact h3) h4)
    simp [resolve, hc, ex, Deferred.ofValue, invoke, map_arr, ← List.append_toArray]
   ·exact hk.elim
  ·cases he
  ·cases he
 ·rename_i dst f args
  refine ⟨rfl, ?_⟩
  rcases comp_inv h (by rfl) with ⟨c, x', y, ho, he⟩ | ⟨c, f, ho, hc, he⟩ | ⟨c, x', ho, hc, he⟩ | ⟨c, x', y, t, e, i, z, ho, hc, ha, ht, hu, hi, hz, hzs, hpos, he⟩ | ⟨neg, t, x', t2, e, ho, hu, he⟩
  ·cases he
  ·cases he
   simp only at hdst
   obtain ⟨t, hk⟩ := hk
   refine write_sound hk hs (Reps.evs hs c.args.toList) ho ?_ next Q (fun d st' g' v w' h1 h2 h3 h4 => hn _ _ _ _ t (h1.puto hd h2) (by rw [← hdst]; exact h3) h4)
   simp [resolve, hc, Act.eval, Deferred.ofValue, invoke, map_arr]
  ·cases he
  ·cases he
  ·cases he
 ·exact hk.elim

theorem xstep_sound {e : Bool} {o : Oper} {ao : AOp} (h : comp C.P o.op = some ao) (hd : ∀ d, o.dst = some d → C.wr d = true) (gd : Option (Nat × Bool)) {K : Option Nat → St → Prop} (hs : SR C st g a w) (hk : xstep C.P e ⟨gd, o.dst, ao⟩ st K)
 (next : Act → World → Prop) (Q : Exit → Act → World → Prop) (hn : ∀ st' g' a' w' t, SR C st' g' a' w' → K t st' → (e = true ∨ SF g w g' w' t) → next a' w') : o.wp C.P a w next Q := by
 by_cases hcl : ao.calls = true
 ·have hp : ¬ ao.plain = true := by cases ao <;> first | (cases hcl; done) | (intro h; cases h)
  rcases comp_inv h (by simpa using hp) with ⟨c, x, y, ho, rfl⟩ | ⟨c, f, ho, hc, rfl⟩ | ⟨c, x, ho, hc, rfl⟩ | ⟨c, x, y, t, e, i, z, ho, hc, ha, ht, hu, hi, hz, hzs, hpos, rfl⟩ | ⟨neg, t, x, t2, e, ho, hu, rfl⟩
  ·cases hcl
  ·simp only [xstep] at hk
   refine pure_sound hk hs (Reps.evs hs c.args.toList) ho ?_ next Q (fun d g' v w' h1 h2 h3 h4 => hn _ _ _ _ _ (h1.puto hd h2) h3 (.inr h4))
   simp [resolve, hc, Act.eval, Deferred.ofValue, invoke, map_arr]
  ·simp only [xstep] at hk
   split at hk
   ·rename_i f caps hev
    have hx := hs.ev x
    rw [hev] at hx
    simp only [Rep] at hx
    obtain ⟨cv, ex, hcs⟩ := hx
    refine pure_sound hk hs ((Reps.evs hs c.args.toList).append hcs.reps) ho ?_ next Q (fun d g' v w' h1 h2 h3 h4 => hn _ _ _ _ _ (h1.puto hd h2) h3 (.inr h4))
    simp [resolve, hc, ex, Deferred.ofValue, invoke, map_arr, ← List.append_toArray]
   ·rename_i f first caps hev
    obtain ⟨he, rfl, rfl, hk⟩ := hk
    have hx := hs.ev x
    rw [hev] at hx
    have ex := raw_inv hx
    have hrun : (execOp a.eval o).run C.P w = .ok (.enter f (c.args.toList.map a.eval).toArray) w := by
     unfold execOp
     simp only [ho]
     have := hk.1 (c.args.toList.map a.eval).toArray w
     rw [← this]
     simp [resolve, hc, ex, Deferred.ofValue, invoke, map_arr]
    unfold Oper.wp
    rw [hrun, Oper.upon_enter]
    refine (hk.2 C g a w _ rfl hs (Reps.evs hs c.args.toList)).mono ?_
    rintro e w' ⟨v, d, st', g', rfl, hk2, hsr, hrep⟩
    exact hn _ _ _ _ _ (hsr.puto hd hrep) hk2 (.inl he)
   ·exact hk.elim
  ·cases hcl
  ·cases hcl
 ·by_cases hup : ∃ sz x y t j cs, ao = .store sz x y ∧ st.ev x = .oelt t j cs
  ·obtain ⟨sz, x, y, t, j, cs, rfl, hev⟩ := hup
   simp only [xstep, hev, updP] at hk
   split at hk
   ·rename_i ty k els v hrow hy
    obtain ⟨he, h1, h2, h3, h4, h5, h6, h7, hk⟩ := hk
    subst h3
    obtain ⟨tt, i, ho, hi, h8⟩ := comp_store h
    obtain ⟨w', hrun, hsr⟩ := hs.upd ho hi (h8.symm.trans h1) hev h2 hrow hy h4 h5 h6 h7
    unfold Oper.wp
    rw [hrun]
    exact hn _ _ _ _ _ (hsr.puto hd (by simp only [Rep])) hk (.inl he)
   ·exact hk.elim
  have e' : xstep C.P e ⟨gd, o.dst, ao⟩ st K = astep C.P ⟨gd, o.dst, ao⟩ st (K (ao.touch o.dst st)) := by
   cases ao <;> first | rfl | exact absurd rfl hcl | skip
   rename_i sz x y
   simp only [xstep]
   split
   ·rename_i t j cs hev
    exact absurd ⟨_, _, _, _, _, _, rfl, hev⟩ hup
   ·rfl
  rw [e'] at hk
  exact astep_sound h hd gd hs hk next Q fun st' g' a' w' h1 h2 h3 => hn _ _ _ _ _ h1 h2 (.inr (h3 (by simpa using hcl)))

theorem compL_get {P : Program} {ops : Array Oper} : ∀ {idx : List Nat} {l : List AOper}, compL P ops idx = some l → ∀ (k i : Nat) (ao : AOper), idx[k]? = some i → l[k]? = some ao → ∃ o, ops[i]? = some o ∧ compO P ops o = some ao
 | [], _, _, _, _, _, hk, _ => by simp at hk
 | j :: idx, l, h, k, i, ao, hk, hl => by
   simp only [compL] at h
   split at h
   ·rename_i o ho
    split at h
    ·rename_i x xs h1 h2
     cases h
     cases k with
     | zero => simp at hk hl; subst hk; subst hl; exact ⟨o, ho, h1⟩
     | succ k => exact compL_get h2 k i ao (by simpa using hk) (by simpa using hl)
    ·cases h
   ·cases h

theorem compO_op {P : Program} {ops : Array Oper} {o : Oper} {ao : AOper} (h : compO P ops o = some ao) : comp P o.op = some ao.op ∧ ao.dst = o.dst := by
 unfold compO at h
 split at h
 ·rename_i x hx
  split at h
  ·cases h; exact ⟨hx, rfl⟩
  ·obtain ⟨s, _, rfl⟩ := Option.map_eq_some_iff.1 h
   exact ⟨hx, rfl⟩
 ·cases h

theorem undef_yielded {ops : Array Oper} {s k : Nat} (hs : SR C st g a w) (hg : st.get s = .tup []) (hsl : (ops[k]?).bind (·.dst) = some s) : yielded ops a.tmps k = none := by
 have hev := hs.ev (.tmp s)
 rw [show st.ev (.tmp s) = st.get s from rfl, hg] at hev
 simp only [Rep] at hev
 obtain ⟨vs, e1, e2⟩ := hev
 simp only [Reps] at e2
 subst e2
 simp only [Act.eval] at e1
 unfold yielded
 rw [hsl, Option.bind_some]
 rw [Array.getD_eq_getD_getElem?] at e1
 cases h3 : a.tmps[s]? with
 | none => rfl
 | some v =>
   rw [h3] at e1
   simp only [Option.getD_some] at e1
   rw [e1]

theorem rep_undef {g : Gh} {w : World} : Rep g w (.tup []) undef := by
 simp only [Rep]
 exact ⟨[], rfl, by simp only [Reps]⟩

theorem guard_sound {ops : Array Oper} {o : Oper} {ao : AOper} (h : compO C.P ops o = some ao) (hs : SR C st g a w) {yes no : St → Prop} (hg : guarded ao st yes no) :
 ∃ st1, SR C st1 g a w ∧ ((Region.wanted o (yielded ops a.tmps) = true ∧ yes st1) ∨ (Region.wanted o (yielded ops a.tmps) = false ∧ no st1)) := by
 unfold compO at h
 split at h
 ·rename_i x hx
  split at h
  ·rename_i hgn
   cases h
   exact ⟨st, hs, .inl ⟨by simp [Region.wanted, hgn], hg⟩⟩
  ·rename_i k b hgk
   obtain ⟨s, hsl, rfl⟩ := Option.map_eq_some_iff.1 h
   simp only [guarded] at hg
   split at hg
   ·rename_i c hgc
    have hev := hs.ev (.tmp s)
    rw [show st.ev (.tmp s) = st.get s from rfl, hgc] at hev
    have e1 := raw_inv hev
    simp only [Act.eval] at e1
    have e2 : a.tmps[s]? = some (.bool c) := by
     rw [Array.getD_eq_getD_getElem?] at e1
     cases h3 : a.tmps[s]? with
     | none => rw [h3] at e1; simp [undef] at e1
     | some v => rw [h3] at e1; simpa using e1
    have hy : yielded ops a.tmps k = some c := by
     unfold yielded
     rw [hsl, Option.bind_some, e2]
    by_cases hcb : c = b
    ·exact ⟨_, hs.know (x := .tmp s) (b := b) (by rw [← hcb]; exact hgc), .inl ⟨by simp [Region.wanted, hgk, hy, hcb], hg.1 hcb⟩⟩
    ·have hcb' : c = !b := by cases c <;> cases b <;> simp_all
     exact ⟨_, hs.know (x := .tmp s) (b := !b) (by rw [← hcb']; exact hgc), .inr ⟨by simp [Region.wanted, hgk, hy, hcb], hg.2 hcb'⟩⟩
   ·rename_i hgc
    exact ⟨st, hs, .inr ⟨by simp [Region.wanted, hgk, undef_yielded hs hgc hsl], hg⟩⟩
   ·exact hg.elim
 ·cases h

variable {ops : Array Oper} {l : List AOper} {tb : List Nat} {Q : Exit → Act → World → Prop}

theorem l_get (hl : compL C.P ops (List.range ops.size) = some l) (hd : l.all (dstOK C.wr) = true) {i : Nat} (hi : i < ops.size) {ao : AOper} (h : l[i]? = some ao) :
 ∃ o, ops[i]? = some o ∧ compO C.P ops o = some ao ∧ ∀ d, o.dst = some d → C.wr d = true := by
 obtain ⟨o, h1, h2⟩ := compL_get hl i i ao (by rw [List.getElem?_range hi]) h
 refine ⟨o, h1, h2, fun d he => ?_⟩
 have h3 := List.all_eq_true.1 hd ao (List.mem_of_getElem? h)
 rw [← (compO_op h2).2] at he
 simpa only [dstOK, he] using h3

theorem ready_lt {listed : Array Bool} {i : Nat} (h : i ∈ Region.ready .any ops listed) : i < listed.size := by
 have h1 := (mem_ready.1 h).1
 rcases Nat.lt_or_ge i listed.size with h2 | h2
 ·exact h2
 ·rw [Array.getD_eq_getD_getElem?, Array.getElem?_eq_none h2] at h1; cases h1

theorem listed_push {listed : Array Bool} {Tc : Pend} {i : Nat} (hrd : i ∈ Region.ready .any ops listed) (h : ∀ p ∈ Tc, listed[p.1]? = some true) (S : World → Prop) : ∀ p ∈ ((i, S) :: Tc : Pend), (listed.setIfInBounds i true)[p.1]? = some true := by
 intro p hp
 have hi := ready_lt hrd
 rcases List.mem_cons.1 hp with rfl | hp
 ·simp [hi]
 ·have := h p hp
  by_cases e : i = p.1
  ·subst e; simp [hi]
  ·rw [Array.getElem?_setIfInBounds_ne e]; exact this

theorem listed_filter {listed : Array Bool} {Tc : Pend} {i : Nat} (hrd : i ∈ Region.ready .any ops listed) (h : ∀ p ∈ Tc, listed[p.1]? = some true) (q : Nat × (World → Prop) → Bool) : ∀ p ∈ Tc.filter q, (listed.setIfInBounds i true)[p.1]? = some true := fun p hp =>
 listed_push hrd h (fun _ => True) p (List.mem_cons_of_mem _ (List.mem_filter.1 hp).1)

theorem pend_none {listed : Array Bool} {Tc : Pend} {j : Nat} {e : Bool} (h : (!e || (List.range listed.size).all fun k => !listed.getD k false || waits tb j k) = true) (he : e = true) (hl : ∀ p ∈ Tc, listed[p.1]? = some true) : (Tc.filter fun q => !waits tb j q.1) = [] := by
 subst he
 rw [List.filter_eq_nil_iff]
 intro p hp
 have h1 := hl p hp
 have hlt := (Array.getElem?_eq_some_iff.1 h1).1
 have h2 := List.all_eq_true.1 (by simpa using h : ((List.range listed.size).all fun k => !listed.getD k false || waits tb j k) = true) p.1 (List.mem_range.2 hlt)
 have h3 : listed.getD p.1 false = true := by rw [Array.getD_eq_getD_getElem?, h1]; rfl
 rw [h3] at h2
 simpa using h2

theorem late_sound (hl : compL C.P ops (List.range ops.size) = some l) (hd : l.all (dstOK C.wr) = true) (hpan : ∀ c a w, ¬ Q (.panic c) a w) {js : List Nat} {Ta : List (Nat × Nat)} {psz : Nat} {KK : St → Prop} {lend : Array Bool}
 (hjs : ∀ j ∈ js, lateIs l j = true) (hnd : js.Nodup) (hnn : (js.map fun j => (lateOf l j).1).Nodup) (hclr : ∀ j ∈ js, clear Ta (some (lateOf l j).1) = true)
 (hend : ∀ j ∈ js, Region.ready .any ops (setAll lend (js.erase j)) = [j])
 (hfin : ∀ (fuel : Nat) (Tc : Pend) (st : St) (g : Gh) (a : Act) (w : World), psz ≤ fuel → Reach .any ops (setAll lend js) → (∀ p ∈ Tc, (setAll lend js)[p.1]? = some true) → TL Ta Tc g w → SR C (adds (js.map (lateOf l)) st) g a w → KK st → wpAnyT C.P .any ops Q tb fuel Tc (setAll lend js) a w) :
 ∀ (n : Nat) (is E R : List Nat) (lb lc : Array Bool) (fuel : Nat) (Tc : Pend) (st : St) (g : Gh) (a : Act) (w : World), is.length + R.length = n → n + psz ≤ fuel → (E ++ R).Perm js → lc.size = lb.size → (∀ k, lc.getD k false = (lb.getD k false || (decide (k ∈ E) && decide (k < lb.size)))) →
   setAll lb is = lend → seqOK ops js lb is = true → (∀ j ∈ js, j ∈ Region.ready .any ops lb) → Reach .any ops lc → (∀ p ∈ Tc, lc[p.1]? = some true) → TL Ta Tc g w → fresh (js.map fun j => (lateOf l j).1) st = true →
   SR C (adds (E.map (lateOf l)) st) g a w → lateRun C.P l (js.map fun j => (lateOf l j).1) is st KK → wpAnyT C.P .any ops Q tb fuel Tc lc a w := by
 intro n
 induction n with
 | zero =>
   intro is E R lb lc fuel Tc st g a w hn hf hp hsz hlc hle hsq hrj hr hTl hT hfr hs hk
   obtain rfl : is = [] := List.eq_nil_of_length_eq_zero (by omega)
   obtain rfl : R = [] := List.eq_nil_of_length_eq_zero (by omega)
   rw [List.append_nil] at hp
   have hlc' : lc = setAll lend js := by
    rw [← hle]
    refine arr_ext (by rw [setAll_size]; exact hsz) fun k => ?_
    show _ = (setAll lb js).getD k false
    rw [hlc, setAll_get, decide_eq_decide.2 (hp.mem_iff (a := k))]
   subst hlc'
   have hnn' : ((js.map (lateOf l)).map (·.1)).Nodup := by rw [List.map_map]; exact hnn
   exact hfin fuel Tc st g a w (by omega) hr hTl hT (hs.adds_perm (hp.map _) hnn') hk
 | succ n ih =>
   intro is E R lb lc fuel Tc st g a w hn hf hp hsz hlc hle hsq hrj hr hTl hT hfr hs hk
   obtain ⟨fuel, rfl⟩ : ∃ f, fuel = f + 1 := ⟨fuel - 1, by omega⟩
   have hER := hp.nodup_iff.2 hnd
   have hmE : ∀ {k}, k ∈ E → k ∈ js := fun h => hp.mem_iff.1 (List.mem_append.2 (.inl h))
   have hmR : ∀ {k}, k ∈ R → k ∈ js := fun h => hp.mem_iff.1 (List.mem_append.2 (.inr h))
   have hdis : ∀ {k}, k ∈ R → k ∉ E := fun h h' => ((List.nodup_append.1 hER).2.2 _ h' _ h) rfl
   have hlb : ∀ {k}, lc.getD k true = false → lb.getD k true = false := fun {k} h => by
    obtain ⟨h1, h2⟩ := getD_true.1 h
    rw [hlc] at h2
    exact getD_true.2 ⟨by omega, (Bool.or_eq_false_iff.1 h2).1⟩
   have hRr : ∀ {k}, k ∈ R → k ∈ Region.ready .any ops lc := fun {k} h => by
    have h1 := hrj k (hmR h)
    obtain ⟨h2, h3⟩ := getD_true.1 (mem_ready.1 h1).1
    refine ready_mono (fun m hm => by rw [hlc, hm, Bool.true_or]) (getD_true.2 ⟨by omega, ?_⟩) h1
    rw [hlc, h3, decide_eq_false (hdis h)]; rfl
   have hstills : ∀ p ∈ E.map (lateOf l), D.stills p.2 = true := fun p hp' => by
    obtain ⟨j, hj, rfl⟩ := List.mem_map.1 hp'
    have h1 := hjs j (hmE hj)
    unfold lateIs at h1
    unfold lateOf
    split at h1
    ·exact h1
    ·cases h1
   have hname : ∀ p ∈ E.map (lateOf l), (js.map fun j => (lateOf l j).1).contains p.1 = true := fun p hp' => by
    obtain ⟨j, hj, rfl⟩ := List.mem_map.1 hp'
    exact List.contains_iff_mem.2 (List.mem_map.2 ⟨j, hmE hj, rfl⟩)
   -- what may come
   have hsplit : ∀ k ∈ Region.ready .any ops lc, (∃ is', is = k :: is') ∨ k ∈ R := fun k hk' => by
    by_cases hkj : k ∈ js
    ·right
     rcases List.mem_append.1 (hp.mem_iff.2 hkj) with h1 | h1
     ·obtain ⟨h2, h3⟩ := getD_true.1 (mem_ready.1 hk').1
      rw [hlc, decide_eq_true h1, decide_eq_true (show k < lb.size by omega)] at h3
      simp at h3
     ·exact h1
    ·have h0 := hlb (mem_ready.1 hk').1
     obtain ⟨h2, h3⟩ := getD_true.1 h0
     cases is with
     | nil =>
       cases R with
       | nil => simp at hn
       | cons j0 R' =>
         exfalso
         have h4 := hend j0 (hmR List.mem_cons_self)
         rw [← hle] at h4
         have h5 : k ∈ Region.ready .any ops (setAll lb (js.erase j0)) := by
          refine ready_mono (fun m hm => ?_) (getD_true.2 ⟨by rw [setAll_size]; exact h2, ?_⟩) hk'
          ·rw [setAll_get]
           rw [hlc] at hm
           rcases Bool.or_eq_true_iff.1 hm with hm | hm
           ·rw [hm, Bool.true_or]
           ·simp only [Bool.and_eq_true, decide_eq_true_eq] at hm
            have : m ∈ js.erase j0 := (List.mem_erase_of_ne (show m ≠ j0 from fun e => hdis List.mem_cons_self (by rw [← e]; exact hm.1))).2 (hmE hm.1)
            simp [this, hm.2]
          ·rw [setAll_get, h3, decide_eq_false (fun h => hkj (List.mem_of_mem_erase h))]; rfl
         have h4' : Region.ready .any ops (setAll lb (js.erase j0)) = [j0] := h4
         rw [h4', List.mem_singleton] at h5
         exact hkj (h5 ▸ hmR List.mem_cons_self)
     | cons i is' =>
       left
       simp only [seqOK, Bool.and_eq_true, beq_iff_eq] at hsq
       have h5 : k ∈ Region.ready .any ops (setAll lb js) := by
        refine ready_mono (fun m hm => ?_) (getD_true.2 ⟨by rw [setAll_size]; exact h2, ?_⟩) hk'
        ·rw [setAll_get]
         rw [hlc] at hm
         rcases Bool.or_eq_true_iff.1 hm with hm | hm
         ·rw [hm, Bool.true_or]
         ·simp only [Bool.and_eq_true, decide_eq_true_eq] at hm
          simp [hmE hm.1, hm.2]
        ·rw [setAll_get, h3, decide_eq_false hkj]; rfl
       rw [hsq.1, List.mem_singleton] at h5
       exact ⟨is', by rw [h5]⟩
   refine ⟨fun h => ?_, fun k hk' => ?_⟩
   ·exfalso
    cases R with
    | cons j R' => have := hRr (k := j) List.mem_cons_self; rw [h] at this; cases this
    | nil =>
      cases is with
      | nil => simp at hn
      | cons i is' =>
        simp only [seqOK, Bool.and_eq_true, beq_iff_eq] at hsq
        rw [List.append_nil] at hp
        have hlc' : lc = setAll lb js := by
         refine arr_ext (by rw [setAll_size]; exact hsz) fun k => ?_
         rw [hlc, setAll_get, decide_eq_decide.2 (hp.mem_iff (a := k))]
        rw [hlc', hsq.1] at h
        cases h
   ·have hlt : k < ops.size := by
     obtain ⟨_, o, ho, _⟩ := mem_ready.1 hk'
     exact (Array.getElem?_eq_some_iff.1 ho).1
    rcases hsplit k hk' with ⟨is', rfl⟩ | hkR
    ·-- a call
     simp only [lateRun] at hk
     split at hk
     ·rename_i t f args hao
      obtain ⟨hkt, hk⟩ := hk
      obtain ⟨o, ho, hco, hdst⟩ := l_get hl hd hlt hao
      obtain ⟨hcomp, hde⟩ := compO_op hco
      unfold wpOp
      simp only [ho]
      have hs0 : SR C st g a w := hs.unadds fun p hp' => fresh_no hfr (hname p hp')
      obtain ⟨st1, _, ⟨hw, _⟩ | ⟨_, hno⟩⟩ := guard_sound hco hs0 (yes := fun _ => True) (no := fun _ => False) (by simp only [guarded])
      ·rw [if_pos hw]
       refine .inl ?_
       have hp1 : ¬ (AOp.call f args).plain = true := by intro h; cases h
       rcases comp_inv hcomp (by simpa using hp1) with ⟨c, x, y, ho', he⟩ | ⟨c, f', ho', hc, he⟩ | ⟨c, x, ho', hc, he⟩ | ⟨c, x, y, t', e, i, z, ho', hc, ha, ht', hu, hi, hz, hzs, hpos, he⟩ | ⟨neg, t, x, t2, e, ho, hu, he⟩
       ·cases he
       ·cases he
        refine pure_sound hk hs0 (Reps.evs hs0 c.args.toList) ho' (by simp [resolve, hc, Act.eval, Deferred.ofValue, invoke, map_arr]) _ Q fun d g' v w' h1 h2 h3 h4 => ?_
        have hs1 := hs.readds h1 h4 hstills
        have hdt : o.dst = some t := hde.symm
        have hs2 := hs1.puto hdst h2
        rw [hdt] at hs2
        have hte : lk (E.map (lateOf l)) t = none := by
         cases hlk : lk (E.map (lateOf l)) t with
         | none => rfl
         | some ds => have := hname _ (lk_in hlk); rw [hkt] at this; cases this
        have hs3 : SR C (adds (E.map (lateOf l)) (st.put t d)) g' (a.put o.dst v) w' := by rw [hdt]; exact SR.adds_put hs2 hte
        have hT' : TL Ta (Tc.filter fun q => !waits tb k q.1) g' w' := fun p hp' => (hT.after (t := none) (by simp [clear]) h4) p (List.mem_filter.1 hp').1
        refine ⟨hT'.here, ?_⟩
        simp only [seqOK, Bool.and_eq_true, beq_iff_eq] at hsq
        have hkj : k ∉ js := fun h => by
         have : k ∈ Region.ready .any ops (setAll lb js) := by rw [hsq.1]; exact List.mem_cons_self
         obtain ⟨h5, h6⟩ := getD_true.1 (mem_ready.1 this).1
         rw [setAll_size] at h5
         rw [setAll_get, decide_eq_true h, decide_eq_true h5] at h6
         simp at h6
        refine ih is' E R (lb.setIfInBounds k true) _ fuel _ _ g' _ w' (by simp only [List.length_cons] at hn; omega) (by omega) hp (by simp [hsz]) (fun m => ?_) hle hsq.2 (fun j hj => ?_) (Reach.step _ _ hr hk') (listed_filter hk' hTl _) hT' (fresh_put hfr hkt h3.1) hs3 h3.2
        ·rw [getD_set, getD_set, hlc, hsz, Array.size_setIfInBounds]
         cases lb.getD m false <;> cases decide (m ∈ E) <;> cases decide (m < lb.size) <;> cases decide (m = k) <;> rfl
        ·have h5 := hrj j hj
         obtain ⟨h6, h7⟩ := getD_true.1 (mem_ready.1 h5).1
         refine ready_mono (fun m hm => by rw [getD_set, hm, Bool.true_or]) (getD_true.2 ⟨by simpa using h6, ?_⟩) h5
         rw [getD_set, h7, decide_eq_false (show ¬ j = k from fun e => hkj (by rw [← e]; exact hj))]; rfl
       ·cases he
       ·cases he
       ·cases he
      ·exact hno.elim
     ·exact hk.elim
    ·-- a new variable
     have hji := hjs k (hmR hkR)
     have hkc := hclr k (hmR hkR)
     have hkn : (js.map fun j => (lateOf l j).1).contains (lateOf l k).1 = true := List.contains_iff_mem.2 (List.mem_map.2 ⟨k, hmR hkR, rfl⟩)
     obtain ⟨m, ty, zs, hao, hlk, hzs⟩ : ∃ m ty zs, l[k]? = some ⟨none, some m, .alloc ty zs⟩ ∧ lateOf l k = (m, zs) ∧ D.stills zs = true := by
      unfold lateIs at hji
      split at hji
      ·rename_i n ty zs hlj
       exact ⟨n, ty, zs, hlj, by unfold lateOf; rw [hlj], hji⟩
      ·cases hji
     rw [hlk] at hkc hkn
     simp only at hkc hkn
     obtain ⟨o, ho, hco, hdst⟩ := l_get hl hd hlt hao
     obtain ⟨hcomp, hde⟩ := compO_op hco
     unfold wpOp
     simp only [ho]
     obtain ⟨st1, _, ⟨hw, _⟩ | ⟨_, hno⟩⟩ := guard_sound hco hs (yes := fun _ => True) (no := fun _ => False) (by simp only [guarded])
     ·rw [if_pos hw]
      have hne : ∀ p ∈ E.map (lateOf l), p.1 ≠ m ∧ D.stills p.2 = true := fun p hp' => by
       refine ⟨fun e => ?_, hstills p hp'⟩
       obtain ⟨j, hj, rfl⟩ := List.mem_map.1 hp'
       have hjk : j = k := by
        exact nodup_inj hnn (hmE hj) (hmR hkR) (by rw [e, hlk])
       exact hdis hkR (hjk ▸ hj)
      have hex : astep C.P ⟨none, o.dst, .alloc ty zs⟩ (adds (E.map (lateOf l)) st) fun s => s = adds ((k :: E).map (lateOf l)) st := by
       have hdt : o.dst = some m := hde.symm
       rw [astep_plain (by rfl), hdt]
       simp only [AOp.ex]
       rw [fresh_adds hfr hkn hne, List.map_cons, hlk]
       rfl
      refine .inl (astep_sound hcomp hdst none hs hex _ Q fun st' g' a' w' h1 h2 h3 => ?_)
      subst h2
      have hsf : SF g w g' w' (some m) := by
       have := h3 rfl
       have hdt : o.dst = some m := hde.symm
       rw [hdt] at this
       exact this
      have hT' : TL Ta (Tc.filter fun q => !waits tb k q.1) g' w' := fun p hp' => (hT.after hkc hsf) p (List.mem_filter.1 hp').1
      refine ⟨hT'.here, ?_⟩
      have hpR : R.Perm (k :: R.erase k) := List.perm_cons_erase hkR
      refine ih is (k :: E) (R.erase k) lb _ fuel _ st g' a' w' (by rw [List.length_erase_of_mem hkR]; have := List.length_pos_of_mem hkR; omega) (by omega) ?_ (by simp [hsz]) (fun i => ?_) hle hsq hrj (Reach.step _ _ hr hk') (listed_filter hk' hTl _) hT' hfr h1 hk
      ·refine List.Perm.trans ?_ hp
       refine List.Perm.trans ?_ (List.Perm.append_left E hpR.symm)
       exact List.perm_middle.symm
      ·rw [getD_set, hlc, hsz]
       by_cases h1 : i = k <;> by_cases h2 : i ∈ E <;> by_cases h3 : i < lb.size <;> simp [h1, h2, h3] <;> simp_all
     ·exact hno.elim

mutual
theorem drun_sound (hl : compL C.P ops (List.range ops.size) = some l) (hd : l.all (dstOK C.wr) = true) (ht : tabOK .any ops tb = true) (hsel : Region.noSelect ops = true) {K : St → Prop}
 (hq : ∀ st' g' a' w', SR C st' g' a' w' → K st' → Q .normal a' w') (hpan : ∀ c a w, ¬ Q (.panic c) a w) :
 ∀ (p : Plan) (fuel : Nat) (listed : Array Bool) (Ta : List (Nat × Nat)) (Tc : Pend) (st : St) (g : Gh) (a : Act) (w : World), planOK ops tb listed p = true → p.size ≤ fuel → Reach .any ops listed → (∀ p ∈ Tc, listed[p.1]? = some true) →
   TL Ta Tc g w → SR C st g a w → drun C.P l tb p Ta st K → wpAnyT C.P .any ops Q tb fuel Tc listed a w
 | .done, fuel, listed, Ta, Tc, st, g, a, w, hp, _, _, _, _, hs, hk => by
   simp only [planOK, beq_iff_eq] at hp
   simp only [drun] at hk
   have h := hq st g a w hs hk
   cases fuel with
   | zero => exact ⟨hp, h⟩
   | succ fuel => exact ⟨fun _ => h, by rw [hp]; simp⟩
 | .take i p, 0, _, _, _, _, _, _, _, _, hf, _, _, _, _, _ => by simp [Plan.size] at hf
 | .take i p, fuel + 1, listed, Ta, Tc, st, g, a, w, hp, hf, hr, hTl, hT, hs, hk => by
   simp only [planOK, Bool.and_eq_true] at hp
   simp only [drun] at hk
   split at hk
   ·rename_i ao hao
    have hrd : i ∈ Region.ready .any ops listed := by simpa using hp.1.2
    have hlt : i < ops.size := by
     obtain ⟨_, o, ho, _⟩ := mem_ready.1 hrd
     exact (Array.getElem?_eq_some_iff.1 ho).1
    obtain ⟨o, ho, hco, hdst⟩ := l_get hl hd hlt hao
    obtain ⟨hcomp, hde⟩ := compO_op hco
    have hsz : p.size ≤ fuel := by simp only [Plan.size] at hf; omega
    have hTl' : ∀ S : World → Prop, ∀ p ∈ ((i, S) :: Tc : Pend), (listed.setIfInBounds i true)[p.1]? = some true := listed_push hrd hTl
    obtain ⟨st1, hs, ⟨hw, hk⟩ | ⟨hw, hk⟩⟩ := guard_sound hco hs hk
    ·have hk' : tstep ⟨ao.guard, o.dst, ao.op⟩ st1 (fun r st' => drun C.P l tb p (pendTo Ta i r) st' K) := by rw [← hde]; exact hk
     obtain ⟨v, r, st', h1, h2, h3⟩ := tstep_sound hcomp hdst ao.guard hs hk'
     refine wpAnyT_first ht (v := v) (S := Keep g r w) ho (Region.noSelect_spec hsel) (fun c a w h => absurd h (hpan _ _ _)) fuel Tc listed a w hr (Region.free_spec ho hp.1.1) hrd (.inl ⟨hw, h1⟩) (Keep.refl _ _ _)
      (fun q hq => hT.here q (List.mem_filter.1 hq).1) ?_
     exact drun_sound hl hd ht hsel hq hpan p fuel _ (pendTo Ta i r) _ st' g _ w hp.2 hsz (Reach.step _ _ hr hrd) (hTl' _) (hT.push i r fun _ h => h) h2 h3
    ·refine wpAnyT_first ht (v := undef) (S := fun _ => True) ho (Region.noSelect_spec hsel) (fun c a w h => absurd h (hpan _ _ _)) fuel Tc listed a w hr (Region.free_spec ho hp.1.1) hrd (.inr ⟨hw, rfl⟩) trivial
      (fun q hq => hT.here q (List.mem_filter.1 hq).1) ?_
     rw [hde] at hk
     exact drun_sound hl hd ht hsel hq hpan p fuel _ Ta _ _ g _ w hp.2 hsz (Reach.step _ _ hr hrd) (hTl' _) (hT.push i none fun _ _ => trivial) (hs.puto hdst rep_undef) hk
   ·exact hk.elim
 | .alts L, 0, _, _, _, _, _, _, _, _, hf, _, _, _, _, _ => by simp [Plan.size] at hf
 | .alts L, fuel + 1, listed, Ta, Tc, st, g, a, w, hp, hf, hr, hTl, hT, hs, hk => by
   simp only [planOK, Bool.and_eq_true, beq_iff_eq] at hp
   simp only [drun] at hk
   refine ⟨fun h => ?_, fun j hj => ?_⟩
   ·have h2 := hp.1.2
    rw [← hp.1.1, h] at h2
    simp at h2
   ·exact dalts_sound hl hd ht hsel hq hpan L fuel listed Ta Tc st g a w hp.2 (by simp only [Plan.size] at hf; omega) hr hTl hT hs hk j (by rw [← hp.1.1]; exact hj) hj
 | .late js is p, fuel, listed, Ta, Tc, st, g, a, w, hp, hf, hr, hTl, hT, hs, hk => by
   simp only [planOK, Bool.and_eq_true] at hp
   simp only [drun] at hk
   simp only [Plan.size] at hf
   obtain ⟨hB, hk⟩ := hk
   simp only [lateB, Bool.and_eq_true, List.all_eq_true, decide_eq_true_eq] at hB
   obtain ⟨⟨⟨hB1, hB2⟩, hB3⟩, hB4⟩ := hB
   have hO := hp.1
   simp only [lateOK, Bool.and_eq_true, List.all_eq_true, decide_eq_true_eq, beq_iff_eq] at hO
   obtain ⟨⟨⟨hO1, hO2⟩, hO3⟩, hO4⟩ := hO
   refine late_sound hl hd hpan (lend := setAll listed is) hB1 hO2 (nodupB_ok hB2) hB4 hO4 (fun fuel Tc st g a w hf hr hTl hT hs hk => ?_) _ is [] js listed listed fuel Tc st g a w rfl (by omega) (List.Perm.refl _) rfl (fun k => by simp) rfl hO3 (fun j hj => by simpa using hO1 j hj) hr hTl hT hB3 hs hk
   exact drun_sound hl hd ht hsel hq hpan p fuel _ Ta Tc _ g a w hp.2 hf hr hTl hT hs hk
theorem dalts_sound (hl : compL C.P ops (List.range ops.size) = some l) (hd : l.all (dstOK C.wr) = true) (ht : tabOK .any ops tb = true) (hsel : Region.noSelect ops = true) {K : St → Prop}
 (hq : ∀ st' g' a' w', SR C st' g' a' w' → K st' → Q .normal a' w') (hpan : ∀ c a w, ¬ Q (.panic c) a w) :
 ∀ (L : Alts) (fuel : Nat) (listed : Array Bool) (Ta : List (Nat × Nat)) (Tc : Pend) (st : St) (g : Gh) (a : Act) (w : World), altsOK ops tb listed L = true → L.size ≤ fuel → Reach .any ops listed → (∀ p ∈ Tc, listed[p.1]? = some true) →
   TL Ta Tc g w → SR C st g a w → dalts C.P l tb L Ta st K → ∀ j, j ∈ L.ids → j ∈ Region.ready .any ops listed →
   wpOp C.P ops Q j (fun a' w' => (∀ p ∈ Tc.filter (fun p => !waits tb j p.1), p.2 w') ∧ wpAnyT C.P .any ops Q tb fuel (Tc.filter fun p => !waits tb j p.1) (listed.setIfInBounds j true) a' w') a w
 | .nil, _, _, _, _, _, _, _, _, _, _, _, _, _, _, _, j, hj, _ => by simp [Alts.ids] at hj
 | .cons i e p L, fuel, listed, Ta, Tc, st, g, a, w, hp, hf, hr, hTl, hT, hs, hk, j, hj, hrd => by
   simp only [altsOK, Bool.and_eq_true] at hp
   simp only [dalts] at hk
   simp only [Alts.ids, List.mem_cons] at hj
   simp only [Alts.size] at hf
   by_cases hji : j = i
   ·subst hji
    have hk := hk.1
    split at hk
    ·rename_i ao hao
     have hlt : j < ops.size := by
      obtain ⟨_, o, ho, _⟩ := mem_ready.1 hrd
      exact (Array.getElem?_eq_some_iff.1 ho).1
     obtain ⟨o, ho, hco, hdst⟩ := l_get hl hd hlt hao
     obtain ⟨hcomp, hde⟩ := compO_op hco
     unfold wpOp
     simp only [ho]
     obtain ⟨st1, hs, ⟨hw, hk⟩ | ⟨hw, hk⟩⟩ := guard_sound hco hs hk
     ·rw [if_pos hw]
      have hk' : xstep C.P e ⟨ao.guard, o.dst, ao.op⟩ st1 (fun t st' => clear (Ta.filter fun q => !waits tb j q.1) t = true ∧ drun C.P l tb p (Ta.filter fun q => !waits tb j q.1) st' K) := by rw [← hde]; exact hk
      refine .inl (xstep_sound hcomp hdst ao.guard hs hk' _ Q fun st' g' a' w' t h1 h2 h3 => ?_)
      have hT' : TL (Ta.filter fun q => !waits tb j q.1) (Tc.filter fun q => !waits tb j q.1) g' w' := by
       rcases h3 with he | h3
       ·rw [pend_none hp.1.1 he hTl]
        exact fun p hp => by cases hp
       ·exact (hT.filter fun k => !waits tb j k).after h2.1 h3
      exact ⟨hT'.here, drun_sound hl hd ht hsel hq hpan p fuel _ _ _ st' g' a' w' hp.1.2 (by omega) (Reach.step _ _ hr hrd) (listed_filter hrd hTl _) hT' h1 h2.2⟩
     ·rw [if_neg (by simp [hw])]
      rw [hde] at hk
      have hT' := hT.filter fun k => !waits tb j k
      exact ⟨hT'.here, drun_sound hl hd ht hsel hq hpan p fuel _ _ _ _ g _ w hp.1.2 (by omega) (Reach.step _ _ hr hrd) (listed_filter hrd hTl _) hT' (hs.puto hdst rep_undef) hk⟩
    ·exact hk.elim
   ·exact dalts_sound hl hd ht hsel hq hpan L fuel listed Ta Tc st g a w hp.2 (by omega) hr hTl hT hs hk.2 j (hj.resolve_left hji) hrd
 | .consF i p L, fuel, listed, Ta, Tc, st, g, a, w, hp, hf, hr, hTl, hT, hs, hk, j, hj, hrd => by
   simp only [altsOK, Bool.and_eq_true] at hp
   simp only [dalts] at hk
   simp only [Alts.ids, List.mem_cons] at hj
   simp only [Alts.size] at hf
   by_cases hji : j = i
   ·subst hji
    have hk := hk.1
    split at hk
    ·rename_i ao hao
     have hlt : j < ops.size := by
      obtain ⟨_, o, ho, _⟩ := mem_ready.1 hrd
      exact (Array.getElem?_eq_some_iff.1 ho).1
     obtain ⟨o, ho, hco, hdst⟩ := l_get hl hd hlt hao
     obtain ⟨hcomp, hde⟩ := compO_op hco
     unfold wpOp
     simp only [ho]
     obtain ⟨hgn, hwp⟩ := fstep_sound hcomp hde hdst hs hk (fun a' w' => (∀ p ∈ Tc.filter (fun p => !waits tb j p.1), p.2 w') ∧ wpAnyT C.P .any ops Q tb fuel (Tc.filter fun p => !waits tb j p.1) (listed.setIfInBounds j true) a' w') Q fun st' g' a' w' t h1 h2 h3 => by
      have hT' : TL (Ta.filter fun q => !waits tb j q.1) (Tc.filter fun q => !waits tb j q.1) g' w' := (hT.filter fun k => !waits tb j k).after h2.1 h3
      exact ⟨hT'.here, drun_sound hl hd ht hsel hq hpan p fuel _ _ _ st' g' a' w' hp.1 (by omega) (Reach.step _ _ hr hrd) (listed_filter hrd hTl _) hT' h1 h2.2⟩
     obtain ⟨st1, _, ⟨hw, _⟩ | ⟨_, hno⟩⟩ := guard_sound hco hs (yes := fun _ => True) (no := fun _ => False) (by simp only [guarded, hgn])
     ·rw [if_pos hw]
      exact .inl hwp
     ·exact hno.elim
    ·exact hk.elim
   ·exact dalts_sound hl hd ht hsel hq hpan L fuel listed Ta Tc st g a w hp.2 (by omega) hr hTl hT hs hk.2 j (hj.resolve_left hji) hrd
end

theorem draw_ops (hm : C.P.follows .mixedOrders = true) (hl : compL C.P ops (List.range ops.size) = some l) (hd : l.all (dstOK C.wr) = true) (ht : tabOK .any ops tb = true) (hsel : Region.noSelect ops = true) {K : St → Prop}
 (hq : ∀ st' g' a' w', SR C st' g' a' w' → K st' → Q .normal a' w') (hpan : ∀ c a w, ¬ Q (.panic c) a w) (p : Plan) (hp : planOK ops tb (Array.replicate ops.size false) p = true) (hsz : p.size ≤ ops.size)
 (hs : SR C st g a w) (hk : drun C.P l tb p [] st K) (t : Nat) : wpOps C.P ops Q (Region.schedule (C.P.follows .mixedOrders) ops t) a { w with drawn := w.drawn + 1 } := by
 simp only [Region.schedule, hm, Bool.true_or, if_true]
 exact wpAny_sound ops.size t _ a _ (wpAny_of_T _ [] _ _ _ (drun_sound hl hd ht hsel hq hpan p _ _ [] [] st g a _ hp hsz .init (fun p hp => by cases hp) (fun p hp => by cases hp) (hs.same rfl rfl rfl rfl) hk))

end


theorem Mem.has_lt {C : Ctx} {bs : List (Nat × List D)} {ms : List (Nat × MO)} {g : Gh} {w : World} (m : Mem C bs ms g w) {k0 k : Nat} (h : g.has k0 k) : k < w.heap.size := by
 rcases h with ⟨n, _, h⟩ | ⟨t, v, e, h1, h2⟩ | h | ⟨_, o, h⟩
 ·exact (m.bxok n k h).1
 ·obtain ⟨_, _, _, _, _, h3, _⟩ := m.tks t v e h1
  exact (h3.lt k h2).2
 ·exact (Array.getElem?_eq_some_iff.1 (m.dfs k h).2).1
 ·exact m.fzlt k o h

theorem ownsRow_block {w w' : World} {e : TypeId} {size : Nat} {v : Value} {n : Nat} {xs : List Value} (h : w.ownsRow 0 e size v n xs) (hb : ∀ b, v.ownBlock = some b → b < w.heap.size → w'.heap[b]? = w.heap[b]?) : w'.ownsRow 0 e size v n xs := by
 refine ⟨h.1, ?_⟩
 rcases h.2 with hn | ⟨gb, cap, cur, rfl, h0, hgg, rest⟩
 ·exact .inl hn
 ·exact .inr ⟨gb, cap, cur, rfl, h0, (hb gb rfl (Array.getElem?_eq_some_iff.1 hgg).1).trans hgg, rest⟩

theorem Mem.keepD {C : Ctx} {bs : List (Nat × List D)} {ms : List (Nat × MO)} {g : Gh} {w : World} (m : Mem C bs ms g w) {w' : World} {R : Nat → Prop} (hk : KeepD R w w')
 (hR : ∀ k, k < w.heap.size → R k → (C.w0.heap.size ≤ k ∨ C.S k ∨ C.Dm k) ∧ (∀ n, g.bx n ≠ some k) ∧ (∀ t v e, g.tk t = some (v, e) → v.ownBlock ≠ some k) ∧ (∀ D ∈ g.df, D ≠ k) ∧ (∀ o, ¬ g.Fz k o)) :
 Mem C bs ms g w' ∧ Gr g w g w' := by
 have hex : Ex g.Fz w g.Fz w' := fun b o hf => ⟨hf, World.cell?_of_block (hk.block b (m.fzlt b o hf) (fun e => (hR b (m.fzlt b o hf) e).2.2.2.2 o hf))⟩
 have hgr : Gr g w g w' := ⟨fun _ _ h => h, fun _ _ h => h, hex⟩
 have hbx : ∀ n b, g.bx n = some b → w'.heap[b]? = w.heap[b]? := fun n b h => hk.block b (m.bxok n b h).1 (fun e => (hR b (m.bxok n b h).1 e).2.1 n h)
 refine ⟨?_, hgr⟩
 exact {
  os := hk.os.trans m.os
  tape := hk.tape.trans m.tape
  output := hk.output.trans m.output
  hsz := Nat.le_trans m.hsz hk.size
  old := fun k h1 hs hd => (hk.block k (Nat.lt_of_lt_of_le h1 m.hsz) (fun e => by
   rcases (hR k (Nat.lt_of_lt_of_le h1 m.hsz) e).1 with h | h | h
   ·omega
   ·exact hs h
   ·exact hd h)).trans (m.old k h1 hs hd)
  keep := m.keep.trans hex
  newfz := m.newfz
  fzlt := fun b o hf => Nat.lt_of_lt_of_le (m.fzlt b o hf) hk.size
  bxs := fun n ds hn => by
   obtain ⟨b, cs, t, h1, h2, h3⟩ := m.bxs n ds hn
   exact ⟨b, cs, t, h1, (hbx n b h1).trans h2, h3.mono hgr⟩
  mps := fun n es hn => by
   obtain ⟨b, en, h1, h2, h3⟩ := m.mps n es hn
   exact ⟨b, en, h1, (hbx n b h1).trans h2, h3⟩
  bxok := fun n b hb => ⟨Nat.lt_of_lt_of_le (m.bxok n b hb).1 hk.size, (m.bxok n b hb).2⟩
  bxinj := m.bxinj
  tks := fun t v e ht => by
   obtain ⟨i, n, xs, h1, h2, h3, h4⟩ := m.tks t v e ht
   exact ⟨i, n, xs, h1, h2, ownsRow_block h3 (fun b hb hlt => hk.block b hlt (fun hr => (hR b hlt hr).2.2.1 t v e ht hb)), h4⟩
  tkinj := m.tkinj
  bxtk := m.bxtk
  dfs := fun D hD => by
   have hlt := (Array.getElem?_eq_some_iff.1 (m.dfs D hD).2).1
   exact ⟨(m.dfs D hD).1, (hk.block D hlt (fun e => (hR D hlt e).2.2.2.1 D hD rfl)).trans (m.dfs D hD).2⟩
  dnd := m.dnd
  bxdf := m.bxdf
  bxdm := m.bxdm }

def Gh.S (g : Gh) (b : Nat) : Prop := (∃ n, n < 1000000 ∧ g.bx n = some b) ∨ (∃ t v e, g.tk t = some (v, e) ∧ v.ownBlock = some b)

def NestOK (g : Gh) (N : Nat) (wr : Nat → Bool) : Prop := (∀ i, wr i = true → i < N ∧ g.bx i = none) ∧ ∀ n, 200000 ≤ n → n < 400000 → g.bx n = none

def Ctx.nest (P : Program) (w : World) (g : Gh) (N : Nat) (wr : Nat → Bool) (hwr : NestOK g N wr) : Ctx :=
 ⟨P, w, g.Fz, g.S, N, wr, g.bx, fun h _ _ => h = .no, fun _ => False, hwr.1, hwr.2, fun _ h => h.elim, fun _ _ _ _ _ _ h _ _ _ => h, fun _ _ (h : Hist.solo = .no) => by cases h⟩

theorem Mem.into {C : Ctx} {bs : List (Nat × List D)} {ms : List (Nat × MO)} {g : Gh} {w : World} (m : Mem C bs ms g w) (N : Nat) (wr : Nat → Bool) (hwr : NestOK g N wr) :
 Mem (.nest C.P w g N wr hwr) bs ms { g with df := [] } w where
 os := rfl
 tape := rfl
 output := rfl
 hsz := Nat.le_refl _
 old := fun _ _ _ _ => rfl
 keep := Ex.refl _ _
 newfz := fun _ _ h _ => .inl h
 fzlt := m.fzlt
 bxs := fun n ds hn => by
  obtain ⟨b, cs, t, h1, h2, h3⟩ := m.bxs n ds hn
  exact ⟨b, cs, t, h1, h2, Reps.mono (g := g) (g' := { g with df := [] }) ⟨fun _ _ h => h, fun _ _ h => h, Ex.refl _ _⟩ h3⟩
 mps := m.mps
 bxok := fun n b hb => ⟨(m.bxok n b hb).1, by
  by_cases h : n < 1000000
  ·exact .inr (.inl (.inl ⟨n, h, hb⟩))
  ·exact .inr (.inr (by omega)), (m.bxok n b hb).2.2⟩
 bxinj := m.bxinj
 tks := fun t v e ht => by
  obtain ⟨i, n, xs, h1, h2, h3, h4⟩ := m.tks t v e ht
  exact ⟨i, n, xs, h1, h2, h3, fun b hb => ⟨.inr (.inr ⟨t, v, e, ht, hb⟩), (h4 b hb).2⟩⟩
 tkinj := m.tkinj
 bxtk := m.bxtk
 dfs := fun D hD => by cases hD
 dnd := List.nodup_nil
 bxdf := fun n D hD => by cases hD
 bxdm := fun _ _ _ h => h

abbrev Gh.back (g g3 : Gh) : Gh := ⟨g.bx, g3.tk, g3.Fz, g.df⟩

theorem Mem.outof {C : Ctx} {bs0 bs bs4 : List (Nat × List D)} {ms0 ms : List (Nat × MO)} {g g3 : Gh} {w w3 : World} {N : Nat} {wr : Nat → Bool} {hwr : NestOK g N wr}
 (m : Mem C bs0 ms0 g w) (m3 : Mem (.nest C.P w g N wr hwr) bs ms g3 w3) (hpin : ∀ n b, g.bx n = some b → g3.bx n = some b)
 (hbs : ∀ n ds, lk bs4 n = some ds → ∃ b cs t, g.bx n = some b ∧ w3.heap[b]? = some (.cells cs t (0, 0)) ∧ Reps (g.back g3) w3 ds cs.toList) : Mem C bs4 [] (g.back g3) w3 := by
 have hS : ∀ b, g.S b → C.w0.heap.size ≤ b ∨ C.S b := fun b hb => by
  rcases hb with ⟨n, h1, h2⟩ | ⟨t, v, e, h1, h2⟩
  ·rcases (m.bxok n b h2).2.1 with h | h | h
   ·exact .inl h
   ·exact .inr h
   ·omega
  ·obtain ⟨_, _, _, _, _, _, h4⟩ := m.tks t v e h1
   exact (h4 b h2).1
 have hSdf : ∀ D ∈ g.df, ¬ g.S D := fun D hD hs => by
  rcases hs with ⟨n, h1, h2⟩ | ⟨t, v, e, h1, h2⟩
  ·exact m.bxdf n D hD h2
  ·obtain ⟨i, n, xs, _, _, h3, _⟩ := m.tks t v e h1
   rcases h3.2 with ⟨h4, _⟩ | ⟨gb, cap, cur, h4, _, hgg, _⟩
   ·rw [h4] at h2; cases h2
   ·rw [h4] at h2; cases h2
    rw [(m.dfs _ hD).2] at hgg; cases hgg
 exact {
  os := m3.os.trans m.os
  tape := m3.tape.trans m.tape
  output := m3.output.trans m.output
  hsz := Nat.le_trans m.hsz m3.hsz
  old := fun k h1 hs hd => (m3.old k (Nat.lt_of_lt_of_le h1 m.hsz) (fun h => by
   rcases hS k h with h | h
   ·omega
   ·exact hs h) (fun h => h)).trans (m.old k h1 hs hd)
  keep := m.keep.trans m3.keep
  newfz := fun b o hf hlt => by
   rcases m3.newfz b o hf (Nat.lt_of_lt_of_le hlt m.hsz) with h | h
   ·exact m.newfz b o h hlt
   ·rcases hS b h with h | h
    ·omega
    ·exact .inr h
  fzlt := m3.fzlt
  bxs := hbs
  mps := fun n es h => by simp [lk] at h
  bxok := fun n b hb => ⟨(m3.bxok n b (hpin n b hb)).1, (m.bxok n b hb).2.1, (m3.bxok n b (hpin n b hb)).2.2⟩
  bxinj := m.bxinj
  tks := fun t v e ht => by
   obtain ⟨i, n, xs, h1, h2, h3, h4⟩ := m3.tks t v e ht
   refine ⟨i, n, xs, h1, h2, h3, fun b hb => ⟨?_, (h4 b hb).2⟩⟩
   rcases (h4 b hb).1 with h | h
   ·exact .inl (Nat.le_trans m.hsz h)
   ·exact hS b h
  tkinj := m3.tkinj
  bxtk := fun n t b v e hb ht => m3.bxtk n t b v e (hpin n b hb) ht
  dfs := fun D hD => ⟨(m.dfs D hD).1, (m3.old D (Array.getElem?_eq_some_iff.1 (m.dfs D hD).2).1 (hSdf D hD) (fun h => h)).trans (m.dfs D hD).2⟩
  dnd := m.dnd
  bxdf := m.bxdf
  bxdm := m.bxdm }

mutual
def D.cut (ns : List Nat) (tk : Bool) : D → D
 | .ptr n o => if ns.contains n then .ptr n o else .any
 | .fn f caps => if caps.all (fun c => ns.contains c.1) then .fn f caps else .any
 | .mp _ => .any
 | .agg ds => .agg (D.cuts ns tk ds)
 | .tup ds => .tup (D.cuts ns tk ds)
 | .own e sz els t => if tk then .own e sz els t else .pd (.slice els)
 | .full sz els => .full sz els
 | .pd x => .pd x
 | .nils => .nils
 | .eptr cs => .eptr cs
 | .oelt t j cs => if tk then .oelt t j cs else .eptr cs
 | .any => .any
def D.cuts (ns : List Nat) (tk : Bool) : List D → List D
 | [] => []
 | d :: ds => D.cut ns tk d :: D.cuts ns tk ds
end

theorem Caps.cut {g g' : Gh} {ns : List Nat} (hb : ∀ n b, n ∈ ns → g.bx n = some b → g'.bx n = some b) : ∀ {cs : List (Nat × Nat)} {vs : List Value}, cs.all (fun c => ns.contains c.1) = true → Caps g cs vs → Caps g' cs vs
 | [], _, _, h => h
 | c :: cs, _, hn, ⟨b, vs', e, h, hs⟩ => by
   simp only [List.all_cons, Bool.and_eq_true, List.contains_iff_mem] at hn
   exact ⟨b, vs', e, hb _ _ hn.1 h, Caps.cut hb hn.2 hs⟩

section
variable {g g' : Gh} {w w' : World} {ns : List Nat} {tk : Bool}
mutual
theorem Rep.cut (hb : ∀ n b, n ∈ ns → g.bx n = some b → g'.bx n = some b) (ht : tk = true → ∀ t x, g.tk t = some x → g'.tk t = some x) (hx : Ex g.Fz w g'.Fz w') : ∀ {d : D} {v : Value}, Rep g w d v → Rep g' w' (d.cut ns tk) v
 | .pd _, _, h => by simp only [Rep, D.cut] at h ⊢; exact h.mono hx
 | .nils, _, h => by simp only [Rep, D.cut] at h ⊢; exact h
 | .own .., _, h => by
   simp only [Rep, D.cut] at h ⊢
   split
   ·rename_i htk
    simp only [Rep]
    exact ⟨h.1.mono hx, ht htk _ _ h.2.1, h.2.2⟩
   ·simp only [Rep]; exact h.1.mono hx
 | .full .., _, h => by simp only [Rep, D.cut] at h ⊢; exact ⟨h.1.mono hx, h.2⟩
 | .ptr n o, _, h => by
   simp only [Rep, D.cut] at h ⊢
   split
   ·rename_i hm
    simp only [Rep]; obtain ⟨b, hb', e⟩ := h; exact ⟨b, hb _ _ (List.contains_iff_mem.1 hm) hb', e⟩
   ·simp only [Rep]
 | .eptr _, _, h => by
   simp only [Rep, D.cut] at h ⊢
   obtain ⟨b, off, vs, e, hp, hc⟩ := h
   exact ⟨b, off, vs, e, hp.mono hx, fun i u hu => ⟨(hx _ _ (hc i u hu).2).2.trans (hc i u hu).1, (hx _ _ (hc i u hu).2).1⟩⟩
 | .oelt _ _ _, _, h => by
   simp only [Rep, D.cut] at h ⊢
   obtain ⟨⟨b, off, vs, e, hp, hc⟩, b', len, cap, et, h1, h2⟩ := h
   split
   ·rename_i htk
    simp only [Rep]
    exact ⟨⟨b, off, vs, e, hp.mono hx, fun i u hu => ⟨(hx _ _ (hc i u hu).2).2.trans (hc i u hu).1, (hx _ _ (hc i u hu).2).1⟩⟩, b', len, cap, et, ht htk _ _ h1, h2⟩
   ·simp only [Rep]
    exact ⟨b, off, vs, e, hp.mono hx, fun i u hu => ⟨(hx _ _ (hc i u hu).2).2.trans (hc i u hu).1, (hx _ _ (hc i u hu).2).1⟩⟩
 | .fn f caps, _, h => by
   simp only [Rep, D.cut] at h ⊢
   split
   ·rename_i hcs
    simp only [Rep]; obtain ⟨cv, e, hc⟩ := h; exact ⟨cv, e, hc.cut hb hcs⟩
   ·simp only [Rep]
 | .mp _, _, h => by simp only [D.cut, Rep]
 | .agg _, _, h => by simp only [Rep, D.cut] at h ⊢; obtain ⟨vs, e, hs⟩ := h; exact ⟨vs, e, Reps.cut hb ht hx hs⟩
 | .tup _, _, h => by simp only [Rep, D.cut] at h ⊢; obtain ⟨vs, e, hs⟩ := h; exact ⟨vs, e, Reps.cut hb ht hx hs⟩
 | .any, _, _ => by simp only [D.cut, Rep]
theorem Reps.cut (hb : ∀ n b, n ∈ ns → g.bx n = some b → g'.bx n = some b) (ht : tk = true → ∀ t x, g.tk t = some x → g'.tk t = some x) (hx : Ex g.Fz w g'.Fz w') : ∀ {ds : List D} {vs : List Value}, Reps g w ds vs → Reps g' w' (D.cuts ns tk ds) vs
 | [], _, h => by simpa only [D.cuts, Reps] using h
 | _ :: _, _, h => by simp only [Reps, D.cuts] at h ⊢; obtain ⟨v, vs', e, hv, hs⟩ := h; exact ⟨v, vs', e, Rep.cut hb ht hx hv, Reps.cut hb ht hx hs⟩
end
end

def bsOf (tk : Bool) (bs : List (Nat × List D)) (ns : List Nat) : List Nat → List (Nat × List D)
 | [] => []
 | n :: r => match lk bs n with
   | some ds => (n, D.cuts ns tk ds) :: bsOf tk bs ns r
   | none => bsOf tk bs ns r

theorem bsOf_lk {tk : Bool} {bs : List (Nat × List D)} {ns : List Nat} : ∀ {l : List Nat} {n : Nat} {ds : List D}, lk (bsOf tk bs ns l) n = some ds → ∃ ds0, n ∈ l ∧ lk bs n = some ds0 ∧ ds = D.cuts ns tk ds0
 | [], _, _, h => by simp [bsOf, lk] at h
 | m :: r, n, ds, h => by
   simp only [bsOf] at h
   split at h
   ·rename_i ds0 h0
    simp only [lk] at h
    split at h
    ·rename_i e
     subst e
     cases h
     exact ⟨ds0, by simp, h0, rfl⟩
    ·obtain ⟨d', h1, h2, h3⟩ := bsOf_lk h
     exact ⟨d', List.mem_cons_of_mem _ h1, h2, h3⟩
   ·obtain ⟨d', h1, h2, h3⟩ := bsOf_lk h
    exact ⟨d', List.mem_cons_of_mem _ h1, h2, h3⟩

def cutFr (ns : List Nat) (fr : List (Nat × D)) : List (Nat × D) := fr.map fun p => (p.1, D.cut ns false p.2)

abbrev Gh.cut (g : Gh) (ns : List Nat) : Gh := ⟨fun n => if n ∈ ns then g.bx n else none, fun _ => none, g.Fz, g.df⟩

theorem Mem.cut {C : Ctx} {bs : List (Nat × List D)} {ms : List (Nat × MO)} {g : Gh} {w : World} (m : Mem C bs ms g w) (ns : List Nat) : Mem C (bsOf false bs ns ns) [] (g.cut ns) w := by
 have hb : ∀ n b, (if n ∈ ns then g.bx n else none) = some b → n ∈ ns ∧ g.bx n = some b := fun n b h => by
  by_cases hn : n ∈ ns
  ·rw [if_pos hn] at h; exact ⟨hn, h⟩
  ·rw [if_neg hn] at h; cases h
 have hb' : ∀ n b, n ∈ ns → g.bx n = some b → (if n ∈ ns then g.bx n else none) = some b := fun n b hn h => by rw [if_pos hn]; exact h
 exact {
  os := m.os
  tape := m.tape
  output := m.output
  hsz := m.hsz
  old := m.old
  keep := m.keep
  newfz := m.newfz
  fzlt := m.fzlt
  bxs := fun n ds hn => by
   obtain ⟨ds0, h1, h2, rfl⟩ := bsOf_lk hn
   obtain ⟨b, cs, t, h3, h4, h5⟩ := m.bxs n ds0 h2
   exact ⟨b, cs, t, hb' n b h1 h3, h4, Reps.cut (g := g) (g' := g.cut ns) hb' (fun e => by cases e) (Ex.refl _ _) h5⟩
  mps := fun n es h => by simp [lk] at h
  bxok := fun n b h => m.bxok n b (hb n b h).2
  bxinj := fun n k b h h' => m.bxinj n k b (hb n b h).2 (hb k b h').2
  tks := fun t v e h => by cases h
  tkinj := fun t s v u e f b h => by cases h
  bxtk := fun n t b v e _ h => by cases h
  dfs := m.dfs
  dnd := m.dnd
  bxdf := fun n D hD h => m.bxdf n D hD (hb n D h).2
  bxdm := fun n b h => m.bxdm n b (hb n b h).2 }


def Post (C : Ctx) (K : Exit → St → Prop) : Exit → Act → World → Prop
 | .panic _, _, _ => False
 | .outgrown, _, _ => False
 | e, a, w => ∃ st g, SR C st g a w ∧ K e st

theorem post_out {C : Ctx} {K : Exit → St → Prop} : ¬ LetsOut (Post C K) := fun ⟨_, _, h⟩ => h

def Weak (P : Program) (st st' : St) : Prop := ∀ (C : Ctx) (g : Gh) (a : Act) (w : World), C.P = P → SR C st g a w → ∃ g', SR C st' g' a w

theorem Weak.refl (P : Program) (st : St) : Weak P st st := fun _ g _ _ _ h => ⟨g, h⟩
theorem Weak.trans {P : Program} {s1 s2 s3 : St} (h : Weak P s1 s2) (k : Weak P s2 s3) : Weak P s1 s3 := fun C g a w hc hs => let ⟨_, h1⟩ := h C g a w hc hs; k C _ a w hc h1

abbrev FW (ro : Option Nat) : Fence := { Fence.wide with round := ro }

section
variable {P : Program} {ro : Option Nat} {n : Nat} {o : Oper} {a : Act} {w : World} {next : Act → World → Prop} {Q : Exit → Act → World → Prop}

theorem calls_in {f : FuncId} {args : Array Value} {R : Ending → World → Prop} (h : Calls P f args w R) : CallsIn (FW ro) n P f args w R :=
 (callsIn_wide (n := n)).2 h

theorem oper_in (hnd : ∀ c, o.op ≠ .defer c) (h : o.wp P a w next Q) : o.wpIn (FW ro) n P a w next Q := by
 refine ⟨fun _ _ => trivial, ?_⟩
 rw [Oper.semAt_eq _ _ _ hnd]
 unfold Oper.wp at h
 generalize (execOp a.eval o).run P w = r at h
 cases r with
 | ok nx w' =>
   cases nx with
   | value v => exact h
   | skip => exact h
   | defer d => exact h
   | enter f args => exact ⟨fun h => by simp [Fence.wide] at h, calls_in h⟩
   | row r args => exact ⟨fun h => by simp [Fence.wide] at h, fun c cs _ => let ⟨v, w2, k, s⟩ := h c cs; ⟨v, w2, k, stepsIn_wide.2 s⟩⟩
   | _ => exact h.elim
 | halt x w' => cases x <;> first | exact h | exact h.elim

theorem wpOps_in {ops : Array Oper} (hnd : ∀ (i : Nat) (o : Oper), ops[i]? = some o → ∀ c, o.op ≠ .defer c) (hout : ¬ LetsOut Q) : ∀ (l : List Nat) (a : Act) (w : World), wpOps P ops Q l a w → wpOpsIn (FW ro) n P ops Q l a w
 | [], _, _, h => h
 | i :: l, a, w, h => by
   unfold wpOps at h
   unfold wpOpsIn
   cases ho : ops[i]? with
   | none => rw [ho] at h; exact wpOps_in hnd hout l a w h
   | some o =>
     rw [ho] at h
     simp only at h ⊢
     by_cases hw : Region.wanted o (yielded ops a.tmps) = true
     ·rw [if_pos hw] at h ⊢
      rcases h with h | ⟨_, h⟩
      ·exact oper_in (hnd i o ho) (Oper.wp_mono (fun a' w' h' => wpOps_in hnd hout l a' w' h') h)
      ·exact absurd h hout
     ·rw [if_neg hw] at h ⊢
      exact ⟨fun _ _ => trivial, wpOps_in hnd hout l _ w h⟩
end

theorem compL_nd {P : Program} {ops : Array Oper} {l : List AOper} (h : compL P ops (List.range ops.size) = some l) (i : Nat) (o : Oper) (ho : ops[i]? = some o) (c : Call) : o.op ≠ .defer c := by
 intro he
 have hlt := (Array.getElem?_eq_some_iff.1 ho).1
 have key : ∀ (idx : List Nat) (l : List AOper), compL P ops idx = some l → i ∈ idx → False := by
  intro idx
  induction idx with
  | nil => intro l _ hi; cases hi
  | cons j idx ih =>
    intro l h hi
    simp only [compL] at h
    split at h
    ·rename_i o' ho'
     split at h
     ·rename_i x xs h1 h2
      rcases List.mem_cons.1 hi with rfl | hi
      ·rw [ho] at ho'; cases ho'
       obtain ⟨h3, _⟩ := compO_op h1
       rw [he] at h3
       have hn : comp P (.defer c) = none := rfl
       rw [hn] at h3; cases h3
      ·exact ih xs h2 hi
     ·cases h
    ·cases h
 exact key _ l h (List.mem_range.2 hlt)

structure YOK (C : Ctx) : Prop where
 round : ∀ l xs i vs O w n, xs[i]? = some vs → C.X (.it l xs i false) O w → (∀ k, O k → k < w.heap.size) →
  YieldAt (FW none) n C.P l vs.toArray w fun e w' => ∃ b, e = .returned (.bool b) ∧ C.X (.it l xs (i + 1) (!b)) O w' ∧ KeepD (fun k => C.Dm k ∨ (C.w0.heap.size ≤ k ∧ ¬ O k)) w w'

section
variable {C : Ctx} {st : St} {g : Gh} {a : Act} {w : World}

theorem SR.told (hs : SR C st g a w) {w' : World} (hk : KeepD (fun k => C.Dm k ∨ (C.w0.heap.size ≤ k ∧ ¬ g.has C.w0.heap.size k)) w w') {h' : Hist} (hx : C.X h' (g.has C.w0.heap.size) w') : SR C { st with hs := h' } g a w' := by
 have m := hs.mem
 have nfz : ∀ b o, g.Fz b o → ¬ (C.Dm b ∨ (C.w0.heap.size ≤ b ∧ ¬ g.has C.w0.heap.size b)) := fun b o hf hd => by
  rcases hd with hd | ⟨h1, h2⟩
  ·obtain ⟨h1, h2, h3⟩ := C.dmok b hd
   rcases m.newfz b o hf h1 with h | h
   ·exact h3 o h
   ·exact h2 h
  ·exact h2 (.inr (.inr (.inr ⟨h1, o, hf⟩)))
 have ntk : ∀ b t v e, g.tk t = some (v, e) → v.ownBlock = some b → ¬ (C.Dm b ∨ (C.w0.heap.size ≤ b ∧ ¬ g.has C.w0.heap.size b)) := fun b t v e ht hv hd => by
  rcases hd with hd | ⟨h1, h2⟩
  ·obtain ⟨h1, h2, h3⟩ := C.dmok b hd
   obtain ⟨_, _, _, _, _, _, h4⟩ := m.tks t v e ht
   rcases (h4 b hv).1 with h | h
   ·omega
   ·exact h2 h
  ·exact h2 (.inr (.inl ⟨t, v, e, ht, hv⟩))
 have ndf : ∀ D ∈ g.df, ¬ (C.Dm D ∨ (C.w0.heap.size ≤ D ∧ ¬ g.has C.w0.heap.size D)) := fun b hD hd => by
  rcases hd with hd | ⟨h1, h2⟩
  ·have := (C.dmok b hd).1
   have := (m.dfs b hD).1
   omega
  ·exact h2 (.inr (.inr (.inl hD)))
 have nbx : ∀ n b, g.bx n = some b → ¬ (C.Dm b ∨ (C.w0.heap.size ≤ b ∧ ¬ g.has C.w0.heap.size b)) := fun n b hb hd => by
  rcases hd with hd | ⟨h1, h2⟩
  ·exact m.bxdm n b hb hd
  ·exact h2 (.inl ⟨n, .inr h1, hb⟩)
 have hex : Ex g.Fz w g.Fz w' := fun b o hf => ⟨hf, World.cell?_of_block (hk.block b (m.fzlt b o hf) (nfz b o hf))⟩
 have hgr : Gr g w g w' := ⟨fun _ _ h => h, fun _ _ h => h, hex⟩
 refine ⟨hs.defers, hs.size, fun i d hd => ⟨(hs.rep i d hd).1, (hs.rep i d hd).2.mono hgr⟩, ?_, hx, hs.fix⟩
 exact {
  os := hk.os.trans m.os
  tape := hk.tape.trans m.tape
  output := hk.output.trans m.output
  hsz := Nat.le_trans m.hsz hk.size
  old := fun k h1 h2 h3 => (hk.block k (Nat.lt_of_lt_of_le h1 m.hsz) (fun h => by
   rcases h with h | ⟨h, _⟩
   ·exact h3 h
   ·omega)).trans (m.old k h1 h2 h3)
  keep := m.keep.trans hex
  newfz := m.newfz
  fzlt := fun b o hf => Nat.lt_of_lt_of_le (m.fzlt b o hf) hk.size
  bxs := fun n ds hn => by
   obtain ⟨b, cs, t, h1, h2, h3⟩ := m.bxs n ds hn
   exact ⟨b, cs, t, h1, (hk.block b (m.bxok n b h1).1 (nbx n b h1)).trans h2, h3.mono hgr⟩
  mps := fun n es hn => by
   obtain ⟨b, en, h1, h2, h3⟩ := m.mps n es hn
   exact ⟨b, en, h1, (hk.block b (m.bxok n b h1).1 (nbx n b h1)).trans h2, h3⟩
  bxok := fun n b hb => ⟨Nat.lt_of_lt_of_le (m.bxok n b hb).1 hk.size, (m.bxok n b hb).2⟩
  bxinj := m.bxinj
  tks := fun t v e ht => by
   obtain ⟨i, n, xs, h1, h2, h3, h4⟩ := m.tks t v e ht
   refine ⟨i, n, xs, h1, h2, ⟨h3.1, ?_⟩, h4⟩
   rcases h3.2 with hn | ⟨gb, cap, cur, rfl, hb, hgg, rest⟩
   ·exact .inl hn
   ·exact .inr ⟨gb, cap, cur, rfl, hb, (hk.block gb (Array.getElem?_eq_some_iff.1 hgg).1 (ntk gb t _ e ht rfl)).trans hgg, rest⟩
  tkinj := m.tkinj
  bxtk := m.bxtk
  dfs := fun D hD => ⟨(m.dfs D hD).1, (hk.block D (Array.getElem?_eq_some_iff.1 (m.dfs D hD).2).1 (ndf D hD)).trans (m.dfs D hD).2⟩
  dnd := m.dnd
  bxdf := m.bxdf
  bxdm := m.bxdm }
end

section
variable {C : Ctx} {st : St} {g : Gh} {a : Act} {w : World} {ro : Option Nat} {n : Nat}

theorem valsD_inv : ∀ {ds : List D} {vs us : List Value}, Reps g w ds vs → valsD ds = some us → vs = us
 | [], _, _, h, hv => by
   simp only [valsD, Option.some.injEq] at hv
   simp only [Reps] at h
   rw [h, hv]
 | d :: ds, _, _, h, hv => by
   simp only [Reps] at h
   obtain ⟨v, vs', rfl, h1, h2⟩ := h
   simp only [valsD] at hv
   split at hv
   ·rename_i u us e1 e2
    cases hv
    rw [valsD_inv h2 e2]
    congr 1
    unfold valD at e1
    split at e1
    ·cases e1; exact raw_inv h1
    ·obtain ⟨ws, e3, rfl⟩ := Option.map_eq_some_iff.1 e1
     simp only [Rep] at h1
     obtain ⟨xs, rfl, h3⟩ := h1
     rw [raws_inv h3 e3]
    ·cases e1
   ·cases hv

theorem comp_nd {P : Program} {op : Op} {ao : AOp} (h : comp P op = some ao) (c : Call) : op ≠ .defer c := by
 rintro rfl
 have hn : comp P (.defer c) = none := rfl
 rw [hn] at h; cases h

theorem ystep_in (hy : YOK C) {o : Oper} {ao : AOp} (h : comp C.P o.op = some ao) (hd : ∀ d, o.dst = some d → C.wr d = true) (gd : Option (Nat × Bool)) {K : St → Prop} (hs : SR C st g a w) (hk : ystep C.P ⟨gd, o.dst, ao⟩ st K)
 (next : Act → World → Prop) (Q : Exit → Act → World → Prop) (hn : ∀ st' g' a' w', SR C st' g' a' w' → K st' → next a' w') : o.wpIn (FW ro) n C.P a w next Q := by
 have plain : astep C.P ⟨gd, o.dst, ao⟩ st K → o.wpIn (FW ro) n C.P a w next Q := fun hk =>
  oper_in (comp_nd h) (astep_sound h hd gd hs hk next Q fun st' g' a' w' h1 h2 _ => hn st' g' a' w' h1 h2)
 unfold ystep at hk
 split at hk
 ·rename_i x args hao
  simp only at hao
  subst hao
  split at hk
  ·rename_i l first caps hev
   split at hk
   ·rename_i l' xs i vs hhs hvs
    obtain ⟨rfl, rfl, rfl, hxi, hk1, hk2⟩ := hk
    have hx := hs.ev x
    rw [hev] at hx
    have ex := raw_inv hx
    obtain ⟨c, ho, hc, hargs⟩ : ∃ c : Call, o.op = .call c ∧ c.callee = .value x ∧ c.args.toList = args := by
     rcases comp_inv h (by rfl) with ⟨c', x', y', ho, he⟩ | ⟨c, f, ho, hc, he⟩ | ⟨c, x', ho, hc, he⟩ | ⟨c, x, y, t, e, i, z, ho, hc, ha, ht, hu, hi, hz, hzs, hpos, he⟩ | ⟨neg, t, x, t2, e, ho, hu, he⟩
     ·cases he
     ·cases he
     ·cases he; exact ⟨c, ho, hc, rfl⟩
     ·cases he
     ·cases he
    have hv := valsD_inv (Reps.evs hs args) hvs
    have hX : C.X (.it l' xs i false) (g.has C.w0.heap.size) w := by have := hs.x; rwa [hhs] at this
    obtain ⟨fn, tmps, asg, body, hyr, hrd⟩ := hy.round l' xs i vs _ w (n - 1) hxi hX (fun k hk => hs.mem.has_lt hk)
    refine ⟨fun _ _ => trivial, ?_⟩
    have hrun : (execOp a.eval o).run C.P w = .ok (.round l' fn tmps asg body) w := by
     unfold execOp
     have e1 : (c.args.map a.eval) = vs.toArray := by rw [← hv, ← hargs, map_arr]
     simp only [ho, resolve, hc, ex, Deferred.ofValue, invoke, Sem.run_bind, Sem.run_pure, Result.andThen_ok, e1, Array.empty_append, hyr]
    rw [Oper.semAt_eq _ _ _ (comp_nd h), hrun, Oper.uponIn_round]
    refine ⟨fun h => by simp [Fence.wide] at h, ?_⟩
    refine RoundIn.mono (F := FW ro) (show RoundIn (FW ro) (n - 1) C.P l' fn tmps asg body w _ from hrd) ?_
    rintro e w' ⟨b, rfl, hx', hkd⟩
    have hs' := hs.told hkd hx'
    cases b
    ·exact hn _ g _ w' (hs'.puto (dst := o.dst) hd (rep_raw rfl)) hk2
    ·exact hn _ g _ w' (hs'.puto (dst := o.dst) hd (rep_raw rfl)) hk1
   ·exact hk.elim
  ·exact plain hk
 ·exact plain hk

theorem aops_in (hy : YOK C) (ops : Array Oper) : ∀ (l : List Nat) (aos : List AOper), compL C.P ops l = some aos → aos.all (dstOK C.wr) = true → ∀ (st : St) (K : St → Prop) (g : Gh) (a : Act) (w : World), SR C st g a w → aops C.P aos st K →
 ∀ Q : Exit → Act → World → Prop, (∀ st' g' a' w', SR C st' g' a' w' → K st' → Q .normal a' w') → wpOpsIn (FW ro) n C.P ops Q l a w
 | [], aos, hc, _, st, K, g, a, w, hs, hk, Q, hq => by
   simp only [compL, Option.some.injEq] at hc
   subst hc
   exact hq st g a w hs hk
 | j :: l, aos, hc, hd, st, K, g, a, w, hs, hk, Q, hq => by
   simp only [compL] at hc
   split at hc
   ·rename_i o hoj
    split at hc
    ·rename_i ao aos' hco hcl
     cases hc
     simp only [List.all_cons, Bool.and_eq_true] at hd
     unfold compO at hco
     split at hco
     ·rename_i aop hcomp
      have hdst : ∀ d, o.dst = some d → C.wr d = true := by
       intro d he
       have h1 := hd.1
       split at hco
       ·cases hco; simp only [dstOK, he] at h1; exact h1
       ·obtain ⟨s, _, rfl⟩ := Option.map_eq_some_iff.1 hco
        simp only [dstOK, he] at h1; exact h1
      have ih := aops_in hy ops l aos' hcl hd.2
      unfold wpOpsIn
      rw [hoj]
      simp only
      split at hco
      ·rename_i hg
       cases hco
       have hw : Region.wanted o (yielded ops a.tmps) = true := by simp [Region.wanted, hg]
       rw [if_pos hw]
       simp only [aops] at hk
       exact (ystep_in hy hcomp hdst none hs hk _ Q (fun st' g' a' w' h1 h2 => ih st' K g' a' w' h1 h2 Q hq))
      ·rename_i k b hg
       obtain ⟨s, hsl, rfl⟩ := Option.map_eq_some_iff.1 hco
       simp only [aops] at hk
       split at hk
       ·rename_i c hgc
        have hev := hs.ev (.tmp s)
        rw [show st.ev (.tmp s) = st.get s from rfl, hgc] at hev
        have e1 := raw_inv hev
        simp only [Act.eval] at e1
        have e2 : a.tmps[s]? = some (.bool c) := by
         rw [Array.getD_eq_getD_getElem?] at e1
         cases h3 : a.tmps[s]? with
         | none => rw [h3] at e1; simp [undef] at e1
         | some v => rw [h3] at e1; simpa using e1
        have hyd : yielded ops a.tmps k = some c := by
         unfold yielded
         rw [hsl, Option.bind_some, e2]
        by_cases hcb : c = b
        ·have hw : Region.wanted o (yielded ops a.tmps) = true := by simp [Region.wanted, hg, hyd, hcb]
         rw [if_pos hw]
         exact (ystep_in hy hcomp hdst (some (s, b)) (hs.know (x := .tmp s) (b := b) (by rw [← hcb]; exact hgc)) (hk.1 hcb) _ Q (fun st' g' a' w' h1 h2 => ih st' K g' a' w' h1 h2 Q hq))
        ·have hw : ¬ Region.wanted o (yielded ops a.tmps) = true := by simp [Region.wanted, hg, hyd, hcb]
         rw [if_neg hw]
         refine ⟨fun _ _ => trivial, ?_⟩
         have hcb' : c = !b := by cases c <;> cases b <;> simp_all
         exact ih _ K g _ w ((hs.know (x := .tmp s) (b := !b) (by rw [← hcb']; exact hgc)).puto (dst := o.dst) hdst rep_undef) (hk.2 hcb') Q hq
       ·rename_i hgc
        have hw : ¬ Region.wanted o (yielded ops a.tmps) = true := by simp [Region.wanted, hg, undef_yielded hs hgc hsl]
        rw [if_neg hw]
        refine ⟨fun _ _ => trivial, ?_⟩
        exact ih _ K g _ w (hs.puto (dst := o.dst) hdst rep_undef) hk Q hq
       ·exact hk.elim
     ·cases hco
    ·cases hc
   ·cases hc

end

end Go.Proofs.YtjgpdjakehoofaaGreatDoor


