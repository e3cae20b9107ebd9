/- Texts of the prover's, joined: BS B9 BA C1 BF BG BI T0. -/
import Derived.Test.YtbjaopoipkphnaaGreatDoorWT2
import Derived.Test.YtbjaopoipkphnaaGreatDoorProg
import Derived.IntWalk

namespace Go.Proofs.YtbjaopoipkphnaaGreatDoor
open Go Go.RowKit
set_option linter.unusedSimpArgs false
set_option linter.unusedVariables false
set_option maxRecDepth 100000

inductive AC where
 | skip
 | ret
 | exit (id : Nat)
 | seq (x y : AC)
 | cond (c : Operand) (x y : AC)
 | block (id : Nat) (x : AC)
 | loop (x : AC)
 | region (l : List AOper) (kp : Option (List Nat))
 | draw (l : List AOper) (tb : List Nat) (p : Plan) (kp : Option (List Nat))
 | rangeF (ns : List Nat) (p : Nat) (dq : Option Nat) (x : Operand) (body : AC)
 | rangeB (ns : List Nat) (p d : Nat) (e : TypeId) (sz : Nat) (zs : List D) (x : Operand) (body : AC)
 | label (l : Nat)
 | goto (l : Nat)
 | scope (l : Nat) (x r : AC)
 | bad
 deriving Inhabited

def AC.noRange : AC → Bool
 | .seq x y => x.noRange && y.noRange
 | .cond _ x y => x.noRange && y.noRange
 | .block _ x => x.noRange
 | .loop x => x.noRange
 | .rangeF .. => false
 | .rangeB .. => false
 | .scope _ x r => x.noRange && r.noRange
 | _ => true

def AC.lab : AC → Option Nat
 | .seq x y => match x.lab with
   | some l => some l
   | none => y.lab
 | .label l => some l
 | _ => none

def AC.behind : AC → Nat → Option AC
 | .seq x y, l => match x.behind l with
   | some r => some (.seq r y)
   | none => y.behind l
 | .label j, l => if j == l then some .skip else none
 | _, _ => none

def AC.scp (a : AC) : AC := match a.lab with
 | some l => match a.behind l with
   | some r => .scope l a r
   | none => .bad
 | none => .scope 0 a .bad

structure Ann where
 kp : List (Nat × List Nat)
 dr : List (Nat × (List Nat × Plan))
 rf : List (Nat × List Nat)

def St.keep (st : St) : Option (List Nat) → St
 | none => st
 | some l => { st with fr := l.map fun i => (i, st.get i) }

def kpOK (N : Nat) : Option (List Nat) → Bool
 | none => true
 | some l => l.all fun i => decide (i < N)

theorem SR.keep {C : Ctx} {st : St} {g : Gh} {a : Act} {w : World} (h : SR C st g a w) {kp : Option (List Nat)} (hk : kpOK C.N kp = true) : SR C (st.keep kp) g a w := by
 cases kp with
 | none => exact h
 | some l =>
   refine h.less (fun i d hd => ?_) (fun _ _ h => h) (fun _ _ h => h) rfl
   simp only [St.keep] at hd
   have key : ∀ l : List Nat, l.all (fun i => decide (i < C.N)) = true → lk (l.map fun i => (i, st.get i)) i = some d → lk st.fr i = some d ∨ d = .any ∧ i < C.N := by
    intro l
    induction l with
    | nil => intro _ h; simp [lk] at h
    | cons j l ih =>
      intro hl h
      simp only [List.all_cons, Bool.and_eq_true, decide_eq_true_eq] at hl
      simp only [List.map_cons, lk] at h
      split at h
      ·rename_i hij
       subst hij
       cases h
       unfold St.get
       cases hlk : lk st.fr i with
       | none => exact .inr ⟨rfl, hl.1⟩
       | some e => exact .inl rfl
      ·exact ih hl.2 h
   exact key l hk hd

def compC (P : Program) (an : Ann) : Code → Option AC
 | .skip => some .skip
 | .ret => some .ret
 | .exit id => some (.exit id)
 | .seq x y => match compC P an x, compC P an y with
   | some a, some b => some (.seq a b)
   | _, _ => none
 | .cond c x y => match compC P an x, compC P an y with
   | some a, some b => some (.cond c a b)
   | _, _ => none
 | .block id x => (compC P an x).map (.block id)
 | .loop x => (compC P an x).map .loop
 | .region id ops false => match compL P ops (List.range ops.size) with
   | some l => some (.region l (lk an.kp id))
   | none => some .bad
 | .region id ops true => match lk an.dr id, compL P ops (List.range ops.size) with
   | some (tb, p), some l => if tabOK .any ops tb && Region.noSelect ops && planOK ops tb (Array.replicate ops.size false) p && decide (p.size ≤ ops.size) then some (.draw l tb p (lk an.kp id)) else none
   | _, none => some .bad
   | _, _ => none
 | .rangeFunc x ps asg body => match ps.toList, compC P an body with
   | [p], some b => match compA asg p with
     | some dq => if b.noRange then (lk an.rf p).map fun ns => .rangeF ns p dq x b else none
     | none => match compB P asg p with
       | some (d, e, sz, zs) => if b.noRange then (lk an.rf p).map fun ns => .rangeB ns p d e sz zs x b else none
       | none => none
   | _, _ => none
 | .label l => some (.label l)
 | .goto l => some (.goto l)
 | .scope c => (compC P an c).map AC.scp
 | _ => some .bad

def AC.dstOK (N : Nat) (p : Nat → Bool) : AC → Bool
 | .seq x y => x.dstOK N p && y.dstOK N p
 | .cond _ x y => x.dstOK N p && y.dstOK N p
 | .block _ x => x.dstOK N p
 | .loop x => x.dstOK N p
 | .region l kp => l.all (Go.Proofs.YtbjaopoipkphnaaGreatDoor.dstOK p) && kpOK N kp
 | .draw l _ _ kp => l.all (Go.Proofs.YtbjaopoipkphnaaGreatDoor.dstOK p) && kpOK N kp
 | .rangeF ns q dq _ x => x.dstOK N (rwr N ns) && decide (q < N) && (match dq with | some d => rwr N ns d | none => true)
 | .rangeB ns q d _ _ _ _ x => x.dstOK N (rwr N ns) && decide (q < N) && rwr N ns d
 | .scope _ x r => x.dstOK N p && r.dstOK N p
 | _ => true

def roundB (p d sz : Nat) (zs : List D) (v : D) (fr : List (Nat × D)) (bs : List (Nat × List D)) (k : St → Prop) : Prop := match (AOp.store sz (.tmp d) (.tmp p)).ex none (boxSt p d v fr zs bs) with
 | some r => k r.2
 | none => False

def run (P : Program) : AC → St → (Exit → St → Prop) → Prop
 | .skip, st, K => K .normal st
 | .ret, st, K => K .ret st
 | .exit id, st, K => K (.exit id) st
 | .seq x y, st, K => run P x st fun e s => match e with
   | .normal => run P y s K
   | e => K e s
 | .cond c x y, st, K => match st.ev c with
   | .pd (.raw (.bool b)) => (b = true → run P x (st.know c true) K) ∧ (b = false → run P y (st.know c false) K)
   | _ => False
 | .block id x, st, K => run P x st fun e s => match e with
   | .exit j => if j = id then K .normal s else K (.exit j) s
   | e => K e s
 | .loop x, st, K => ∃ I : Nat → St → Prop, (∃ n s, Weak P st s ∧ I n s) ∧ ∀ n s, I n s → run P x s fun e s' => match e with
   | .normal => ∃ m s2, m < n ∧ Weak P s' s2 ∧ I m s2
   | e => K e s'
 | .region l kp, st, K => aops P l st fun s => K .normal (s.keep kp)
 | .draw l tb p kp, st, K => drun P l tb p [] st fun s => K .normal (s.keep kp)
 | .bad, _, _ => False
 | .label _, st, K => K .normal st
 | .goto l, st, K => K (.goto l) st
 | .scope l x r, st, K => run P x st fun e s => match e with
   | .goto j => j = l ∧ run P r s fun e s => match e with
     | .goto _ => False
     | e => K e s
   | e => K e s
 | .rangeF ns p dq x body, st, K => match st.ev x with
   | .fn f caps => caps.all (fun c => !ns.contains c.1 && decide (c.1 < 1000000)) = true ∧ ns.all (fun n => (lk st.bs n).isSome && decide (n < 200000)) = true ∧
     ∃ (xs : List Value) (J : Nat → List (Nat × List D) → Prop), IterW P f caps st xs ∧ J 0 (bsOf false st.bs ns ns) ∧
     (∀ i v bs, xs[i]? = some v → J i bs → run P body ⟨roundFr p (cD v) (cutFr ns st.fr) dq, bs, [], .no⟩ (roundK (J (i + 1)) K st ns)) ∧ ∀ bs, J xs.length bs → K .normal (st.after ns bs)
   | _ => False
 | .rangeB ns p d _ sz zs x body, st, K => match st.ev x with
   | .fn f caps => caps.all (fun c => !ns.contains c.1 && decide (c.1 < 1000000)) = true ∧ ns.all (fun n => (lk st.bs n).isSome && decide (n < 200000)) = true ∧
     ∃ (xs : List Value) (J : Nat → List (Nat × List D) → Prop), IterW P f caps st xs ∧ J 0 (bsOf false st.bs ns ns) ∧
     (∀ i v bs, xs[i]? = some v → J i bs → roundB p d sz zs (cD v) (cutFr ns st.fr) bs fun s2 => ∃ s3, Weak P s2 s3 ∧ run P body s3 (roundK (J (i + 1)) K st ns)) ∧ ∀ bs, J xs.length bs → K .normal (st.after ns bs)
   | _ => False

theorem wpIn_loop_ghost {F : Fence} {n : Nat} {P : Program} {Q : Exit → Act → World → Prop} {a : Act} {w : World} {c : Code} (I : Nat → Act → World → Prop) (n₀ : Nat) (h₀ : I n₀ a w)
 (round : ∀ m a w, I m a w → c.wpIn F n P (Exit.then (fun a' w' => ∃ n', n' < m ∧ I n' a' w') Q) a w) : (Code.loop c).wpIn F n P Q a w := by
 refine wpIn_loop (fun a w => ∃ m, I m a w) (fun a w => leastOf (fun m => I m a w)) ⟨n₀, h₀⟩ ?_
 intro a w hI
 refine wpIn_mono (round _ a w (leastOf_spec hI).1) ?_
 intro e a' w' hq
 cases e with
 | normal =>
   obtain ⟨n', hlt, hI'⟩ := hq
   exact show (∃ m, I m a' w') ∧ leastOf (fun m => I m a' w') < leastOf (fun m => I m a w) from ⟨⟨n', hI'⟩, Nat.lt_of_le_of_lt ((leastOf_spec ⟨n', hI'⟩).2 n' hI') hlt⟩
 | exit id => exact hq
 | goto l => exact hq
 | ret => exact hq
 | panic ch => exact hq
 | outgrown => exact hq

theorem stepR_scope {P : Program} {b : Frame} {a : Act} {k : List Item} {cs : List Frame} {w : World} {c : Code} : step P (lone (b.atR a (.code (.scope c) :: k)) cs w) = .next (lone (b.atR a (.code c :: .inScope c :: k)) cs w) :=
 step_lone_go (by simp [stepG, stepG.exec, Frame.atR])
theorem stepR_inScope {P : Program} {b : Frame} {a : Act} {k : List Item} {cs : List Frame} {w : World} {c : Code} : step P (lone (b.atR a (.inScope c :: k)) cs w) = .next (lone (b.atR a k) cs w) :=
 step_lone_go (by simp [stepG, stepG.exec, Frame.atR])

theorem wpIn_scope1 {F : Fence} {n : Nat} {P : Program} {Q : Exit → Act → World → Prop} {a : Act} {w : World} {c : Code}
 (h : c.wpIn F n P (fun e a w => match e with
  | .goto j => ∃ rest, findLabel c j = some rest ∧ rest.wpIn F n P (Exit.noGoto Q) a w
  | e => Q e a w) a w) : (Code.scope c).wpIn F n P Q a w := by
 intro b k cs hro hb hr
 have h0 : (lone (b.atR a (.code (.scope c) :: k)) cs w).fenced P F := fenced_calm hb hr rfl
 obtain ⟨e, a₁, w₁, hq, harr⟩ := h b (.inScope c :: k) cs hro hb hr
 have hx : ∀ id, exitTo id (.inScope c :: k) = exitTo id k := fun id => by simp [exitTo]
 cases e with
 | normal => exact ⟨.normal, a₁, w₁, hq, .head h0 stepR_scope (StepsIn.trans harr (.one (fenced_calm hb hr rfl) stepR_inScope))⟩
 | exit id =>
   exact ⟨.exit id, a₁, w₁, hq, fun k' hk => .head h0 stepR_scope (harr.1 k' (by rw [hx]; exact hk)),
    fun hr' hk => let ⟨k₁, h1, h2⟩ := harr.2 hr' (by rw [hx]; exact hk); ⟨k₁, h1, .head h0 stepR_scope h2⟩⟩
 | goto l =>
   obtain ⟨rest, hf, hq⟩ := hq
   have hg : gotoIn l (.inScope c :: k) = some (.code rest :: .inScope c :: k) := by simp [gotoIn, hf]
   have hst := harr.1 _ hg
   obtain ⟨e₂, a₂, w₂, hq₂, harr₂⟩ := hq b (.inScope c :: k) cs hro hb hr
   cases e₂ with
   | normal => exact ⟨.normal, a₂, w₂, hq₂, .head h0 stepR_scope (StepsIn.trans hst (StepsIn.trans harr₂ (.one (fenced_calm hb hr rfl) stepR_inScope)))⟩
   | exit id =>
     exact ⟨.exit id, a₂, w₂, hq₂, fun k' hk => .head h0 stepR_scope (StepsIn.trans hst (harr₂.1 k' (by rw [hx]; exact hk))),
      fun hr' hk => let ⟨k₁, h1, h2⟩ := harr₂.2 hr' (by rw [hx]; exact hk); ⟨k₁, h1, .head h0 stepR_scope (StepsIn.trans hst h2)⟩⟩
   | goto l => exact hq₂.elim
   | ret => exact ⟨_, a₂, w₂, hq₂, .of_steps (.head h0 stepR_scope hst) harr₂⟩
   | panic ch => exact ⟨_, a₂, w₂, hq₂, .of_steps (.head h0 stepR_scope hst) harr₂⟩
   | outgrown => exact ⟨_, a₂, w₂, hq₂, .of_steps (.head h0 stepR_scope hst) harr₂⟩
 | ret => exact ⟨_, a₁, w₁, hq, .of_steps (.one h0 stepR_scope) harr⟩
 | panic ch => exact ⟨_, a₁, w₁, hq, .of_steps (.one h0 stepR_scope) harr⟩
 | outgrown => exact ⟨_, a₁, w₁, hq, .of_steps (.one h0 stepR_scope) harr⟩

theorem label_size : ∀ (c : Code) (l : Nat) (rest : Code), findLabel c l = some rest → SizeOf.sizeOf rest ≤ SizeOf.sizeOf c := by
 intro c
 induction c with
 | seq a b iha ihb =>
   intro l rest h
   simp only [findLabel] at h
   split at h
   ·rename_i r hr
    cases h
    have := iha l r hr
    simp only [Code.seq.sizeOf_spec]
    omega
   ·have := ihb l rest h
    simp only [Code.seq.sizeOf_spec]
    omega
 | label j =>
   intro l rest h
   simp only [findLabel] at h
   split at h
   ·cases h
    simp only [Code.label.sizeOf_spec, Code.skip.sizeOf_spec]
    omega
   ·cases h
 | _ => intro l rest h; simp [findLabel] at h

theorem comp_behind {P : Program} {an : Ann} : ∀ (c : Code) (a : AC), compC P an c = some a → ∀ l, match a.behind l with
 | some r => ∃ rest, findLabel c l = some rest ∧ compC P an rest = some r ∧ (∀ N p, a.dstOK N p = true → r.dstOK N p = true)
 | none => findLabel c l = none := by
 intro c
 induction c with
 | seq x y ihx ihy =>
   intro a h l
   simp only [compC] at h
   split at h
   ·rename_i p q hp hq
    cases h
    have h1 := ihx p hp l
    have h2 := ihy q hq l
    simp only [AC.behind]
    cases e1 : p.behind l with
    | some r =>
      rw [e1] at h1
      obtain ⟨rest, h3, h4, h5⟩ := h1
      refine ⟨.seq rest y, by simp only [findLabel, h3], by simp only [compC, h4, hq], fun N p h => ?_⟩
      simp only [AC.dstOK, Bool.and_eq_true] at h ⊢
      exact ⟨h5 N p h.1, h.2⟩
    | none =>
      rw [e1] at h1
      simp only
      cases e2 : q.behind l with
      | some r =>
        rw [e2] at h2
        obtain ⟨rest, h3, h4, h5⟩ := h2
        refine ⟨rest, by simp only [findLabel, show findLabel x l = none from h1, h3], h4, fun N p h => ?_⟩
        simp only [AC.dstOK, Bool.and_eq_true] at h
        exact h5 N p h.2
      | none =>
        rw [e2] at h2
        show findLabel (.seq x y) l = none
        simp only [findLabel, show findLabel x l = none from h1, show findLabel y l = none from h2]
   ·cases h
 | label j =>
   intro a h l
   simp only [compC, Option.some.injEq] at h
   subst h
   simp only [AC.behind]
   by_cases hj : (j == l) = true
   ·rw [if_pos hj]
    exact ⟨.skip, by simp only [findLabel, hj, if_true], rfl, fun _ _ _ => rfl⟩
   ·rw [if_neg hj]
    show findLabel (.label j) l = none
    simp only [findLabel, if_neg hj]
 | region id ops draw =>
   intro a h l
   have e : a.behind l = none := by
    cases draw <;> simp only [compC] at h <;> (repeat' split at h) <;> first | (cases h; rfl) | cases h
   rw [e]
   show findLabel _ l = none
   rfl
 | scope c =>
   intro a h l
   simp only [compC] at h
   obtain ⟨b, _, rfl⟩ := Option.map_eq_some_iff.1 h
   have e : b.scp.behind l = none := by unfold AC.scp; (repeat' split) <;> rfl
   rw [e]
   show findLabel _ l = none
   rfl
 | _ =>
   intro a h l
   have e : a.behind l = none := by
    simp only [compC] at h
    first
     | (cases h; rfl)
     | (obtain ⟨_, _, rfl⟩ := Option.map_eq_some_iff.1 h; rfl)
     | ((repeat' split at h) <;> first | (cases h; rfl) | cases h | (obtain ⟨_, _, rfl⟩ := Option.map_eq_some_iff.1 h; rfl))
   rw [e]
   show findLabel _ l = none
   rfl

theorem nrL {x y : Bool} {q : Prop} (h : (x && y) = true ∨ q) : x = true ∨ q := h.imp_left fun h => (Bool.and_eq_true _ _ ▸ h : x = true ∧ y = true).1
theorem nrR {x y : Bool} {q : Prop} (h : (x && y) = true ∨ q) : y = true ∨ q := h.imp_left fun h => (Bool.and_eq_true _ _ ▸ h : x = true ∧ y = true).2

theorem yok_nest (P : Program) (w : World) (g : Gh) (N : Nat) (wr : Nat → Bool) (hwr : NestOK g N wr) : YOK (.nest P w g N wr hwr) := ⟨fun _ _ _ _ _ _ _ _ h => by cases h⟩

theorem run_inR (an : Ann) : ∀ (c : Code) (C : Ctx) (_ : C.P.follows .mixedOrders = true) (_ : YOK C) (ro : Option Nat) (fu : Nat) (ac : AC) (_ : ac.noRange = true ∨ (ro = none ∧ C.plain)), compC C.P an c = some ac → ac.dstOK C.N C.wr = true → ∀ (st : St) (K : Exit → St → Prop), run C.P ac st K →
 ∀ g a w, SR C st g a w → c.wpIn (FW ro) fu C.P (Post C K) a w
 | .skip, C, hm, hy, ro, fu, ac, hnr, hc, _, st, K, hr, g, a, w, hs => by
   simp only [compC, Option.some.injEq] at hc; subst hc
   exact wpIn_skip ⟨st, g, hs, hr⟩
 | .ret, C, hm, hy, ro, fu, ac, hnr, hc, _, st, K, hr, g, a, w, hs => by
   simp only [compC, Option.some.injEq] at hc; subst hc
   exact wpIn_ret ⟨st, g, hs, hr⟩
 | .exit id, C, hm, hy, ro, fu, ac, hnr, hc, _, st, K, hr, g, a, w, hs => by
   simp only [compC, Option.some.injEq] at hc; subst hc
   exact wpIn_exit ⟨st, g, hs, hr⟩
 | .seq x y, C, hm, hy, ro, fu, ac, hnr, hc, hd, st, K, hr, g, a, w, hs => by
   simp only [compC] at hc
   split at hc
   ·rename_i p q hp hq
    cases hc
    simp only [AC.dstOK, Bool.and_eq_true] at hd
    simp only [run] at hr
    refine wpIn_seq (wpIn_mono (run_inR an x C hm hy ro fu p (nrL hnr) hp hd.1 st _ hr g a w hs) ?_)
    intro e a' w' h
    cases e <;> simp only [Post] at h
    ·obtain ⟨s, g', h1, h2⟩ := h
     exact run_inR an y C hm hy ro fu q (nrR hnr) hq hd.2 s K h2 g' a' w' h1
    all_goals exact h
   ·cases hc
 | .cond c x y, C, hm, hy, ro, fu, ac, hnr, hc, hd, st, K, hr, g, a, w, hs => by
   simp only [compC] at hc
   split at hc
   ·rename_i p q hp hq
    cases hc
    simp only [AC.dstOK, Bool.and_eq_true] at hd
    simp only [run] at hr
    split at hr
    ·rename_i b hb
     have h1 := hs.ev c
     rw [hb] at h1
     exact wpIn_cond_split (raw_inv h1) (fun e => run_inR an x C hm hy ro fu p (nrL hnr) hp hd.1 _ K (hr.1 e) g a w (hs.know (by rw [← e]; exact hb))) (fun e => run_inR an y C hm hy ro fu q (nrR hnr) hq hd.2 _ K (hr.2 e) g a w (hs.know (by rw [← e]; exact hb)))
    ·exact hr.elim
   ·cases hc
 | .block id x, C, hm, hy, ro, fu, ac, hnr, hc, hd, st, K, hr, g, a, w, hs => by
   simp only [compC] at hc
   obtain ⟨p, hp, rfl⟩ := Option.map_eq_some_iff.1 hc
   simp only [AC.dstOK] at hd
   simp only [run] at hr
   refine wpIn_block (wpIn_mono (run_inR an x C hm hy ro fu p hnr hp hd st _ hr g a w hs) ?_)
   intro e a' w' h
   cases e <;> simp only [Post] at h <;> simp only [Exit.inBlock]
   case exit j =>
    obtain ⟨s, g', h1, h2⟩ := h
    by_cases hj : j = id
    ·rw [if_pos hj] at h2 ⊢
     exact ⟨s, g', h1, h2⟩
    ·rw [if_neg hj] at h2 ⊢
     exact ⟨s, g', h1, h2⟩
   all_goals exact h
 | .loop x, C, hm, hy, ro, fu, ac, hnr, hc, hd, st, K, hr, g, a, w, hs => by
   simp only [compC] at hc
   obtain ⟨p, hp, rfl⟩ := Option.map_eq_some_iff.1 hc
   simp only [AC.dstOK] at hd
   simp only [run] at hr
   obtain ⟨I, ⟨n0, s0, hw, h0⟩, hround⟩ := hr
   obtain ⟨g0, hs0⟩ := hw C g a w rfl hs
   refine wpIn_loop_ghost (fun n a w => ∃ s g, SR C s g a w ∧ I n s) n0 ⟨s0, g0, hs0, h0⟩ ?_
   rintro n a' w' ⟨s, g', h1, h2⟩
   refine wpIn_mono (run_inR an x C hm hy ro fu p hnr hp hd s _ (hround n s h2) g' a' w' h1) ?_
   intro e a2 w2 h
   cases e <;> simp only [Post] at h
   ·obtain ⟨s2, g2, h3, m, s3, h4, h5, h6⟩ := h
    obtain ⟨g3, h7⟩ := h5 C g2 a2 w2 rfl h3
    exact ⟨m, h4, s3, g3, h7, h6⟩
   all_goals exact h
 | .region id ops false, C, hm, hy, ro, fu, ac, hnr, hc, hd, st, K, hr, g, a, w, hs => by
   simp only [compC] at hc
   split at hc
   ·rename_i l hl
    cases hc
    simp only [AC.dstOK, Bool.and_eq_true] at hd
    simp only [run] at hr
    exact wpIn_region (aops_in hy ops _ l hl hd.1 st _ g a w hs hr _ fun st' g' a' w' h1 h2 => ⟨_, g', h1.keep hd.2, h2⟩)
   ·cases hc; exact hr.elim
 | .region id ops true, C, hm, hy, ro, fu, ac, hnr, hc, hd, st, K, hr, g, a, w, hs => by
   simp only [compC] at hc
   split at hc
   ·rename_i tb p l hlk hl
    split at hc
    ·rename_i hh
     cases hc
     simp only [Bool.and_eq_true, decide_eq_true_eq] at hh
     simp only [AC.dstOK, Bool.and_eq_true] at hd
     simp only [run] at hr
     exact wpIn_region_draw fun t => wpOps_in (compL_nd hl) post_out _ _ _ (draw_ops hm hl hd.1 hh.1.1.1 hh.1.1.2 (fun st' g' a' w' h1 h2 => ⟨_, g', h1.keep hd.2, h2⟩) (fun _ _ _ h => h) p hh.1.2 hh.2 hs hr t)
    ·cases hc
   ·cases hc; exact hr.elim
   ·cases hc
 | .label l, C, hm, hy, ro, fu, ac, hnr, hc, _, st, K, hr, g, a, w, hs => by
   simp only [compC, Option.some.injEq] at hc; subst hc
   exact wpIn_label ⟨st, g, hs, hr⟩
 | .goto l, C, hm, hy, ro, fu, ac, hnr, hc, _, st, K, hr, g, a, w, hs => by
   simp only [compC, Option.some.injEq] at hc; subst hc
   exact wpIn_goto ⟨st, g, hs, hr⟩
 | .scope x, C, hm, hy, ro, fu, ac, hnr, hc, hd, st, K, hr, g, a, w, hs => by
   simp only [compC] at hc
   obtain ⟨p, hp, rfl⟩ := Option.map_eq_some_iff.1 hc
   have key : ∀ (l : Nat) (r : AC), p.behind l = some r ∨ r = .bad → p.scp = .scope l p r → (Code.scope x).wpIn (FW ro) fu C.P (Post C K) a w := fun l r hb he => by
    rw [he] at hr hd hnr
    simp only [AC.dstOK, Bool.and_eq_true] at hd
    simp only [run] at hr
    refine wpIn_scope1 (wpIn_mono (run_inR an x C hm hy ro fu p (nrL hnr) hp hd.1 st _ hr g a w hs) ?_)
    intro e a' w' h
    cases e <;> simp only [Post] at h
    case goto j =>
     obtain ⟨s, g', h1, rfl, h2⟩ := h
     have hcb := comp_behind x p hp j
     rcases hb with hb | rfl
     ·rw [hb] at hcb
      obtain ⟨rest, h3, h4, _⟩ := hcb
      have hlt := label_size x j rest h3
      refine ⟨rest, h3, wpIn_mono (run_inR an rest C hm hy ro fu r (nrR hnr) h4 hd.2 s _ h2 g' a' w' h1) ?_⟩
      intro e a2 w2 h
      cases e <;> simp only [Post] at h <;> simp only [Exit.noGoto]
      case goto => obtain ⟨_, _, _, h⟩ := h; exact h
      all_goals exact h
     ·exact h2.elim
    all_goals exact h
   unfold AC.scp at key hr
   split at hr
   ·rename_i l hl
    split at hr
    ·rename_i r hb
     exact key l r (.inl hb) (by simp only [hl, hb])
    ·exact hr.elim
   ·rename_i hl
    exact key 0 .bad (.inr rfl) (by simp only [hl])
 | .rangeFunc x ps asg body, C, hm, hy, ro, fu, ac, hnr, hc, hd, st, K, hr, g, a, w, hs => by
   simp only [compC] at hc
   split at hc
   ·rename_i p b hps hb
    split at hc
    rotate_left
    ·split at hc
     rotate_left
     ·cases hc
     rename_i d e sz zs hasg
     split at hc
     ·rename_i hnb
      obtain ⟨ns, hns, rfl⟩ := Option.map_eq_some_iff.1 hc
      simp only [AC.dstOK, Bool.and_eq_true, decide_eq_true_eq] at hd
      rcases hnr with hnr | ⟨rfl, hpl⟩
      ·cases hnr
      ·simp only [run] at hr
       split at hr
       ·rename_i f caps hev
        obtain ⟨h1, h2, xs, J, h3, h4, h5, h6⟩ := hr
        have hps' : ps = #[p] := by rw [← Array.toArray_toList (xs := ps), hps]
        rw [hps']
        refine range_inB hs hpl hd.2 hasg hd.1.2 hev (fun c hc => ?_) (fun n hn => by simpa using List.all_eq_true.1 h2 n hn) h3 h4 (fun i v bs hv hJ => ?_) h6
        ·have := List.all_eq_true.1 h1 c hc
         simpa using this
        ·have h7 := h5 i v bs hv hJ
         unfold roundB at h7
         split at h7
         ·rename_i r hr7
          obtain ⟨s3, hwk, h7⟩ := h7
          exact ⟨r.1, r.2, hr7, fun w2 g2 hwr a2 n l g3 w3 hs3 => by
           obtain ⟨g4, hs4⟩ := hwk (.nest C.P w2 g2 C.N (rwr C.N ns) hwr) g3 a2 w3 rfl hs3
           exact run_inR an body (.nest C.P w2 g2 C.N (rwr C.N ns) hwr) hm (yok_nest _ _ _ _ _ _) (some l) n b (.inl hnb) hb hd.1.1 _ _ h7 g4 a2 w3 hs4⟩
         ·exact h7.elim
       ·exact hr.elim
     ·cases hc
    rename_i dq hasg
    split at hc
    ·rename_i hnb
     obtain ⟨ns, hns, rfl⟩ := Option.map_eq_some_iff.1 hc
     simp only [AC.dstOK, Bool.and_eq_true, decide_eq_true_eq] at hd
     rcases hnr with hnr | ⟨rfl, hpl⟩
     ·cases hnr
     ·simp only [run] at hr
      split at hr
      ·rename_i f caps hev
       obtain ⟨h1, h2, xs, J, h3, h4, h5, h6⟩ := hr
       have hps' : ps = #[p] := by rw [← Array.toArray_toList (xs := ps), hps]
       rw [hps']
       refine range_in hs hpl (fun d e => by have := hd.2; rw [e] at this; simpa using this) hasg hd.1.2 hev (fun c hc => ?_) (fun n hn => by simpa using List.all_eq_true.1 h2 n hn) h3 h4 (fun i v bs hv hJ w2 g2 hwr a2 n l hs2 => ?_) h6
       ·have := List.all_eq_true.1 h1 c hc
        simpa using this
       ·exact run_inR an body (.nest C.P w2 g2 C.N (rwr C.N ns) hwr) hm (yok_nest _ _ _ _ _ _) (some l) n b (.inl hnb) hb hd.1.1 _ _ (h5 i v bs hv hJ) _ a2 w2 hs2
      ·exact hr.elim
    ·cases hc
   ·cases hc
 termination_by c => SizeOf.sizeOf c
 decreasing_by all_goals (simp only [Code.seq.sizeOf_spec, Code.cond.sizeOf_spec, Code.block.sizeOf_spec, Code.loop.sizeOf_spec, Code.scope.sizeOf_spec, Code.rangeFunc.sizeOf_spec]; omega)

theorem run_intoR (C : Ctx) (hm : C.P.follows .mixedOrders = true) (hy : YOK C) (hpl : C.plain) (an : Ann) (fu : Nat) (c : Code) (ac : AC) (hc : compC C.P an c = some ac) (hd : ac.dstOK C.N C.wr = true) (st : St) (K : Exit → St → Prop) (hr : run C.P ac st K)
 (g : Gh) (a : Act) (w : World) (hs : SR C st g a w) : c.wpIn (FW none) fu C.P (Post C K) a w :=
 run_inR an c C hm hy none fu ac (.inr ⟨rfl, hpl⟩) hc hd st K hr g a w hs

theorem yok_alone (P : Program) (w0 : World) (Fz0 : Nat → Nat → Prop) (N : Nat) : YOK (.alone P w0 Fz0 N) := ⟨fun _ _ _ _ _ _ _ _ h => by cases h⟩
theorem yok_fn (P : Program) (w0 : World) (Fz0 : Nat → Nat → Prop) (S : Nat → Prop) (N : Nat) : YOK (.fn P w0 Fz0 S N) := ⟨fun _ _ _ _ _ _ _ _ h => by cases h⟩

def oo (d : Nat) (x : AOp) : AOper := ⟨none, some d, x⟩
def og (s : Nat) (b : Bool) (d : Nat) (x : AOp) : AOper := ⟨some (s, b), some d, x⟩
def tp (i : Nat) : Operand := .tmp i
def ci (n : Int) : Operand := .const (.int .i64 n)
def cq (b : Bool) : Operand := .const (.bool b)

def mq (d i : Nat) : AOper := ⟨none, some d, .mv (.tmp i)⟩
def lq (d i : Nat) : AOper := ⟨none, some d, .load none (.tmp i)⟩
def fi (d k i : Nat) : AOper := ⟨none, some d, .fieldA k (.tmp i)⟩
def sr (l : List AOper) (kp : List Nat) (x : AC) : AC := .seq (.region l (some kp)) x

def AC.regs : AC → List (Option (List Nat) × Option (List Nat × Plan))
 | .seq x y => x.regs ++ y.regs
 | .cond _ x y => x.regs ++ y.regs
 | .block _ x => x.regs
 | .loop x => x.regs
 | .region _ kp => [(kp, none)]
 | .draw _ tb p kp => [(kp, some (tb, p))]
 | .rangeF _ _ _ _ x => x.regs
 | .rangeB _ _ _ _ _ _ _ x => x.regs
 | .scope _ x _ => x.regs
 | _ => []
def AC.rfs : AC → List (Nat × List Nat)
 | .seq x y => x.rfs ++ y.rfs
 | .cond _ x y => x.rfs ++ y.rfs
 | .block _ x => x.rfs
 | .loop x => x.rfs
 | .rangeF ns p _ _ x => (p, ns) :: x.rfs
 | .rangeB ns p _ _ _ _ _ x => (p, ns) :: x.rfs
 | .scope _ x _ => x.rfs
 | _ => []
def ann (ids : List Nat) (a : AC) : Ann := ⟨(ids.zip a.regs).filterMap fun r => r.2.1.map fun k => (r.1, k), (ids.zip a.regs).filterMap fun r => r.2.2.map fun k => (r.1, k), a.rfs⟩
abbrev okd (P : Program) (an : Ann) (a : AC) (f : Func) : Prop := compC P an (f.body.getD .skip) = some a ∧ a.dstOK f.ntmps (fun i => decide (i < f.ntmps)) = true


abbrev gh0 (Fz : Nat → Nat → Prop) : Gh := ⟨fun _ => none, fun _ => none, Fz, []⟩

mutual
def D.pub : D → D
 | .own _ _ els _ => .pd (.slice els)
 | .nils => .pd (.slice [])
 | .agg ds => .agg (D.pubs ds)
 | .tup ds => .tup (D.pubs ds)
 | .pd x => .pd x
 | .ptr n o => .ptr n o
 | .fn f caps => .fn f caps
 | .mp n => .mp n
 | .eptr cs => .eptr cs
 | .oelt _ _ cs => .eptr cs
 | .any => .any
def D.pubs : List D → List D
 | [] => []
 | d :: ds => D.pub d :: D.pubs ds
end

mutual
def D.closed : D → Bool
 | .ptr .. => false
 | .mp _ => false
 | .own .. => false
 | .oelt .. => false
 | .fn _ caps => caps.isEmpty
 | .agg ds => D.closeds ds
 | .tup ds => D.closeds ds
 | _ => true
def D.closeds : List D → Bool
 | [] => true
 | d :: ds => D.closed d && D.closeds ds
end

mutual
theorem Rep.pub {g : Gh} {w : World} : ∀ {d : D} {v : Value}, Rep g w d v → Rep g w d.pub v
 | .own .., _, h => by simp only [Rep, D.pub] at h ⊢; exact h.1
 | .nils, _, h => by simp only [Rep, D.pub] at h ⊢; subst h; exact .empty _ _
 | .agg _, _, h => by simp only [Rep, D.pub] at h ⊢; obtain ⟨vs, e, hs⟩ := h; exact ⟨vs, e, Reps.pubs hs⟩
 | .tup _, _, h => by simp only [Rep, D.pub] at h ⊢; obtain ⟨vs, e, hs⟩ := h; exact ⟨vs, e, Reps.pubs hs⟩
 | .pd _, _, h => by simpa only [D.pub] using h
 | .ptr .., _, h => by simpa only [D.pub] using h
 | .fn .., _, h => by simpa only [D.pub] using h
 | .mp _, _, h => by simpa only [D.pub] using h
 | .eptr _, _, h => by simpa only [D.pub] using h
 | .oelt _ _ _, _, h => by simp only [Rep, D.pub] at h ⊢; exact h.1
 | .any, _, h => by simpa only [D.pub] using h
theorem Reps.pubs {g : Gh} {w : World} : ∀ {ds : List D} {vs : List Value}, Reps g w ds vs → Reps g w (D.pubs ds) vs
 | [], _, h => by simpa only [D.pubs] using h
 | _ :: _, _, h => by simp only [Reps, D.pubs] at h ⊢; obtain ⟨v, vs', e, hv, hs⟩ := h; exact ⟨v, vs', e, Rep.pub hv, Reps.pubs hs⟩
end

mutual
theorem Rep.close {g g' : Gh} {w w' : World} (hx : Ex g.Fz w g'.Fz w') : ∀ {d : D} {v : Value}, d.closed = true → Rep g w d v → Rep g' w' d v
 | .own .., _, hc, h => by simp only [D.closed, Bool.false_eq_true] at hc
 | .nils, _, hc, h => by simp only [Rep] at h ⊢; exact h
 | .agg _, _, hc, h => by simp only [Rep, D.closed] at h hc ⊢; obtain ⟨vs, e, hs⟩ := h; exact ⟨vs, e, Reps.close hx hc hs⟩
 | .tup _, _, hc, h => by simp only [Rep, D.closed] at h hc ⊢; obtain ⟨vs, e, hs⟩ := h; exact ⟨vs, e, Reps.close hx hc hs⟩
 | .pd _, _, hc, h => by simp only [Rep] at h ⊢; exact h.mono hx
 | .ptr .., _, hc, h => by simp only [D.closed, Bool.false_eq_true] at hc
 | .fn _ caps, _, hc, h => by
   simp only [Rep, D.closed, List.isEmpty_iff] at h hc ⊢
   subst hc
   exact h
 | .mp _, _, hc, h => by simp only [D.closed, Bool.false_eq_true] at hc
 | .oelt .., _, hc, h => by simp only [D.closed, Bool.false_eq_true] at hc
 | .eptr _, _, hc, h => by
   simp only [Rep] at h ⊢
   obtain ⟨b, off, vs, e, hp, hcl⟩ := h
   exact ⟨b, off, vs, e, hp.mono hx, fun i u hu => ⟨(hx _ _ (hcl i u hu).2).2.trans (hcl i u hu).1, (hx _ _ (hcl i u hu).2).1⟩⟩
 | .any, _, _, _ => by simp only [Rep]
theorem Reps.close {g g' : Gh} {w w' : World} (hx : Ex g.Fz w g'.Fz w') : ∀ {ds : List D} {vs : List Value}, D.closeds ds = true → Reps g w ds vs → Reps g' w' ds vs
 | [], _, _, h => by simp only [Reps] at h ⊢; exact h
 | _ :: _, _, hc, h => by
   simp only [D.closeds, Bool.and_eq_true] at hc
   simp only [Reps] at h ⊢; obtain ⟨v, vs', e, hv, hs⟩ := h; exact ⟨v, vs', e, Rep.close hx hc.1 hv, Reps.close hx hc.2 hs⟩
end

def Pure (P : Program) (f : FuncId) (args : List D) (R : D → Prop) : Prop :=
 ∀ (Fz : Nat → Nat → Prop) (w : World) (vs : List Value), (∀ b o, Fz b o → b < w.heap.size) → Reps (gh0 Fz) w args vs →
   Calls P f vs.toArray w fun e w' => ∃ v d Fz', e = .returned v ∧ R d ∧ d.closed = true ∧ Below w.heap.size w w' ∧ Ex Fz w Fz' w' ∧ (∀ b o, Fz' b o → b < w'.heap.size) ∧ (∀ b o, Fz' b o → b < w.heap.size → Fz b o) ∧ Rep (gh0 Fz') w' d v

theorem Pure.mono {P : Program} {f : FuncId} {args : List D} {R R' : D → Prop} (h : Pure P f args R) (hr : ∀ d, R d → R' d) : Pure P f args R' :=
 fun Fz w vs h1 h2 => (h Fz w vs h1 h2).mono fun _ _ ⟨v, d, Fz', h1, h2, h3⟩ => ⟨v, d, Fz', h1, hr d h2, h3⟩

theorem Pure.pureW {P : Program} {f : FuncId} {args as' : List D} {R : D → Prop} (he : Enters P f) (h : Pure P f as' R) (st : St) (ha : D.pubs args = as') (hc : D.closeds as' = true) : PureW P f args st R := by
 refine ⟨he, fun C g a w vs _ hs hr => ?_⟩
 subst ha
 have h1 : Reps (gh0 g.Fz) w (D.pubs args) vs := Reps.close (g := g) (g' := gh0 g.Fz) (Ex.refl _ _) hc hr.pubs
 refine (h g.Fz w vs hs.mem.fzlt h1).mono ?_
 rintro e w' ⟨v, d, Fz', rfl, hd, hcl, hb, hx, hlt, hnew, hrep⟩
 obtain ⟨h2, h3⟩ := hs.called hb Fz' hx hlt
 refine ⟨v, d, _, rfl, hd, h2, Rep.close (g := gh0 Fz') (g' := g.withFz w.heap.size Fz') (fun b o hf => ⟨?_, rfl⟩) hcl hrep, h3.ex, fun n b _ hn => ⟨hn, hb.block b (hs.mem.bxok n b hn).1⟩⟩
 rcases Nat.lt_or_ge b w.heap.size with hlt' | hge
 ·exact .inl (hnew b o hf hlt')
 ·exact .inr ⟨hge, hf⟩

theorem Pure.callW {P : Program} {f : FuncId} {args as' : List D} {R : D → Prop} (he : Enters P f) (h : Pure P f as' R) (st : St) (ha : D.pubs args = as') (hc : D.closeds as' = true) {K : D → St → Prop} (hk : ∀ d, R d → K d st) : CallW P f args st K :=
 (h.pureW he st ha hc).callW hk

def frOf : Nat → List D → List (Nat × D)
 | _, [] => []
 | i, d :: ds => (i, d) :: frOf (i + 1) ds

def St.init (args : List D) : St := ⟨frOf 0 args, [], [], .no⟩

theorem frOf_lk : ∀ (ds : List D) (k i : Nat) (d : D), lk (frOf k ds) i = some d → k ≤ i ∧ ds[i - k]? = some d
 | [], _, _, _, h => by simp [frOf, lk] at h
 | e :: ds, k, i, d, h => by
   simp only [frOf, lk] at h
   split at h
   ·rename_i hik
    subst hik
    simp only [Option.some.injEq] at h
    subst h
    exact ⟨Nat.le_refl _, by simp⟩
   ·obtain ⟨h1, h2⟩ := frOf_lk ds (k + 1) i d h
    refine ⟨by omega, ?_⟩
    obtain ⟨m, hm⟩ : ∃ m, i - k = m + 1 := ⟨i - k - 1, by omega⟩
    rw [hm, List.getElem?_cons_succ, show m = i - (k + 1) by omega]
    exact h2

def resD (P : Program) (st : St) : List ResultVar → Option (List D)
 | [] => some []
 | .tmp t :: rs => (resD P st rs).map (st.get t :: ·)
 | .cell a t :: rs => match aggSize P t with
   | some k => match (AOp.load k (.tmp a)).ex none st, resD P st rs with
     | some (d, _), some ds => some (d :: ds)
     | _, _ => none
   | none => none

inductive AR where
 | tmp (t : Nat)
 | cell (a : Nat) (k : Option Nat)

def resC (P : Program) : List ResultVar → Option (List AR)
 | [] => some []
 | .tmp t :: rs => (resC P rs).map (.tmp t :: ·)
 | .cell a t :: rs => match aggSize P t, resC P rs with
   | some k, some l => some (.cell a k :: l)
   | _, _ => none

def resA (st : St) : List AR → Option (List D)
 | [] => some []
 | .tmp t :: rs => (resA st rs).map (st.get t :: ·)
 | .cell a k :: rs => match (AOp.load k (.tmp a)).ex none st, resA st rs with
   | some (d, _), some ds => some (d :: ds)
   | _, _ => none

theorem resD_of {P : Program} {st : St} : ∀ {rs : List ResultVar} {l : List AR}, resC P rs = some l → resD P st rs = resA st l
 | [], _, h => by simp only [resC, Option.some.injEq] at h; subst h; rfl
 | .tmp t :: rs, _, h => by
   simp only [resC] at h
   obtain ⟨l, h1, rfl⟩ := Option.map_eq_some_iff.1 h
   simp only [resD, resA, resD_of h1]
 | .cell a t :: rs, _, h => by
   simp only [resC] at h
   split at h
   ·rename_i k l h1 h2
    cases h
    simp only [resD, resA, h1, resD_of h2]
   ·cases h

def oneD : List D → D
 | [d] => d
 | ds => .tup ds

theorem load_val {C : Ctx} {st : St} {g : Gh} {a : Act} {w : World} (hs : SR C st g a w) {t : TypeId} {k : Option Nat} (hk : aggSize C.P t = some k) {x : Tmp} {d : D} {st' : St} (h : (AOp.load k (.tmp x)).ex none st = some (d, st')) :
 ∃ v, (do loadVar t (← asAddr (a.tmps.getD x undef)) : Sem Value).run C.P w = .ok v w ∧ Rep g w d v := by
 obtain ⟨o, ho⟩ : ∃ o : Oper, o.op = Op.load t (.tmp x) ∧ o.dst = none := ⟨{ (default : Oper) with op := .load t (.tmp x), dst := none }, rfl, rfl⟩
 have hsnd : Sound C o (.load k (.tmp x)) := by
  cases k with
  | none => exact snd_load_none ho.1 hk
  | some k => exact snd_load_some ho.1 hk
 obtain ⟨h1, _⟩ := hsnd (fun d e => by rw [ho.2] at e; cases e) st g a w d st' hs (by rw [ho.2]; exact h)
 obtain ⟨_, v, h2, h3⟩ := h1 rfl
 have h4 := h2 w (Keep.refl _ _ _)
 refine ⟨v, ?_, h3⟩
 have hx := hs.ev (.tmp x)
 obtain ⟨ad, hp⟩ : ∃ ad, a.tmps.getD x undef = .pointer (some ad) := by
  cases k <;> simp only [AOp.ex] at h
  all_goals
   split at h
   ·rename_i hev
    rw [hev] at hx
    simp only [Rep] at hx
    obtain ⟨b, _, e⟩ := hx
    exact ⟨_, e⟩
   ·rename_i hev
    rw [hev] at hx
    simp only [Rep] at hx
    obtain ⟨b, off, vs, e, _⟩ := hx
    exact ⟨_, e⟩
   ·rename_i hev
    rw [hev] at hx
    simp only [Rep] at hx
    obtain ⟨⟨b, off, vs, e, _⟩, _⟩ := hx
    exact ⟨_, e⟩
   ·cases h
 unfold execOp at h4
 simp only [ho.1, Act.eval, hp, Instr.loadAt, Instr.sureAddr, Sem.run_bind, Sem.run_pure, Result.andThen_ok] at h4
 simp only [hp, asAddr, Sem.run_bind, Sem.run_pure, Result.andThen_ok]
 generalize (loadVar t ad).run C.P w = r at h4
 cases r with
 | ok u w1 => simp only [Result.andThen_ok, Sem.run_pure, Result.ok.injEq, Next.value.injEq] at h4; rw [h4.1, h4.2]
 | halt e w1 => simp [Result.andThen] at h4

def resF (tmps : Array Value) : ResultVar → Sem Value
 | .tmp t => pure (tmps.getD t undef)
 | .cell a t => do loadVar t (← asAddr (tmps.getD a undef))

theorem resD_run {C : Ctx} {st : St} {g : Gh} {a : Act} {w : World} (hs : SR C st g a w) : ∀ (rs : List ResultVar) (ds : List D), resD C.P st rs = some ds →
 ∃ vs, (rs.mapM (resF a.tmps)).run C.P w = .ok vs w ∧ Reps g w ds vs
 | [], ds, h => by
   simp only [resD, Option.some.injEq] at h; subst h
   exact ⟨[], by simp [List.mapM_nil], by simp only [Reps]⟩
 | .tmp t :: rs, ds, h => by
   simp only [resD] at h
   obtain ⟨ds', h1, rfl⟩ := Option.map_eq_some_iff.1 h
   obtain ⟨vs, h2, h3⟩ := resD_run hs rs ds' h1
   refine ⟨a.tmps.getD t undef :: vs, ?_, ?_⟩
   ·rw [List.mapM_cons, Sem.run_bind]
    simp only [resF, Sem.run_pure, Result.andThen_ok, Sem.run_bind, h2]
   ·simp only [Reps]
    exact ⟨_, vs, rfl, hs.ev (.tmp t), h3⟩
 | .cell ad t :: rs, ds, h => by
   simp only [resD] at h
   split at h
   ·rename_i k hk
    split at h
    ·rename_i d st' ds' h1 h2
     cases h
     obtain ⟨v, h3, h4⟩ := load_val hs hk h1
     obtain ⟨vs, h5, h6⟩ := resD_run hs rs ds' h2
     refine ⟨v :: vs, ?_, ?_⟩
     ·rw [List.mapM_cons, Sem.run_bind]
      have : (resF a.tmps (.cell ad t)).run C.P w = .ok v w := h3
      simp only [this, Result.andThen_ok, Sem.run_bind, h5, Sem.run_pure]
     ·simp only [Reps]
      exact ⟨v, vs, rfl, h4, h6⟩
    ·cases h
   ·cases h

theorem results_run {C : Ctx} {st : St} {g : Gh} {a : Act} {w : World} (hs : SR C st g a w) (fn : Func) (ds : List D) (h : resD C.P st fn.results.toList = some ds) :
 ∃ v, (results fn a.tmps).run C.P w = .ok v w ∧ Rep g w (oneD ds) v := by
 obtain ⟨vs, h1, h2⟩ := resD_run hs fn.results.toList ds h
 have hm : (fn.results.mapM (resF a.tmps)).run C.P w = .ok vs.toArray w := by
  rw [Array.mapM_eq_mapM_toList]
  simp only [map_eq_pure_bind, Sem.run_bind, h1, Result.andThen_ok, Sem.run_pure]
 have e : results fn a.tmps = (do let vs ← fn.results.mapM (resF a.tmps); pure (if h : vs.size = 1 then vs[0] else .tuple vs) : Sem Value) := by
  unfold results
  congr 1
 rw [e, Sem.run_bind, hm, Result.andThen_ok, Sem.run_pure]
 refine ⟨_, rfl, ?_⟩
 split
 ·rename_i h1
  obtain ⟨v, rfl⟩ : ∃ v, vs = [v] := by
   match vs, h1 with
   | [v], _ => exact ⟨v, rfl⟩
   | [], h => simp at h
   | _ :: _ :: _, h => simp at h
  obtain ⟨d, rfl⟩ : ∃ d, ds = [d] := by
   have := h2.length
   match ds, this with
   | [d], _ => exact ⟨d, rfl⟩
   | [], h => simp at h
   | _ :: _ :: _, h => simp at h
  simp only [Reps] at h2
  obtain ⟨v', vs', e, h3, _⟩ := h2
  cases e
  exact h3
 ·rename_i h1
  have hl := h2.length
  have : oneD ds = .tup ds := by
   match ds, hl with
   | [d], hl => exact absurd (by simpa using hl) h1
   | [], _ => rfl
   | _ :: _ :: _, _ => rfl
  rw [this]
  simp only [Rep]
  exact ⟨vs, rfl, h2⟩

def retK (P : Program) (fn : Func) (R : D → Prop) : Exit → St → Prop
 | .normal, st => ∃ ds, resD P st fn.results.toList = some ds ∧ (oneD ds).pub.closed = true ∧ R (oneD ds).pub
 | .ret, st => ∃ ds, resD P st fn.results.toList = some ds ∧ (oneD ds).pub.closed = true ∧ R (oneD ds).pub
 | _, _ => False

theorem init_SR {P : Program} {N : Nat} {Fz : Nat → Nat → Prop} {w : World} {args : List D} {vs : List Value} (hN : args.length ≤ N) (hlt : ∀ b o, Fz b o → b < w.heap.size) (hr : Reps (gh0 Fz) w args vs) :
 SR (.fn P w Fz (fun _ => False) N) (St.init args) (gh0 Fz) { tmps := vs.toArray ++ Array.replicate (N - vs.toArray.size) undef, defers := [] } w where
 defers := rfl
 size := by
  have := hr.length
  simp; omega
 rep := fun i d hd => by
  obtain ⟨_, h2⟩ := frOf_lk args 0 i d hd
  simp only [Nat.sub_zero] at h2
  obtain ⟨v, h3, h4⟩ := hr.get i d h2
  have hi := (List.getElem?_eq_some_iff.1 h2).1
  refine ⟨by show i < N; omega, ?_⟩
  have hiv := (List.getElem?_eq_some_iff.1 h3).1
  simp only [Array.getD_eq_getD_getElem?]
  rw [Array.getElem?_append_left (by simpa using hiv), List.getElem?_toArray, h3]
  exact h4
 mem := {
  os := rfl, tape := rfl, output := rfl, hsz := Nat.le_refl _, old := fun _ _ _ _ => rfl, keep := Ex.refl _ _, newfz := fun _ _ h _ => .inl h, fzlt := hlt
  bxs := fun n ds h => by simp [St.init, lk] at h
  mps := fun n ds h => by simp [St.init, lk] at h
  bxok := fun n b h => by cases h
  bxinj := fun n m b h => by cases h
  tks := fun t v e h => by cases h
  tkinj := fun t s v u e f b h => by cases h
  bxtk := fun n t b v e h => by cases h
  dfs := fun D hD => by cases hD
  dnd := List.nodup_nil
  bxdf := fun n D hD => by cases hD
  bxdm := fun n b h => by cases h }
 x := rfl
 fix := fun i v h => by cases h

theorem SR.shut {C : Ctx} {st : St} {g : Gh} {a : Act} {w : World} (h : SR C st g a w) {D : Nat} {rest : List Nat} (hdf : g.df = D :: rest) :
 SR C st { g with df := rest } { a with defers := rest.map markOf } (w.putObj D (.deferred none)) := by
 have m := h.mem
 have hD := (m.dfs D (by rw [hdf]; simp)).2
 have hlt := (Array.getElem?_eq_some_iff.1 hD).1
 have hother : ∀ k, k ≠ D → (w.putObj D (.deferred none)).heap[k]? = w.heap[k]? := fun k hk => World.putObj_heap_other hk
 have hsame : (w.putObj D (.deferred none)).heap[D]? = some (.deferred none) := World.putObj_heap_same hlt
 have hsz : (w.putObj D (.deferred none)).heap.size = w.heap.size := by simp
 have hex : Ex g.Fz w g.Fz (w.putObj D (.deferred none)) := fun b o hf => ⟨hf, by
  by_cases hb : b = D
  ·subst hb
   simp [World.cell?, hsame, hD]
  ·exact World.cell?_of_block (hother b hb)⟩
 have hgr : Gr g w { g with df := rest } (w.putObj D (.deferred none)) := ⟨fun _ _ h => h, fun _ _ h => h, hex⟩
 have hnd := m.dnd
 rw [hdf, List.nodup_cons] at hnd
 have hx : C.X st.hs (Gh.has { g with df := rest } C.w0.heap.size) (w.putObj D (.deferred none)) := C.Xok _ _ _ (fun k => k = D) _ _ h.x ⟨rfl, rfl, rfl, by rw [hsz]; exact Nat.le_refl _, fun k _ hk => hother k hk⟩ (fun k e => by
  subst e; exact .inr (.inr (.inl (by rw [hdf]; simp)))) (fun k hk => .inl (by
   rcases hk with hk | hk | hk | hk
   ·exact .inl hk
   ·exact .inr (.inl hk)
   ·exact .inr (.inr (.inl (by rw [hdf]; exact List.mem_cons_of_mem _ hk)))
   ·exact .inr (.inr (.inr hk))))
 refine ⟨rfl, h.size, fun i d hd => ⟨(h.rep i d hd).1, (h.rep i d hd).2.mono hgr⟩, ?_, hx, h.fix⟩
 exact {
  os := m.os
  tape := m.tape
  output := m.output
  hsz := by rw [hsz]; exact m.hsz
  old := fun k h1 h2 h3 => (hother k (fun e => by
   have := (m.dfs D (by rw [hdf]; simp)).1
   subst e
   exact Nat.lt_irrefl _ (Nat.lt_of_lt_of_le h1 this))).trans (m.old k h1 h2 h3)
  keep := m.keep.trans hex
  newfz := m.newfz
  fzlt := fun b o hf => by rw [hsz]; exact m.fzlt b o hf
  bxs := fun n ds hn => by
   obtain ⟨b, cs, t, h1, h2, h3⟩ := m.bxs n ds hn
   exact ⟨b, cs, t, h1, (hother b (fun e => by subst e; rw [hD] at h2; cases h2)).trans h2, h3.mono hgr⟩
  mps := fun n es hn => by
   obtain ⟨b, en, h1, h2, h3⟩ := m.mps n es hn
   exact ⟨b, en, h1, (hother b (fun e => by subst e; rw [hD] at h2; cases h2; exact MO.no_mark h3)).trans h2, h3⟩
  bxok := fun n b hb => by rw [hsz]; exact m.bxok n b hb
  bxinj := m.bxinj
  tks := fun t v e ht => by
   obtain ⟨i, n, xs, h1, h2, h3, h4⟩ := m.tks t v e ht
   refine ⟨i, n, xs, h1, h2, ⟨h3.1, ?_⟩, h4⟩
   rcases h3.2 with hn | ⟨gb, cap, cur, rfl, hb, hgg, rest⟩
   ·exact .inl hn
   ·exact .inr ⟨gb, cap, cur, rfl, hb, (hother gb (fun e => by subst e; rw [hD] at hgg; cases hgg)).trans hgg, rest⟩
  tkinj := m.tkinj
  bxtk := m.bxtk
  dfs := fun D' hD' => ⟨(m.dfs D' (by rw [hdf]; exact List.mem_cons_of_mem _ hD')).1, (hother D' (fun e => hnd.1 (e ▸ hD'))).trans (m.dfs D' (by rw [hdf]; exact List.mem_cons_of_mem _ hD')).2⟩
  dnd := hnd.2
  bxdf := fun n D' hD' => m.bxdf n D' (by rw [hdf]; exact List.mem_cons_of_mem _ hD')
  bxdm := m.bxdm }

theorem leave_marks {C : Ctx} {n : Nat} {st : St} {fn : Func} {R : Ending → World → Prop} : ∀ (df : List Nat) (g : Gh) (a : Act) (w : World), g.df = df → SR C st g a w →
 (∀ g' a' w', a'.tmps = a.tmps → g'.df = [] → SR C st g' a' w' → ∃ v, (results fn a.tmps).run C.P w' = .ok v w' ∧ R (.returned v) w') →
 LeavesInM (FW none) n C.P fn a.tmps R a.defers .returning w
 | [], g, a, w, hdf, hs, hk => by
   have e : a.defers = [] := by rw [hs.defers, hdf]; rfl
   rw [e]
   exact hk g a w rfl hdf hs
 | D :: rest, g, a, w, hdf, hs, hk => by
   have e : a.defers = markOf D :: rest.map markOf := by rw [hs.defers, hdf]; rfl
   rw [e]
   have h1 := hs.shut hdf
   have hD := (hs.mem.dfs D (by rw [hdf]; simp)).2
   refine ⟨by simp, .inl ⟨D, _, rfl, run_takeDeferred hD, ?_⟩⟩
   have ih := leave_marks (n := n) (fn := fn) (R := R) rest { g with df := rest } { a with defers := rest.map markOf } _ rfl h1 (fun g' a' w' e hdf' hs' => hk g' a' w' e hdf' hs')
   exact ih

theorem pure_of_run {P : Program} (hm : P.follows .mixedOrders = true) (an : Ann) {f : FuncId} {fn : Func} {c : Code} {ac : AC} (hf : P.funcs[f]? = some fn) (hb : fn.body = some c) (hc : compC P an c = some ac)
 (hd : ac.dstOK fn.ntmps (fun i => decide (i < fn.ntmps)) = true) {args : List D} {R : D → Prop} (hN : args.length ≤ fn.ntmps) (hrun : run P ac (St.init args) (retK P fn R)) : Pure P f args R := by
 intro Fz w vs hlt hr
 refine (callsIn_wide (n := 0)).1 (callsIn_of_wp_marks (F := FW none) hf hb trivial (wpIn_mono (run_intoR (.fn P w Fz (fun _ => False) fn.ntmps) hm (yok_fn _ _ _ _ _) (plain_fn _ _ _ _ _) an 0 c ac hc hd _ _ hrun (gh0 Fz) _ w (init_SR hN hlt hr)) ?_) rfl)
 have key : ∀ (a' : Act) (w' : World), (∃ st g, SR (.fn P w Fz (fun _ => False) fn.ntmps) st g a' w' ∧ ∃ ds, resD P st fn.results.toList = some ds ∧ (oneD ds).pub.closed = true ∧ R (oneD ds).pub) →
  LeavesInM (FW none) 0 P fn a'.tmps (fun e w' => ∃ v' d Fz', e = .returned v' ∧ R d ∧ d.closed = true ∧ Below w.heap.size w w' ∧ Ex Fz w Fz' w' ∧ (∀ b o, Fz' b o → b < w'.heap.size) ∧ (∀ b o, Fz' b o → b < w.heap.size → Fz b o) ∧ Rep (gh0 Fz') w' d v') a'.defers .returning w' := by
  rintro a' w' ⟨st, g, hs, ds, h1, h2, h3⟩
  refine leave_marks g.df g a' w' rfl hs fun g' a2 w2 e _ hs' => ?_
  obtain ⟨v, h4, h5⟩ := results_run hs' fn ds h1
  have m := hs'.mem
  rw [e] at h4
  refine ⟨v, h4, v, (oneD ds).pub, g'.Fz, rfl, h3, h2, ⟨m.os, m.tape, m.output, m.hsz, fun k hk => m.old k hk (fun h => h) (fun h => h)⟩, m.keep, m.fzlt, fun b o h1 h2 => (m.newfz b o h1 h2).resolve_right id, ?_⟩
  exact Rep.close (g := g') (g' := gh0 g'.Fz) (Ex.refl _ _) h2 h5.pub
 intro e a' w' h
 cases e <;> simp only [Post] at h
 ·exact key a' w' h
 ·obtain ⟨_, _, _, h⟩ := h; exact h.elim
 ·obtain ⟨_, _, _, h⟩ := h; exact h.elim
 ·exact key a' w' h

def St.inits (args : List D) : St := ⟨frOf 0 args, [], [], .solo⟩

theorem inits_SR {P : Program} {N : Nat} {Fz : Nat → Nat → Prop} {w : World} {args : List D} {vs : List Value} (hN : args.length ≤ N) (hlt : ∀ b o, Fz b o → b < w.heap.size) (hr : Reps (gh0 Fz) w args vs) :
 SR (.alone P w Fz N) (St.inits args) (gh0 Fz) { tmps := vs.toArray ++ Array.replicate (N - vs.toArray.size) undef, defers := [] } w :=
 have h := init_SR (P := P) hN hlt hr
 have m := h.mem
 { defers := h.defers, size := h.size, rep := h.rep, x := rfl, fix := fun i v h => by cases h
   mem := {
    os := rfl, tape := rfl, output := rfl, hsz := Nat.le_refl _, old := fun _ _ _ _ => rfl, keep := Ex.refl _ _, newfz := fun _ _ h _ => .inl h, fzlt := hlt
    bxs := m.bxs, mps := m.mps, bxok := m.bxok, bxinj := m.bxinj, tks := m.tks, tkinj := m.tkinj, bxtk := m.bxtk, dfs := m.dfs, dnd := m.dnd, bxdf := m.bxdf, bxdm := m.bxdm } }

theorem pure_of_run_solo {P : Program} (hm : P.follows .mixedOrders = true) (an : Ann) {f : FuncId} {fn : Func} {c : Code} {ac : AC} (hf : P.funcs[f]? = some fn) (hb : fn.body = some c) (hc : compC P an c = some ac)
 (hd : ac.dstOK fn.ntmps (fun i => decide (i < fn.ntmps)) = true) {args : List D} {R : D → Prop} (hN : args.length ≤ fn.ntmps) (hrun : run P ac (St.inits args) (retK P fn R)) : Pure P f args R := by
 intro Fz w vs hlt hr
 refine (callsIn_wide (n := 0)).1 (callsIn_of_wp_marks (F := FW none) hf hb trivial (wpIn_mono (run_intoR (.alone P w Fz fn.ntmps) hm (yok_alone _ _ _ _) (plain_alone _ _ _ _) an 0 c ac hc hd _ _ hrun (gh0 Fz) _ w (inits_SR hN hlt hr)) ?_) rfl)
 have key : ∀ (a' : Act) (w' : World), (∃ st g, SR (.alone P w Fz fn.ntmps) st g a' w' ∧ ∃ ds, resD P st fn.results.toList = some ds ∧ (oneD ds).pub.closed = true ∧ R (oneD ds).pub) →
  LeavesInM (FW none) 0 P fn a'.tmps (fun e w' => ∃ v' d Fz', e = .returned v' ∧ R d ∧ d.closed = true ∧ Below w.heap.size w w' ∧ Ex Fz w Fz' w' ∧ (∀ b o, Fz' b o → b < w'.heap.size) ∧ (∀ b o, Fz' b o → b < w.heap.size → Fz b o) ∧ Rep (gh0 Fz') w' d v') a'.defers .returning w' := by
  rintro a' w' ⟨st, g, hs, ds, h1, h2, h3⟩
  refine leave_marks g.df g a' w' rfl hs fun g' a2 w2 e _ hs' => ?_
  obtain ⟨v, h4, h5⟩ := results_run hs' fn ds h1
  have m := hs'.mem
  rw [e] at h4
  refine ⟨v, h4, v, (oneD ds).pub, g'.Fz, rfl, h3, h2, ⟨m.os, m.tape, m.output, m.hsz, fun k hk => m.old k hk (fun h => h) (fun h => h)⟩, m.keep, m.fzlt, fun b o h1 h2 => (m.newfz b o h1 h2).resolve_right id, ?_⟩
  exact Rep.close (g := g') (g' := gh0 g'.Fz) (Ex.refl _ _) h2 h5.pub
 intro e a' w' h
 cases e <;> simp only [Post] at h
 ·exact key a' w' h
 ·obtain ⟨_, _, _, h⟩ := h; exact h.elim
 ·obtain ⟨_, _, _, h⟩ := h; exact h.elim
 ·exact key a' w' h


def seeCaps (ren : List (Nat × Nat)) : List (Nat × Nat) → Option (List (Nat × Nat))
 | [] => some []
 | c :: cs => match lk ren c.1, seeCaps ren cs with
   | some m, some r => some ((m, c.2) :: r)
   | _, _ => none

mutual
def D.see (ren : List (Nat × Nat)) : D → D
 | .ptr n o => match lk ren n with
   | some m => .ptr m o
   | none => .any
 | .fn f caps => match seeCaps ren caps with
   | some cs => .fn f cs
   | none => .any
 | .own _ _ els _ => .pd (.slice els)
 | .nils => .pd (.slice [])
 | .agg ds => .agg (D.sees ren ds)
 | .tup ds => .tup (D.sees ren ds)
 | .pd x => .pd x
 | .mp _ => .any
 | .eptr cs => .eptr cs
 | .oelt _ _ cs => .eptr cs
 | .any => .any
def D.sees (ren : List (Nat × Nat)) : List D → List D
 | [] => []
 | d :: ds => D.see ren d :: D.sees ren ds
end

theorem seeCaps_caps {g g0 : Gh} {ren : List (Nat × Nat)} (hr : ∀ n m b, lk ren n = some m → g.bx n = some b → g0.bx m = some b) : ∀ {cs ms : List (Nat × Nat)} {vs : List Value}, seeCaps ren cs = some ms → Caps g cs vs → Caps g0 ms vs
 | [], ms, vs, h, k => by simp only [seeCaps, Option.some.injEq] at h; subst h; exact k
 | c :: cs, ms, vs, h, k => by
   simp only [seeCaps] at h
   split at h
   ·rename_i m r h1 h2
    cases h
    simp only [Caps] at k ⊢
    obtain ⟨b, vs', rfl, hb, hk⟩ := k
    exact ⟨b, vs', rfl, hr _ _ _ h1 hb, seeCaps_caps hr h2 hk⟩
   ·cases h

mutual
theorem Rep.see {g g0 : Gh} {w : World} {ren : List (Nat × Nat)} (hr : ∀ n m b, lk ren n = some m → g.bx n = some b → g0.bx m = some b) (hf : g0.Fz = g.Fz) : ∀ {d : D} {v : Value}, Rep g w d v → Rep g0 w (d.see ren) v
 | .pd _, _, h => by simp only [Rep, D.see] at h ⊢; rw [hf]; exact h
 | .nils, _, h => by simp only [Rep, D.see] at h ⊢; subst h; exact .empty _ _
 | .own .., _, h => by simp only [Rep, D.see] at h ⊢; rw [hf]; exact h.1
 | .ptr n o, _, h => by
   simp only [Rep, D.see] at h ⊢
   split
   ·rename_i m hm
    simp only [Rep]; obtain ⟨b, hb, e⟩ := h; exact ⟨b, hr _ _ _ hm hb, e⟩
   ·simp only [Rep]
 | .eptr _, _, h => by simp only [Rep, D.see] at h ⊢; rw [hf]; exact h
 | .oelt _ _ _, _, h => by simp only [Rep, D.see] at h ⊢; rw [hf]; exact h.1
 | .fn f caps, _, h => by
   simp only [Rep, D.see] at h ⊢
   split
   ·rename_i cs hcs
    simp only [Rep]; obtain ⟨cv, e, hc⟩ := h; exact ⟨cv, e, seeCaps_caps hr hcs hc⟩
   ·simp only [Rep]
 | .mp _, _, h => by simp only [D.see, Rep]
 | .agg _, _, h => by simp only [Rep, D.see] at h ⊢; obtain ⟨vs, e, hs⟩ := h; exact ⟨vs, e, Reps.see hr hf hs⟩
 | .tup _, _, h => by simp only [Rep, D.see] at h ⊢; obtain ⟨vs, e, hs⟩ := h; exact ⟨vs, e, Reps.see hr hf hs⟩
 | .any, _, _ => by simp only [D.see, Rep]
theorem Reps.see {g g0 : Gh} {w : World} {ren : List (Nat × Nat)} (hr : ∀ n m b, lk ren n = some m → g.bx n = some b → g0.bx m = some b) (hf : g0.Fz = g.Fz) : ∀ {ds : List D} {vs : List Value}, Reps g w ds vs → Reps g0 w (D.sees ren ds) vs
 | [], _, h => by simp only [Reps, D.sees] at h ⊢; exact h
 | _ :: _, _, h => by simp only [Reps, D.sees] at h ⊢; obtain ⟨v, vs', e, hv, hs⟩ := h; exact ⟨v, vs', e, Rep.see hr hf hv, Reps.see hr hf hs⟩
end

def seeBs (ren : List (Nat × Nat)) (bs : List (Nat × List D)) : List (Nat × Nat) → List (Nat × List D)
 | [] => []
 | (n, m) :: r => match lk bs n with
   | some ds => (m, D.sees ren ds) :: seeBs ren bs r
   | none => seeBs ren bs r

theorem seeBs_lk {ren : List (Nat × Nat)} {bs : List (Nat × List D)} : ∀ {l : List (Nat × Nat)} {m : Nat} {ds : List D}, lk (seeBs ren bs l) m = some ds → ∃ n ds0, (n, m) ∈ l ∧ lk bs n = some ds0 ∧ ds = D.sees ren ds0
 | [], _, _, h => by simp [seeBs, lk] at h
 | (n, m') :: r, m, ds, h => by
   simp only [seeBs] at h
   split at h
   ·rename_i ds0 h0
    simp only [lk] at h
    split at h
    ·rename_i e
     subst e
     cases h
     exact ⟨n, ds0, by simp, h0, rfl⟩
    ·obtain ⟨n', d', h1, h2, h3⟩ := seeBs_lk h
     exact ⟨n', d', List.mem_cons_of_mem _ h1, h2, h3⟩
   ·obtain ⟨n', d', h1, h2, h3⟩ := seeBs_lk h
    exact ⟨n', d', List.mem_cons_of_mem _ h1, h2, h3⟩

def lkr : List (Nat × Nat) → Nat → Option Nat
 | [], _ => none
 | (n, m) :: r, k => if k = m then some n else lkr r k

def renOK (ren : List (Nat × Nat)) : Bool := decide ((ren.map (·.1)).Nodup) && decide ((ren.map (·.2)).Nodup) && ren.all fun p => decide (1000000 ≤ p.2)

theorem lk_mem {ren : List (Nat × Nat)} : ∀ {n m : Nat}, lk ren n = some m → (n, m) ∈ ren := by
 induction ren with
 | nil => intro n m h; simp [lk] at h
 | cons p r ih =>
   obtain ⟨a, b⟩ := p
   intro n m h
   simp only [lk] at h
   split at h
   ·rename_i e; subst e; cases h; simp
   ·exact List.mem_cons_of_mem _ (ih h)

theorem lkr_mem {ren : List (Nat × Nat)} : ∀ {n m : Nat}, lkr ren m = some n → (n, m) ∈ ren := by
 induction ren with
 | nil => intro n m h; simp [lkr] at h
 | cons p r ih =>
   obtain ⟨a, b⟩ := p
   intro n m h
   simp only [lkr] at h
   split at h
   ·rename_i e; subst e; cases h; simp
   ·exact List.mem_cons_of_mem _ (ih h)

theorem mem_lkr {ren : List (Nat × Nat)} (hn : (ren.map (·.2)).Nodup) : ∀ {n m : Nat}, (n, m) ∈ ren → lkr ren m = some n := by
 induction ren with
 | nil => intro n m h; cases h
 | cons p r ih =>
   obtain ⟨a, b⟩ := p
   intro n m h
   simp only [List.map_cons, List.nodup_cons] at hn
   simp only [lkr]
   rcases List.mem_cons.1 h with h' | h'
   ·cases h'; simp
   ·have hne : ¬ m = b := fun e => hn.1 (List.mem_map.2 ⟨(n, m), h', e⟩)
    rw [if_neg hne]
    exact ih hn.2 h'

theorem mem_fst {ren : List (Nat × Nat)} (hn : (ren.map (·.1)).Nodup) : ∀ {n m k : Nat}, (n, m) ∈ ren → (n, k) ∈ ren → m = k := by
 induction ren with
 | nil => intro n m k h; cases h
 | cons p r ih =>
   obtain ⟨a, b⟩ := p
   intro n m k h h'
   simp only [List.map_cons, List.nodup_cons] at hn
   rcases List.mem_cons.1 h with h | h <;> rcases List.mem_cons.1 h' with h' | h'
   ·cases h; cases h'; rfl
   ·cases h; exact absurd (List.mem_map.2 ⟨_, h', rfl⟩) hn.1
   ·cases h'; exact absurd (List.mem_map.2 ⟨_, h, rfl⟩) hn.1
   ·exact ih hn.2 h h'

def PureB (P : Program) (f : FuncId) (args : List D) (bs : List (Nat × List D)) (R : D → Prop) : Prop :=
 ∀ (g0 : Gh) (w : World) (vs : List Value), g0.tk = (fun _ => none) → g0.df = [] → (∀ N, Mem (.fn P w g0.Fz (fun _ => False) N) bs [] g0 w) → Reps g0 w args vs →
   Calls P f vs.toArray w fun e w' => ∃ v d Fz', e = .returned v ∧ R d ∧ d.closed = true ∧ Below w.heap.size w w' ∧ Ex g0.Fz w Fz' w' ∧ (∀ b o, Fz' b o → b < w'.heap.size) ∧ (∀ b o, Fz' b o → b < w.heap.size → g0.Fz b o) ∧ Rep (gh0 Fz') w' d v

theorem PureB.mono {P : Program} {f : FuncId} {args : List D} {bs : List (Nat × List D)} {R R' : D → Prop} (h : PureB P f args bs R) (hr : ∀ d, R d → R' d) : PureB P f args bs R' :=
 fun g0 w vs h1 h2 h3 h4 => (h g0 w vs h1 h2 h3 h4).mono fun _ _ ⟨v, d, Fz', h1, h2, h3⟩ => ⟨v, d, Fz', h1, hr d h2, h3⟩

theorem PureB.pureW {P : Program} {f : FuncId} {args args0 : List D} {bs0 : List (Nat × List D)} {R : D → Prop} (he : Enters P f) (h : PureB P f args0 bs0 R) (st : St) (ren : List (Nat × Nat)) (hok : renOK ren = true)
 (ha : D.sees ren args = args0) (hb : seeBs ren st.bs ren = bs0) : PureW P f args st R := by
 refine ⟨he, fun C g a w vs _ hs hr => ?_⟩
 subst ha hb
 simp only [renOK, Bool.and_eq_true, decide_eq_true_eq] at hok
 have m := hs.mem
 obtain ⟨g0, hg0⟩ : ∃ g0 : Gh, g0 = ⟨fun k => (lkr ren k).bind g.bx, fun _ => none, g.Fz, []⟩ := ⟨_, rfl⟩
 have hf : g0.Fz = g.Fz := by rw [hg0]
 have hren : ∀ n k b, lk ren n = some k → g.bx n = some b → g0.bx k = some b := fun n k b h1 h2 => by
  rw [hg0]
  simp [mem_lkr hok.1.2 (lk_mem h1), h2]
 have hinv : ∀ k b, g0.bx k = some b → ∃ n, (n, k) ∈ ren ∧ g.bx n = some b := fun k b h1 => by
  rw [hg0] at h1
  obtain ⟨n, h2, h3⟩ := Option.bind_eq_some_iff.1 h1
  exact ⟨n, lkr_mem h2, h3⟩
 have hmem : ∀ N, Mem (.fn P w g0.Fz (fun _ => False) N) (seeBs ren st.bs ren) [] g0 w := fun N => {
  os := rfl, tape := rfl, output := rfl, hsz := Nat.le_refl _, old := fun _ _ _ _ => rfl, keep := Ex.refl _ _, newfz := fun _ _ h _ => .inl h
  fzlt := fun b o h => m.fzlt b o (by rw [← hf]; exact h)
  bxs := fun k ds hk => by
   obtain ⟨n, ds0, h1, h2, rfl⟩ := seeBs_lk hk
   obtain ⟨b, cs, t, h3, h4, h5⟩ := m.bxs n ds0 h2
   refine ⟨b, cs, t, ?_, h4, h5.see hren hf⟩
   rw [hg0]
   simp [mem_lkr hok.1.2 h1, h3]
  mps := fun n ds h => by simp [lk] at h
  bxok := fun k b hk => by
   obtain ⟨n, h1, h2⟩ := hinv k b hk
   refine ⟨(m.bxok n b h2).1, .inr (.inr (by simpa using List.all_eq_true.1 hok.2 _ h1)), fun o ho => (m.bxok n b h2).2.2 o (by rw [← hf]; exact ho)⟩
  bxinj := fun k j b hk hj => by
   obtain ⟨n, h1, h2⟩ := hinv k b hk
   obtain ⟨n', h3, h4⟩ := hinv j b hj
   have := m.bxinj n n' b h2 h4
   subst this
   exact mem_fst hok.1.1 h1 h3
  tks := fun t v e h => by rw [hg0] at h; cases h
  tkinj := fun t s v u e f b h => by rw [hg0] at h; cases h
  bxtk := fun n t b v e _ h => by rw [hg0] at h; cases h
  dfs := fun D hD => by rw [hg0] at hD; cases hD
  dnd := by rw [hg0]; exact List.nodup_nil
  bxdf := fun n D hD => by rw [hg0] at hD; cases hD
  bxdm := fun n b _ h => h }
 refine (h g0 w vs (by rw [hg0]) (by rw [hg0]) hmem (hr.see hren hf)).mono ?_
 rintro e w' ⟨v, d, Fz', rfl, hd, hcl, hb, hx, hlt, hnew, hrep⟩
 rw [hf] at hx hnew
 obtain ⟨h2, h3⟩ := hs.called hb Fz' hx hlt
 refine ⟨v, d, _, rfl, hd, h2, Rep.close (g := gh0 Fz') (g' := g.withFz w.heap.size Fz') (fun b o hf => ⟨?_, rfl⟩) hcl hrep, h3.ex, fun n b _ hn => ⟨hn, hb.block b (hs.mem.bxok n b hn).1⟩⟩
 rcases Nat.lt_or_ge b w.heap.size with hlt' | hge
 ·exact .inl (hnew b o hf hlt')
 ·exact .inr ⟨hge, hf⟩

theorem PureB.callW {P : Program} {f : FuncId} {args args0 : List D} {bs0 : List (Nat × List D)} {R : D → Prop} (he : Enters P f) (h : PureB P f args0 bs0 R) (st : St) (ren : List (Nat × Nat)) (hok : renOK ren = true)
 (ha : D.sees ren args = args0) (hb : seeBs ren st.bs ren = bs0) {K : D → St → Prop} (hk : ∀ d, R d → K d st) : CallW P f args st K :=
 (h.pureW he st ren hok ha hb).callW hk

theorem pureB_of_run {P : Program} (hm : P.follows .mixedOrders = true) (an : Ann) {f : FuncId} {fn : Func} {c : Code} {ac : AC} (hf : P.funcs[f]? = some fn) (hb : fn.body = some c) (hc : compC P an c = some ac)
 (hd : ac.dstOK fn.ntmps (fun i => decide (i < fn.ntmps)) = true) {args : List D} {bs : List (Nat × List D)} {R : D → Prop} (hN : args.length ≤ fn.ntmps) (hrun : run P ac ⟨frOf 0 args, bs, [], .no⟩ (retK P fn R)) : PureB P f args bs R := by
 intro g0 w vs htk hdf hmem hr
 have hinit : SR (.fn P w g0.Fz (fun _ => False) fn.ntmps) ⟨frOf 0 args, bs, [], .no⟩ g0 { tmps := vs.toArray ++ Array.replicate (fn.ntmps - vs.toArray.size) undef, defers := [] } w := {
  defers := by rw [hdf]; rfl
  size := by
   have := hr.length
   simp; omega
  rep := fun i d hd => by
   obtain ⟨_, h2⟩ := frOf_lk args 0 i d hd
   simp only [Nat.sub_zero] at h2
   obtain ⟨v, h3, h4⟩ := hr.get i d h2
   have hi := (List.getElem?_eq_some_iff.1 h2).1
   refine ⟨by show i < fn.ntmps; omega, ?_⟩
   have hiv := (List.getElem?_eq_some_iff.1 h3).1
   simp only [Array.getD_eq_getD_getElem?]
   rw [Array.getElem?_append_left (by simpa using hiv), List.getElem?_toArray, h3]
   exact h4
  mem := hmem _
  x := rfl
  fix := fun i v h => by cases h }
 refine (callsIn_wide (n := 0)).1 (callsIn_of_wp_marks (F := FW none) hf hb trivial (wpIn_mono (run_intoR (.fn P w g0.Fz (fun _ => False) fn.ntmps) hm (yok_fn _ _ _ _ _) (plain_fn _ _ _ _ _) an 0 c ac hc hd _ _ hrun g0 _ w hinit) ?_) rfl)
 have key : ∀ (a' : Act) (w' : World), (∃ st g, SR (.fn P w g0.Fz (fun _ => False) fn.ntmps) st g a' w' ∧ ∃ ds, resD P st fn.results.toList = some ds ∧ (oneD ds).pub.closed = true ∧ R (oneD ds).pub) →
  LeavesInM (FW none) 0 P fn a'.tmps (fun e w' => ∃ v' d Fz', e = .returned v' ∧ R d ∧ d.closed = true ∧ Below w.heap.size w w' ∧ Ex g0.Fz w Fz' w' ∧ (∀ b o, Fz' b o → b < w'.heap.size) ∧ (∀ b o, Fz' b o → b < w.heap.size → g0.Fz b o) ∧ Rep (gh0 Fz') w' d v') a'.defers .returning w' := by
  rintro a' w' ⟨st, g, hs, ds, h1, h2, h3⟩
  refine leave_marks g.df g a' w' rfl hs fun g' a2 w2 e _ hs' => ?_
  obtain ⟨v, h4, h5⟩ := results_run hs' fn ds h1
  have m := hs'.mem
  rw [e] at h4
  refine ⟨v, h4, v, (oneD ds).pub, g'.Fz, rfl, h3, h2, ⟨m.os, m.tape, m.output, m.hsz, fun k hk => m.old k hk (fun h => h) (fun h => h)⟩, m.keep, m.fzlt, fun b o h1 h2 => (m.newfz b o h1 h2).resolve_right id, ?_⟩
  exact Rep.close (g := g') (g' := gh0 g'.Fz) (Ex.refl _ _) h2 h5.pub
 intro e a' w' h
 cases e <;> simp only [Post] at h
 ·exact key a' w' h
 ·obtain ⟨_, _, _, h⟩ := h; exact h.elim
 ·obtain ⟨_, _, _, h⟩ := h; exact h.elim
 ·exact key a' w' h


structure Gif (c : Bool) (A B : Prop) : Prop where
 yes : c = true → A
 no : c = false → B

structure GifP (p : Prop) (A B : Prop) : Prop where
 yes : p → A
 no : ¬ p → B

theorem gif_true {A B : Prop} : Gif true A B = A := propext ⟨fun h => h.yes rfl, fun h => ⟨fun _ => h, fun e => by cases e⟩⟩
theorem gif_false {A B : Prop} : Gif false A B = B := propext ⟨fun h => h.no rfl, fun h => ⟨(fun e => by cases e), fun _ => h⟩⟩
theorem gif_not {c : Bool} {A B : Prop} : Gif (!c) A B = Gif c B A := by
 cases c <;> simp only [Bool.not_true, Bool.not_false, gif_true, gif_false]
theorem gif_dec {p : Prop} [Decidable p] {A B : Prop} : Gif (decide p) A B = GifP p A B :=
 propext ⟨fun h => ⟨fun hp => h.yes (decide_eq_true hp), fun hp => h.no (decide_eq_false hp)⟩, fun h => ⟨fun hp => h.yes (of_decide_eq_true hp), fun hp => h.no (of_decide_eq_false hp)⟩⟩
theorem gifP_true {A B : Prop} : GifP True A B = A := propext ⟨fun h => h.yes trivial, fun h => ⟨fun _ => h, fun e => (e trivial).elim⟩⟩
theorem gifP_false {A B : Prop} : GifP False A B = B := propext ⟨fun h => h.no id, fun h => ⟨fun e => e.elim, fun _ => h⟩⟩
theorem gifP_not {p : Prop} {A B : Prop} : GifP (¬ p) A B = GifP p B A :=
 propext ⟨fun h => ⟨fun hp => h.no (fun k => k hp), fun hp => h.yes hp⟩, fun h => ⟨fun hp => h.no hp, fun hp => h.yes (Classical.byContradiction hp)⟩⟩
theorem gif_and {c : Bool} {A B : Prop} : ((c = true → A) ∧ (c = false → B)) = Gif c A B := propext ⟨fun h => ⟨h.1, h.2⟩, fun h => ⟨h.yes, h.no⟩⟩

theorem boolm {A B : Bool → Prop} (h : ∀ b, A b = B b) (d : D) : (match d with | .pd (.raw (.bool b)) => A b | _ => False) = (match d with | .pd (.raw (.bool b)) => B b | _ => False) := by rw [show A = B from funext h]

theorem boolt {A B : Bool → Prop} {N : Prop} (h : ∀ b, A b = B b) (d : D) : (match d with | .pd (.raw (.bool b)) => A b | .tup [] => N | _ => False) = (match d with | .pd (.raw (.bool b)) => B b | .tup [] => N | _ => False) := by rw [show A = B from funext h]

inductive Fr where
 | seq (y : AC)
 | block (id : Nat)
 | round (J : St → Prop)
 | scope (l : Nat) (r : AC)
 | once

def contS (P : Program) : List Fr → (Exit → St → Prop) → Exit → St → Prop
 | [], K, e, s => K e s
 | .seq y :: S, K, e, s => match e with
   | .normal => run P y s (contS P S K)
   | e => contS P S K e s
 | .block id :: S, K, e, s => match e with
   | .exit j => if j = id then contS P S K .normal s else contS P S K (.exit j) s
   | e => contS P S K e s
 | .round J :: S, K, e, s => match e with
   | .normal => J s
   | e => contS P S K e s
 | .scope l r :: S, K, e, s => match e with
   | .goto j => j = l ∧ run P r s fun e s => match e with
     | .goto _ => False
     | e => contS P S K e s
   | e => contS P S K e s
 | .once :: S, K, e, s => match e with
   | .goto _ => False
   | e => contS P S K e s

def nextS (P : Program) (kp : Option (List Nat)) (S : List Fr) (K : Exit → St → Prop) (s : St) : Prop := contS P S K .normal (s.keep kp)

section
variable {P : Program} {S : List Fr} {K : Exit → St → Prop} {st s : St} {x y : AC}

theorem run_start : run P x st K = run P x st (contS P [] K) := propext Iff.rfl
theorem run_seq : run P (.seq x y) st (contS P S K) = run P x st (contS P (.seq y :: S) K) := by
 simp only [run]
 congr 1
theorem run_block {id : Nat} : run P (.block id x) st (contS P S K) = run P x st (contS P (.block id :: S) K) := by
 simp only [run]
 congr 1
theorem run_scope {l : Nat} : run P (.scope l x y) st (contS P S K) = run P x st (contS P (.scope l y :: S) K) := by
 simp only [run]
 congr 1
theorem run_label {l : Nat} : run P (.label l) st (contS P S K) = contS P S K .normal st := propext Iff.rfl
theorem run_goto {l : Nat} : run P (.goto l) st (contS P S K) = contS P S K (.goto l) st := propext Iff.rfl
theorem run_skip : run P .skip st (contS P S K) = contS P S K .normal st := propext Iff.rfl
theorem run_ret : run P .ret st (contS P S K) = contS P S K .ret st := propext Iff.rfl
theorem run_exit {id : Nat} : run P (.exit id) st (contS P S K) = contS P S K (.exit id) st := propext Iff.rfl
theorem run_region {l : List AOper} {kp : Option (List Nat)} : run P (.region l kp) st (contS P S K) = aops P l st (nextS P kp S K) := propext Iff.rfl
theorem run_draw {l : List AOper} {tb : List Nat} {p : Plan} {kp : Option (List Nat)} : run P (.draw l tb p kp) st (contS P S K) = drun P l tb p [] st (nextS P kp S K) := propext Iff.rfl
theorem run_cond {c : Operand} : run P (.cond c x y) st (contS P S K) = match st.ev c with
 | .pd (.raw (.bool b)) => Gif b (run P x (st.know c true) (contS P S K)) (run P y (st.know c false) (contS P S K))
 | _ => False := by
 exact boolm (fun _ => gif_and) (st.ev c)
theorem run_rangeF {ns : List Nat} {p : Nat} {dq : Option Nat} {x : Operand} : run P (.rangeF ns p dq x y) st (contS P S K) = match st.ev x with
 | .fn f caps => caps.all (fun c => !ns.contains c.1 && decide (c.1 < 1000000)) = true ∧ ns.all (fun n => (lk st.bs n).isSome && decide (n < 200000)) = true ∧
   ∃ (xs : List Value) (J : Nat → List (Nat × List D) → Prop), IterW P f caps st xs ∧ J 0 (bsOf false st.bs ns ns) ∧
   (∀ i v bs, xs[i]? = some v → J i bs → run P y ⟨roundFr p (cD v) (cutFr ns st.fr) dq, bs, [], .no⟩ (contS P [] (roundK (J (i + 1)) (contS P S K) st ns))) ∧ ∀ bs, J xs.length bs → contS P S K .normal (st.after ns bs)
 | _ => False := propext Iff.rfl
theorem contS_nil {e : Exit} : contS P [] K e s = K e s := propext Iff.rfl
theorem contS_seq : contS P (.seq y :: S) K .normal s = run P y s (contS P S K) := propext Iff.rfl
theorem contS_seq_ret : contS P (.seq y :: S) K .ret s = contS P S K .ret s := propext Iff.rfl
theorem contS_seq_exit {j : Nat} : contS P (.seq y :: S) K (.exit j) s = contS P S K (.exit j) s := propext Iff.rfl
theorem contS_block {id : Nat} : contS P (.block id :: S) K .normal s = contS P S K .normal s := propext Iff.rfl
theorem contS_block_ret {id : Nat} : contS P (.block id :: S) K .ret s = contS P S K .ret s := propext Iff.rfl
theorem contS_block_exit {id j : Nat} : contS P (.block id :: S) K (.exit j) s = if j = id then contS P S K .normal s else contS P S K (.exit j) s := propext Iff.rfl
theorem contS_round {J : St → Prop} : contS P (.round J :: S) K .normal s = J s := propext Iff.rfl
theorem contS_round_ret {J : St → Prop} : contS P (.round J :: S) K .ret s = contS P S K .ret s := propext Iff.rfl
theorem contS_round_exit {J : St → Prop} {j : Nat} : contS P (.round J :: S) K (.exit j) s = contS P S K (.exit j) s := propext Iff.rfl
theorem contS_seq_goto {j : Nat} : contS P (.seq y :: S) K (.goto j) s = contS P S K (.goto j) s := propext Iff.rfl
theorem contS_block_goto {id j : Nat} : contS P (.block id :: S) K (.goto j) s = contS P S K (.goto j) s := propext Iff.rfl
theorem contS_round_goto {J : St → Prop} {j : Nat} : contS P (.round J :: S) K (.goto j) s = contS P S K (.goto j) s := propext Iff.rfl
theorem contS_scope {l : Nat} : contS P (.scope l y :: S) K .normal s = contS P S K .normal s := propext Iff.rfl
theorem contS_scope_ret {l : Nat} : contS P (.scope l y :: S) K .ret s = contS P S K .ret s := propext Iff.rfl
theorem contS_scope_exit {l j : Nat} : contS P (.scope l y :: S) K (.exit j) s = contS P S K (.exit j) s := propext Iff.rfl
theorem contS_scope_goto {l j : Nat} : contS P (.scope l y :: S) K (.goto j) s = (j = l ∧ run P y s (contS P (.once :: S) K)) := propext Iff.rfl
theorem contS_once : contS P (.once :: S) K .normal s = contS P S K .normal s := propext Iff.rfl
theorem contS_once_ret : contS P (.once :: S) K .ret s = contS P S K .ret s := propext Iff.rfl
theorem contS_once_exit {j : Nat} : contS P (.once :: S) K (.exit j) s = contS P S K (.exit j) s := propext Iff.rfl
theorem nextS_eq {kp : Option (List Nat)} : nextS P kp S K s = contS P S K .normal (s.keep kp) := propext Iff.rfl

end

structure AopsK (P : Program) (r : List AOper) (K : St → Prop) (st : St) : Prop where
 out : aops P r st K

def putK (dst : Option Nat) (K : St → Prop) (d : D) (st : St) : Prop := K (st.puto dst d)

section
variable {P : Program} {gd : Option (Nat × Bool)} {dst : Option Nat} {st : St} {K : St → Prop}
theorem aopsK_eq {r : List AOper} : AopsK P r K st = aops P r st K := propext ⟨fun h => h.out, fun h => ⟨h⟩⟩
theorem aopsK_fun {r : List AOper} : (fun st' => aops P r st' K) = AopsK P r K := funext fun _ => aopsK_eq.symm
theorem aops_nil : aops P [] st K = K st := propext Iff.rfl
theorem aops_none {op : AOp} {r : List AOper} : aops P (⟨none, dst, op⟩ :: r) st K = ystep P ⟨none, dst, op⟩ st (AopsK P r K) := by rw [← aopsK_fun]; rfl
theorem aops_yes {s : Nat} {op : AOp} {r : List AOper} : aops P (⟨some (s, true), dst, op⟩ :: r) st K = match st.get s with
 | .pd (.raw (.bool c)) => Gif c (ystep P ⟨some (s, true), dst, op⟩ (st.know (.tmp s) true) (AopsK P r K)) (aops P r ((st.know (.tmp s) false).puto dst (.tup [])) K)
 | .tup [] => aops P r (st.puto dst (.tup [])) K
 | _ => False := by
 rw [← aopsK_fun]
 exact boolt (fun _ => gif_and) (st.get s)
theorem aops_no {s : Nat} {op : AOp} {r : List AOper} : aops P (⟨some (s, false), dst, op⟩ :: r) st K = match st.get s with
 | .pd (.raw (.bool c)) => Gif c (aops P r ((st.know (.tmp s) true).puto dst (.tup [])) K) (ystep P ⟨some (s, false), dst, op⟩ (st.know (.tmp s) false) (AopsK P r K))
 | .tup [] => aops P r (st.puto dst (.tup [])) K
 | _ => False := by
 rw [← aopsK_fun]
 exact boolt (fun _ => propext ⟨fun h => ⟨h.2, h.1⟩, fun h => ⟨h.no, h.yes⟩⟩) (st.get s)
theorem y_callv (x : Operand) (args : List Operand) : ystep P ⟨gd, dst, .callv x args⟩ st K = match st.ev x with
 | .pd (.raw (.func (.yield l) first caps)) => match st.hs, valsD (args.map st.ev) with
   | .it l' xs i false, some vs => l' = l ∧ first = #[] ∧ caps = #[] ∧ xs[i]? = some vs ∧
     K (St.puto { st with hs := .it l xs (i + 1) false } dst (.pd (.raw (.bool true)))) ∧ K (St.puto { st with hs := .it l xs (i + 1) true } dst (.pd (.raw (.bool false))))
   | _, _ => False
 | .fn f caps => CallW P f (args.map st.ev ++ caps.map fun c => .ptr c.1 c.2) st (putK dst K)
 | .pd (.raw (.func (.func f) first caps)) => first = #[] ∧ caps = #[] ∧ CallW P f (args.map st.ev) st (putK dst K)
 | _ => False := by
 simp only [ystep, astep]
 cases st.ev x with
 | pd p =>
   cases p with
   | raw v => cases v <;> first | rfl | (rename_i t _ _; cases t <;> rfl)
   | _ => rfl
 | _ => rfl
theorem putK_eq {d : D} : putK dst K d st = K (st.puto dst d) := propext Iff.rfl
theorem y_mv (x : Operand) : ystep P ⟨gd, dst, .mv x⟩ st K = astep P ⟨gd, dst, .mv x⟩ st K := propext Iff.rfl
theorem y_pick (c x y : Operand) : ystep P ⟨gd, dst, .pick c x y⟩ st K = match st.ev c with
 | .pd (.raw (.bool b)) => Gif b (K ((st.know c true).puto dst (st.ev x))) (K ((st.know c false).puto dst (st.ev y)))
 | _ => False := by
 exact boolm (fun _ => gif_and) (st.ev c)
theorem y_alloc (e : TypeId) (zs : List D) : ystep P ⟨gd, dst, .alloc e zs⟩ st K = astep P ⟨gd, dst, .alloc e zs⟩ st K := propext Iff.rfl
theorem y_box (e : TypeId) (x : Operand) : ystep P ⟨gd, dst, .box e x⟩ st K = astep P ⟨gd, dst, .box e x⟩ st K := propext Iff.rfl
theorem y_build (zs : List D) (parts : List (Nat × Nat × Operand)) : ystep P ⟨gd, dst, .build zs parts⟩ st K = astep P ⟨gd, dst, .build zs parts⟩ st K := propext Iff.rfl
theorem y_bslice (e : TypeId) (sz : Nat) (parts : List Operand) : ystep P ⟨gd, dst, .bslice e sz parts⟩ st K = astep P ⟨gd, dst, .bslice e sz parts⟩ st K := propext Iff.rfl
theorem y_load (k : Option Nat) (x : Operand) : ystep P ⟨gd, dst, .load k x⟩ st K = astep P ⟨gd, dst, .load k x⟩ st K := propext Iff.rfl
theorem y_store (sz : Nat) (x y : Operand) : ystep P ⟨gd, dst, .store sz x y⟩ st K = astep P ⟨gd, dst, .store sz x y⟩ st K := propext Iff.rfl
theorem y_ncheck (x : Operand) : ystep P ⟨gd, dst, .ncheck x⟩ st K = astep P ⟨gd, dst, .ncheck x⟩ st K := propext Iff.rfl
theorem y_bin (op : BinOp) (x y : Operand) : ystep P ⟨gd, dst, .bin op x y⟩ st K = astep P ⟨gd, dst, .bin op x y⟩ st K := propext Iff.rfl
theorem y_binB (neg : Bool) (x y : Operand) : ystep P ⟨gd, dst, .binB neg x y⟩ st K = astep P ⟨gd, dst, .binB neg x y⟩ st K := propext Iff.rfl
theorem y_eqs (neg : Bool) (ks : List LK) (x y : Operand) : ystep P ⟨gd, dst, .eqs neg ks x y⟩ st K = astep P ⟨gd, dst, .eqs neg ks x y⟩ st K := propext Iff.rfl
theorem y_un (op : UnOp) (x : Operand) : ystep P ⟨gd, dst, .un op x⟩ st K = astep P ⟨gd, dst, .un op x⟩ st K := propext Iff.rfl
theorem y_conv (k : IntKind) (x : Operand) : ystep P ⟨gd, dst, .conv k x⟩ st K = astep P ⟨gd, dst, .conv k x⟩ st K := propext Iff.rfl
theorem y_fieldA (off : Nat) (x : Operand) : ystep P ⟨gd, dst, .fieldA off x⟩ st K = astep P ⟨gd, dst, .fieldA off x⟩ st K := propext Iff.rfl
theorem y_field (off : Nat) (k : Option Nat) (x : Operand) : ystep P ⟨gd, dst, .field off k x⟩ st K = astep P ⟨gd, dst, .field off k x⟩ st K := propext Iff.rfl
theorem y_idxA (sz : Nat) (x i : Operand) : ystep P ⟨gd, dst, .idxA sz x i⟩ st K = astep P ⟨gd, dst, .idxA sz x i⟩ st K := propext Iff.rfl
theorem y_idxS (x i : Operand) : ystep P ⟨gd, dst, .idxS x i⟩ st K = astep P ⟨gd, dst, .idxS x i⟩ st K := propext Iff.rfl
theorem y_extract (x : Operand) (j : Nat) : ystep P ⟨gd, dst, .extract x j⟩ st K = astep P ⟨gd, dst, .extract x j⟩ st K := propext Iff.rfl
theorem y_mkfn (f : FuncId) (caps : List Operand) : ystep P ⟨gd, dst, .mkfn f caps⟩ st K = astep P ⟨gd, dst, .mkfn f caps⟩ st K := propext Iff.rfl
theorem y_mkif (t : TypeId) (x : Operand) : ystep P ⟨gd, dst, .mkif t x⟩ st K = astep P ⟨gd, dst, .mkif t x⟩ st K := propext Iff.rfl
theorem y_len (x : Operand) (str : Bool) : ystep P ⟨gd, dst, .len x str⟩ st K = astep P ⟨gd, dst, .len x str⟩ st K := propext Iff.rfl
theorem y_minmax (mx : Bool) (x y : Operand) : ystep P ⟨gd, dst, .minmax mx x y⟩ st K = astep P ⟨gd, dst, .minmax mx x y⟩ st K := propext Iff.rfl
theorem y_slcS (x : Operand) (lo hi : Option Operand) : ystep P ⟨gd, dst, .slcS x lo hi⟩ st K = astep P ⟨gd, dst, .slcS x lo hi⟩ st K := propext Iff.rfl
theorem y_slcL (sz : Nat) (x : Operand) (lo hi : Option Operand) : ystep P ⟨gd, dst, .slcL sz x lo hi⟩ st K = astep P ⟨gd, dst, .slcL sz x lo hi⟩ st K := propext Iff.rfl
theorem y_append (e : TypeId) (sz bytes : Nat) (x y : Operand) : ystep P ⟨gd, dst, .append e sz bytes x y⟩ st K = astep P ⟨gd, dst, .append e sz bytes x y⟩ st K := propext Iff.rfl
theorem y_mkmap : ystep P ⟨gd, dst, .mkmap⟩ st K = astep P ⟨gd, dst, .mkmap⟩ st K := propext Iff.rfl
theorem y_mget (ks : List LK) (z : Value) (x i : Operand) : ystep P ⟨gd, dst, .mget ks z x i⟩ st K = astep P ⟨gd, dst, .mget ks z x i⟩ st K := propext Iff.rfl
theorem y_mset (ks : List LK) (x i v : Operand) : ystep P ⟨gd, dst, .mset ks x i v⟩ st K = astep P ⟨gd, dst, .mset ks x i v⟩ st K := propext Iff.rfl
theorem y_mentry (ks : List LK) (z : Value) (x i : Operand) : ystep P ⟨gd, dst, .mentry ks z x i⟩ st K = astep P ⟨gd, dst, .mentry ks z x i⟩ st K := propext Iff.rfl
theorem y_mstore (x s v : Operand) : ystep P ⟨gd, dst, .mstore x s v⟩ st K = astep P ⟨gd, dst, .mstore x s v⟩ st K := propext Iff.rfl
theorem y_srange (x : Operand) : ystep P ⟨gd, dst, .srange x⟩ st K = astep P ⟨gd, dst, .srange x⟩ st K := propext Iff.rfl
theorem y_snext (x : Operand) : ystep P ⟨gd, dst, .snext x⟩ st K = astep P ⟨gd, dst, .snext x⟩ st K := propext Iff.rfl
theorem y_isnil (neg : Bool) (x : Operand) : ystep P ⟨gd, dst, .isnil neg x⟩ st K = astep P ⟨gd, dst, .isnil neg x⟩ st K := propext Iff.rfl
theorem y_tassert (t : TypeId) (z : Value) (x : Operand) : ystep P ⟨gd, dst, .tassert t z x⟩ st K = astep P ⟨gd, dst, .tassert t z x⟩ st K := propext Iff.rfl
theorem y_bstr (x : Operand) : ystep P ⟨gd, dst, .bstr x⟩ st K = astep P ⟨gd, dst, .bstr x⟩ st K := propext Iff.rfl
theorem y_call (f : FuncId) (args : List Operand) : ystep P ⟨gd, dst, .call f args⟩ st K = CallW P f (args.map st.ev) st (putK dst K) := propext Iff.rfl
end

section
variable {P : Program} {S : List Fr} {K : Exit → St → Prop} {st s : St} {x y : AC}
def Round (P : Program) (I : Nat → St → Prop) (n : Nat) (s : St) : Prop := ∃ m s2, m < n ∧ Weak P s s2 ∧ I m s2

theorem loopS (I : Nat → St → Prop) (n0 : Nat) (s0 : St) (hw : Weak P st s0) (h0 : I n0 s0) (h : ∀ n s, I n s → run P x s (contS P (.round (Round P I n) :: S) K)) : run P (.loop x) st (contS P S K) := by
 simp only [run]
 refine ⟨I, ⟨n0, s0, hw, h0⟩, fun n s hi => ?_⟩
 exact h n s hi
theorem rangeS {ns : List Nat} {p : Nat} {dq : Option Nat} {c : Operand} {f : FuncId} {caps : List (Nat × Nat)} (xs : List Value) (J : Nat → List (Nat × List D) → Prop) (hev : st.ev c = .fn f caps)
 (hc : caps.all (fun c => !ns.contains c.1 && decide (c.1 < 1000000)) = true) (hn : ns.all (fun n => (lk st.bs n).isSome && decide (n < 200000)) = true) (hit : IterW P f caps st xs) (h0 : J 0 (bsOf false st.bs ns ns))
 (hr : ∀ i v bs, xs[i]? = some v → J i bs → run P y ⟨roundFr p (cD v) (cutFr ns st.fr) dq, bs, [], .no⟩ (contS P [] (roundK (J (i + 1)) (contS P S K) st ns))) (he : ∀ bs, J xs.length bs → contS P S K .normal (st.after ns bs)) :
 run P (.rangeF ns p dq c y) st (contS P S K) := by
 rw [run_rangeF, hev]
 exact ⟨hc, hn, xs, J, hit, h0, hr, he⟩
end

section
variable {P : Program} {K : St → Prop} {KK : Exit → St → Prop} {S : List Fr} {KT : Option Nat → St → Prop} {dst : Option Nat} {fr : List (Nat × D)} {bs : List (Nat × List D)} {ms : List (Nat × MO)} {hs : Hist} {d : D} {i : Nat} {b : Bool}
theorem puto_some : St.puto ⟨fr, bs, ms, hs⟩ (some i) d = ⟨(i, d) :: fr, bs, ms, hs⟩ := rfl
theorem put_mk : St.put ⟨fr, bs, ms, hs⟩ i d = ⟨(i, d) :: fr, bs, ms, hs⟩ := rfl
theorem puto_none : St.puto ⟨fr, bs, ms, hs⟩ none d = ⟨fr, bs, ms, hs⟩ := rfl
theorem know_tmp : St.know ⟨fr, bs, ms, hs⟩ (.tmp i) b = ⟨(i, .pd (.raw (.bool b))) :: fr, bs, ms, hs⟩ := rfl
theorem know_const {v : Value} : St.know ⟨fr, bs, ms, hs⟩ (.const v) b = ⟨fr, bs, ms, hs⟩ := rfl
theorem get_mk : St.get ⟨fr, bs, ms, hs⟩ i = (lk fr i).getD .any := rfl
theorem ev_tmp : St.ev ⟨fr, bs, ms, hs⟩ (.tmp i) = (lk fr i).getD .any := rfl
theorem ev_const {v : Value} : St.ev ⟨fr, bs, ms, hs⟩ (.const v) = cD v := rfl
theorem ev_func {f : FuncId} : St.ev ⟨fr, bs, ms, hs⟩ (.func f) = .fn f [] := rfl
theorem keep_none : St.keep ⟨fr, bs, ms, hs⟩ none = ⟨fr, bs, ms, hs⟩ := rfl
theorem keep_some {l : List Nat} : St.keep ⟨fr, bs, ms, hs⟩ (some l) = ⟨l.map fun i => (i, (lk fr i).getD .any), bs, ms, hs⟩ := rfl
theorem aopsK_mk {r : List AOper} : AopsK P r K ⟨fr, bs, ms, hs⟩ = aops P r ⟨fr, bs, ms, hs⟩ K := aopsK_eq
theorem putK_mk : putK dst K d ⟨fr, bs, ms, hs⟩ = K (St.puto ⟨fr, bs, ms, hs⟩ dst d) := putK_eq
theorem nextS_mk {kp : Option (List Nat)} : nextS P kp S KK ⟨fr, bs, ms, hs⟩ = contS P S KK .normal (St.keep ⟨fr, bs, ms, hs⟩ kp) := nextS_eq
end

def lessL {α : Type} : List (Nat × α) → List (Nat × α) → Prop
 | [], _ => True
 | (i, d) :: r, l => lk l i = some d ∧ lessL r l

theorem lessL_lk {α : Type} : ∀ {r l : List (Nat × α)}, lessL r l → ∀ (i : Nat) (d : α), lk r i = some d → lk l i = some d
 | [], _, _, _, _, h => by simp [lk] at h
 | (j, e) :: r, l, h, i, d, hl => by
   simp only [lk] at hl
   split at hl
   ·rename_i hij
    subst hij
    cases hl
    exact h.1
   ·exact lessL_lk h.2 i d hl

theorem Weak.less {P : Program} {st st' : St} (hf : lessL st'.fr st.fr) (hb : lessL st'.bs st.bs) (hm : lessL st'.ms st.ms) (hh : st'.hs = st.hs) : Weak P st st' :=
 fun _ g _ _ _ h => ⟨g, h.less (fun i d hd => .inl (lessL_lk hf i d hd)) (lessL_lk hb) (lessL_lk hm) hh⟩

theorem SR.tell {C : Ctx} {st : St} {g : Gh} {a : Act} {w : World} (h : SR C st g a w) {i : Nat} (hi : i < C.N) {d : D} (hd : Rep g w d (a.tmps.getD i undef)) : SR C (st.put i d) g a w := by
 refine ⟨h.defers, h.size, fun j e hj => ?_, h.mem, h.x, h.fix⟩
 simp only [St.put, lk] at hj
 split at hj
 ·rename_i hji
  subst hji
  cases hj
  exact ⟨hi, hd⟩
 ·exact h.rep j e hj

theorem grownBy_same (w : World) (row : Option Nat) : w.grownBy w row := ⟨rfl, rfl, rfl, Nat.le_refl _, fun _ _ _ => rfl⟩

structure DtK (P : Program) (l : List AOper) (tb : List Nat) (p : Plan) (T : List (Nat × Nat)) (i : Nat) (K : St → Prop) (r : Option Nat) (st : St) : Prop where
 out : drun P l tb p (pendTo T i r) st K

structure DrK (P : Program) (l : List AOper) (tb : List Nat) (p : Plan) (T : List (Nat × Nat)) (K : St → Prop) (t : Option Nat) (st : St) : Prop where
 free : clear T t = true
 out : drun P l tb p T st K

structure DnK (P : Program) (l : List AOper) (tb : List Nat) (p : Plan) (T : List (Nat × Nat)) (dst : Option Nat) (K : St → Prop) (st : St) : Prop where
 out : drun P l tb p T (st.puto dst (.tup [])) K

def putN (dst : Option Nat) (K : Option Nat → St → Prop) (st : St) (d : D) : Prop := K none (st.puto dst d)

section
variable {P : Program} {e : Bool} {gd : Option (Nat × Bool)} {dst : Option Nat} {st : St} {K : St → Prop} {KT : Option Nat → St → Prop} {l : List AOper} {tb : List Nat} {p : Plan} {T : List (Nat × Nat)} {i : Nat}
theorem dtK_eq {r : Option Nat} : DtK P l tb p T i K r st = drun P l tb p (pendTo T i r) st K := propext ⟨fun h => h.out, fun h => ⟨h⟩⟩
theorem drK_eq {t : Option Nat} : DrK P l tb p T K t st = (clear T t = true ∧ drun P l tb p T st K) := propext ⟨fun h => ⟨h.free, h.out⟩, fun h => ⟨h.1, h.2⟩⟩
theorem dnK_eq : DnK P l tb p T dst K st = drun P l tb p T (st.puto dst (.tup [])) K := propext ⟨fun h => h.out, fun h => ⟨h⟩⟩
theorem dnK_fun : (fun st => drun P l tb p T (st.puto dst (.tup [])) K) = DnK P l tb p T dst K := funext fun _ => dnK_eq.symm
theorem dnK_mk {fr : List (Nat × D)} {bs : List (Nat × List D)} {ms : List (Nat × MO)} {hs : Hist} : DnK P l tb p T dst K ⟨fr, bs, ms, hs⟩ = drun P l tb p T (St.puto ⟨fr, bs, ms, hs⟩ dst (.tup [])) K := dnK_eq
theorem dtK_fun : (fun r st' => drun P l tb p (pendTo T i r) st' K) = DtK P l tb p T i K := funext fun _ => funext fun _ => dtK_eq.symm
theorem drK_fun : (fun t st' => clear T t = true ∧ drun P l tb p T st' K) = DrK P l tb p T K := funext fun _ => funext fun _ => drK_eq.symm
theorem putN_eq {d : D} : putN dst KT st d = KT none (st.puto dst d) := propext Iff.rfl
theorem dtK_mk {r : Option Nat} {fr : List (Nat × D)} {bs : List (Nat × List D)} {ms : List (Nat × MO)} {hs : Hist} : DtK P l tb p T i K r ⟨fr, bs, ms, hs⟩ = drun P l tb p (pendTo T i r) ⟨fr, bs, ms, hs⟩ K := dtK_eq
theorem drK_mk {t : Option Nat} {fr : List (Nat × D)} {bs : List (Nat × List D)} {ms : List (Nat × MO)} {hs : Hist} : DrK P l tb p T K t ⟨fr, bs, ms, hs⟩ = (clear T t = true ∧ drun P l tb p T ⟨fr, bs, ms, hs⟩ K) := drK_eq
theorem putN_mk {d : D} {fr : List (Nat × D)} {bs : List (Nat × List D)} {ms : List (Nat × MO)} {hs : Hist} : putN dst KT ⟨fr, bs, ms, hs⟩ d = KT none (St.puto ⟨fr, bs, ms, hs⟩ dst d) := putN_eq
theorem d_done : drun P l tb .done T st K = K st := propext Iff.rfl
theorem d_take : drun P l tb (.take i p) T st K = match l[i]? with
 | some o => guarded o st (fun st => tstep o st (DtK P l tb p T i K)) (DnK P l tb p T o.dst K)
 | none => False := by
 simp only [← dtK_fun, ← dnK_fun]; rfl
theorem d_alts {L : Alts} : drun P l tb (.alts L) T st K = dalts P l tb L T st K := propext Iff.rfl
theorem d_nil : dalts P l tb .nil T st K = True := propext Iff.rfl
theorem d_cons {e : Bool} {L : Alts} : dalts P l tb (.cons i e p L) T st K = ((match l[i]? with
 | some o => guarded o st (fun st => xstep P e o st (DrK P l tb p (T.filter fun q => !waits tb i q.1) K)) (DnK P l tb p (T.filter fun q => !waits tb i q.1) o.dst K)
 | none => False) ∧ dalts P l tb L T st K) := by
 simp only [← drK_fun, ← dnK_fun]; rfl
theorem g_none {op : AOp} {yes no : St → Prop} : guarded ⟨none, dst, op⟩ st yes no = yes st := propext Iff.rfl
theorem g_yes {s : Nat} {op : AOp} {yes no : St → Prop} : guarded ⟨some (s, true), dst, op⟩ st yes no = match st.get s with
 | .pd (.raw (.bool c)) => Gif c (yes (st.know (.tmp s) true)) (no (st.know (.tmp s) false))
 | .tup [] => no st
 | _ => False := by
 exact boolt (fun _ => gif_and) (st.get s)
theorem g_no {s : Nat} {op : AOp} {yes no : St → Prop} : guarded ⟨some (s, false), dst, op⟩ st yes no = match st.get s with
 | .pd (.raw (.bool c)) => Gif c (no (st.know (.tmp s) true)) (yes (st.know (.tmp s) false))
 | .tup [] => no st
 | _ => False := by
 exact boolt (fun _ => propext ⟨fun h => ⟨h.2, h.1⟩, fun h => ⟨h.no, h.yes⟩⟩) (st.get s)
def putA (dst : Option Nat) (K : Option Nat → St → Prop) (d : D) (st : St) : Prop := K none (st.puto dst d)
theorem putA_eq {d : D} : putA dst KT d st = KT none (st.puto dst d) := propext Iff.rfl
theorem putA_mk {d : D} {fr : List (Nat × D)} {bs : List (Nat × List D)} {ms : List (Nat × MO)} {hs : Hist} : putA dst KT d ⟨fr, bs, ms, hs⟩ = KT none (St.puto ⟨fr, bs, ms, hs⟩ dst d) := putA_eq
def putU (dst : Option Nat) (K : Option Nat → St → Prop) (st : St) : Prop := K none (st.puto dst .any)
theorem putU_mk {fr : List (Nat × D)} {bs : List (Nat × List D)} {ms : List (Nat × MO)} {hs : Hist} : putU dst KT ⟨fr, bs, ms, hs⟩ = KT none (St.puto ⟨fr, bs, ms, hs⟩ dst .any) := propext Iff.rfl
theorem clear_none : clear T none = true := rfl
theorem clear_some {t : Nat} : clear T (some t) = T.all fun p => p.2 != t := rfl
theorem pendTo_none : pendTo T i none = T := rfl
theorem pendTo_some {n : Nat} : pendTo T i (some n) = (i, n) :: T := rfl
theorem x_call (f : FuncId) (args : List Operand) : xstep P e ⟨gd, dst, .call f args⟩ st KT = PureW P f (args.map st.ev) st (putN dst KT st) := propext Iff.rfl
theorem x_callv (x : Operand) (args : List Operand) : xstep P e ⟨gd, dst, .callv x args⟩ st KT = match st.ev x with
 | .fn f caps => PureW P f (args.map st.ev ++ caps.map fun c => .ptr c.1 c.2) st (putN dst KT st)
 | .pd (.raw (.func (.func f) first caps)) => e = true ∧ first = #[] ∧ caps = #[] ∧ CallW P f (args.map st.ev) st (putA dst KT)
 | _ => False := by
 simp only [xstep]
 cases st.ev x with
 | pd p =>
   cases p with
   | raw v => cases v <;> first | rfl | (rename_i t _ _; cases t <;> rfl)
   | _ => rfl
 | _ => rfl
theorem x_mv (x : Operand) : xstep P e ⟨gd, dst, .mv x⟩ st KT = astep P ⟨gd, dst, .mv x⟩ st (KT none) := propext Iff.rfl
theorem t_mv (x : Operand) : tstep ⟨gd, dst, .mv x⟩ st KT = match (AOp.mv x).ex dst st with
 | some (d, _) => KT none (st.puto dst d)
 | none => False := propext Iff.rfl
theorem x_build (zs : List D) (parts : List (Nat × Nat × Operand)) : xstep P e ⟨gd, dst, .build zs parts⟩ st KT = astep P ⟨gd, dst, .build zs parts⟩ st (KT none) := propext Iff.rfl
theorem t_build (zs : List D) (parts : List (Nat × Nat × Operand)) : tstep ⟨gd, dst, .build zs parts⟩ st KT = match (AOp.build zs parts).ex dst st with
 | some (d, _) => KT none (st.puto dst d)
 | none => False := propext Iff.rfl
theorem x_load (k : Option Nat) (x : Operand) : xstep P e ⟨gd, dst, .load k x⟩ st KT = astep P ⟨gd, dst, .load k x⟩ st (KT none) := propext Iff.rfl
theorem t_load (k : Option Nat) (x : Operand) : tstep ⟨gd, dst, .load k x⟩ st KT = match (AOp.load k x).ex dst st with
 | some (d, _) => KT (match st.ev x with | .ptr n _ => some n | _ => none) (st.puto dst d)
 | none => False := propext Iff.rfl
theorem x_ncheck (x : Operand) : xstep P e ⟨gd, dst, .ncheck x⟩ st KT = astep P ⟨gd, dst, .ncheck x⟩ st (KT none) := propext Iff.rfl
theorem t_ncheck (x : Operand) : tstep ⟨gd, dst, .ncheck x⟩ st KT = match (AOp.ncheck x).ex dst st with
 | some (d, _) => KT none (st.puto dst d)
 | none => False := propext Iff.rfl
theorem x_bin (op : BinOp) (x y : Operand) : xstep P e ⟨gd, dst, .bin op x y⟩ st KT = astep P ⟨gd, dst, .bin op x y⟩ st (KT none) := propext Iff.rfl
theorem t_bin (op : BinOp) (x y : Operand) : tstep ⟨gd, dst, .bin op x y⟩ st KT = match (AOp.bin op x y).ex dst st with
 | some (d, _) => KT none (st.puto dst d)
 | none => False := propext Iff.rfl
theorem x_binB (neg : Bool) (x y : Operand) : xstep P e ⟨gd, dst, .binB neg x y⟩ st KT = astep P ⟨gd, dst, .binB neg x y⟩ st (KT none) := propext Iff.rfl
theorem t_binB (neg : Bool) (x y : Operand) : tstep ⟨gd, dst, .binB neg x y⟩ st KT = match (AOp.binB neg x y).ex dst st with
 | some (d, _) => KT none (st.puto dst d)
 | none => False := propext Iff.rfl
theorem x_eqs (neg : Bool) (ks : List LK) (x y : Operand) : xstep P e ⟨gd, dst, .eqs neg ks x y⟩ st KT = astep P ⟨gd, dst, .eqs neg ks x y⟩ st (KT none) := propext Iff.rfl
theorem t_eqs (neg : Bool) (ks : List LK) (x y : Operand) : tstep ⟨gd, dst, .eqs neg ks x y⟩ st KT = match (AOp.eqs neg ks x y).ex dst st with
 | some (d, _) => KT none (st.puto dst d)
 | none => False := propext Iff.rfl
theorem x_un (op : UnOp) (x : Operand) : xstep P e ⟨gd, dst, .un op x⟩ st KT = astep P ⟨gd, dst, .un op x⟩ st (KT none) := propext Iff.rfl
theorem t_un (op : UnOp) (x : Operand) : tstep ⟨gd, dst, .un op x⟩ st KT = match (AOp.un op x).ex dst st with
 | some (d, _) => KT none (st.puto dst d)
 | none => False := propext Iff.rfl
theorem x_conv (k : IntKind) (x : Operand) : xstep P e ⟨gd, dst, .conv k x⟩ st KT = astep P ⟨gd, dst, .conv k x⟩ st (KT none) := propext Iff.rfl
theorem t_conv (k : IntKind) (x : Operand) : tstep ⟨gd, dst, .conv k x⟩ st KT = match (AOp.conv k x).ex dst st with
 | some (d, _) => KT none (st.puto dst d)
 | none => False := propext Iff.rfl
theorem x_fieldA (off : Nat) (x : Operand) : xstep P e ⟨gd, dst, .fieldA off x⟩ st KT = astep P ⟨gd, dst, .fieldA off x⟩ st (KT none) := propext Iff.rfl
theorem t_fieldA (off : Nat) (x : Operand) : tstep ⟨gd, dst, .fieldA off x⟩ st KT = match (AOp.fieldA off x).ex dst st with
 | some (d, _) => KT none (st.puto dst d)
 | none => False := propext Iff.rfl
theorem x_field (off : Nat) (k : Option Nat) (x : Operand) : xstep P e ⟨gd, dst, .field off k x⟩ st KT = astep P ⟨gd, dst, .field off k x⟩ st (KT none) := propext Iff.rfl
theorem t_field (off : Nat) (k : Option Nat) (x : Operand) : tstep ⟨gd, dst, .field off k x⟩ st KT = match (AOp.field off k x).ex dst st with
 | some (d, _) => KT none (st.puto dst d)
 | none => False := propext Iff.rfl
theorem x_idxA (sz : Nat) (x i : Operand) : xstep P e ⟨gd, dst, .idxA sz x i⟩ st KT = astep P ⟨gd, dst, .idxA sz x i⟩ st (KT none) := propext Iff.rfl
theorem t_idxA (sz : Nat) (x i : Operand) : tstep ⟨gd, dst, .idxA sz x i⟩ st KT = match (AOp.idxA sz x i).ex dst st with
 | some (d, _) => KT none (st.puto dst d)
 | none => False := propext Iff.rfl
theorem x_idxS (x i : Operand) : xstep P e ⟨gd, dst, .idxS x i⟩ st KT = astep P ⟨gd, dst, .idxS x i⟩ st (KT none) := propext Iff.rfl
theorem t_idxS (x i : Operand) : tstep ⟨gd, dst, .idxS x i⟩ st KT = match (AOp.idxS x i).ex dst st with
 | some (d, _) => KT none (st.puto dst d)
 | none => False := propext Iff.rfl
theorem x_extract (x : Operand) (j : Nat) : xstep P e ⟨gd, dst, .extract x j⟩ st KT = astep P ⟨gd, dst, .extract x j⟩ st (KT none) := propext Iff.rfl
theorem t_extract (x : Operand) (j : Nat) : tstep ⟨gd, dst, .extract x j⟩ st KT = match (AOp.extract x j).ex dst st with
 | some (d, _) => KT none (st.puto dst d)
 | none => False := propext Iff.rfl
theorem x_mkfn (f : FuncId) (caps : List Operand) : xstep P e ⟨gd, dst, .mkfn f caps⟩ st KT = astep P ⟨gd, dst, .mkfn f caps⟩ st (KT none) := propext Iff.rfl
theorem t_mkfn (f : FuncId) (caps : List Operand) : tstep ⟨gd, dst, .mkfn f caps⟩ st KT = match (AOp.mkfn f caps).ex dst st with
 | some (d, _) => KT none (st.puto dst d)
 | none => False := propext Iff.rfl
theorem x_mkif (t : TypeId) (x : Operand) : xstep P e ⟨gd, dst, .mkif t x⟩ st KT = astep P ⟨gd, dst, .mkif t x⟩ st (KT none) := propext Iff.rfl
theorem t_mkif (t : TypeId) (x : Operand) : tstep ⟨gd, dst, .mkif t x⟩ st KT = match (AOp.mkif t x).ex dst st with
 | some (d, _) => KT none (st.puto dst d)
 | none => False := propext Iff.rfl
theorem x_len (x : Operand) (str : Bool) : xstep P e ⟨gd, dst, .len x str⟩ st KT = astep P ⟨gd, dst, .len x str⟩ st (KT none) := propext Iff.rfl
theorem t_len (x : Operand) (str : Bool) : tstep ⟨gd, dst, .len x str⟩ st KT = match (AOp.len x str).ex dst st with
 | some (d, _) => KT none (st.puto dst d)
 | none => False := propext Iff.rfl
theorem x_minmax (mx : Bool) (x y : Operand) : xstep P e ⟨gd, dst, .minmax mx x y⟩ st KT = astep P ⟨gd, dst, .minmax mx x y⟩ st (KT none) := propext Iff.rfl
theorem t_minmax (mx : Bool) (x y : Operand) : tstep ⟨gd, dst, .minmax mx x y⟩ st KT = match (AOp.minmax mx x y).ex dst st with
 | some (d, _) => KT none (st.puto dst d)
 | none => False := propext Iff.rfl
theorem x_slcS (x : Operand) (lo hi : Option Operand) : xstep P e ⟨gd, dst, .slcS x lo hi⟩ st KT = astep P ⟨gd, dst, .slcS x lo hi⟩ st (KT none) := propext Iff.rfl
theorem t_slcS (x : Operand) (lo hi : Option Operand) : tstep ⟨gd, dst, .slcS x lo hi⟩ st KT = match (AOp.slcS x lo hi).ex dst st with
 | some (d, _) => KT none (st.puto dst d)
 | none => False := propext Iff.rfl
theorem x_slcL (sz : Nat) (x : Operand) (lo hi : Option Operand) : xstep P e ⟨gd, dst, .slcL sz x lo hi⟩ st KT = astep P ⟨gd, dst, .slcL sz x lo hi⟩ st (KT none) := propext Iff.rfl
theorem t_slcL (sz : Nat) (x : Operand) (lo hi : Option Operand) : tstep ⟨gd, dst, .slcL sz x lo hi⟩ st KT = match (AOp.slcL sz x lo hi).ex dst st with
 | some (d, _) => KT none (st.puto dst d)
 | none => False := propext Iff.rfl
theorem x_pick (c x y : Operand) : xstep P e ⟨gd, dst, .pick c x y⟩ st KT = ystep P ⟨gd, dst, .pick c x y⟩ st (KT none) := propext Iff.rfl
theorem x_alloc (ty : TypeId) (zs : List D) : xstep P e ⟨gd, dst, .alloc ty zs⟩ st KT = astep P ⟨gd, dst, .alloc ty zs⟩ st (KT dst) := propext Iff.rfl
theorem x_box (ty : TypeId) (x : Operand) : xstep P e ⟨gd, dst, .box ty x⟩ st KT = astep P ⟨gd, dst, .box ty x⟩ st (KT dst) := propext Iff.rfl
theorem x_bslice (ty : TypeId) (sz : Nat) (parts : List Operand) : xstep P e ⟨gd, dst, .bslice ty sz parts⟩ st KT = astep P ⟨gd, dst, .bslice ty sz parts⟩ st (KT none) := propext Iff.rfl
theorem x_store (sz : Nat) (x y : Operand) : xstep P e ⟨gd, dst, .store sz x y⟩ st KT = match st.ev x with
 | .oelt t j cs => updP e t j sz cs.length st (st.ev y) (putU dst KT)
 | d => astep P ⟨gd, dst, .store sz x y⟩ st (KT (match d with | .ptr n _ => some n | _ => none)) := by
 simp only [xstep]
 cases h : st.ev x <;> simp only [AOp.touch, h] <;> rfl
theorem x_append (ty : TypeId) (sz bytes : Nat) (x y : Operand) : xstep P e ⟨gd, dst, .append ty sz bytes x y⟩ st KT = astep P ⟨gd, dst, .append ty sz bytes x y⟩ st (KT none) := propext Iff.rfl
theorem x_mkmap : xstep P e ⟨gd, dst, .mkmap⟩ st KT = astep P ⟨gd, dst, .mkmap⟩ st (KT dst) := propext Iff.rfl
theorem x_mget (ks : List LK) (z : Value) (x i : Operand) : xstep P e ⟨gd, dst, .mget ks z x i⟩ st KT = astep P ⟨gd, dst, .mget ks z x i⟩ st (KT none) := propext Iff.rfl
theorem x_mset (ks : List LK) (x i v : Operand) : xstep P e ⟨gd, dst, .mset ks x i v⟩ st KT = astep P ⟨gd, dst, .mset ks x i v⟩ st (KT (match st.ev x with | .mp n => some n | _ => none)) := propext Iff.rfl
theorem x_mentry (ks : List LK) (z : Value) (x i : Operand) : xstep P e ⟨gd, dst, .mentry ks z x i⟩ st KT = astep P ⟨gd, dst, .mentry ks z x i⟩ st (KT (match st.ev x with | .mp n => some n | _ => none)) := propext Iff.rfl
theorem x_mstore (x s v : Operand) : xstep P e ⟨gd, dst, .mstore x s v⟩ st KT = astep P ⟨gd, dst, .mstore x s v⟩ st (KT (match st.ev x with | .mp n => some n | _ => none)) := propext Iff.rfl
theorem x_srange (x : Operand) : xstep P e ⟨gd, dst, .srange x⟩ st KT = astep P ⟨gd, dst, .srange x⟩ st (KT dst) := propext Iff.rfl
theorem x_snext (x : Operand) : xstep P e ⟨gd, dst, .snext x⟩ st KT = astep P ⟨gd, dst, .snext x⟩ st (KT (match st.ev x with | .ptr n _ => some n | _ => none)) := propext Iff.rfl
theorem x_isnil (neg : Bool) (x : Operand) : xstep P e ⟨gd, dst, .isnil neg x⟩ st KT = astep P ⟨gd, dst, .isnil neg x⟩ st (KT none) := propext Iff.rfl
theorem x_tassert (t : TypeId) (z : Value) (x : Operand) : xstep P e ⟨gd, dst, .tassert t z x⟩ st KT = astep P ⟨gd, dst, .tassert t z x⟩ st (KT none) := propext Iff.rfl
theorem x_bstr (x : Operand) : xstep P e ⟨gd, dst, .bstr x⟩ st KT = astep P ⟨gd, dst, .bstr x⟩ st (KT none) := propext Iff.rfl
theorem t_isnil (neg : Bool) (x : Operand) : tstep ⟨gd, dst, .isnil neg x⟩ st KT = match (AOp.isnil neg x).ex dst st with
 | some (d, _) => KT none (st.puto dst d)
 | none => False := propext Iff.rfl
theorem t_tassert (t : TypeId) (z : Value) (x : Operand) : tstep ⟨gd, dst, .tassert t z x⟩ st KT = match (AOp.tassert t z x).ex dst st with
 | some (d, _) => KT none (st.puto dst d)
 | none => False := propext Iff.rfl
theorem t_bstr (x : Operand) : tstep ⟨gd, dst, .bstr x⟩ st KT = match (AOp.bstr x).ex dst st with
 | some (d, _) => KT none (st.puto dst d)
 | none => False := propext Iff.rfl
theorem t_mget (ks : List LK) (z : Value) (x i : Operand) : tstep ⟨gd, dst, .mget ks z x i⟩ st KT = match (AOp.mget ks z x i).ex dst st with
 | some (d, _) => KT (match st.ev x with | .mp n => some n | _ => none) (st.puto dst d)
 | none => False := propext Iff.rfl
theorem t_pick (c x y : Operand) : tstep ⟨gd, dst, .pick c x y⟩ st KT = match st.ev c with
 | .pd (.raw (.bool b)) => Gif b (KT none ((st.know c true).puto dst (st.ev x))) (KT none ((st.know c false).puto dst (st.ev y)))
 | _ => False := by
 exact boolm (fun _ => gif_and) (st.ev c)
end

theorem PureW.mono {P : Program} {f : FuncId} {args : List D} {st : St} {R R' : D → Prop} (h : PureW P f args st R) (hr : ∀ d, R d → R' d) : PureW P f args st R' :=
 ⟨h.1, fun C g a w vs hc hs hv => (h.2 C g a w vs hc hs hv).mono fun _ _ ⟨v, d, g', e, h1, h2⟩ => ⟨v, d, g', e, hr d h1, h2⟩⟩

theorem Pure.callX {P : Program} {f : FuncId} {args as' : List D} {R : D → Prop} (he : Enters P f) (h : Pure P f as' R) (st : St) (ha : D.pubs args = as') (hc : D.closeds as' = true) {K : D → Prop} (hk : ∀ d, R d → K d) : PureW P f args st K :=
 (h.pureW he st ha hc).mono hk

theorem PureB.callX {P : Program} {f : FuncId} {args args0 : List D} {bs0 : List (Nat × List D)} {R : D → Prop} (he : Enters P f) (h : PureB P f args0 bs0 R) (st : St) (ren : List (Nat × Nat)) (hok : renOK ren = true)
 (ha : D.sees ren args = args0) (hb : seeBs ren st.bs ren = bs0) {K : D → Prop} (hk : ∀ d, R d → K d) : PureW P f args st K :=
 (h.pureW he st ren hok ha hb).mono hk


def Ctx.call (P : Program) (w : World) (g : Gh) (N : Nat) (pin : Bool) : Ctx :=
 ⟨P, w, g.Fz, g.S, N, fun i => decide (i < N) && (!pin || decide (i < 100000)), fun n => if pin = true ∧ 500000 ≤ n then g.bx n else none, fun h _ _ => h = .no, fun _ => False,
  fun i h => by
   simp only [Bool.and_eq_true, decide_eq_true_eq, Bool.or_eq_true, Bool.not_eq_true'] at h
   refine ⟨h.1, if_neg fun hp => ?_⟩
   rcases h.2 with h2 | h2
   ·rw [h2] at hp; cases hp.1
   ·omega,
  fun n _ h2 => if_neg fun hp => by omega,
  fun _ h => h.elim, fun _ _ _ _ _ _ h _ _ _ => h, fun _ _ (h : Hist.solo = .no) => by cases h⟩

theorem Mem.toN {P : Program} {w : World} {g0 : Gh} {N : Nat} {pin : Bool} {bs : List (Nat × List D)} {ms : List (Nat × MO)} {g : Gh} {w' : World} (m : Mem (.call P w g0 N pin) bs ms g w') (N' : Nat) : Mem (.call P w g0 N' pin) bs ms g w' where
 os := m.os
 tape := m.tape
 output := m.output
 hsz := m.hsz
 old := m.old
 keep := m.keep
 newfz := m.newfz
 fzlt := m.fzlt
 bxs := m.bxs
 mps := m.mps
 bxok := m.bxok
 bxinj := m.bxinj
 tks := m.tks
 tkinj := m.tkinj
 bxtk := m.bxtk
 dfs := m.dfs
 dnd := m.dnd
 bxdf := m.bxdf
 bxdm := m.bxdm

theorem AC.dstOK_mono {N : Nat} {p q : Nat → Bool} (hpq : ∀ i, p i = true → q i = true) : ∀ {x : AC}, x.dstOK N p = true → x.dstOK N q = true
 | .skip, _ => rfl
 | .ret, _ => rfl
 | .exit _, _ => rfl
 | .seq x y, h => by
   simp only [AC.dstOK, Bool.and_eq_true] at h ⊢
   exact ⟨AC.dstOK_mono hpq h.1, AC.dstOK_mono hpq h.2⟩
 | .cond _ x y, h => by
   simp only [AC.dstOK, Bool.and_eq_true] at h ⊢
   exact ⟨AC.dstOK_mono hpq h.1, AC.dstOK_mono hpq h.2⟩
 | .block _ x, h => by simp only [AC.dstOK] at h ⊢; exact AC.dstOK_mono hpq h
 | .loop x, h => by simp only [AC.dstOK] at h ⊢; exact AC.dstOK_mono hpq h
 | .region l kp, h => by
   simp only [AC.dstOK, Bool.and_eq_true, List.all_eq_true] at h ⊢
   refine ⟨fun o ho => ?_, h.2⟩
   have := h.1 o ho
   unfold Go.Proofs.YtbjaopoipkphnaaGreatDoor.dstOK at this ⊢
   split at this <;> first | exact hpq _ this | rfl
 | .draw l _ _ kp, h => by
   simp only [AC.dstOK, Bool.and_eq_true, List.all_eq_true] at h ⊢
   refine ⟨fun o ho => ?_, h.2⟩
   have := h.1 o ho
   unfold Go.Proofs.YtbjaopoipkphnaaGreatDoor.dstOK at this ⊢
   split at this <;> first | exact hpq _ this | rfl
 | .rangeF .., h => by simp only [AC.dstOK] at h ⊢; exact h
 | .rangeB .., h => by simp only [AC.dstOK] at h ⊢; exact h
 | .label _, _ => rfl
 | .goto _, _ => rfl
 | .scope _ x y, h => by
   simp only [AC.dstOK, Bool.and_eq_true] at h ⊢
   exact ⟨AC.dstOK_mono hpq h.1, AC.dstOK_mono hpq h.2⟩
 | .bad, _ => rfl

mutual
def D.ren (kn : Bool) (ren tn : List (Nat × Nat)) : D → D
 | .ptr n o => match lk ren n with
   | some m => .ptr m o
   | none => .any
 | .fn f caps => match seeCaps ren caps with
   | some cs => .fn f cs
   | none => .any
 | .own e sz els t => match lk tn t with
   | some s => .own e sz els s
   | none => .pd (.slice els)
 | .nils => if kn then .nils else .pd (.slice [])
 | .mp _ => .any
 | .agg ds => .agg (D.rens kn ren tn ds)
 | .tup ds => .tup (D.rens kn ren tn ds)
 | .pd x => .pd x
 | .eptr cs => .eptr cs
 | .oelt t j cs => match lk tn t with
   | some s => .oelt s j cs
   | none => .eptr cs
 | .any => .any
def D.rens (kn : Bool) (ren tn : List (Nat × Nat)) : List D → List D
 | [] => []
 | d :: ds => D.ren kn ren tn d :: D.rens kn ren tn ds
end

mutual
def D.sel (kn kt : Nat → Bool) : D → D
 | .ptr n o => if kn n then .ptr n o else .any
 | .fn f caps => if caps.all (fun c => kn c.1) then .fn f caps else .any
 | .own e sz els t => if kt t then .own e sz els t else .pd (.slice els)
 | .mp n => if kn n then .mp n else .any
 | .agg ds => .agg (D.sels kn kt ds)
 | .tup ds => .tup (D.sels kn kt ds)
 | .pd x => .pd x
 | .nils => .nils
 | .eptr cs => .eptr cs
 | .oelt t j cs => if kt t then .oelt t j cs else .eptr cs
 | .any => .any
def D.sels (kn kt : Nat → Bool) : List D → List D
 | [] => []
 | d :: ds => D.sel kn kt d :: D.sels kn kt ds
end

section
variable {g g' : Gh} {w w' : World}

section
variable {kn : Bool} {ren tn : List (Nat × Nat)}
mutual
theorem Rep.ren (hr : ∀ n m b, lk ren n = some m → g.bx n = some b → g'.bx m = some b) (ht : ∀ t s x, lk tn t = some s → g.tk t = some x → g'.tk s = some x) (hx : Ex g.Fz w g'.Fz w') : ∀ {d : D} {v : Value}, Rep g w d v → Rep g' w' (d.ren kn ren tn) v
 | .pd _, _, h => by simp only [Rep, D.ren] at h ⊢; exact h.mono hx
 | .nils, _, h => by
   simp only [Rep, D.ren] at h ⊢
   subst h
   split
   ·simp only [Rep]
   ·simp only [Rep]; exact .empty _ _
 | .own .., _, h => by
   simp only [Rep, D.ren] at h ⊢
   split
   ·rename_i s hs
    simp only [Rep]; exact ⟨h.1.mono hx, ht _ _ _ hs h.2.1, h.2.2⟩
   ·simp only [Rep]; exact h.1.mono hx
 | .ptr n o, _, h => by
   simp only [Rep, D.ren] at h ⊢
   split
   ·rename_i m hm
    simp only [Rep]; obtain ⟨b, hb, e⟩ := h; exact ⟨b, hr _ _ _ hm hb, e⟩
   ·simp only [Rep]
 | .eptr _, _, h => by
   simp only [Rep, D.ren] at h ⊢
   obtain ⟨b, off, vs, e, hp, hc⟩ := h
   exact ⟨b, off, vs, e, hp.mono hx, fun i u hu => ⟨(hx _ _ (hc i u hu).2).2.trans (hc i u hu).1, (hx _ _ (hc i u hu).2).1⟩⟩
 | .oelt _ _ _, _, h => by
   simp only [Rep, D.ren] at h ⊢
   obtain ⟨⟨b, off, vs, e, hp, hc⟩, b', len, cap, et, h1, h2⟩ := h
   split
   ·rename_i htk
    simp only [Rep]
    exact ⟨⟨b, off, vs, e, hp.mono hx, fun i u hu => ⟨(hx _ _ (hc i u hu).2).2.trans (hc i u hu).1, (hx _ _ (hc i u hu).2).1⟩⟩, b', len, cap, et, ht _ _ _ htk h1, h2⟩
   ·simp only [Rep]
    exact ⟨b, off, vs, e, hp.mono hx, fun i u hu => ⟨(hx _ _ (hc i u hu).2).2.trans (hc i u hu).1, (hx _ _ (hc i u hu).2).1⟩⟩
 | .fn f caps, _, h => by
   simp only [Rep, D.ren] at h ⊢
   split
   ·rename_i cs hcs
    simp only [Rep]; obtain ⟨cv, e, hc⟩ := h; exact ⟨cv, e, seeCaps_caps hr hcs hc⟩
   ·simp only [Rep]
 | .mp _, _, h => by simp only [D.ren, Rep]
 | .agg _, _, h => by simp only [Rep, D.ren] at h ⊢; obtain ⟨vs, e, hs⟩ := h; exact ⟨vs, e, Reps.ren hr ht hx hs⟩
 | .tup _, _, h => by simp only [Rep, D.ren] at h ⊢; obtain ⟨vs, e, hs⟩ := h; exact ⟨vs, e, Reps.ren hr ht hx hs⟩
 | .any, _, _ => by simp only [D.ren, Rep]
theorem Reps.ren (hr : ∀ n m b, lk ren n = some m → g.bx n = some b → g'.bx m = some b) (ht : ∀ t s x, lk tn t = some s → g.tk t = some x → g'.tk s = some x) (hx : Ex g.Fz w g'.Fz w') : ∀ {ds : List D} {vs : List Value}, Reps g w ds vs → Reps g' w' (D.rens kn ren tn ds) vs
 | [], _, h => by simpa only [D.rens, Reps] using h
 | _ :: _, _, h => by simp only [Reps, D.rens] at h ⊢; obtain ⟨v, vs', e, hv, hs⟩ := h; exact ⟨v, vs', e, Rep.ren hr ht hx hv, Reps.ren hr ht hx hs⟩
end
end

theorem Caps.sel {kn : Nat → Bool} (hb : ∀ n b, kn n = true → g.bx n = some b → g'.bx n = some b) : ∀ {cs : List (Nat × Nat)} {vs : List Value}, cs.all (fun c => kn c.1) = true → Caps g cs vs → Caps g' cs vs
 | [], _, _, h => h
 | c :: cs, _, hn, ⟨b, vs', e, h, hs⟩ => by
   simp only [List.all_cons, Bool.and_eq_true] at hn
   exact ⟨b, vs', e, hb _ _ hn.1 h, Caps.sel hb hn.2 hs⟩

section
variable {kn kt : Nat → Bool}
mutual
theorem Rep.sel (hb : ∀ n b, kn n = true → g.bx n = some b → g'.bx n = some b) (ht : ∀ t x, kt t = true → g.tk t = some x → g'.tk t = some x) (hx : Ex g.Fz w g'.Fz w') : ∀ {d : D} {v : Value}, Rep g w d v → Rep g' w' (d.sel kn kt) v
 | .pd _, _, h => by simp only [Rep, D.sel] at h ⊢; exact h.mono hx
 | .nils, _, h => by simp only [Rep, D.sel] at h ⊢; exact h
 | .own .., _, h => by
   simp only [Rep, D.sel] at h ⊢
   split
   ·rename_i hs
    simp only [Rep]; exact ⟨h.1.mono hx, ht _ _ hs h.2.1, h.2.2⟩
   ·simp only [Rep]; exact h.1.mono hx
 | .ptr n o, _, h => by
   simp only [Rep, D.sel] at h ⊢
   split
   ·rename_i hm
    simp only [Rep]; obtain ⟨b, hb', e⟩ := h; exact ⟨b, hb _ _ hm hb', e⟩
   ·simp only [Rep]
 | .eptr _, _, h => by
   simp only [Rep, D.sel] at h ⊢
   obtain ⟨b, off, vs, e, hp, hc⟩ := h
   exact ⟨b, off, vs, e, hp.mono hx, fun i u hu => ⟨(hx _ _ (hc i u hu).2).2.trans (hc i u hu).1, (hx _ _ (hc i u hu).2).1⟩⟩
 | .oelt _ _ _, _, h => by
   simp only [Rep, D.sel] at h ⊢
   obtain ⟨⟨b, off, vs, e, hp, hc⟩, b', len, cap, et, h1, h2⟩ := h
   split
   ·rename_i htk
    simp only [Rep]
    exact ⟨⟨b, off, vs, e, hp.mono hx, fun i u hu => ⟨(hx _ _ (hc i u hu).2).2.trans (hc i u hu).1, (hx _ _ (hc i u hu).2).1⟩⟩, b', len, cap, et, ht _ _ htk h1, h2⟩
   ·simp only [Rep]
    exact ⟨b, off, vs, e, hp.mono hx, fun i u hu => ⟨(hx _ _ (hc i u hu).2).2.trans (hc i u hu).1, (hx _ _ (hc i u hu).2).1⟩⟩
 | .fn f caps, _, h => by
   simp only [Rep, D.sel] at h ⊢
   split
   ·rename_i hcs
    simp only [Rep]; obtain ⟨cv, e, hc⟩ := h; exact ⟨cv, e, hc.sel hb hcs⟩
   ·simp only [Rep]
 | .mp n, _, h => by
   simp only [Rep, D.sel] at h ⊢
   split
   ·rename_i hm
    simp only [Rep]; obtain ⟨b, hb', e⟩ := h; exact ⟨b, hb _ _ hm hb', e⟩
   ·simp only [Rep]
 | .agg _, _, h => by simp only [Rep, D.sel] at h ⊢; obtain ⟨vs, e, hs⟩ := h; exact ⟨vs, e, Reps.sel hb ht hx hs⟩
 | .tup _, _, h => by simp only [Rep, D.sel] at h ⊢; obtain ⟨vs, e, hs⟩ := h; exact ⟨vs, e, Reps.sel hb ht hx hs⟩
 | .any, _, _ => by simp only [D.sel, Rep]
theorem Reps.sel (hb : ∀ n b, kn n = true → g.bx n = some b → g'.bx n = some b) (ht : ∀ t x, kt t = true → g.tk t = some x → g'.tk t = some x) (hx : Ex g.Fz w g'.Fz w') : ∀ {ds : List D} {vs : List Value}, Reps g w ds vs → Reps g' w' (D.sels kn kt ds) vs
 | [], _, h => by simpa only [D.sels, Reps] using h
 | _ :: _, _, h => by simp only [Reps, D.sels] at h ⊢; obtain ⟨v, vs', e, hv, hs⟩ := h; exact ⟨v, vs', e, Rep.sel hb ht hx hv, Reps.sel hb ht hx hs⟩
end
end
end

def renBs (kn : Bool) (ren tn : List (Nat × Nat)) (bs : List (Nat × List D)) : List (Nat × Nat) → List (Nat × List D)
 | [] => []
 | (n, m) :: r => match lk bs n with
   | some ds => (m, D.rens kn ren tn ds) :: renBs kn ren tn bs r
   | none => renBs kn ren tn bs r

theorem renBs_lk {kn : Bool} {ren tn : List (Nat × Nat)} {bs : List (Nat × List D)} : ∀ {l : List (Nat × Nat)} {m : Nat} {ds : List D}, lk (renBs kn ren tn bs l) m = some ds → ∃ n ds0, (n, m) ∈ l ∧ lk bs n = some ds0 ∧ ds = D.rens kn ren tn ds0
 | [], _, _, h => by simp [renBs, lk] at h
 | (n, m') :: r, m, ds, h => by
   simp only [renBs] at h
   split at h
   ·rename_i ds0 h0
    simp only [lk] at h
    split at h
    ·rename_i e
     subst e
     cases h
     exact ⟨n, ds0, by simp, h0, rfl⟩
    ·obtain ⟨n', d', h1, h2, h3⟩ := renBs_lk h
     exact ⟨n', d', List.mem_cons_of_mem _ h1, h2, h3⟩
   ·obtain ⟨n', d', h1, h2, h3⟩ := renBs_lk h
    exact ⟨n', d', List.mem_cons_of_mem _ h1, h2, h3⟩

def Full (P : Program) (f : FuncId) (args : List D) (bs : List (Nat × List D)) (pin : Bool) (R : D → List (Nat × List D) → Prop) : Prop :=
 ∀ (g0 : Gh) (w : World) (vs : List Value), g0.df = [] → (∀ n b, g0.bx n = some b → 500000 ≤ n) → (∀ N, Mem (.call P w g0 N pin) bs [] g0 w) → Reps g0 w args vs →
   Calls P f vs.toArray w fun e w' => ∃ v d bs' g', e = .returned v ∧ R d bs' ∧ Mem (.call P w g0 0 pin) bs' [] g' w' ∧ g'.df = [] ∧ (pin = true → ∀ n b, g0.bx n = some b → g'.bx n = some b) ∧ Rep g' w' d v

def fullK (P : Program) (fn : Func) (R : D → List (Nat × List D) → Prop) : Exit → St → Prop
 | .normal, st => ∃ ds bs', resD P st fn.results.toList = some ds ∧ lessL bs' st.bs ∧ R (oneD ds) bs'
 | .ret, st => ∃ ds bs', resD P st fn.results.toList = some ds ∧ lessL bs' st.bs ∧ R (oneD ds) bs'
 | _, _ => False

theorem full_of_run {P : Program} (hm : P.follows .mixedOrders = true) (an : Ann) {f : FuncId} {fn : Func} {c : Code} {ac : AC} (hf : P.funcs[f]? = some fn) (hb : fn.body = some c) (hc : compC P an c = some ac)
 (hd : ac.dstOK fn.ntmps (fun i => decide (i < fn.ntmps)) = true) {args : List D} {bs : List (Nat × List D)} {pin : Bool} {R : D → List (Nat × List D) → Prop} (hN : args.length ≤ fn.ntmps) (hsz : fn.ntmps ≤ 100000)
 (hp : ac.noRange = true ∨ pin = false) (hrun : run P ac ⟨frOf 0 args, bs, [], .no⟩ (fullK P fn R)) : Full P f args bs pin R := by
 intro g0 w vs hdf hnm hmem hr
 have hinit : SR (.call P w g0 fn.ntmps pin) ⟨frOf 0 args, bs, [], .no⟩ g0 { tmps := vs.toArray ++ Array.replicate (fn.ntmps - vs.toArray.size) undef, defers := [] } w := {
  defers := by rw [hdf]; rfl
  size := by
   have := hr.length
   have e : (vs.toArray ++ Array.replicate (fn.ntmps - vs.toArray.size) undef).size = fn.ntmps := by simp; omega
   exact e
  rep := fun i d hd => by
   obtain ⟨_, h2⟩ := frOf_lk args 0 i d hd
   simp only [Nat.sub_zero] at h2
   obtain ⟨v, h3, h4⟩ := hr.get i d h2
   have hi := (List.getElem?_eq_some_iff.1 h2).1
   refine ⟨by show i < fn.ntmps; omega, ?_⟩
   have hiv := (List.getElem?_eq_some_iff.1 h3).1
   simp only [Array.getD_eq_getD_getElem?]
   rw [Array.getElem?_append_left (by simpa using hiv), List.getElem?_toArray, h3]
   exact h4
  mem := hmem _
  x := rfl
  fix := fun n b h => by
   have h' : (if pin = true ∧ 500000 ≤ n then g0.bx n else none) = some b := h
   split at h'
   ·exact h'
   ·cases h' }
 have hdst : ac.dstOK (Ctx.call P w g0 fn.ntmps pin).N (Ctx.call P w g0 fn.ntmps pin).wr = true := AC.dstOK_mono (fun i h => by
  simp only [decide_eq_true_eq] at h
  show (decide (i < fn.ntmps) && (!pin || decide (i < 100000))) = true
  have h2 : i < 100000 := by omega
  simp [h, h2]) hd
 have hnr : ac.noRange = true ∨ (none = (none : Option Nat) ∧ (Ctx.call P w g0 fn.ntmps pin).plain) := hp.imp_right fun e => ⟨rfl, fun _ _ _ _ _ h => h, fun n => by
  show (if pin = true ∧ 500000 ≤ n then g0.bx n else none) = none
  rw [e]; simp⟩
 refine (callsIn_wide (n := 0)).1 (callsIn_of_wp_marks (F := FW none) hf hb trivial (wpIn_mono (run_inR an c (.call P w g0 fn.ntmps pin) hm ⟨fun _ _ _ _ _ _ _ _ h => by cases h⟩ none 0 ac hnr hc hdst _ _ hrun g0 _ w hinit) ?_) rfl)
 have key : ∀ (a' : Act) (w' : World), (∃ st g, SR (.call P w g0 fn.ntmps pin) st g a' w' ∧ ∃ ds bs', resD P st fn.results.toList = some ds ∧ lessL bs' st.bs ∧ R (oneD ds) bs') →
  LeavesInM (FW none) 0 P fn a'.tmps (fun e w' => ∃ v d bs' g', e = .returned v ∧ R d bs' ∧ Mem (.call P w g0 0 pin) bs' [] g' w' ∧ g'.df = [] ∧ (pin = true → ∀ n b, g0.bx n = some b → g'.bx n = some b) ∧ Rep g' w' d v) a'.defers .returning w' := by
  rintro a' w' ⟨st, g, hs, ds, bs', h1, h2, h3⟩
  refine leave_marks (C := .call P w g0 fn.ntmps pin) g.df g a' w' rfl hs fun g' a2 w2 e hdf' hs' => ?_
  obtain ⟨v, h4, h5⟩ := results_run hs' fn ds h1
  rw [e] at h4
  refine ⟨v, h4, v, oneD ds, bs', g', rfl, h3, ?_, hdf', fun hp n b hn => hs'.fix n b ?_, h5⟩
  ·exact Mem.toN { hs'.mem with bxs := fun n es hn => hs'.mem.bxs n es (lessL_lk h2 n es hn), mps := fun n es hn => by simp [lk] at hn } 0
  ·show (if pin = true ∧ 500000 ≤ n then g0.bx n else none) = some b
   rw [if_pos ⟨hp, hnm n b hn⟩]; exact hn
 intro e a' w' h
 cases e <;> simp only [Post] at h
 ·exact key a' w' h
 ·obtain ⟨_, _, _, h⟩ := h; exact h.elim
 ·obtain ⟨_, _, _, h⟩ := h; exact h.elim
 ·exact key a' w' h


def backN (pin : Bool) (ren back : List (Nat × Nat)) : List (Nat × Nat) := back ++ (if pin then ren.map fun p => (p.2, p.1) else [])

def lostN (pin : Bool) (ren back : List (Nat × Nat)) (n : Nat) : Bool := back.any (fun p => p.2 == n) || (!pin && ren.any (fun p => p.1 == n))
def lostT (tn tback : List (Nat × Nat)) (t : Nat) : Bool := tback.any (fun p => p.2 == t) || tn.any (fun p => p.1 == t)
def wrN (ren : List (Nat × Nat)) (n : Nat) : Bool := ren.any fun p => p.1 == n && decide (p.2 < 1000000)

def St.merge (st : St) (pin : Bool) (ren tn back tback : List (Nat × Nat)) (bs' : List (Nat × List D)) : St where
 fr := st.fr.map fun p => (p.1, D.sel (fun n => !lostN pin ren back n) (fun t => !lostT tn tback t) p.2)
 bs := renBs true (backN pin ren back) tback bs' (backN pin ren back) ++
  (st.bs.filter fun p => !lostN pin ren back p.1 && !wrN ren p.1).map fun p => (p.1, D.sels (fun n => !lostN pin ren back n) (fun t => !lostT tn tback t) p.2)
 ms := st.ms.filter fun p => !lostN pin ren back p.1 && !ren.any (fun q => q.1 == p.1)
 hs := st.hs

def fullOK (pin : Bool) (bs : List (Nat × List D)) (ren tn back tback : List (Nat × Nat)) : Bool :=
 decide ((ren.map (·.1)).Nodup) && decide ((ren.map (·.2)).Nodup) && decide ((tn.map (·.1)).Nodup) && decide ((tn.map (·.2)).Nodup) &&
 decide ((back.map (·.1)).Nodup) && decide ((back.map (·.2)).Nodup) && decide ((tback.map (·.1)).Nodup) && decide ((tback.map (·.2)).Nodup) &&
 ren.all (fun p => decide (500000 ≤ p.2) && (decide (1000000 ≤ p.2) || decide (p.1 < 1000000)) && (lk bs p.1).isSome && (pin || (decide (200000 ≤ p.1) && decide (p.1 < 400000))) && !back.any (fun q => q.2 == p.1)) &&
 back.all (fun p => decide (p.1 < 500000) && decide (200000 ≤ p.2) && decide (p.2 < 400000))

theorem lkr_none {ren : List (Nat × Nat)} {m : Nat} (h : lkr ren m = none) : ren.any (fun p => p.2 == m) = false := by
 induction ren with
 | nil => rfl
 | cons p r ih =>
   obtain ⟨a, b⟩ := p
   simp only [lkr] at h
   split at h
   ·cases h
   ·rename_i hne
    simp only [List.any_cons, ih h, Bool.or_false, beq_eq_false_iff_ne]
    exact fun e => hne e.symm

theorem lk_append {α : Type} : ∀ (l r : List (Nat × α)) (i : Nat), lk (l ++ r) i = (lk l i).or (lk r i)
 | [], r, i => by simp [lk]
 | (j, d) :: l, r, i => by
   simp only [List.cons_append, lk]
   split
   ·rfl
   ·exact lk_append l r i

theorem any_mem {ren : List (Nat × Nat)} {n : Nat} : ren.any (fun p => p.1 == n) = true ↔ ∃ m, (n, m) ∈ ren := by
 simp only [List.any_eq_true, beq_iff_eq]
 exact ⟨fun ⟨p, h1, h2⟩ => ⟨p.2, by rw [← h2]; exact h1⟩, fun ⟨m, h⟩ => ⟨_, h, rfl⟩⟩

def Gh.seen (g : Gh) (ren tn : List (Nat × Nat)) : Gh := ⟨fun m => (lkr ren m).bind g.bx, fun s => (lkr tn s).bind g.tk, g.Fz, []⟩

def Gh.merged (g g' : Gh) (pin : Bool) (ren tn back tback : List (Nat × Nat)) : Gh :=
 ⟨fun n => match lkr back n with
  | some m => g'.bx m
  | none => if (!pin && ren.any (fun p => p.1 == n)) = true then none else g.bx n,
  fun t => match lkr tback t with
   | some s => g'.tk s
   | none => if tn.any (fun p => p.1 == t) = true then none else g.tk t, g'.Fz, g.df⟩

structure FullOK (pin : Bool) (bs : List (Nat × List D)) (ren tn back tback : List (Nat × Nat)) : Prop where
 r1 : (ren.map (·.1)).Nodup
 r2 : (ren.map (·.2)).Nodup
 t1 : (tn.map (·.1)).Nodup
 t2 : (tn.map (·.2)).Nodup
 b1 : (back.map (·.1)).Nodup
 b2 : (back.map (·.2)).Nodup
 u1 : (tback.map (·.1)).Nodup
 u2 : (tback.map (·.2)).Nodup
 rn : ∀ n m, (n, m) ∈ ren → 500000 ≤ m ∧ (1000000 ≤ m ∨ n < 1000000) ∧ (lk bs n).isSome = true ∧ (pin = true ∨ (200000 ≤ n ∧ n < 400000)) ∧ back.any (fun q => q.2 == n) = false
 bk : ∀ m n, (m, n) ∈ back → m < 500000 ∧ 200000 ≤ n ∧ n < 400000

theorem fullOK_spec {pin : Bool} {bs : List (Nat × List D)} {ren tn back tback : List (Nat × Nat)} (h : fullOK pin bs ren tn back tback = true) : FullOK pin bs ren tn back tback := by
 unfold fullOK at h
 rw [Bool.and_eq_true, Bool.and_eq_true, Bool.and_eq_true, Bool.and_eq_true, Bool.and_eq_true, Bool.and_eq_true, Bool.and_eq_true, Bool.and_eq_true, Bool.and_eq_true] at h
 obtain ⟨⟨⟨⟨⟨⟨⟨⟨⟨h1, h2⟩, h3⟩, h4⟩, h5⟩, h6⟩, h7⟩, h8⟩, h9⟩, h10⟩ := h
 refine ⟨of_decide_eq_true h1, of_decide_eq_true h2, of_decide_eq_true h3, of_decide_eq_true h4, of_decide_eq_true h5, of_decide_eq_true h6, of_decide_eq_true h7, of_decide_eq_true h8, fun n m hm => ?_, fun m n hm => ?_⟩
 ·have := List.all_eq_true.1 h9 _ hm
  simp only [Bool.and_eq_true, Bool.or_eq_true, decide_eq_true_eq, Bool.not_eq_true'] at this
  obtain ⟨⟨⟨⟨k1, k2⟩, k3⟩, k4⟩, k5⟩ := this
  exact ⟨k1, k2, k3, k4, k5⟩
 ·have := List.all_eq_true.1 h10 _ hm
  simp only [Bool.and_eq_true, decide_eq_true_eq] at this
  exact ⟨this.1.1, this.1.2, this.2⟩

section
variable {C : Ctx} {st : St} {g : Gh} {a : Act} {w : World} {ren tn back tback : List (Nat × Nat)} {pin : Bool}

theorem seen_bx {m b : Nat} (h : (g.seen ren tn).bx m = some b) : ∃ n, (n, m) ∈ ren ∧ g.bx n = some b := by
 obtain ⟨n, h2, h3⟩ := Option.bind_eq_some_iff.1 h
 exact ⟨n, lkr_mem h2, h3⟩

theorem seen_tk {s : Nat} {x : Value × TypeId} (h : (g.seen ren tn).tk s = some x) : ∃ t, (t, s) ∈ tn ∧ g.tk t = some x := by
 obtain ⟨n, h2, h3⟩ := Option.bind_eq_some_iff.1 h
 exact ⟨n, lkr_mem h2, h3⟩

theorem seen_mem {pq : Bool} (m : Mem C st.bs st.ms g w) (ok : FullOK pin st.bs ren tn back tback) (kn : Bool) (N : Nat) : Mem (.call C.P w (g.seen ren tn) N pq) (renBs kn ren tn st.bs ren) [] (g.seen ren tn) w where
 os := rfl
 tape := rfl
 output := rfl
 hsz := Nat.le_refl _
 old := fun _ _ _ _ => rfl
 keep := Ex.refl _ _
 newfz := fun _ _ h _ => .inl h
 fzlt := m.fzlt
 bxs := fun k ds hk => by
  obtain ⟨n, ds0, h1, h2, rfl⟩ := renBs_lk hk
  obtain ⟨b, cs, t, h3, h4, h5⟩ := m.bxs n ds0 h2
  refine ⟨b, cs, t, ?_, h4, Reps.ren (g := g) (g' := g.seen ren tn) (fun n k b h1 h2 => ?_) (fun t s x h1 h2 => ?_) (Ex.refl _ _) h5⟩
  ·simp [Gh.seen, mem_lkr ok.r2 h1, h3]
  ·simp [Gh.seen, mem_lkr ok.r2 (lk_mem h1), h2]
  ·simp [Gh.seen, mem_lkr ok.t2 (lk_mem h1), h2]
 mps := fun n ds h => by simp [lk] at h
 bxok := fun k b hk => by
  obtain ⟨n, h1, h2⟩ := seen_bx hk
  refine ⟨(m.bxok n b h2).1, ?_, (m.bxok n b h2).2.2⟩
  by_cases hk' : k < 1000000
  ·exact .inr (.inl (.inl ⟨k, hk', hk⟩))
  ·exact .inr (.inr (by omega))
 bxinj := fun k j b hk hj => by
  obtain ⟨n, h1, h2⟩ := seen_bx hk
  obtain ⟨n', h3, h4⟩ := seen_bx hj
  have := m.bxinj n n' b h2 h4
  subst this
  exact mem_fst ok.r1 h1 h3
 tks := fun t v e h => by
  obtain ⟨n, h1, h2⟩ := seen_tk h
  obtain ⟨i, k, xs, k1, k2, k3, k4⟩ := m.tks n v e h2
  exact ⟨i, k, xs, k1, k2, k3, fun b hb => ⟨.inr (.inr ⟨t, v, e, h, hb⟩), (k4 b hb).2⟩⟩
 tkinj := fun t s v u e f b ht hs hv hu => by
  obtain ⟨n, h1, h2⟩ := seen_tk ht
  obtain ⟨n', h3, h4⟩ := seen_tk hs
  have := m.tkinj n n' v u e f b h2 h4 hv hu
  subst this
  exact mem_fst ok.t1 h1 h3
 bxtk := fun n t b v e hn ht => by
  obtain ⟨n', h1, h2⟩ := seen_bx hn
  obtain ⟨t', h3, h4⟩ := seen_tk ht
  exact m.bxtk n' t' b v e h2 h4
 dfs := fun D hD => by cases hD
 dnd := List.nodup_nil
 bxdf := fun n D hD => by cases hD
 bxdm := fun n b _ h => h

theorem SR.merge (hs : SR C st g a w) (ok : FullOK pin st.bs ren tn back tback) {w' : World} {bs' : List (Nat × List D)} {g' : Gh} (m' : Mem (.call C.P w (g.seen ren tn) 0 pin) bs' [] g' w')
 (hpin : pin = true → ∀ n b, (g.seen ren tn).bx n = some b → g'.bx n = some b) :
 SR C (st.merge pin ren tn back tback bs') (g.merged g' pin ren tn back tback) a w' ∧ ∀ d v, Rep g' w' d v → Rep (g.merged g' pin ren tn back tback) w' (d.ren true (backN pin ren back) tback) v := by
 have m := hs.mem
 obtain ⟨SB, hSB⟩ : ∃ SB : Nat → Prop, SB = fun b => (∃ n k, (n, k) ∈ ren ∧ k < 1000000 ∧ g.bx n = some b) ∨ (∃ t s v e, (t, s) ∈ tn ∧ g.tk t = some (v, e) ∧ v.ownBlock = some b) := ⟨_, rfl⟩
 have hS : ∀ b, (g.seen ren tn).S b → SB b := fun b hb => by
  rw [hSB]
  rcases hb with ⟨k, h1, h2⟩ | ⟨t, v, e, h1, h2⟩
  ·obtain ⟨n, h3, h4⟩ := seen_bx h2
   exact .inl ⟨n, k, h3, h1, h4⟩
  ·obtain ⟨t', h3, h4⟩ := seen_tk h1
   exact .inr ⟨t', t, v, e, h3, h4, h2⟩
 have hSw : ∀ b, SB b → (C.w0.heap.size ≤ b ∨ C.S b) ∧ g.has C.w0.heap.size b := fun b hb => by
  rw [hSB] at hb
  rcases hb with ⟨n, k, h1, h2, h3⟩ | ⟨t, s, v, e, h1, h2, h3⟩
  ·have hn : n < 1000000 := by rcases (ok.rn n k h1).2.1 with h | h <;> omega
   refine ⟨?_, .inl ⟨n, .inl hn, h3⟩⟩
   rcases (m.bxok n b h3).2.1 with h | h | h
   ·exact .inl h
   ·exact .inr h
   ·omega
  ·obtain ⟨_, _, _, _, _, _, h4⟩ := m.tks t v e h2
   exact ⟨(h4 b h3).1, .inr (.inl ⟨t, v, e, h2, h3⟩)⟩
 -- a block that was handed to nobody
 have hold : ∀ b, b < w.heap.size → ¬ SB b → w'.heap[b]? = w.heap[b]? := fun b hb hn => m'.old b hb (fun h => hn (hS b h)) (fun h => h)
 have holdfz : ∀ b o, b < w.heap.size → ¬ SB b → g'.Fz b o → g.Fz b o := fun b o hb hn hf => by
  rcases m'.newfz b o hf hb with h | h
  ·exact h
  ·exact absurd (hS b h) hn
 have hcbx : ∀ k b, k < 1000000 → g'.bx k = some b → w.heap.size ≤ b ∨ SB b := fun k b hk hb => by
  rcases (m'.bxok k b hb).2.1 with h | h | h
  ·exact .inl h
  ·exact .inr (hS b h)
  ·omega
 have hctk : ∀ t v e b, g'.tk t = some (v, e) → v.ownBlock = some b → w.heap.size ≤ b ∨ SB b := fun t v e b ht hv => by
  obtain ⟨_, _, _, _, _, _, h4⟩ := m'.tks t v e ht
  rcases (h4 b hv).1 with h | h
  ·exact .inl h
  ·exact .inr (hS b h)
 obtain ⟨gN, hgN⟩ : ∃ gN, gN = g.merged g' pin ren tn back tback := ⟨_, rfl⟩
 have hFz : gN.Fz = g'.Fz := by rw [hgN]; rfl
 have hdf : gN.df = g.df := by rw [hgN]; rfl
 -- names
 have hbx : ∀ n b, gN.bx n = some b → (∃ k, (k, n) ∈ back ∧ g'.bx k = some b ∧ k < 500000) ∨ (lostN pin ren back n = false ∧ g.bx n = some b ∧ ((∃ k, (n, k) ∈ ren ∧ 500000 ≤ k ∧ k < 1000000 ∧ g'.bx k = some b) ∨ ¬ SB b)) := by
  intro n b h
  rw [hgN] at h
  simp only [Gh.merged] at h
  split at h
  ·rename_i k hk
   exact .inl ⟨k, lkr_mem hk, h, (ok.bk k n (lkr_mem hk)).1⟩
  ·rename_i hk
   split at h
   ·cases h
   ·rename_i hl
    have hl' : (!pin && ren.any (fun p => p.1 == n)) = false := Bool.eq_false_iff.2 hl
    refine .inr ⟨by rw [lostN, lkr_none hk, hl']; rfl, h, ?_⟩
    by_cases hn : ∃ k, (n, k) ∈ ren ∧ k < 1000000
    ·obtain ⟨k, hk1, hk2⟩ := hn
     have hp : pin = true := by
      rw [any_mem.2 ⟨k, hk1⟩] at hl'
      cases pin
      ·simp at hl'
      ·rfl
     refine .inl ⟨k, hk1, (ok.rn n k hk1).1, hk2, hpin hp k b ?_⟩
     simp [Gh.seen, mem_lkr ok.r2 hk1, h]
    ·refine .inr fun hsb => ?_
     rw [hSB] at hsb
     rcases hsb with ⟨n', k, h1, h2, h3⟩ | ⟨t, s, v, e, h1, h2, h3⟩
     ·rw [m.bxinj _ _ _ h3 h] at h1
      exact hn ⟨k, h1, h2⟩
     ·exact m.bxtk n t b v e h h2 h3
 have hbxkeep : ∀ n b, lostN pin ren back n = false → g.bx n = some b → gN.bx n = some b := by
  intro n b hl h
  simp only [lostN, Bool.or_eq_false_iff] at hl
  rw [hgN]
  simp only [Gh.merged]
  split
  ·rename_i k hk
   have := List.any_eq_false.1 hl.1 _ (lkr_mem hk)
   simp at this
  ·rw [hl.2]; simpa using h
 have hbxnew : ∀ k n b, (k, n) ∈ back → g'.bx k = some b → gN.bx n = some b := by
  intro k n b hk h
  rw [hgN]
  simp only [Gh.merged, mem_lkr ok.b2 hk]
  exact h
 -- rows of one's own
 have htk : ∀ t v e, gN.tk t = some (v, e) → (∃ s, (s, t) ∈ tback ∧ g'.tk s = some (v, e)) ∨ (g.tk t = some (v, e) ∧ ∀ b, v.ownBlock = some b → ¬ SB b) := by
  intro t v e h
  rw [hgN] at h
  simp only [Gh.merged] at h
  split at h
  ·rename_i s hs'
   exact .inl ⟨s, lkr_mem hs', h⟩
  ·split at h
   ·cases h
   ·rename_i hl
    refine .inr ⟨h, fun b hb hsb => ?_⟩
    rw [hSB] at hsb
    rcases hsb with ⟨n', k, h1, h2, h3⟩ | ⟨t', s, u, f, h1, h2, h3⟩
    ·exact m.bxtk n' t b v e h3 h hb
    ·rw [m.tkinj _ _ _ _ _ _ b h2 h h3 hb] at h1
     exact hl (any_mem.2 ⟨s, h1⟩)
 have htkkeep : ∀ t x, lostT tn tback t = false → g.tk t = some x → gN.tk t = some x := by
  intro t x hl h
  simp only [lostT, Bool.or_eq_false_iff] at hl
  rw [hgN]
  simp only [Gh.merged]
  split
  ·rename_i s hs'
   have := List.any_eq_false.1 hl.1 _ (lkr_mem hs')
   simp at this
  ·rw [hl.2]; simpa using h
 have htknew : ∀ s t x, (s, t) ∈ tback → g'.tk s = some x → gN.tk t = some x := by
  intro s t x hk h
  rw [hgN]
  simp only [Gh.merged, mem_lkr ok.u2 hk]
  exact h
 have hex : Ex g.Fz w gN.Fz w' := by rw [hFz]; exact m'.keep
 -- back from the callee's names
 have hback : ∀ k n b, lk (backN pin ren back) k = some n → g'.bx k = some b → gN.bx n = some b := by
  intro k n b hk h
  rcases List.mem_append.1 (lk_mem hk) with h1 | h1
  ·exact hbxnew k n b h1 h
  ·split at h1
   ·rename_i hp
    obtain ⟨⟨n', k'⟩, h2, h3⟩ := List.mem_map.1 h1
    have e1 : k' = k := congrArg Prod.fst h3
    have e2 : n' = n := congrArg Prod.snd h3
    rw [e1, e2] at h2
    obtain ⟨q1, q2, q3, q4, q5⟩ := ok.rn n k h2
    obtain ⟨ds, hds⟩ := Option.isSome_iff_exists.1 q3
    obtain ⟨b0, _, _, hb0, _⟩ := m.bxs n ds hds
    have e1 : (g.seen ren tn).bx k = some b0 := by simp [Gh.seen, mem_lkr ok.r2 h2, hb0]
    have e2 := hpin hp k b0 e1
    rw [h] at e2
    cases e2
    refine hbxkeep n b ?_ hb0
    rw [lostN, q5, hp]; rfl
   ·cases h1
 have hrepb : ∀ d v, Rep g' w' d v → Rep gN w' (d.ren true (backN pin ren back) tback) v := fun d v h =>
  Rep.ren (g := g') (g' := gN) hback (fun t s x h1 h2 => htknew t s x (lk_mem h1) h2) (by rw [hFz]; exact Ex.refl _ _) h
 have hrepsb : ∀ ds vs, Reps g' w' ds vs → Reps gN w' (D.rens true (backN pin ren back) tback ds) vs := fun d v h =>
  Reps.ren (g := g') (g' := gN) hback (fun t s x h1 h2 => htknew t s x (lk_mem h1) h2) (by rw [hFz]; exact Ex.refl _ _) h
 have hk1 : ∀ n b, (!lostN pin ren back n) = true → g.bx n = some b → gN.bx n = some b := fun n b h => hbxkeep n b (by simpa using h)
 have hk2 : ∀ t x, (!lostT tn tback t) = true → g.tk t = some x → gN.tk t = some x := fun n b h => htkkeep n b (by simpa using h)
 have hSdf : ∀ D ∈ g.df, ¬ SB D := fun D hD hsb => by
  rw [hSB] at hsb
  rcases hsb with ⟨n', k, h1, h2, h3⟩ | ⟨t', s, u, f, h1, h2, h3⟩
  ·exact m.bxdf n' D hD h3
  ·obtain ⟨i, n, xs, _, _, h5, _⟩ := m.tks t' u f h2
   rcases h5.2 with ⟨h4, _⟩ | ⟨gb, cap, cur, h4, _, hgg, _⟩
   ·rw [h4] at h3; cases h3
   ·rw [h4] at h3; cases h3
    rw [(m.dfs _ hD).2] at hgg; cases hgg
 have hdlt : ∀ D ∈ g.df, D < w.heap.size := fun D hD => (Array.getElem?_eq_some_iff.1 (m.dfs D hD).2).1
 have hmem : Mem C (st.merge pin ren tn back tback bs').bs (st.merge pin ren tn back tback bs').ms gN w' := {
  os := m'.os.trans m.os
  tape := m'.tape.trans m.tape
  output := m'.output.trans m.output
  hsz := Nat.le_trans m.hsz m'.hsz
  old := fun k h1 hns hd => (hold k (Nat.lt_of_lt_of_le h1 m.hsz) (fun h => by
   rcases (hSw k h).1 with h | h
   ·omega
   ·exact hns h)).trans (m.old k h1 hns hd)
  keep := m.keep.trans hex
  newfz := fun b o hf hlt => by
   rw [hFz] at hf
   rcases m'.newfz b o hf (Nat.lt_of_lt_of_le hlt m.hsz) with h | h
   ·exact m.newfz b o h hlt
   ·rcases (hSw b (hS b h)).1 with h | h
    ·omega
    ·exact .inr h
  fzlt := fun b o hf => m'.fzlt b o (by rw [← hFz]; exact hf)
  bxs := fun n ds hn => by
   simp only [St.merge] at hn
   rw [lk_append] at hn
   rcases Option.or_eq_some_iff.1 hn with hn | ⟨_, hn⟩
   ·obtain ⟨k, ds0, h1, h2, rfl⟩ := renBs_lk hn
    obtain ⟨b, cs, t, h3, h4, h5⟩ := m'.bxs k ds0 h2
    refine ⟨b, cs, t, ?_, h4, hrepsb _ _ h5⟩
    rcases List.mem_append.1 h1 with h6 | h6
    ·exact hbxnew k n b h6 h3
    ·split at h6
     ·rename_i hp
      obtain ⟨⟨n', k'⟩, h7, h8⟩ := List.mem_map.1 h6
      have e1 : k' = k := congrArg Prod.fst h8
      have e2 : n' = n := congrArg Prod.snd h8
      rw [e1, e2] at h7
      obtain ⟨q1, q2, q3, q4, q5⟩ := ok.rn n k h7
      obtain ⟨ds', hds⟩ := Option.isSome_iff_exists.1 q3
      obtain ⟨b0, _, _, hb0, _⟩ := m.bxs n ds' hds
      have e1 : (g.seen ren tn).bx k = some b0 := by simp [Gh.seen, mem_lkr ok.r2 h7, hb0]
      have e2 := hpin hp k b0 e1
      rw [h3] at e2
      cases e2
      refine hbxkeep n b ?_ hb0
      rw [lostN, q5, hp]; rfl
     ·cases h6
   ·rw [lk_map, lk_filter (fun j => !lostN pin ren back j && !wrN ren j)] at hn
    obtain ⟨ds0, h0, rfl⟩ := Option.map_eq_some_iff.1 hn
    split at h0
    ·rename_i hl
     simp only [Bool.and_eq_true, Bool.not_eq_true'] at hl
     obtain ⟨b, cs, t, h3, h4, h5⟩ := m.bxs n ds0 h0
     have hnb : ¬ SB b := fun hsb => by
      rw [hSB] at hsb
      rcases hsb with ⟨n', k, h6, h7, h8⟩ | ⟨t', s, u, f, h6, h7, h8⟩
      ·rw [m.bxinj _ _ _ h8 h3] at h6
       have := List.any_eq_false.1 hl.2 _ h6
       simp [h7] at this
      ·exact m.bxtk n t' b u f h3 h7 h8
     exact ⟨b, cs, t, hbxkeep n b hl.1 h3, (hold b (m.bxok n b h3).1 hnb).trans h4, Reps.sel (g := g) (g' := gN) hk1 hk2 hex h5⟩
    ·cases h0
  mps := fun n es hn => by
   simp only [St.merge] at hn
   rw [lk_filter (fun j => !lostN pin ren back j && !ren.any (fun q => q.1 == j))] at hn
   split at hn
   ·rename_i hl
    simp only [Bool.and_eq_true, Bool.not_eq_true'] at hl
    obtain ⟨b, en, h3, h4, h5⟩ := m.mps n es hn
    have hnb : ¬ SB b := fun hsb => by
     rw [hSB] at hsb
     rcases hsb with ⟨n', k, h6, h7, h8⟩ | ⟨t', s, u, f, h6, h7, h8⟩
     ·rw [m.bxinj _ _ _ h8 h3] at h6
      rw [any_mem.2 ⟨k, h6⟩] at hl
      cases hl.2
     ·exact m.bxtk n t' b u f h3 h7 h8
    exact ⟨b, en, hbxkeep n b hl.1 h3, (hold b (m.bxok n b h3).1 hnb).trans h4, h5⟩
   ·cases hn
  bxok := fun n b hb => by
   rcases hbx n b hb with ⟨k, h1, h2, h3⟩ | ⟨_, h2, ⟨k, h3, h4, h5, h6⟩ | h3⟩
   ·refine ⟨(m'.bxok k b h2).1, ?_, fun o hf => (m'.bxok k b h2).2.2 o (by rw [← hFz]; exact hf)⟩
    rcases hcbx k b (by omega) h2 with h | h
    ·exact .inl (Nat.le_trans m.hsz h)
    ·rcases (hSw b h).1 with h | h
     ·exact .inl h
     ·exact .inr (.inl h)
   ·exact ⟨(m'.bxok k b h6).1, (m.bxok n b h2).2.1, fun o hf => (m'.bxok k b h6).2.2 o (by rw [← hFz]; exact hf)⟩
   ·exact ⟨Nat.lt_of_lt_of_le (m.bxok n b h2).1 m'.hsz, (m.bxok n b h2).2.1, fun o hf => (m.bxok n b h2).2.2 o (holdfz b o (m.bxok n b h2).1 h3 (by rw [← hFz]; exact hf))⟩
  bxinj := fun n j b hn hj => by
   rcases hbx n b hn with ⟨k, h1, h2, h3⟩ | ⟨_, h2, h3⟩ <;> rcases hbx j b hj with ⟨k', h1', h2', h3'⟩ | ⟨_, h2', h3'⟩
   ·have := m'.bxinj _ _ _ h2 h2'
    subst this
    exact mem_fst ok.b1 h1 h1'
   ·rcases h3' with ⟨k', _, h5, _, h6⟩ | h5
    ·have := m'.bxinj _ _ _ h2 h6; omega
    ·rcases hcbx k b (by omega) h2 with h | h
     ·have := (m.bxok j b h2').1; omega
     ·exact absurd h h5
   ·rcases h3 with ⟨k, _, h5, _, h6⟩ | h5
    ·have := m'.bxinj _ _ _ h2' h6; omega
    ·rcases hcbx k' b (by omega) h2' with h | h
     ·have := (m.bxok n b h2).1; omega
     ·exact absurd h h5
   ·exact m.bxinj _ _ _ h2 h2'
  tks := fun t v e ht => by
   rcases htk t v e ht with ⟨s, h1, h2⟩ | ⟨h1, h2⟩
   ·obtain ⟨i, n, xs, k1, k2, k3, k4⟩ := m'.tks s v e h2
    refine ⟨i, n, xs, k1, k2, k3, fun b hb => ⟨?_, fun o hf => (k4 b hb).2 o (by rw [← hFz]; exact hf)⟩⟩
    rcases hctk s v e b h2 hb with h | h
    ·exact .inl (Nat.le_trans m.hsz h)
    ·exact (hSw b h).1
   ·obtain ⟨i, n, xs, k1, k2, k3, k4⟩ := m.tks t v e h1
    exact ⟨i, n, xs, k1, k2, ownsRow_block k3 (fun b hb hlt => hold b hlt (h2 b hb)), fun b hb => ⟨(k4 b hb).1, fun o hf => (k4 b hb).2 o (holdfz b o (k3.lt b hb).2 (h2 b hb) (by rw [← hFz]; exact hf))⟩⟩
  tkinj := fun t s v u e f b ht hs' hv hu => by
   rcases htk t v e ht with ⟨k, h1, h2⟩ | ⟨h1, h2⟩ <;> rcases htk s u f hs' with ⟨k', h1', h2'⟩ | ⟨h1', h2'⟩
   ·have := m'.tkinj _ _ _ _ _ _ b h2 h2' hv hu
    subst this
    exact mem_fst ok.u1 h1 h1'
   ·rcases hctk k v e b h2 hv with h | h
    ·obtain ⟨_, _, _, _, _, k3, _⟩ := m.tks s u f h1'
     have := (k3.lt b hu).2; omega
    ·exact absurd h (h2' b hu)
   ·rcases hctk k' u f b h2' hu with h | h
    ·obtain ⟨_, _, _, _, _, k3, _⟩ := m.tks t v e h1
     have := (k3.lt b hv).2; omega
    ·exact absurd h (h2 b hv)
   ·exact m.tkinj _ _ _ _ _ _ b h1 h1' hv hu
  bxtk := fun n t b v e hn ht hv => by
   rcases hbx n b hn with ⟨k, h1, h2, h3⟩ | ⟨_, h2, h3⟩ <;> rcases htk t v e ht with ⟨s, h1', h2'⟩ | ⟨h1', h2'⟩
   ·exact m'.bxtk k s b v e h2 h2' hv
   ·rcases hcbx k b (by omega) h2 with h | h
    ·obtain ⟨_, _, _, _, _, k3, _⟩ := m.tks t v e h1'
     have := (k3.lt b hv).2; omega
    ·exact h2' b hv h
   ·rcases h3 with ⟨k, _, _, _, h6⟩ | h5
    ·exact m'.bxtk k s b v e h6 h2' hv
    ·rcases hctk s v e b h2' hv with h | h
     ·have := (m.bxok n b h2).1; omega
     ·exact h5 h
   ·exact m.bxtk n t b v e h2 h1' hv
  dfs := fun D hD => by
   rw [hdf] at hD
   exact ⟨(m.dfs D hD).1, (hold D (hdlt D hD) (hSdf D hD)).trans (m.dfs D hD).2⟩
  dnd := by rw [hdf]; exact m.dnd
  bxdf := fun n D hD hb => by
   rw [hdf] at hD
   rcases hbx n D hb with ⟨k, h1, h2, h3⟩ | ⟨_, h2, h3⟩
   ·rcases hcbx k D (by omega) h2 with h | h
    ·have := hdlt D hD; omega
    ·exact hSdf D hD h
   ·exact m.bxdf n D hD h2
  bxdm := fun n b hb hd => by
   rcases hbx n b hb with ⟨k, h1, h2, h3⟩ | ⟨_, h2, h3⟩
   ·obtain ⟨d1, d2, _⟩ := C.dmok b hd
    rcases hcbx k b (by omega) h2 with h | h
    ·have := m.hsz; omega
    ·rcases (hSw b h).1 with h | h
     ·omega
     ·exact d2 h
   ·exact m.bxdm n b h2 hd }
 have hX : C.X st.hs (gN.has C.w0.heap.size) w' := C.Xok _ _ _ SB _ _ hs.x ⟨m'.os, m'.tape, m'.output, m'.hsz, hold⟩ (fun k hk => (hSw k hk).2) (fun k hk => by
  rcases hk with ⟨n, h1, h2⟩ | ⟨t, v, e, h1, h2⟩ | hk | ⟨h1, o, ho⟩
  ·rcases hbx n k h2 with ⟨j, h3, h4, h5⟩ | ⟨_, h4, _⟩
   ·rcases hcbx j k (by omega) h4 with h | h
    ·exact .inr h
    ·exact .inl (hSw k h).2
   ·exact .inl (.inl ⟨n, h1, h4⟩)
  ·rcases htk t v e h1 with ⟨s, h3, h4⟩ | ⟨h4, _⟩
   ·rcases hctk s v e k h4 h2 with h | h
    ·exact .inr h
    ·exact .inl (hSw k h).2
   ·exact .inl (.inr (.inl ⟨t, v, e, h4, h2⟩))
  ·rw [hdf] at hk
   exact .inl (.inr (.inr (.inl hk)))
  ·rcases Nat.lt_or_ge k w.heap.size with hlt | hge
   ·rw [hFz] at ho
    rcases m'.newfz k o ho hlt with h | h
    ·exact .inl (.inr (.inr (.inr ⟨h1, o, h⟩)))
    ·exact .inl (hSw k (hS k h)).2
   ·exact .inr hge)
 rw [← hgN]
 refine ⟨⟨by rw [hdf]; exact hs.defers, hs.size, fun i d hd => ?_, hmem, hX, fun n b hn => ?_⟩, hrepb⟩
 ·simp only [St.merge] at hd
  rw [lk_map] at hd
  obtain ⟨d0, h0, rfl⟩ := Option.map_eq_some_iff.1 hd
  obtain ⟨h3, h4⟩ := hs.rep i d0 h0
  exact ⟨h3, Rep.sel (g := g) (g' := gN) hk1 hk2 hex h4⟩
 ·refine hbxkeep n b ?_ (hs.fix n b hn)
  have hnr : ¬ (200000 ≤ n ∧ n < 400000) := fun h => by rw [C.nmok n h.1 h.2] at hn; cases hn
  have h1 : back.any (fun p => p.2 == n) = false := List.any_eq_false.2 fun p hp => by
   have := (ok.bk p.1 p.2 hp).2
   simp only [beq_iff_eq]
   intro e
   exact hnr (e ▸ this)
  rw [lostN, h1, Bool.false_or]
  cases pin with
  | true => rfl
  | false =>
    simp only [Bool.not_false, Bool.true_and]
    refine List.any_eq_false.2 fun p hp => ?_
    have := (ok.rn p.1 p.2 hp).2.2.2.1
    simp only [beq_iff_eq]
    intro e
    rcases this with h | h
    ·cases h
    ·exact hnr (e ▸ h)

theorem Full.callW {P : Program} {f : FuncId} {args as' : List D} {bs0 : List (Nat × List D)} {pin : Bool} {R : D → List (Nat × List D) → Prop} (he : Enters P f) (h : Full P f as' bs0 pin R) (st : St) (kn : Bool) (ren tn back tback : List (Nat × Nat))
 (hok : fullOK pin st.bs ren tn back tback = true) (ha : D.rens kn ren tn args = as') (hb : renBs kn ren tn st.bs ren = bs0) {K : D → St → Prop}
 (hk : ∀ d bs', R d bs' → K (d.ren true (backN pin ren back) tback) (st.merge pin ren tn back tback bs')) : CallW P f args st K := by
 refine ⟨he, fun C g a w vs hP hs hr => ?_⟩
 subst hP ha hb
 have ok := fullOK_spec hok
 refine (h (g.seen ren tn) w vs rfl (fun n b hn => ?_) (fun N => seen_mem hs.mem ok kn N) (Reps.ren (g := g) (g' := g.seen ren tn) (fun n k b h1 h2 => ?_) (fun t s x h1 h2 => ?_) (Ex.refl _ _) hr)).mono ?_
 ·obtain ⟨n', h1, _⟩ := seen_bx hn
  exact (ok.rn n' n h1).1
 ·simp [Gh.seen, mem_lkr ok.r2 (lk_mem h1), h2]
 ·simp [Gh.seen, mem_lkr ok.t2 (lk_mem h1), h2]
 ·rintro e w' ⟨v, d, bs', g', rfl, hR, m', _, hpin, hrep⟩
  obtain ⟨h1, h2⟩ := hs.merge ok m' hpin
  exact ⟨v, _, _, _, rfl, hk d bs' hR, h1, h2 d v hrep⟩
end


def IterB (P : Program) (f : FuncId) (caps : List (Nat × Nat)) (bs : List (Nat × List D)) (xs : List Value) : Prop :=
 ∀ (g0 : Gh) (w : World) (cv : List Value), g0.tk = (fun _ => none) → g0.df = [] → (∀ N, Mem (.call P w g0 N false) bs [] g0 w) → Caps g0 caps cv →
   ∀ (l : Nat) (X : Nat → Bool → (Nat → Prop) → World → Prop) (Dm : Nat → Prop) (H0 : Nat → Prop),
     (∀ k, Dm k → k < w.heap.size ∧ (∀ o, ¬ g0.Fz k o) ∧ ∀ n, g0.bx n ≠ some k) →
     (∀ i s H R w1 w2, X i s H w1 → KeepD R w1 w2 → (∀ k, R k → ¬ H k ∧ (w.heap.size ≤ k ∨ ∃ n, g0.bx n = some k)) → X i s H w2) →
     (∀ i s H w1, X i s H w1 → ∀ k, H k → k < w1.heap.size) →
     (∀ i v H w1 n, xs[i]? = some v → X i false H w1 → YieldAt (FW none) n P l #[v] w1 fun e w2 => ∃ b H', e = .returned (.bool b) ∧ X (i + 1) (!b) H' w2 ∧ (∀ k, H' k → H k ∨ w1.heap.size ≤ k) ∧ KeepD (fun k => Dm k ∨ (w.heap.size ≤ k ∧ H k)) w1 w2) →
     X 0 false H0 w → (∀ k, H0 k → ∀ n, g0.bx n ≠ some k) →
     Calls P f (Value.func (.yield l) #[] #[] :: cv).toArray w fun e w2 => ∃ v i s H, e = .returned v ∧ X i s H w2 ∧ (s = false → i = xs.length)

abbrev yieldD (l : Nat) : D := .pd (.raw (.func (.yield l) #[] #[]))

def iterK (P : Program) (fn : Func) (l : Nat) (xs : List (List Value)) : Exit → St → Prop
 | .normal, st => ∃ ds i s, resD P st fn.results.toList = some ds ∧ st.hs = .it l xs i s ∧ (s = false → i = xs.length)
 | .ret, st => ∃ ds i s, resD P st fn.results.toList = some ds ∧ st.hs = .it l xs i s ∧ (s = false → i = xs.length)
 | _, _ => False

def itX (w : World) (g0 : Gh) (l : Nat) (xs : List (List Value)) (X : Nat → Bool → (Nat → Prop) → World → Prop) : Hist → (Nat → Prop) → World → Prop
 | .it l' xs' i s, O, w1 => l' = l ∧ xs' = xs ∧ ∃ H, X i s H w1 ∧ w.heap.size ≤ w1.heap.size ∧ (∀ k, H k → k < w1.heap.size) ∧ ∀ b, O b → ¬ H b ∧ (w.heap.size ≤ b ∨ ∃ n, g0.bx n = some b)
 | .no, _, _ => False
 | .solo, _, _ => False

theorem iter_of_run {P : Program} (hm : P.follows .mixedOrders = true) (an : Ann) {f : FuncId} {fn : Func} {c : Code} {ac : AC} (hf : P.funcs[f]? = some fn) (hb : fn.body = some c) (hc : compC P an c = some ac)
 (hd : ac.dstOK fn.ntmps (fun i => decide (i < fn.ntmps)) = true) {caps : List (Nat × Nat)} {bs : List (Nat × List D)} {xs : List Value} (hN : caps.length + 1 ≤ fn.ntmps) (hnr : ac.noRange = true)
 (hrun : ∀ l, run P ac ⟨frOf 0 (yieldD l :: caps.map fun c => .ptr c.1 c.2), bs, [], .it l (xs.map ([·])) 0 false⟩ (iterK P fn l (xs.map ([·])))) : IterB P f caps bs xs := by
 intro g0 w cv htk hdf hmem hcaps l X Dm H0 hDm hclo hheld hrounds hX0 hH0
 have m0 := hmem 0
 obtain ⟨C, hC⟩ : ∃ C : Ctx, C = ⟨P, w, g0.Fz, fun b => ∃ n, n < 1000000 ∧ g0.bx n = some b, fn.ntmps, fun i => decide (i < fn.ntmps), fun _ => none, itX w g0 l (xs.map ([·])) X, Dm,
  fun i h => ⟨of_decide_eq_true h, rfl⟩, fun _ _ _ => rfl, fun k hk => ⟨(hDm k hk).1, fun ⟨n, _, h⟩ => (hDm k hk).2.2 n h, (hDm k hk).2.1⟩, fun h O O' R w1 w2 hx hk hR hO => by
   cases h with
   | no => exact hx.elim
   | solo => exact hx.elim
   | it l' xs' i s =>
     obtain ⟨e1, e2, H, h1, h2, h3, h4⟩ := hx
     refine ⟨e1, e2, H, hclo i s H R w1 w2 h1 hk (fun k e => h4 k (hR k e)), Nat.le_trans h2 hk.size, fun k e => Nat.lt_of_lt_of_le (h3 k e) hk.size, fun b hb => ?_⟩
     rcases hO b hb with h | h
     ·exact h4 b h
     ·exact ⟨fun e => by have := h3 b e; omega, .inl (Nat.le_trans h2 h)⟩, fun _ _ (h : False) => h.elim⟩ := ⟨_, rfl⟩
 have hCX : C.X = itX w g0 l (xs.map ([·])) X := by rw [hC]
 have hCP : C.P = P := by rw [hC]
 have hCw : C.w0 = w := by rw [hC]
 have hCN : C.N = fn.ntmps := by rw [hC]
 have hCD : C.Dm = Dm := by rw [hC]
 have hCwr : C.wr = fun i => decide (i < fn.ntmps) := by rw [hC]
 have hy : YOK C := ⟨fun l' xs' i vs O w1 n hv hx hO => by
  rw [hCX] at hx
  obtain ⟨e1, e2, H, h1, h2, h3, h4⟩ := hx
  subst e1 e2
  rw [List.getElem?_map] at hv
  obtain ⟨v, hv1, rfl⟩ := Option.map_eq_some_iff.1 hv
  obtain ⟨fn', tmps, asg, body, hyr, hrd⟩ := hrounds i v H w1 n hv1 h1
  rw [hCP, hCX, hCD, hCw]
  refine ⟨fn', tmps, asg, body, hyr, hrd.mono ?_⟩
  rintro e w2 ⟨b, H', rfl, k1, k2, k3⟩
  refine ⟨b, rfl, ⟨rfl, rfl, H', k1, Nat.le_trans h2 k3.size, hheld _ _ _ _ k1, fun b' hb' => ⟨fun e => ?_, (h4 b' hb').2⟩⟩, k3.mono fun k _ hk => ?_⟩
  ·rcases k2 b' e with h | h
   ·exact (h4 b' hb').1 h
   ·have := hO b' hb'; omega
  ·rcases hk with hk | ⟨hk1, hk2⟩
   ·exact .inl hk
   ·exact .inr ⟨hk1, fun e => (h4 k e).1 hk2⟩⟩
 have hr : Reps g0 w (yieldD l :: caps.map fun c => .ptr c.1 c.2) (Value.func (.yield l) #[] #[] :: cv) := by
  simp only [Reps]
  exact ⟨_, cv, rfl, by simp only [Rep]; exact .raw _ rfl, hcaps.reps⟩
 have hinit : SR C ⟨frOf 0 (yieldD l :: caps.map fun c => .ptr c.1 c.2), bs, [], .it l (xs.map ([·])) 0 false⟩ g0
  { tmps := (Value.func (.yield l) #[] #[] :: cv).toArray ++ Array.replicate (fn.ntmps - (Value.func (.yield l) #[] #[] :: cv).toArray.size) undef, defers := [] } w := {
  defers := by rw [hdf]; rfl
  size := by
   rw [hCN]
   have := hr.length
   simp at this ⊢; omega
  rep := fun i d hd => by
   rw [hCN]
   obtain ⟨_, h2⟩ := frOf_lk _ 0 i d hd
   simp only [Nat.sub_zero] at h2
   obtain ⟨v, h3, h4⟩ := hr.get i d h2
   have hi := (List.getElem?_eq_some_iff.1 h2).1
   refine ⟨by simp at hi; omega, ?_⟩
   have hiv := (List.getElem?_eq_some_iff.1 h3).1
   simp only [Array.getD_eq_getD_getElem?]
   rw [Array.getElem?_append_left (by simpa using hiv), List.getElem?_toArray, h3]
   exact h4
  mem := by
   rw [hC]
   exact {
    os := rfl, tape := rfl, output := rfl, hsz := Nat.le_refl _, old := fun _ _ _ _ => rfl, keep := Ex.refl _ _, newfz := fun _ _ h _ => .inl h, fzlt := m0.fzlt
    bxs := m0.bxs
    mps := m0.mps
    bxok := fun n b hb => ⟨(m0.bxok n b hb).1, by
     by_cases h : n < 1000000
     ·exact .inr (.inl ⟨n, h, hb⟩)
     ·exact .inr (.inr (by omega)), (m0.bxok n b hb).2.2⟩
    bxinj := m0.bxinj
    tks := fun t v e h => by rw [htk] at h; cases h
    tkinj := fun t s v u e f b h => by rw [htk] at h; cases h
    bxtk := fun n t b v e _ h => by rw [htk] at h; cases h
    dfs := fun D hD => by rw [hdf] at hD; cases hD
    dnd := by rw [hdf]; exact List.nodup_nil
    bxdf := fun n D hD => by rw [hdf] at hD; cases hD
    bxdm := fun n b hb hd => (hDm b hd).2.2 n hb }
  x := by
    rw [hCX]
    refine ⟨rfl, rfl, H0, hX0, Nat.le_refl _, hheld _ _ _ _ hX0, fun b hb => ?_⟩
    rcases hb with ⟨n, _, h⟩ | ⟨t, v, e, h, _⟩ | h | ⟨h1, o, ho⟩
    ·exact ⟨fun e => hH0 b e n h, .inr ⟨n, h⟩⟩
    ·rw [htk] at h; cases h
    ·rw [hdf] at h; cases h
    ·rw [hCw] at h1
     have := m0.fzlt b o ho
     omega
  fix := fun n b h => by rw [hC] at h; cases h }
 subst hCP
 refine (callsIn_wide (n := 0)).1 (callsIn_of_wp_marks (F := FW none) hf hb trivial (wpIn_mono (run_inR an c C hm hy none 0 ac (.inl hnr) hc (by rw [hCN, hCwr]; exact hd) _ _ (hrun l) g0 _ w hinit) ?_) rfl)
 have key : ∀ (a' : Act) (w' : World), (∃ st g, SR C st g a' w' ∧ ∃ ds i s, resD C.P st fn.results.toList = some ds ∧ st.hs = .it l (xs.map ([·])) i s ∧ (s = false → i = (xs.map ([·])).length)) →
  LeavesInM (FW none) 0 C.P fn a'.tmps (fun e w2 => ∃ v i s H, e = .returned v ∧ X i s H w2 ∧ (s = false → i = xs.length)) a'.defers .returning w' := by
  rintro a' w' ⟨st, g, hs, ds, i, s, h1, h2, h3⟩
  refine leave_marks g.df g a' w' rfl hs fun g' a2 w2 e hdf' hs' => ?_
  obtain ⟨v, h4, h5⟩ := results_run hs' fn ds h1
  rw [e] at h4
  have hx := hs'.x
  rw [h2, hCX] at hx
  obtain ⟨_, _, H, hx, _⟩ := hx
  exact ⟨v, h4, v, i, s, H, rfl, hx, fun e => by simpa using h3 e⟩
 intro e a' w' h
 cases e <;> simp only [Post] at h
 ·exact key a' w' h
 ·obtain ⟨_, _, _, h⟩ := h; exact h.elim
 ·obtain ⟨_, _, _, h⟩ := h; exact h.elim
 ·exact key a' w' h

theorem IterB.iterW {P : Program} {f : FuncId} {caps0 : List (Nat × Nat)} {bs0 : List (Nat × List D)} {xs : List Value} (he : Enters P f) (h : IterB P f caps0 bs0 xs) {st : St} {caps : List (Nat × Nat)} (kn : Bool) (ren : List (Nat × Nat))
 (hok : (fullOK true st.bs ren [] [] [] && ren.all fun p => caps.any fun c => c.1 == p.1) = true) (hc : seeCaps ren caps = some caps0) (hb : renBs kn ren [] st.bs ren = bs0) : IterW P f caps st xs := by
 subst hb
 rw [Bool.and_eq_true] at hok
 have ok := fullOK_spec hok.1
 have hin : ∀ (g : Gh) n k, (g.seen ren []).bx n = some k → ∃ c ∈ caps, g.bx c.1 = some k := fun g n k hk => by
  obtain ⟨n', h1, h2⟩ := seen_bx hk
  have := List.all_eq_true.1 hok.2 _ h1
  obtain ⟨c, h3, h4⟩ := List.any_eq_true.1 this
  exact ⟨c, h3, by rw [show c.1 = n' by simpa using h4]; exact h2⟩
 refine ⟨he, fun C g a w cv W hP hs hcv hW l X Dm H0 hDm hclo hheld hrounds hX0 hH0 => ?_⟩
 subst hP
 obtain ⟨mW, _⟩ := hs.mem.keepD hW (fun _ _ e => e.elim)
 refine h (g.seen ren []) W cv rfl rfl (fun N => seen_mem (st := st) mW ok kn N) (seeCaps_caps (fun n k b h1 h2 => ?_) hc hcv) l X Dm H0 (fun k hk => ⟨(hDm k hk).1, (hDm k hk).2.1, fun n hn => ?_⟩) (fun i s H R w1 w2 hx hk hR => hclo i s H R w1 w2 hx hk fun k e => ⟨(hR k e).1, ?_⟩) hheld hrounds hX0 (fun k hk n hn => ?_)
 ·simp [Gh.seen, mem_lkr ok.r2 (lk_mem h1), h2]
 ·obtain ⟨c, h1, h2⟩ := hin g n k hn
  exact (hDm k hk).2.2 c h1 h2
 ·rcases (hR k e).2 with h1 | ⟨n, h1⟩
  ·exact .inl h1
  ·exact .inr (hin g n k h1)
 ·obtain ⟨c, h1, h2⟩ := hin g n k hn
  exact hH0 k hk c h1 h2


theorem retL : (∀ (α β : Type) (f : α → β) (x : α), (some x).map f = some (f x)) ∧ (∀ (α β : Type) (x : α) (f : α → Option β), (some x).bind f = f x) ∧ (∀ (α : Type) (a b : α), (some a).getD b = a) ∧
 (∀ (α : Type) (a : α) (l : List α), (a :: l)[0]? = some a) ∧ (∀ (α : Type) (a : α) (l : List α) (i : Nat), (a :: l)[i + 1]? = l[i]?) ∧ (∀ (α : Type) (l : List α), l.drop 0 = l) ∧
 (∀ (α : Type) (a : α) (l : List α) (i : Nat), (a :: l).drop (i + 1) = l.drop i) ∧ (∀ (α : Type) (a : α) (l : List α) (i : Nat), (a :: l).take (i + 1) = a :: l.take i) ∧ (∀ (α : Type) (l : List α), l.take 0 = []) ∧
 (∀ (α : Type) (a : α) (l : List α), (a :: l).length = l.length + 1) ∧ (∀ (α : Type), ([] : List α).length = 0) ∧ (∀ n : Nat, 0 + n = n) ∧ (∀ n : Nat, n ≤ n) ∧
 (∀ (st : St) (i : Nat), st.get i = (lk st.fr i).getD .any) ∧ (∀ (α : Type) (j i : Nat) (d : α) (r : List (Nat × α)), lk ((j, d) :: r) i = if i = j then some d else lk r i) ∧ (∀ d, oneD [d] = d) ∧ oneD [] = .tup [] ∧ (∀ a b r, oneD (a :: b :: r) = .tup (a :: b :: r)) ∧
 (∀ e s l t, D.pub (.own e s l t) = .pd (.slice l)) ∧ D.pub .nils = .pd (.slice []) ∧ (∀ l, D.pub (.agg l) = .agg (D.pubs l)) ∧ (∀ l, D.pub (.tup l) = .tup (D.pubs l)) ∧ (∀ x, D.pub (.pd x) = .pd x) ∧ (∀ n o, D.pub (.ptr n o) = .ptr n o) ∧ (∀ f c, D.pub (.fn f c) = .fn f c) ∧ (∀ n, D.pub (.mp n) = .mp n) ∧
 D.pubs [] = [] ∧ ∀ d l, D.pubs (d :: l) = D.pub d :: D.pubs l := by simp [St.get, lk, oneD, D.pub, D.pubs]
theorem lessA {P : Program} {st st' : St} (hf : lessL st'.fr st.fr := by simp [lessL, lk]) (hb : lessL st'.bs st.bs := by simp [lessL, lk]) (hm : lessL st'.ms st.ms := by simp [lessL, lk]) (hh : st'.hs = st.hs := by rfl) : Weak P st st' := Weak.less hf hb hm hh
attribute [go_sem] oo og tp ci cq mq lq fi sr

theorem follows : Tryz.prog.follows .mixedOrders = true := by kernel_rfl

abbrev int (n : Int) : D := .pd (.raw (.int .i64 n))
abbrev u64 (n : Int) : D := .pd (.raw (.int .u64 n))
abbrev bln (b : Bool) : D := .pd (.raw (.bool b))
abbrev str (s : ByteArray) : D := .pd (.raw (.string s))
abbrev pInt (n : Int) : PD := .raw (.int .i64 n)
abbrev pStr (s : ByteArray) : PD := .raw (.string s)
abbrev pBln (b : Bool) : PD := .raw (.bool b)

abbrev rows {α : Type} (f : α → List PD) (l : List α) : List (List PD) := l.map f

theorem rows_get {α : Type} {f : α → List PD} {l : List α} {i : Nat} {x : α} (h : l[i]? = some x) : (rows f l)[i]? = some (f x) := by simp [rows, h]
theorem rows_len {α : Type} {f : α → List PD} {l : List α} : (rows f l).length = l.length := by simp [rows]
theorem rows_row {α : Type} {f : α → List PD} {n : Nat} (hf : ∀ x, (f x).length = n) (l : List α) : ∀ r ∈ rows f l, r.length = n := by
 intro r hr
 obtain ⟨x, _, rfl⟩ := List.mem_map.1 hr
 exact hf x
theorem rows_one {α : Type} {f : α → List PD} (l : List α) (x : α) : rows f l ++ [f x] = rows f (l ++ [x]) := by simp [rows]
theorem rowsOK_rows {α : Type} {f : α → List PD} {n : Nat} (hf : ∀ x, (f x).length = n) (l : List α) : rowsOK n (rows f l) = True := eq_true (rows_row hf l)

abbrev cInt (n : Int) : List PD := [pInt n]
abbrev cStr (s : ByteArray) : List PD := [pStr s]
abbrev ints (l : List Int) : List (List PD) := rows cInt l
abbrev strs (l : List ByteArray) : List (List PD) := rows cStr l

structure ARef where
 kind : Int
 space : ByteArray
 name : ByteArray
 deriving DecidableEq

abbrev ARef.pd (r : ARef) : List PD := [pInt r.kind, pStr r.space, pStr r.name]
abbrev ARef.d (r : ARef) : D := .agg [int r.kind, str r.space, str r.name]
abbrev ARef.val (r : ARef) : Value := .agg #[.int .i64 r.kind, .string r.space, .string r.name]

structure APair where
 name : ByteArray
 val : ByteArray
 deriving DecidableEq

abbrev APair.pd (p : APair) : List PD := [pStr p.name, pStr p.val]

structure ANeed where
 kind : Int
 name : ByteArray
 vals : List ByteArray
 deriving DecidableEq

abbrev ANeed.pd (n : ANeed) : List PD := [pInt n.kind, pStr n.name, .slice (strs n.vals)]

structure AListener where
 name : ByteArray
 port : Int
 tls : Bool
 host : ByteArray
 cert : ARef
 from_ : Int
 needs : List ANeed
 deriving DecidableEq

abbrev AListener.pd (l : AListener) : List PD := [pStr l.name, pInt l.port, pBln l.tls, pStr l.host, pInt l.cert.kind, pStr l.cert.space, pStr l.cert.name, pInt l.from_, .slice (rows ANeed.pd l.needs)]

structure AParent where
 space : ByteArray
 name : ByteArray
 section_ : ByteArray
 port : Int
 deriving DecidableEq

abbrev AParent.pd (p : AParent) : List PD := [pStr p.space, pStr p.name, pStr p.section_, pInt p.port]

structure ABackend where
 ref : ARef
 port : Int
 weight : Int
 deriving DecidableEq

abbrev ABackend.pd (b : ABackend) : List PD := [pInt b.ref.kind, pStr b.ref.space, pStr b.ref.name, pInt b.port, pInt b.weight]

abbrev ABackend.d (b : ABackend) : D := .agg [int b.ref.kind, str b.ref.space, str b.ref.name, int b.port, int b.weight]

structure AMatch where
 pkind : Int
 pval : ByteArray
 method : ByteArray
 head : List APair
 query : List APair
 deriving DecidableEq

abbrev AMatch.pd (m : AMatch) : List PD := [pInt m.pkind, pStr m.pval, pStr m.method, .slice (rows APair.pd m.head), .slice (rows APair.pd m.query)]

structure AFilter where
 kind : Int
 name : ByteArray
 val : ByteArray
 host : ByteArray
 port : Int
 path : ByteArray
 whole : Bool
 code : Int
 deriving DecidableEq

abbrev AFilter.pd (f : AFilter) : List PD := [pInt f.kind, pStr f.name, pStr f.val, pStr f.host, pInt f.port, pStr f.path, pBln f.whole, pInt f.code]

structure ARule where
 matches_ : List AMatch
 filters : List AFilter
 backends : List ABackend
 deriving DecidableEq

abbrev ARule.pd (r : ARule) : List PD := [.slice (rows AMatch.pd r.matches_), .slice (rows AFilter.pd r.filters), .slice (rows ABackend.pd r.backends)]

structure ASide where
 kind : Int
 space : ByteArray
 name : ByteArray
 deriving DecidableEq

abbrev ASide.pd (s : ASide) : List PD := [pInt s.kind, pStr s.space, pStr s.name]

structure AObj where
 ref : ARef
 good : Bool
 labels : List APair
 ports : List Int
 cls : ByteArray
 listeners : List AListener
 parents : List AParent
 hosts : List ByteArray
 rules : List ARule
 from_ : List ASide
 to_ : List ASide
 deriving DecidableEq

abbrev AObj.pd (o : AObj) : List PD := [pInt o.ref.kind, pStr o.ref.space, pStr o.ref.name, pBln o.good, .slice (rows APair.pd o.labels), .slice (ints o.ports), pStr o.cls, .slice (rows AListener.pd o.listeners),
 .slice (rows AParent.pd o.parents), .slice (strs o.hosts), .slice (rows ARule.pd o.rules), .slice (rows ASide.pd o.from_), .slice (rows ASide.pd o.to_)]
abbrev AObj.d (o : AObj) : D := .agg [int o.ref.kind, str o.ref.space, str o.ref.name, bln o.good, .pd (.slice (rows APair.pd o.labels)), .pd (.slice (ints o.ports)), str o.cls, .pd (.slice (rows AListener.pd o.listeners)),
 .pd (.slice (rows AParent.pd o.parents)), .pd (.slice (strs o.hosts)), .pd (.slice (rows ARule.pd o.rules)), .pd (.slice (rows ASide.pd o.from_)), .pd (.slice (rows ASide.pd o.to_))]

structure AGoal where
 ref : ARef
 port : Int
 weight : Int
 bad : Bool
 deriving DecidableEq

abbrev AGoal.pd (g : AGoal) : List PD := [pInt g.ref.kind, pStr g.ref.space, pStr g.ref.name, pInt g.port, pInt g.weight, pBln g.bad]
abbrev AGoal.d (g : AGoal) : D := .agg [int g.ref.kind, str g.ref.space, str g.ref.name, int g.port, int g.weight, bln g.bad]

theorem at_lt {α : Type} {l : List α} {i : Nat} (h : i < l.length) : ∃ x, l[i]? = some x := ⟨_, List.getElem?_eq_getElem h⟩

theorem drop_at {α : Type} {l : List α} {i : Nat} {x : α} (h : l[i]? = some x) : l.drop i = x :: l.drop (i + 1) := by
 obtain ⟨hi, hx⟩ := List.getElem?_eq_some_iff.1 h
 rw [List.drop_eq_getElem_cons hi, hx]

theorem take_at {α : Type} {l : List α} {i : Nat} {x : α} (h : l[i]? = some x) : l.take (i + 1) = l.take i ++ [x] := by
 rw [List.take_add_one, h]; rfl

attribute [go_sem ↓] gif_true gif_false gifP_true gifP_false
attribute [go_sem] run_seq run_block run_region run_skip run_exit run_ret run_cond run_draw aops_nil aops_none aops_yes aops_no
attribute [go_sem] gif_not gif_dec gifP_not eq_self aopsK_mk putK_mk y_callv astep AOp.ex ev_tmp ev_const ev_func
attribute [go_sem] get_mk lk puto_some puto_none put_mk know_tmp know_const D.els cD cD0 binD binV
attribute [go_sem] unD Option.getD_some Option.getD_none Option.map_some Option.map_none Option.bind_some Option.bind_none List.length_cons List.length_nil St.init frOf nextS_mk
attribute [go_sem] y_mv y_pick y_alloc y_box y_build y_bslice y_load y_store y_ncheck y_bin y_binB y_eqs
attribute [go_sem] y_un y_conv y_fieldA y_field y_idxA y_idxS y_extract y_mkfn y_mkif y_len y_append y_minmax
attribute [go_sem] y_slcS y_slcL y_mkmap y_mget y_mset y_mentry y_mstore eltD rowIn updF updD putU_mk updP St.inits y_srange y_snext y_isnil y_tassert y_bstr octets MO.ents MO.iter
attribute [go_sem] roundFr_none roundFr_some findM keyD keyV findK findS putM valM boundD y_call contS_nil contS_seq_ret contS_seq_exit contS_block
attribute [go_sem] run_scope run_label run_goto contS_seq_goto contS_block_goto contS_round_goto contS_scope contS_scope_ret contS_scope_exit contS_scope_goto contS_once contS_once_ret contS_once_exit
attribute [go_sem] contS_block_ret contS_block_exit contS_round contS_round_ret contS_round_exit keep_none keep_some List.map_cons List.map_nil Nat.zero_add decide_eq_true_eq decide_eq_false_iff_not
attribute [go_sem] true_and and_true forall_const false_implies true_implies Bool.not_true Bool.not_false Int.natCast_nonneg Int.toNat_natCast St.purge D.purge D.purges
attribute [go_sem] ne_eq not_false_eq_true not_true_eq_false rowsD D.toPDs D.toPD D.cells List.any_nil List.any_cons List.filter_nil List.filter_cons Bool.false_eq_true
attribute [go_sem] Bool.or_false Bool.false_or Bool.or_self D.fixed D.sc D.caps List.nil_append List.cons_append List.getElem?_cons_zero List.getElem?_cons_succ List.getElem?_nil List.drop_zero
attribute [go_sem] List.drop_succ_cons List.take_succ_cons List.take_zero D.drop D.drops St.drop fillD D.ren D.rens backN St.merge renBs
attribute [go_sem] seeCaps lostN lostT wrN D.sel D.sels List.append_nil cutFr D.cut D.cuts bsOf St.after
attribute [go_sem] roundK List.contains_cons List.contains_nil Option.isSome_some Option.isSome_none Bool.or_true Bool.true_or valsD valD D.raws Nat.zero_le Nat.le_refl
attribute [go_sem] List.all_cons List.all_nil Bool.and_true Bool.true_and Bool.and_self Bool.not_eq_true' Bool.not_eq_false' decide_true decide_false dtK_mk drK_mk dnK_mk
attribute [go_sem] putN_mk d_done d_take d_alts d_nil d_cons g_none g_yes g_no clear_none clear_some pendTo_none
attribute [go_sem] pendTo_some putA_mk waits List.getD_cons_zero List.getD_cons_succ List.getD_nil x_call x_callv x_mkmap x_mget x_mset x_mentry x_mstore x_srange
attribute [go_sem] x_tassert t_tassert x_snext x_isnil x_bstr t_isnil t_bstr t_mget x_mv x_build x_load x_ncheck x_bin x_binB
attribute [go_sem] x_eqs x_un x_conv x_fieldA x_field x_idxA x_idxS x_extract x_mkfn x_mkif x_len x_minmax
attribute [go_sem] x_slcS x_slcL x_pick x_alloc x_box x_bslice x_store x_append t_mv t_build t_load t_ncheck
attribute [go_sem] t_bin t_binB t_eqs t_un t_conv t_fieldA t_field t_idxA t_idxS t_extract t_mkfn t_mkif
attribute [go_sem] t_len t_minmax t_slcS t_slcL t_pick

attribute [go_sem] contS_seq rows_len

end Go.Proofs.YtbjaopoipkphnaaGreatDoor


