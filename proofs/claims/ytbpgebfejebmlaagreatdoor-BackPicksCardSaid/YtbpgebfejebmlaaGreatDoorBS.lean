/- The abstract layer, part 17b: code over abstract states. -/
import Derived.Test.YtbpgebfejebmlaaGreatDoorBR
namespace Go.Proofs.YtbpgebfejebmlaaGreatDoor
open Go Go.RowKit
set_option linter.unusedSimpArgs false
set_option linter.unusedVariables false

inductive AC where
  | skip
  | ret
  | exit (id : Nat)
  | seq (x y : AC)
  | cond (c : Operand) (x y : AC)
  | block (id : Nat) (x : AC)
  | loop (x : AC)
  | region (l : List AOper) (kp : Option (List Nat))
  | draw (l : List AOper) (tb : List (List Nat)) (p : Plan) (kp : Option (List Nat))
  | rangeF (ns : List Nat) (p : Nat) (x : Operand) (body : AC)
  deriving Inhabited

/-- No range over a function. -/
def AC.noRange : AC → Bool
  | .seq x y => x.noRange && y.noRange
  | .cond _ x y => x.noRange && y.noRange
  | .block _ x => x.noRange
  | .loop x => x.noRange
  | .rangeF .. => false
  | _ => true

/-- What is told of regions: what is still looked at behind each; of drawn ones: who waits for whom, and how each is walked; of ranges over functions: which variables last. -/
structure Ann where
  kp : List (Nat × List Nat)
  dr : List (Nat × (List (List Nat) × Plan))
  rf : List (Nat × List Nat)

/-- What is looked at no more is given up. -/
def St.keep (st : St) : Option (List Nat) → St
  | none => st
  | some l => { st with fr := l.map fun i => (i, st.get i) }

def kpOK (N : Nat) : Option (List Nat) → Bool
  | none => true
  | some l => l.all fun i => decide (i < N)

theorem SR.keep {C : Ctx} {st : St} {g : Gh} {a : Act} {w : World} (h : SR C st g a w) {kp : Option (List Nat)} (hk : kpOK C.N kp = true) : SR C (st.keep kp) g a w := by
  cases kp with
  | none => exact h
  | some l =>
    refine h.less (fun i d hd => ?_) (fun _ _ h => h) (fun _ _ h => h) rfl
    simp only [St.keep] at hd
    have key : ∀ l : List Nat, l.all (fun i => decide (i < C.N)) = true → lk (l.map fun i => (i, st.get i)) i = some d → lk st.fr i = some d ∨ d = .any ∧ i < C.N := by
      intro l
      induction l with
      | nil => intro _ h; simp [lk] at h
      | cons j l ih =>
        intro hl h
        simp only [List.all_cons, Bool.and_eq_true, decide_eq_true_eq] at hl
        simp only [List.map_cons, lk] at h
        split at h
        · rename_i hij
          subst hij
          cases h
          unfold St.get
          cases hlk : lk st.fr i with
          | none => exact .inr ⟨rfl, hl.1⟩
          | some e => exact .inl rfl
        · exact ih hl.2 h
    exact key l hk hd

def compC (P : Program) (an : Ann) : Code → Option AC
  | .skip => some .skip
  | .ret => some .ret
  | .exit id => some (.exit id)
  | .seq x y => match compC P an x, compC P an y with
    | some a, some b => some (.seq a b)
    | _, _ => none
  | .cond c x y => match compC P an x, compC P an y with
    | some a, some b => some (.cond c a b)
    | _, _ => none
  | .block id x => (compC P an x).map (.block id)
  | .loop x => (compC P an x).map .loop
  | .region id ops false => (compL P ops (List.range ops.size)).map fun l => .region l (lk an.kp id)
  | .region id ops true => match lk an.dr id, compL P ops (List.range ops.size) with
    | some (tb, p), some l => if tabOK .any ops tb && Region.noSelect ops && planOK ops (Array.replicate ops.size false) p && decide (p.size ≤ ops.size) then some (.draw l tb p (lk an.kp id)) else none
    | _, _ => none
  | .rangeFunc x ps asg body => match ps.toList, asg, compC P an body with
    | [p], .skip, some b => if b.noRange then (lk an.rf p).map fun ns => .rangeF ns p x b else none
    | _, _, _ => none
  | _ => none

/-- All slots that are written are there. -/
def AC.dstOK (N : Nat) (p : Nat → Bool) : AC → Bool
  | .seq x y => x.dstOK N p && y.dstOK N p
  | .cond _ x y => x.dstOK N p && y.dstOK N p
  | .block _ x => x.dstOK N p
  | .loop x => x.dstOK N p
  | .region l kp => l.all (Go.Proofs.YtbpgebfejebmlaaGreatDoor.dstOK p) && kpOK N kp
  | .draw l _ _ kp => l.all (Go.Proofs.YtbpgebfejebmlaaGreatDoor.dstOK p) && kpOK N kp
  | .rangeF ns q _ x => x.dstOK N (rwr N ns) && decide (q < N)
  | _ => true

/-- Code over abstract states. -/
def run (P : Program) : AC → St → (Exit → St → Prop) → Prop
  | .skip, st, K => K .normal st
  | .ret, st, K => K .ret st
  | .exit id, st, K => K (.exit id) st
  | .seq x y, st, K => run P x st fun e s => match e with
    | .normal => run P y s K
    | e => K e s
  | .cond c x y, st, K => match st.ev c with
    | .pd (.raw (.bool b)) => (b = true → run P x (st.know c true) K) ∧ (b = false → run P y (st.know c false) K)
    | _ => False
  | .block id x, st, K => run P x st fun e s => match e with
    | .exit j => if j = id then K .normal s else K (.exit j) s
    | e => K e s
  | .loop x, st, K => ∃ I : Nat → St → Prop, (∃ n s, Weak P st s ∧ I n s) ∧ ∀ n s, I n s → run P x s fun e s' => match e with
    | .normal => ∃ m s2, m < n ∧ Weak P s' s2 ∧ I m s2
    | e => K e s'
  | .region l kp, st, K => aops P l st fun s => K .normal (s.keep kp)
  | .draw l tb p kp, st, K => drun P l tb p [] st fun s => K .normal (s.keep kp)
  | .rangeF ns p x body, st, K => match st.ev x with
    | .fn f caps => caps.all (fun c => !ns.contains c.1 && decide (c.1 < 1000000)) = true ∧ ns.all (fun n => (lk st.bs n).isSome && decide (n < 200000)) = true ∧
      ∃ (xs : List Value) (J : Nat → List (Nat × List D) → Prop), IterW P f caps st xs ∧ J 0 (bsOf false st.bs ns ns) ∧
      (∀ i v bs, xs[i]? = some v → J i bs → run P body ⟨(p, cD v) :: cutFr ns st.fr, bs, [], .no⟩ (roundK (J (i + 1)) K st ns)) ∧ ∀ bs, J xs.length bs → K .normal (st.after ns bs)
    | _ => False

theorem wpIn_loop_ghost {F : Fence} {n : Nat} {P : Program} {Q : Exit → Act → World → Prop} {a : Act} {w : World} {c : Code} (I : Nat → Act → World → Prop) (n₀ : Nat) (h₀ : I n₀ a w)
    (round : ∀ m a w, I m a w → c.wpIn F n P (Exit.then (fun a' w' => ∃ n', n' < m ∧ I n' a' w') Q) a w) : (Code.loop c).wpIn F n P Q a w := by
  refine wpIn_loop (fun a w => ∃ m, I m a w) (fun a w => leastOf (fun m => I m a w)) ⟨n₀, h₀⟩ ?_
  intro a w hI
  refine wpIn_mono (round _ a w (leastOf_spec hI).1) ?_
  intro e a' w' hq
  cases e with
  | normal =>
    obtain ⟨n', hlt, hI'⟩ := hq
    exact show (∃ m, I m a' w') ∧ leastOf (fun m => I m a' w') < leastOf (fun m => I m a w) from ⟨⟨n', hI'⟩, Nat.lt_of_le_of_lt ((leastOf_spec ⟨n', hI'⟩).2 n' hI') hlt⟩
  | exit id => exact hq
  | goto l => exact hq
  | ret => exact hq
  | panic ch => exact hq
  | outgrown => exact hq

theorem nrL {x y : Bool} {q : Prop} (h : (x && y) = true ∨ q) : x = true ∨ q := h.imp_left fun h => (Bool.and_eq_true _ _ ▸ h : x = true ∧ y = true).1
theorem nrR {x y : Bool} {q : Prop} (h : (x && y) = true ∨ q) : y = true ∨ q := h.imp_left fun h => (Bool.and_eq_true _ _ ▸ h : x = true ∧ y = true).2

/-- A nested context's rounds: none. -/
theorem yok_nest (P : Program) (w : World) (g : Gh) (N : Nat) (wr : Nat → Bool) (hwr : NestOK g N wr) : YOK (.nest P w g N wr hwr) := ⟨fun _ _ _ _ _ _ _ _ h => by cases h⟩

theorem run_inR (an : Ann) : ∀ (c : Code) (C : Ctx) (_ : C.P.follows .mixedOrders = true) (_ : YOK C) (ro : Option Nat) (fu : Nat) (ac : AC) (_ : ac.noRange = true ∨ (ro = none ∧ C.plain)), compC C.P an c = some ac → ac.dstOK C.N C.wr = true → ∀ (st : St) (K : Exit → St → Prop), run C.P ac st K →
    ∀ g a w, SR C st g a w → c.wpIn (FW ro) fu C.P (Post C K) a w
  | .skip, C, hm, hy, ro, fu, ac, hnr, hc, _, st, K, hr, g, a, w, hs => by
    simp only [compC, Option.some.injEq] at hc; subst hc
    exact wpIn_skip ⟨st, g, hs, hr⟩
  | .ret, C, hm, hy, ro, fu, ac, hnr, hc, _, st, K, hr, g, a, w, hs => by
    simp only [compC, Option.some.injEq] at hc; subst hc
    exact wpIn_ret ⟨st, g, hs, hr⟩
  | .exit id, C, hm, hy, ro, fu, ac, hnr, hc, _, st, K, hr, g, a, w, hs => by
    simp only [compC, Option.some.injEq] at hc; subst hc
    exact wpIn_exit ⟨st, g, hs, hr⟩
  | .seq x y, C, hm, hy, ro, fu, ac, hnr, hc, hd, st, K, hr, g, a, w, hs => by
    simp only [compC] at hc
    split at hc
    · rename_i p q hp hq
      cases hc
      simp only [AC.dstOK, Bool.and_eq_true] at hd
      simp only [run] at hr
      refine wpIn_seq (wpIn_mono (run_inR an x C hm hy ro fu p (nrL hnr) hp hd.1 st _ hr g a w hs) ?_)
      intro e a' w' h
      cases e <;> simp only [Post] at h
      · obtain ⟨s, g', h1, h2⟩ := h
        exact run_inR an y C hm hy ro fu q (nrR hnr) hq hd.2 s K h2 g' a' w' h1
      all_goals exact h
    · cases hc
  | .cond c x y, C, hm, hy, ro, fu, ac, hnr, hc, hd, st, K, hr, g, a, w, hs => by
    simp only [compC] at hc
    split at hc
    · rename_i p q hp hq
      cases hc
      simp only [AC.dstOK, Bool.and_eq_true] at hd
      simp only [run] at hr
      split at hr
      · rename_i b hb
        have h1 := hs.ev c
        rw [hb] at h1
        exact wpIn_cond_split (raw_inv h1) (fun e => run_inR an x C hm hy ro fu p (nrL hnr) hp hd.1 _ K (hr.1 e) g a w (hs.know (by rw [← e]; exact hb))) (fun e => run_inR an y C hm hy ro fu q (nrR hnr) hq hd.2 _ K (hr.2 e) g a w (hs.know (by rw [← e]; exact hb)))
      · exact hr.elim
    · cases hc
  | .block id x, C, hm, hy, ro, fu, ac, hnr, hc, hd, st, K, hr, g, a, w, hs => by
    simp only [compC] at hc
    obtain ⟨p, hp, rfl⟩ := Option.map_eq_some_iff.1 hc
    simp only [AC.dstOK] at hd
    simp only [run] at hr
    refine wpIn_block (wpIn_mono (run_inR an x C hm hy ro fu p hnr hp hd st _ hr g a w hs) ?_)
    intro e a' w' h
    cases e <;> simp only [Post] at h <;> simp only [Exit.inBlock]
    case exit j =>
      obtain ⟨s, g', h1, h2⟩ := h
      by_cases hj : j = id
      · rw [if_pos hj] at h2 ⊢
        exact ⟨s, g', h1, h2⟩
      · rw [if_neg hj] at h2 ⊢
        exact ⟨s, g', h1, h2⟩
    all_goals exact h
  | .loop x, C, hm, hy, ro, fu, ac, hnr, hc, hd, st, K, hr, g, a, w, hs => by
    simp only [compC] at hc
    obtain ⟨p, hp, rfl⟩ := Option.map_eq_some_iff.1 hc
    simp only [AC.dstOK] at hd
    simp only [run] at hr
    obtain ⟨I, ⟨n0, s0, hw, h0⟩, hround⟩ := hr
    obtain ⟨g0, hs0⟩ := hw C g a w rfl hs
    refine wpIn_loop_ghost (fun n a w => ∃ s g, SR C s g a w ∧ I n s) n0 ⟨s0, g0, hs0, h0⟩ ?_
    rintro n a' w' ⟨s, g', h1, h2⟩
    refine wpIn_mono (run_inR an x C hm hy ro fu p hnr hp hd s _ (hround n s h2) g' a' w' h1) ?_
    intro e a2 w2 h
    cases e <;> simp only [Post] at h
    · obtain ⟨s2, g2, h3, m, s3, h4, h5, h6⟩ := h
      obtain ⟨g3, h7⟩ := h5 C g2 a2 w2 rfl h3
      exact ⟨m, h4, s3, g3, h7, h6⟩
    all_goals exact h
  | .region id ops false, C, hm, hy, ro, fu, ac, hnr, hc, hd, st, K, hr, g, a, w, hs => by
    simp only [compC] at hc
    obtain ⟨l, hl, rfl⟩ := Option.map_eq_some_iff.1 hc
    simp only [AC.dstOK, Bool.and_eq_true] at hd
    simp only [run] at hr
    exact wpIn_region (aops_in hy ops _ l hl hd.1 st _ g a w hs hr _ fun st' g' a' w' h1 h2 => ⟨_, g', h1.keep hd.2, h2⟩)
  | .region id ops true, C, hm, hy, ro, fu, ac, hnr, hc, hd, st, K, hr, g, a, w, hs => by
    simp only [compC] at hc
    split at hc
    · rename_i tb p l hlk hl
      split at hc
      · rename_i hh
        cases hc
        simp only [Bool.and_eq_true, decide_eq_true_eq] at hh
        simp only [AC.dstOK, Bool.and_eq_true] at hd
        simp only [run] at hr
        exact wpIn_region_draw fun t => wpOps_in (compL_nd hl) post_out _ _ _ (draw_ops hm hl hd.1 hh.1.1.1 hh.1.1.2 (fun st' g' a' w' h1 h2 => ⟨_, g', h1.keep hd.2, h2⟩) (fun _ _ _ h => h) p hh.1.2 hh.2 hs hr t)
      · cases hc
    · cases hc
  | .scope .., _, _, _, _, _, ac, _, hc, _, _, _, _, _, _, _, _ => by simp only [compC] at hc; cases hc
  | .label .., _, _, _, _, _, ac, _, hc, _, _, _, _, _, _, _, _ => by simp only [compC] at hc; cases hc
  | .goto .., _, _, _, _, _, ac, _, hc, _, _, _, _, _, _, _, _ => by simp only [compC] at hc; cases hc
  | .rangeFunc x ps asg body, C, hm, hy, ro, fu, ac, hnr, hc, hd, st, K, hr, g, a, w, hs => by
    simp only [compC] at hc
    split at hc
    · rename_i p b hps hb
      split at hc
      · rename_i hnb
        obtain ⟨ns, hns, rfl⟩ := Option.map_eq_some_iff.1 hc
        simp only [AC.dstOK, Bool.and_eq_true, decide_eq_true_eq] at hd
        rcases hnr with hnr | ⟨rfl, hpl⟩
        · cases hnr
        · simp only [run] at hr
          split at hr
          · rename_i f caps hev
            obtain ⟨h1, h2, xs, J, h3, h4, h5, h6⟩ := hr
            have hps' : ps = #[p] := by rw [← Array.toArray_toList (xs := ps), hps]
            rw [hps']
            refine range_in hs hpl hd.2 hev (fun c hc => ?_) (fun n hn => by simpa using List.all_eq_true.1 h2 n hn) h3 h4 (fun i v bs hv hJ w2 g2 hwr a2 n l hs2 => ?_) h6
            · have := List.all_eq_true.1 h1 c hc
              simpa using this
            · exact run_inR an body (.nest C.P w2 g2 C.N (rwr C.N ns) hwr) hm (yok_nest _ _ _ _ _ _) (some l) n b (.inl hnb) hb hd.1 _ _ (h5 i v bs hv hJ) _ a2 w2 hs2
          · exact hr.elim
      · cases hc
    · cases hc

theorem run_in (C : Ctx) (hm : C.P.follows .mixedOrders = true) (hy : YOK C) (hpl : C.plain) (an : Ann) (fu : Nat) (c : Code) (ac : AC) (hc : compC C.P an c = some ac) (hd : ac.dstOK C.N C.wr = true) (st : St) (K : Exit → St → Prop) (hr : run C.P ac st K)
    (g : Gh) (a : Act) (w : World) (hs : SR C st g a w) : c.wpIn (FW none) fu C.P (Post C K) a w :=
  run_inR an c C hm hy none fu ac (.inr ⟨rfl, hpl⟩) hc hd st K hr g a w hs

/-- A function that is no iterator relies on nothing. -/
theorem yok_fn (P : Program) (w0 : World) (Fz0 : Nat → Nat → Prop) (S : Nat → Prop) (N : Nat) : YOK (.fn P w0 Fz0 S N) := ⟨fun _ _ _ _ _ _ _ _ h => by cases h⟩

end Go.Proofs.YtbpgebfejebmlaaGreatDoor
