/- Texts of the prover's, joined: BI T0 D3 D4 D5 DB D2 D6 DF R1 R2. -/
import Derived.Test.YtjgpdjakehoofaaGreatDoorVS3
import Derived.Test.YtjgpdjakehoofaaGreatDoorProg
import Derived.IntWalk
import Derived.KernelRfl
import Derived.ChangeArms
import Derived.Test.YtjgpdjakehoofaaGreatDoorRows
import Derived.WalkKit
import Derived.ProofKit
import Derived.OpenShut
import Derived.LaidMore
import Derived.Lay
import Derived.Carry
import Derived.SevenTiedAt
import Derived.ChangeOld
import Derived.Below
import Derived.Stop.Joined

namespace Go.Proofs.YtjgpdjakehoofaaGreatDoor
open Go Go.RowKit
set_option linter.unusedSimpArgs false
set_option linter.unusedVariables false
set_option maxRecDepth 100000

def IterB (P : Program) (f : FuncId) (caps : List (Nat × Nat)) (bs : List (Nat × List D)) (xs : List Value) : Prop :=
 ∀ (g0 : Gh) (w : World) (cv : List Value), g0.tk = (fun _ => none) → g0.df = [] → (∀ N, Mem (.call P w g0 N false) bs [] g0 w) → Caps g0 caps cv →
   ∀ (l : Nat) (X : Nat → Bool → (Nat → Prop) → World → Prop) (Dm : Nat → Prop) (H0 : Nat → Prop),
     (∀ k, Dm k → k < w.heap.size ∧ (∀ o, ¬ g0.Fz k o) ∧ ∀ n, g0.bx n ≠ some k) →
     (∀ i s H R w1 w2, X i s H w1 → KeepD R w1 w2 → (∀ k, R k → ¬ H k ∧ (w.heap.size ≤ k ∨ ∃ n, g0.bx n = some k)) → X i s H w2) →
     (∀ i s H w1, X i s H w1 → ∀ k, H k → k < w1.heap.size) →
     (∀ i v H w1 n, xs[i]? = some v → X i false H w1 → YieldAt (FW none) n P l #[v] w1 fun e w2 => ∃ b H', e = .returned (.bool b) ∧ X (i + 1) (!b) H' w2 ∧ (∀ k, H' k → H k ∨ w1.heap.size ≤ k) ∧ KeepD (fun k => Dm k ∨ (w.heap.size ≤ k ∧ H k)) w1 w2) →
     X 0 false H0 w → (∀ k, H0 k → ∀ n, g0.bx n ≠ some k) →
     Calls P f (Value.func (.yield l) #[] #[] :: cv).toArray w fun e w2 => ∃ v i s H, e = .returned v ∧ X i s H w2 ∧ (s = false → i = xs.length)

abbrev yieldD (l : Nat) : D := .pd (.raw (.func (.yield l) #[] #[]))

def iterK (P : Program) (fn : Func) (l : Nat) (xs : List (List Value)) : Exit → St → Prop
 | .normal, st => ∃ ds i s, resD P st fn.results.toList = some ds ∧ st.hs = .it l xs i s ∧ (s = false → i = xs.length)
 | .ret, st => ∃ ds i s, resD P st fn.results.toList = some ds ∧ st.hs = .it l xs i s ∧ (s = false → i = xs.length)
 | _, _ => False

def itX (w : World) (g0 : Gh) (l : Nat) (xs : List (List Value)) (X : Nat → Bool → (Nat → Prop) → World → Prop) : Hist → (Nat → Prop) → World → Prop
 | .it l' xs' i s, O, w1 => l' = l ∧ xs' = xs ∧ ∃ H, X i s H w1 ∧ w.heap.size ≤ w1.heap.size ∧ (∀ k, H k → k < w1.heap.size) ∧ ∀ b, O b → ¬ H b ∧ (w.heap.size ≤ b ∨ ∃ n, g0.bx n = some b)
 | .no, _, _ => False
 | .solo, _, _ => False

theorem iter_of_run {P : Program} (hm : P.follows .mixedOrders = true) (an : Ann) {f : FuncId} {fn : Func} {c : Code} {ac : AC} (hf : P.funcs[f]? = some fn) (hb : fn.body = some c) (hc : compC P an c = some ac)
 (hd : ac.dstOK fn.ntmps (fun i => decide (i < fn.ntmps)) = true) {caps : List (Nat × Nat)} {bs : List (Nat × List D)} {xs : List Value} (hN : caps.length + 1 ≤ fn.ntmps) (hnr : ac.noRange = true)
 (hrun : ∀ l, run P ac ⟨frOf 0 (yieldD l :: caps.map fun c => .ptr c.1 c.2), bs, [], .it l (xs.map ([·])) 0 false⟩ (iterK P fn l (xs.map ([·])))) : IterB P f caps bs xs := by
 intro g0 w cv htk hdf hmem hcaps l X Dm H0 hDm hclo hheld hrounds hX0 hH0
 have m0 := hmem 0
 obtain ⟨C, hC⟩ : ∃ C : Ctx, C = ⟨P, w, g0.Fz, fun b => ∃ n, n < 1000000 ∧ g0.bx n = some b, fn.ntmps, fun i => decide (i < fn.ntmps), fun _ => none, itX w g0 l (xs.map ([·])) X, Dm,
  fun i h => ⟨of_decide_eq_true h, rfl⟩, fun _ _ _ => rfl, fun k hk => ⟨(hDm k hk).1, fun ⟨n, _, h⟩ => (hDm k hk).2.2 n h, (hDm k hk).2.1⟩, fun h O O' R w1 w2 hx hk hR hO => by
   cases h with
   | no => exact hx.elim
   | solo => exact hx.elim
   | it l' xs' i s =>
     obtain ⟨e1, e2, H, h1, h2, h3, h4⟩ := hx
     refine ⟨e1, e2, H, hclo i s H R w1 w2 h1 hk (fun k e => h4 k (hR k e)), Nat.le_trans h2 hk.size, fun k e => Nat.lt_of_lt_of_le (h3 k e) hk.size, fun b hb => ?_⟩
     rcases hO b hb with h | h
     ·exact h4 b h
     ·exact ⟨fun e => by have := h3 b e; omega, .inl (Nat.le_trans h2 h)⟩, fun _ _ (h : False) => h.elim⟩ := ⟨_, rfl⟩
 have hCX : C.X = itX w g0 l (xs.map ([·])) X := by rw [hC]
 have hCP : C.P = P := by rw [hC]
 have hCw : C.w0 = w := by rw [hC]
 have hCN : C.N = fn.ntmps := by rw [hC]
 have hCD : C.Dm = Dm := by rw [hC]
 have hCwr : C.wr = fun i => decide (i < fn.ntmps) := by rw [hC]
 have hy : YOK C := ⟨fun l' xs' i vs O w1 n hv hx hO => by
  rw [hCX] at hx
  obtain ⟨e1, e2, H, h1, h2, h3, h4⟩ := hx
  subst e1 e2
  rw [List.getElem?_map] at hv
  obtain ⟨v, hv1, rfl⟩ := Option.map_eq_some_iff.1 hv
  obtain ⟨fn', tmps, asg, body, hyr, hrd⟩ := hrounds i v H w1 n hv1 h1
  rw [hCP, hCX, hCD, hCw]
  refine ⟨fn', tmps, asg, body, hyr, hrd.mono ?_⟩
  rintro e w2 ⟨b, H', rfl, k1, k2, k3⟩
  refine ⟨b, rfl, ⟨rfl, rfl, H', k1, Nat.le_trans h2 k3.size, hheld _ _ _ _ k1, fun b' hb' => ⟨fun e => ?_, (h4 b' hb').2⟩⟩, k3.mono fun k _ hk => ?_⟩
  ·rcases k2 b' e with h | h
   ·exact (h4 b' hb').1 h
   ·have := hO b' hb'; omega
  ·rcases hk with hk | ⟨hk1, hk2⟩
   ·exact .inl hk
   ·exact .inr ⟨hk1, fun e => (h4 k e).1 hk2⟩⟩
 have hr : Reps g0 w (yieldD l :: caps.map fun c => .ptr c.1 c.2) (Value.func (.yield l) #[] #[] :: cv) := by
  simp only [Reps]
  exact ⟨_, cv, rfl, by simp only [Rep]; exact .raw _ rfl, hcaps.reps⟩
 have hinit : SR C ⟨frOf 0 (yieldD l :: caps.map fun c => .ptr c.1 c.2), bs, [], .it l (xs.map ([·])) 0 false⟩ g0
  { tmps := (Value.func (.yield l) #[] #[] :: cv).toArray ++ Array.replicate (fn.ntmps - (Value.func (.yield l) #[] #[] :: cv).toArray.size) undef, defers := [] } w := {
  defers := by rw [hdf]; rfl
  size := by
   rw [hCN]
   have := hr.length
   simp at this ⊢; omega
  rep := fun i d hd => by
   rw [hCN]
   obtain ⟨_, h2⟩ := frOf_lk _ 0 i d hd
   simp only [Nat.sub_zero] at h2
   obtain ⟨v, h3, h4⟩ := hr.get i d h2
   have hi := (List.getElem?_eq_some_iff.1 h2).1
   refine ⟨by simp at hi; omega, ?_⟩
   have hiv := (List.getElem?_eq_some_iff.1 h3).1
   simp only [Array.getD_eq_getD_getElem?]
   rw [Array.getElem?_append_left (by simpa using hiv), List.getElem?_toArray, h3]
   exact h4
  mem := by
   rw [hC]
   exact {
    os := rfl, tape := rfl, output := rfl, hsz := Nat.le_refl _, old := fun _ _ _ _ => rfl, keep := Ex.refl _ _, newfz := fun _ _ h _ => .inl h, fzlt := m0.fzlt
    bxs := m0.bxs
    mps := m0.mps
    bxok := fun n b hb => ⟨(m0.bxok n b hb).1, by
     by_cases h : n < 1000000
     ·exact .inr (.inl ⟨n, h, hb⟩)
     ·exact .inr (.inr (by omega)), (m0.bxok n b hb).2.2⟩
    bxinj := m0.bxinj
    tks := fun t v e h => by rw [htk] at h; cases h
    tkinj := fun t s v u e f b h => by rw [htk] at h; cases h
    bxtk := fun n t b v e _ h => by rw [htk] at h; cases h
    dfs := fun D hD => by rw [hdf] at hD; cases hD
    dnd := by rw [hdf]; exact List.nodup_nil
    bxdf := fun n D hD => by rw [hdf] at hD; cases hD
    bxdm := fun n b hb hd => (hDm b hd).2.2 n hb }
  x := by
    rw [hCX]
    refine ⟨rfl, rfl, H0, hX0, Nat.le_refl _, hheld _ _ _ _ hX0, fun b hb => ?_⟩
    rcases hb with ⟨n, _, h⟩ | ⟨t, v, e, h, _⟩ | h | ⟨h1, o, ho⟩
    ·exact ⟨fun e => hH0 b e n h, .inr ⟨n, h⟩⟩
    ·rw [htk] at h; cases h
    ·rw [hdf] at h; cases h
    ·rw [hCw] at h1
     have := m0.fzlt b o ho
     omega
  fix := fun n b h => by rw [hC] at h; cases h }
 subst hCP
 refine (callsIn_wide (n := 0)).1 (callsIn_of_wp_marks (F := FW none) hf hb trivial (wpIn_mono (run_inR an c C hm hy none 0 ac (.inl hnr) hc (by rw [hCN, hCwr]; exact hd) _ _ (hrun l) g0 _ w hinit) ?_) rfl)
 have key : ∀ (a' : Act) (w' : World), (∃ st g, SR C st g a' w' ∧ ∃ ds i s, resD C.P st fn.results.toList = some ds ∧ st.hs = .it l (xs.map ([·])) i s ∧ (s = false → i = (xs.map ([·])).length)) →
  LeavesInM (FW none) 0 C.P fn a'.tmps (fun e w2 => ∃ v i s H, e = .returned v ∧ X i s H w2 ∧ (s = false → i = xs.length)) a'.defers .returning w' := by
  rintro a' w' ⟨st, g, hs, ds, i, s, h1, h2, h3⟩
  refine leave_marks g.df g a' w' rfl hs fun g' a2 w2 e hdf' hs' => ?_
  obtain ⟨v, h4, h5⟩ := results_run hs' fn ds h1
  rw [e] at h4
  have hx := hs'.x
  rw [h2, hCX] at hx
  obtain ⟨_, _, H, hx, _⟩ := hx
  exact ⟨v, h4, v, i, s, H, rfl, hx, fun e => by simpa using h3 e⟩
 intro e a' w' h
 cases e <;> simp only [Post] at h
 ·exact key a' w' h
 ·obtain ⟨_, _, _, h⟩ := h; exact h.elim
 ·obtain ⟨_, _, _, h⟩ := h; exact h.elim
 ·exact key a' w' h

theorem IterB.iterW {P : Program} {f : FuncId} {caps0 : List (Nat × Nat)} {bs0 : List (Nat × List D)} {xs : List Value} (he : Enters P f) (h : IterB P f caps0 bs0 xs) {st : St} {caps : List (Nat × Nat)} (kn : Bool) (ren : List (Nat × Nat))
 (hok : (fullOK true st.bs ren [] [] [] && ren.all fun p => caps.any fun c => c.1 == p.1) = true) (hc : seeCaps ren caps = some caps0) (hb : renBs kn ren [] st.bs ren = bs0) : IterW P f caps st xs := by
 subst hb
 rw [Bool.and_eq_true] at hok
 have ok := fullOK_spec hok.1
 have hin : ∀ (g : Gh) n k, (g.seen ren []).bx n = some k → ∃ c ∈ caps, g.bx c.1 = some k := fun g n k hk => by
  obtain ⟨n', h1, h2⟩ := seen_bx hk
  have := List.all_eq_true.1 hok.2 _ h1
  obtain ⟨c, h3, h4⟩ := List.any_eq_true.1 this
  exact ⟨c, h3, by rw [show c.1 = n' by simpa using h4]; exact h2⟩
 refine ⟨he, fun C g a w cv W hP hs hcv hW l X Dm H0 hDm hclo hheld hrounds hX0 hH0 => ?_⟩
 subst hP
 obtain ⟨mW, _⟩ := hs.mem.keepD hW (fun _ _ e => e.elim)
 refine h (g.seen ren []) W cv rfl rfl (fun N => seen_mem (st := st) mW ok kn N) (seeCaps_caps (fun n k b h1 h2 => ?_) hc hcv) l X Dm H0 (fun k hk => ⟨(hDm k hk).1, (hDm k hk).2.1, fun n hn => ?_⟩) (fun i s H R w1 w2 hx hk hR => hclo i s H R w1 w2 hx hk fun k e => ⟨(hR k e).1, ?_⟩) hheld hrounds hX0 (fun k hk n hn => ?_)
 ·simp [Gh.seen, mem_lkr ok.r2 (lk_mem h1), h2]
 ·obtain ⟨c, h1, h2⟩ := hin g n k hn
  exact (hDm k hk).2.2 c h1 h2
 ·rcases (hR k e).2 with h1 | ⟨n, h1⟩
  ·exact .inl h1
  ·exact .inr (hin g n k h1)
 ·obtain ⟨c, h1, h2⟩ := hin g n k hn
  exact hH0 k hk c h1 h2


theorem retL : (∀ (α β : Type) (f : α → β) (x : α), (some x).map f = some (f x)) ∧ (∀ (α β : Type) (x : α) (f : α → Option β), (some x).bind f = f x) ∧ (∀ (α : Type) (a b : α), (some a).getD b = a) ∧
 (∀ (α : Type) (a : α) (l : List α), (a :: l)[0]? = some a) ∧ (∀ (α : Type) (a : α) (l : List α) (i : Nat), (a :: l)[i + 1]? = l[i]?) ∧ (∀ (α : Type) (l : List α), l.drop 0 = l) ∧
 (∀ (α : Type) (a : α) (l : List α) (i : Nat), (a :: l).drop (i + 1) = l.drop i) ∧ (∀ (α : Type) (a : α) (l : List α) (i : Nat), (a :: l).take (i + 1) = a :: l.take i) ∧ (∀ (α : Type) (l : List α), l.take 0 = []) ∧
 (∀ (α : Type) (a : α) (l : List α), (a :: l).length = l.length + 1) ∧ (∀ (α : Type), ([] : List α).length = 0) ∧ (∀ n : Nat, 0 + n = n) ∧ (∀ n : Nat, n ≤ n) ∧
 (∀ (st : St) (i : Nat), st.get i = (lk st.fr i).getD .any) ∧ (∀ (α : Type) (j i : Nat) (d : α) (r : List (Nat × α)), lk ((j, d) :: r) i = if i = j then some d else lk r i) ∧ (∀ d, oneD [d] = d) ∧ oneD [] = .tup [] ∧ (∀ a b r, oneD (a :: b :: r) = .tup (a :: b :: r)) ∧
 (∀ e s l t, D.pub (.own e s l t) = .pd (.slice l)) ∧ D.pub .nils = .pd (.slice []) ∧ (∀ l, D.pub (.agg l) = .agg (D.pubs l)) ∧ (∀ l, D.pub (.tup l) = .tup (D.pubs l)) ∧ (∀ x, D.pub (.pd x) = .pd x) ∧ (∀ n o, D.pub (.ptr n o) = .ptr n o) ∧ (∀ f c, D.pub (.fn f c) = .fn f c) ∧ (∀ n, D.pub (.mp n) = .mp n) ∧
 D.pubs [] = [] ∧ ∀ d l, D.pubs (d :: l) = D.pub d :: D.pubs l := by simp [St.get, lk, oneD, D.pub, D.pubs]
theorem lessA {P : Program} {st st' : St} (hf : lessL st'.fr st.fr := by simp [lessL, lk]) (hb : lessL st'.bs st.bs := by simp [lessL, lk]) (hm : lessL st'.ms st.ms := by simp [lessL, lk]) (hh : st'.hs = st.hs := by rfl) : Weak P st st' := Weak.less hf hb hm hh
attribute [go_sem] oo og tp ci cq mq lq fi sr

theorem follows : Tryz.prog.follows .mixedOrders = true := by kernel_rfl

abbrev int (n : Int) : D := .pd (.raw (.int .i64 n))
abbrev u64 (n : Int) : D := .pd (.raw (.int .u64 n))
abbrev bln (b : Bool) : D := .pd (.raw (.bool b))
abbrev str (s : ByteArray) : D := .pd (.raw (.string s))
abbrev pInt (n : Int) : PD := .raw (.int .i64 n)
abbrev pStr (s : ByteArray) : PD := .raw (.string s)
abbrev pBln (b : Bool) : PD := .raw (.bool b)

abbrev rows {α : Type} (f : α → List PD) (l : List α) : List (List PD) := l.map f

theorem rows_get {α : Type} {f : α → List PD} {l : List α} {i : Nat} {x : α} (h : l[i]? = some x) : (rows f l)[i]? = some (f x) := by simp [rows, h]
theorem rows_len {α : Type} {f : α → List PD} {l : List α} : (rows f l).length = l.length := by simp [rows]
theorem rows_row {α : Type} {f : α → List PD} {n : Nat} (hf : ∀ x, (f x).length = n) (l : List α) : ∀ r ∈ rows f l, r.length = n := by
 intro r hr
 obtain ⟨x, _, rfl⟩ := List.mem_map.1 hr
 exact hf x
theorem rows_one {α : Type} {f : α → List PD} (l : List α) (x : α) : rows f l ++ [f x] = rows f (l ++ [x]) := by simp [rows]
theorem rowsOK_rows {α : Type} {f : α → List PD} {n : Nat} (hf : ∀ x, (f x).length = n) (l : List α) : rowsOK n (rows f l) = True := eq_true (rows_row hf l)

abbrev cInt (n : Int) : List PD := [pInt n]
abbrev cStr (s : ByteArray) : List PD := [pStr s]
abbrev ints (l : List Int) : List (List PD) := rows cInt l
abbrev strs (l : List ByteArray) : List (List PD) := rows cStr l

structure ARef where
 kind : Int
 space : ByteArray
 name : ByteArray
 deriving DecidableEq

abbrev ARef.pd (r : ARef) : List PD := [pInt r.kind, pStr r.space, pStr r.name]
abbrev ARef.d (r : ARef) : D := .agg [int r.kind, str r.space, str r.name]
abbrev ARef.val (r : ARef) : Value := .agg #[.int .i64 r.kind, .string r.space, .string r.name]

structure APair where
 name : ByteArray
 val : ByteArray
 deriving DecidableEq

abbrev APair.pd (p : APair) : List PD := [pStr p.name, pStr p.val]

structure ANeed where
 kind : Int
 name : ByteArray
 vals : List ByteArray
 deriving DecidableEq

abbrev ANeed.pd (n : ANeed) : List PD := [pInt n.kind, pStr n.name, .slice (strs n.vals)]

structure AListener where
 name : ByteArray
 port : Int
 tls : Bool
 host : ByteArray
 cert : ARef
 from_ : Int
 needs : List ANeed
 deriving DecidableEq

abbrev AListener.pd (l : AListener) : List PD := [pStr l.name, pInt l.port, pBln l.tls, pStr l.host, pInt l.cert.kind, pStr l.cert.space, pStr l.cert.name, pInt l.from_, .slice (rows ANeed.pd l.needs)]

structure AParent where
 space : ByteArray
 name : ByteArray
 section_ : ByteArray
 port : Int
 deriving DecidableEq

abbrev AParent.pd (p : AParent) : List PD := [pStr p.space, pStr p.name, pStr p.section_, pInt p.port]

structure ABackend where
 ref : ARef
 port : Int
 weight : Int
 deriving DecidableEq

abbrev ABackend.pd (b : ABackend) : List PD := [pInt b.ref.kind, pStr b.ref.space, pStr b.ref.name, pInt b.port, pInt b.weight]

abbrev ABackend.d (b : ABackend) : D := .agg [int b.ref.kind, str b.ref.space, str b.ref.name, int b.port, int b.weight]

structure AMatch where
 pkind : Int
 pval : ByteArray
 method : ByteArray
 head : List APair
 query : List APair
 deriving DecidableEq

abbrev AMatch.pd (m : AMatch) : List PD := [pInt m.pkind, pStr m.pval, pStr m.method, .slice (rows APair.pd m.head), .slice (rows APair.pd m.query)]

structure AFilter where
 kind : Int
 name : ByteArray
 val : ByteArray
 host : ByteArray
 port : Int
 path : ByteArray
 whole : Bool
 code : Int
 deriving DecidableEq

abbrev AFilter.pd (f : AFilter) : List PD := [pInt f.kind, pStr f.name, pStr f.val, pStr f.host, pInt f.port, pStr f.path, pBln f.whole, pInt f.code]

structure ARule where
 matches_ : List AMatch
 filters : List AFilter
 backends : List ABackend
 deriving DecidableEq

abbrev ARule.pd (r : ARule) : List PD := [.slice (rows AMatch.pd r.matches_), .slice (rows AFilter.pd r.filters), .slice (rows ABackend.pd r.backends)]

structure ASide where
 kind : Int
 space : ByteArray
 name : ByteArray
 deriving DecidableEq

abbrev ASide.pd (s : ASide) : List PD := [pInt s.kind, pStr s.space, pStr s.name]

structure AObj where
 ref : ARef
 good : Bool
 labels : List APair
 ports : List Int
 cls : ByteArray
 listeners : List AListener
 parents : List AParent
 hosts : List ByteArray
 rules : List ARule
 from_ : List ASide
 to_ : List ASide
 deriving DecidableEq

abbrev AObj.pd (o : AObj) : List PD := [pInt o.ref.kind, pStr o.ref.space, pStr o.ref.name, pBln o.good, .slice (rows APair.pd o.labels), .slice (ints o.ports), pStr o.cls, .slice (rows AListener.pd o.listeners),
 .slice (rows AParent.pd o.parents), .slice (strs o.hosts), .slice (rows ARule.pd o.rules), .slice (rows ASide.pd o.from_), .slice (rows ASide.pd o.to_)]
abbrev AObj.d (o : AObj) : D := .agg [int o.ref.kind, str o.ref.space, str o.ref.name, bln o.good, .pd (.slice (rows APair.pd o.labels)), .pd (.slice (ints o.ports)), str o.cls, .pd (.slice (rows AListener.pd o.listeners)),
 .pd (.slice (rows AParent.pd o.parents)), .pd (.slice (strs o.hosts)), .pd (.slice (rows ARule.pd o.rules)), .pd (.slice (rows ASide.pd o.from_)), .pd (.slice (rows ASide.pd o.to_))]

structure AGoal where
 ref : ARef
 port : Int
 weight : Int
 bad : Bool
 deriving DecidableEq

abbrev AGoal.pd (g : AGoal) : List PD := [pInt g.ref.kind, pStr g.ref.space, pStr g.ref.name, pInt g.port, pInt g.weight, pBln g.bad]
abbrev AGoal.d (g : AGoal) : D := .agg [int g.ref.kind, str g.ref.space, str g.ref.name, int g.port, int g.weight, bln g.bad]

theorem at_lt {α : Type} {l : List α} {i : Nat} (h : i < l.length) : ∃ x, l[i]? = some x := ⟨_, List.getElem?_eq_getElem h⟩

theorem drop_at {α : Type} {l : List α} {i : Nat} {x : α} (h : l[i]? = some x) : l.drop i = x :: l.drop (i + 1) := by
 obtain ⟨hi, hx⟩ := List.getElem?_eq_some_iff.1 h
 rw [List.drop_eq_getElem_cons hi, hx]

theorem take_at {α : Type} {l : List α} {i : Nat} {x : α} (h : l[i]? = some x) : l.take (i + 1) = l.take i ++ [x] := by
 rw [List.take_add_one, h]; rfl

attribute [go_sem ↓] gif_true gif_false gifP_true gifP_false
attribute [go_sem] run_seq run_block run_region run_skip run_exit run_ret run_cond run_draw aops_nil aops_none aops_yes aops_no
attribute [go_sem] gif_not gif_dec gifP_not eq_self aopsK_mk putK_mk y_callv astep AOp.ex ev_tmp ev_const ev_func
attribute [go_sem] get_mk lk puto_some puto_none put_mk know_tmp know_const D.els cD cD0 binD binV
attribute [go_sem] unD Option.getD_some Option.getD_none Option.map_some Option.map_none Option.bind_some Option.bind_none List.length_cons List.length_nil St.init frOf nextS_mk
attribute [go_sem] y_mv y_pick y_alloc y_box y_build y_bslice y_load y_store y_ncheck y_bin y_binB y_eqs
attribute [go_sem] y_un y_conv y_fieldA y_field y_idxA y_idxS y_extract y_mkfn y_mkif y_len y_append y_minmax
attribute [go_sem] y_slcS y_slcL y_slcF y_nilS x_nilS y_mkmap y_mget y_mset y_mentry y_mstore eltD rowIn updF updD putU_mk updP St.inits y_srange y_snext y_isnil y_tassert y_bstr octets MO.ents MO.iter
attribute [go_sem] roundFr_none roundFr_some findM keyD keyV findK findS putM valM boundD y_call contS_nil contS_seq_ret contS_seq_exit contS_block
attribute [go_sem] run_scope run_label run_goto contS_seq_goto contS_block_goto contS_round_goto contS_scope contS_scope_ret contS_scope_exit contS_scope_goto contS_once contS_once_ret contS_once_exit
attribute [go_sem] contS_block_ret contS_block_exit contS_round contS_round_ret contS_round_exit keep_none keep_some List.map_cons List.map_nil Nat.zero_add decide_eq_true_eq decide_eq_false_iff_not
attribute [go_sem] true_and and_true forall_const false_implies true_implies Bool.not_true Bool.not_false Int.natCast_nonneg Int.toNat_natCast St.purge D.purge D.purges
attribute [go_sem] ne_eq not_false_eq_true not_true_eq_false rowsD D.toPDs D.toPD D.cells List.any_nil List.any_cons List.filter_nil List.filter_cons Bool.false_eq_true
attribute [go_sem] Bool.or_false Bool.false_or Bool.or_self D.fixed D.sc D.caps List.nil_append List.cons_append List.getElem?_cons_zero List.getElem?_cons_succ List.getElem?_nil List.drop_zero
attribute [go_sem] List.drop_succ_cons List.take_succ_cons List.take_zero D.drop D.drops St.drop fillD D.ren D.rens backN St.merge renBs
attribute [go_sem] seeCaps lostN lostT wrN D.sel D.sels List.append_nil cutFr D.cut D.cuts bsOf St.after
attribute [go_sem] roundK List.contains_cons List.contains_nil Option.isSome_some Option.isSome_none Bool.or_true Bool.true_or valsD valD D.raws Nat.zero_le Nat.le_refl
attribute [go_sem] List.all_cons List.all_nil Bool.and_true Bool.true_and Bool.and_self Bool.not_eq_true' Bool.not_eq_false' decide_true decide_false dtK_mk drK_mk dnK_mk
attribute [go_sem] putN_mk d_done d_take d_alts d_nil d_cons g_none g_yes g_no clear_none clear_some pendTo_none
attribute [go_sem] pendTo_some putA_mk waits List.getD_cons_zero List.getD_cons_succ List.getD_nil x_call x_callv x_mkmap x_mget x_mset x_mentry x_mstore x_srange
attribute [go_sem] x_tassert t_tassert x_snext x_isnil x_bstr t_isnil t_bstr t_mget x_mv x_build x_load x_ncheck x_bin x_binB
attribute [go_sem] x_eqs x_un x_conv x_fieldA x_field x_idxA x_idxS x_extract x_mkfn x_mkif x_len x_minmax
attribute [go_sem] x_slcS x_slcL x_slcF x_pick x_alloc x_box x_bslice x_store x_append t_mv t_build t_load t_ncheck
attribute [go_sem] t_bin t_binB t_eqs t_un t_conv t_fieldA t_field t_idxA t_idxS t_extract t_mkfn t_mkif
attribute [go_sem] t_len t_minmax t_slcS t_slcL t_slcF t_pick d_consF f_callv f_call d_late lr_nil lr_cons lrK_eq ltK_mk lateOf_eq D.still D.stills

attribute [go_sem] contS_seq rows_len

end Go.Proofs.YtjgpdjakehoofaaGreatDoor



namespace Go.Proofs.YtjgpdjakehoofaaGreatDoor
open Go

def ac_zsl5t : AC := (sr [oo 2 (.mv (cq false))] [0] (sr [mq 3 0,oo 4 (.bin .geq (tp 3) (.const (.int .i32 97))),mq 5 4,og 5 true 6 (.mv (tp 0)),og 5 true 7 (.bin .leq (tp 6) (.const (.int .i32 122))),oo 8 (.pick (tp 5) (tp 7) (cq false)),mq 9 8,og 9 false 10 (.mv (tp 0)),og 9 false 11 (.bin .geq (tp 10) (.const (.int .i32 48))),og 9 false 12 (.mv (tp 11)),og 12 true 13 (.mv (tp 0)),og 12 true 14 (.bin .leq (tp 13) (.const (.int .i32 57))),og 9 false 15 (.pick (tp 12) (tp 14) (cq false)),oo 16 (.pick (tp 9) (cq true) (tp 15)),mq 17 16,og 17 false 18 (.mv (tp 0)),og 17 false 19 (.bin .eql (tp 18) (.const (.int .i32 45))),oo 20 (.pick (tp 17) (cq true) (tp 19)),mq 2 20] [2] .ret))
def an_zsl5t : Ann := ann (List.range 2) ac_zsl5t
theorem ok_zsl5t : okd Tryz.prog an_zsl5t ac_zsl5t Tryz.f150 := ⟨by kernel_rfl, by kernel_rfl⟩

def ac_zmcx0 : AC := (sr [oo 2 (.mv (cq false))] [0] (sr [mq 3 0,oo 4 (.call 150 [tp 3]),oo 5 (.un .not (tp 4)),mq 2 5] [2] .ret))
def an_zmcx0 : Ann := ann (List.range 2) ac_zmcx0
theorem ok_zmcx0 : okd Tryz.prog an_zmcx0 ac_zmcx0 Tryz.f149 := ⟨by kernel_rfl, by kernel_rfl⟩

def ac_zkca0 : AC := (sr [oo 6 (.mv (ci 0))] [0,1,2] (.seq (sr [mq 9 0,oo 10 (.srange (tp 9))] [1,2,10] (.block 0 (.loop (sr [oo 11 (.snext (tp 10)),oo 12 (.extract (tp 11) 0)] [1,2,10,11,12] (.seq (.cond (tp 12) .skip (.exit 0)) (.block 1 (sr [oo 13 (.extract (tp 11) 1),oo 14 (.extract (tp 11) 2),mq 7 13,mq 8 14] [1,2,7,8,10] (sr [mq 15 1,mq 16 8,oo 17 (.callv (tp 15) [tp 16]),mq 18 2,oo 19 (.binB false (tp 17) (tp 18))] [1,2,7,10,19] (.cond (tp 19) (sr [mq 20 7,mq 6 20] [6] .ret) .skip))))))))) (sr [oo 6 (.mv (ci (-1)))] [6] .ret)))
def an_zkca0 : Ann := ann (List.range 7) ac_zkca0
theorem ok_zkca0 : okd Tryz.prog an_zkca0 ac_zkca0 Tryz.f201 := ⟨by kernel_rfl, by kernel_rfl⟩

def ac_zgrrf : AC := (sr [oo 4 (.mv (ci 0))] [0,1] (sr [mq 5 0,mq 6 1,oo 7 (.call 201 [tp 5,tp 6,cq true]),mq 4 7] [4] .ret))
def an_zgrrf : Ann := ann (List.range 2) ac_zgrrf
theorem ok_zgrrf : okd Tryz.prog an_zgrrf ac_zgrrf Tryz.f151 := ⟨by kernel_rfl, by kernel_rfl⟩

def ac_zovze : AC := (sr [oo 2 (.mv (cq false))] [0] (sr [oo 3 (.mv (.func 149))] [0,3] (sr [mq 4 0,oo 5 (.bin .neq (tp 4) (.const (.string ⟨#[]⟩))),mq 6 5,og 6 true 7 (.mv (tp 0)),og 6 true 8 (.len (tp 7) true),og 6 true 9 (.bin .leq (tp 8) (ci 20)),oo 10 (.pick (tp 6) (tp 9) (cq false)),mq 11 10,og 11 true 12 (.mv (tp 0)),og 11 true 13 (.mv (tp 3)),og 11 true 14 (.call 151 [tp 12,tp 13]),og 11 true 15 (.bin .lss (tp 14) (ci 0)),oo 16 (.pick (tp 11) (tp 15) (cq false)),mq 17 16,og 17 true 18 (.mv (tp 0)),og 17 true 19 (.idxS (tp 18) (ci 0)),og 17 true 20 (.bin .neq (tp 19) (.const (.int .u8 45))),oo 21 (.pick (tp 17) (tp 20) (cq false)),mq 22 21,og 22 true 23 (.mv (tp 0)),og 22 true 24 (.mv (tp 0)),og 22 true 25 (.len (tp 24) true),og 22 true 26 (.bin .sub (tp 25) (ci 1)),og 22 true 27 (.idxS (tp 23) (tp 26)),og 22 true 28 (.bin .neq (tp 27) (.const (.int .u8 45))),oo 29 (.pick (tp 22) (tp 28) (cq false)),mq 2 29] [2] .ret)))
def an_zovze : Ann := ann (List.range 3) ac_zovze
theorem ok_zovze : okd Tryz.prog an_zovze ac_zovze Tryz.f94 := ⟨by kernel_rfl, by kernel_rfl⟩

def ac_z89f : AC := (sr [oo 4 (.mv (ci 0))] [0,1] (sr [mq 5 0,mq 6 1,oo 7 (.call 268 [tp 5,tp 6]),mq 4 7] [4] .ret))
def an_z89f : Ann := ann (List.range 2) ac_z89f
theorem ok_z89f : okd Tryz.prog an_z89f ac_z89f Tryz.f243 := ⟨by kernel_rfl, by kernel_rfl⟩

def ac_zn6ys : AC := (sr [oo 4 (.mv (ci 0))] [0,1] (sr [mq 14 1,oo 15 (.len (tp 14) true),mq 5 15] [0,1,5] (.seq (.block 0 (sr [mq 17 5,oo 18 (.bin .eql (tp 17) (ci 0)),mq 19 18,og 19 false 20 (.mv (tp 1)),og 19 false 21 (.mv (tp 0)),og 19 false 22 (.bin .eql (tp 20) (tp 21)),oo 23 (.pick (tp 19) (cq true) (tp 22)),mq 16 23] [0,1,5,16] (.cond (tp 16) (sr [oo 4 (.mv (ci 0))] [4] .ret) (sr [mq 25 5,oo 26 (.bin .eql (tp 25) (ci 1)),mq 24 26] [0,1,5,24] (.cond (tp 24) (sr [mq 27 0,mq 28 1,oo 29 (.idxS (tp 28) (ci 0)),oo 30 (.call 273 [tp 27,tp 29]),mq 4 30] [4] .ret) (sr [mq 32 5,mq 33 0,oo 34 (.len (tp 33) true),oo 35 (.bin .geq (tp 32) (tp 34)),mq 31 35] [0,1,5,31] (.cond (tp 31) (sr [oo 4 (.mv (ci (-1)))] [4] .ret) (sr [mq 37 5,oo 38 (.load none (.global 2)),oo 39 (.bin .leq (tp 37) (tp 38)),mq 40 39,og 40 true 41 (.mv (tp 0)),og 40 true 42 (.len (tp 41) true),og 40 true 43 (.bin .leq (tp 42) (ci 64)),oo 44 (.pick (tp 40) (tp 43) (cq false)),mq 36 44] [0,1,5,36] (.cond (tp 36) (sr [mq 45 0,mq 46 1,oo 47 (.call 283 [tp 45,tp 46]),mq 4 47] [4] .ret) .skip))))))))) (sr [mq 48 1,oo 49 (.idxS (tp 48) (ci 0)),mq 6 49] [0,1,5,6] (sr [mq 50 1,oo 51 (.idxS (tp 50) (ci 1)),mq 7 51] [0,1,5,6,7] (sr [oo 8 (.mv (ci 0))] [0,1,5,6,7,8] (sr [mq 52 0,oo 53 (.len (tp 52) true),mq 54 5,oo 55 (.bin .sub (tp 53) (tp 54)),oo 56 (.bin .add (tp 55) (ci 1)),mq 9 56] [0,1,5,6,7,8,9] (sr [oo 10 (.mv (ci 0))] [0,1,5,6,7,8,9,10] (.seq (.block 1 (.loop (.seq (sr [mq 57 8,mq 58 9,oo 59 (.bin .lss (tp 57) (tp 58))] [0,1,5,6,7,8,9,10,59] (.cond (tp 59) .skip (.exit 1))) (.block 2 (.seq (sr [mq 60 0,mq 61 8,oo 62 (.idxS (tp 60) (tp 61)),mq 63 6,oo 64 (.bin .neq (tp 62) (tp 63))] [0,1,5,6,7,8,9,10,64] (.cond (tp 64) (sr [mq 65 0,mq 66 8,oo 67 (.bin .add (tp 66) (ci 1)),mq 68 9,oo 69 (.slcS (tp 65) (some (tp 67)) (some (tp 68))),mq 70 6,oo 71 (.call 273 [tp 69,tp 70]),mq 11 71] [0,1,5,6,7,8,9,10,11] (.seq (sr [mq 72 11,oo 73 (.bin .lss (tp 72) (ci 0))] [0,1,5,6,7,8,9,10,11,73] (.cond (tp 73) (sr [oo 4 (.mv (ci (-1)))] [4] .ret) .skip)) (.region [mq 74 8,mq 75 11,oo 76 (.bin .add (tp 75) (ci 1)),oo 77 (.bin .add (tp 74) (tp 76)),mq 8 77] (some [0,1,5,6,7,8,9,10])))) .skip)) (.seq (sr [mq 78 0,mq 79 8,oo 80 (.bin .add (tp 79) (ci 1)),oo 81 (.idxS (tp 78) (tp 80)),mq 82 7,oo 83 (.bin .eql (tp 81) (tp 82)),mq 84 83,og 84 true 85 (.mv (tp 0)),og 84 true 86 (.mv (tp 8)),og 84 true 87 (.mv (tp 8)),og 84 true 88 (.mv (tp 5)),og 84 true 89 (.bin .add (tp 87) (tp 88)),og 84 true 90 (.slcS (tp 85) (some (tp 86)) (some (tp 89))),og 84 true 91 (.mv (tp 1)),og 84 true 92 (.bin .eql (tp 90) (tp 91)),oo 93 (.pick (tp 84) (tp 92) (cq false))] [0,1,5,6,7,8,9,10,93] (.cond (tp 93) (sr [mq 94 8,mq 4 94] [4] .ret) .skip)) (sr [mq 95 8,oo 96 (.bin .add (tp 95) (ci 1)),mq 8 96] [0,1,5,6,7,8,9,10] (sr [mq 97 10,oo 98 (.bin .add (tp 97) (ci 1)),mq 10 98] [0,1,5,6,7,8,9,10] (sr [mq 99 5,oo 100 (.load none (.global 2)),oo 101 (.bin .leq (tp 99) (tp 100)),mq 102 101,og 102 true 103 (.mv (tp 10)),og 102 true 104 (.mv (tp 8)),og 102 true 105 (.call 284 [tp 104]),og 102 true 106 (.bin .gtr (tp 103) (tp 105)),oo 107 (.pick (tp 102) (tp 106) (cq false))] [0,1,5,6,7,8,9,10,107] (.cond (tp 107) (sr [mq 108 0,mq 109 8,oo 110 (.slcS (tp 108) (some (tp 109)) none),mq 111 1,oo 112 (.call 283 [tp 110,tp 111]),mq 12 112] [8,12] (.seq (sr [mq 113 12,oo 114 (.bin .geq (tp 113) (ci 0))] [8,12,114] (.cond (tp 114) (sr [mq 115 12,mq 116 8,oo 117 (.bin .add (tp 115) (tp 116)),mq 4 117] [4] .ret) .skip)) (sr [oo 4 (.mv (ci (-1)))] [4] .ret))) (sr [mq 118 5,oo 119 (.load none (.global 2)),oo 120 (.bin .gtr (tp 118) (tp 119)),mq 121 120,og 121 true 122 (.mv (tp 10)),og 121 true 123 (.mv (tp 8)),og 121 true 124 (.bin .shr (tp 123) (.const (.int .u64 4))),og 121 true 125 (.bin .add (ci 4) (tp 124)),og 121 true 126 (.bin .geq (tp 122) (tp 125)),oo 127 (.pick (tp 121) (tp 126) (cq false)),mq 128 127,og 128 true 129 (.mv (tp 8)),og 128 true 130 (.mv (tp 9)),og 128 true 131 (.bin .lss (tp 129) (tp 130)),oo 132 (.pick (tp 128) (tp 131) (cq false))] [0,1,5,6,7,8,9,10,132] (.cond (tp 132) (sr [mq 133 0,mq 134 8,oo 135 (.slcS (tp 133) (some (tp 134)) none),mq 136 1,oo 137 (.call 285 [tp 135,tp 136]),mq 13 137] [8,13] (.seq (sr [mq 138 13,oo 139 (.bin .lss (tp 138) (ci 0))] [8,13,139] (.cond (tp 139) (sr [oo 4 (.mv (ci (-1)))] [4] .ret) .skip)) (sr [mq 140 8,mq 141 13,oo 142 (.bin .add (tp 140) (tp 141)),mq 4 142] [4] .ret))) .skip)))))))))))) (sr [oo 4 (.mv (ci (-1)))] [4] .ret))))))))))
def an_zn6ys : Ann := ann (List.range 36) ac_zn6ys
theorem ok_zn6ys : okd Tryz.prog an_zn6ys ac_zn6ys Tryz.f268 := ⟨by kernel_rfl, by kernel_rfl⟩

def ac_zjcnn : AC := (.seq (sr [lq 9 1,oo 10 (.len (tp 9) true),oo 11 (.bin .eql (tp 10) (ci 0))] [0,1,2,3,11] (.cond (tp 11) (.seq (.block 0 (.loop (.seq (sr [lq 12 2,oo 13 (.len (tp 12) true),oo 14 (.bin .gtr (tp 13) (ci 0))] [0,2,14] (.cond (tp 14) .skip (.exit 0))) (.block 1 (sr [lq 16 2,oo 17 (.call 242 [tp 16]),mq 15 17,oo 18 (.extract (tp 15) 0),oo 19 (.extract (tp 15) 1),mq 5 18,mq 6 19] [0,2,6] (.seq (sr [mq 20 0,lq 21 2,mq 22 6,oo 23 (.slcS (tp 21) none (some (tp 22))),oo 24 (.callv (tp 20) [tp 23]),oo 25 (.un .not (tp 24))] [0,2,6,25] (.cond (tp 25) .ret .skip)) (.region [lq 26 2,mq 27 6,oo 28 (.slcS (tp 26) (some (tp 27)) none),.mk none none (.store 1 (tp 2) (tp 28))] (some [0,2])))))))) .ret) .skip)) (.seq (.block 2 (.loop (.block 3 (sr [lq 29 2,lq 30 1,oo 31 (.call 243 [tp 29,tp 30]),mq 7 31] [0,1,2,3,7] (.seq (sr [mq 32 7,oo 33 (.bin .lss (tp 32) (ci 0))] [0,1,2,3,7,33] (.cond (tp 33) (.exit 2) .skip)) (sr [lq 34 2,mq 35 7,lq 36 3,oo 37 (.bin .add (tp 35) (tp 36)),oo 38 (.slcS (tp 34) none (some (tp 37))),mq 8 38] [0,1,2,3,7,8] (.seq (sr [mq 39 0,mq 40 8,oo 41 (.callv (tp 39) [tp 40]),oo 42 (.un .not (tp 41))] [0,1,2,3,7,42] (.cond (tp 42) .ret .skip)) (.region [lq 43 2,mq 44 7,lq 45 1,oo 46 (.len (tp 45) true),oo 47 (.bin .add (tp 44) (tp 46)),oo 48 (.slcS (tp 43) (some (tp 47)) none),.mk none none (.store 1 (tp 2) (tp 48))] (some [0,1,2,3]))))))))) (.region [mq 49 0,lq 50 2,oo 51 (.callv (tp 49) [tp 50])] (some []))))
def an_zjcnn : Ann := ann (List.range 11) ac_zjcnn
theorem ok_zjcnn : okd Tryz.prog an_zjcnn ac_zjcnn Tryz.f241 := ⟨by kernel_rfl, by kernel_rfl⟩

def ac_z70r5 : AC := (sr [oo 3 (.box 9 (tp 0)),oo 4 (.box 9 (tp 1)),oo 5 (.box 3 (tp 2)),oo 6 (.mv (.const .nilFunc))] [3,4,5] (sr [oo 7 (.mkfn 241 [tp 4,tp 3,tp 5]),mq 6 7] [6] .ret))
def an_z70r5 : Ann := ann (List.range 2) ac_z70r5
theorem ok_z70r5 : okd Tryz.prog an_z70r5 ac_z70r5 Tryz.f200 := ⟨by kernel_rfl, by kernel_rfl⟩

def ac_zln7r : AC := (sr [oo 4 (.mv (.const .nilFunc))] [0,1] (sr [mq 5 0,mq 6 1,oo 7 (.call 200 [tp 5,tp 6,ci 0]),mq 4 7] [4] .ret))
def an_zln7r : Ann := ann (List.range 2) ac_zln7r
theorem ok_zln7r : okd Tryz.prog an_zln7r ac_zln7r Tryz.f148 := ⟨by kernel_rfl, by kernel_rfl⟩

def ac_zmldt : AC := (sr [oo 2 (.alloc 4 [.pd (.raw (.bool false))])] [0,2,3] (.seq (sr [mq 4 0,oo 5 (.len (tp 4) true),oo 6 (.bin .gtr (tp 5) (ci 60))] [0,2,3,6] (.cond (tp 6) (sr [.mk none none (.store 1 (tp 2) (cq false))] [2] .ret) .skip)) (.seq (sr [mq 7 0,oo 8 (.call 148 [tp 7,.const (.string ⟨#[46]⟩)])] [2,3,8] (.block 0 (.rangeF [2] 9 (some 3) (tp 8) (.block 1 (sr [mq 10 3,oo 11 (.call 94 [tp 10]),oo 12 (.un .not (tp 11))] [2,12] (.cond (tp 12) (sr [.mk none none (.store 1 (tp 2) (cq false))] [] .ret) .skip)))))) (sr [.mk none none (.store 1 (tp 2) (cq true))] [2] .ret))))
def an_zmldt : Ann := ann [0,1,2,3,5,6,7] ac_zmldt
theorem ok_zmldt : okd Tryz.prog an_zmldt ac_zmldt Tryz.f93 := ⟨by kernel_rfl, by kernel_rfl⟩
theorem ret_zmldt (st : St) : resD Tryz.prog st Tryz.f93.results.toList = resA st [.cell 2 none] := resD_of (by kernel_rfl)

def ac_zgqff : AC := (sr [oo 4 (.mv (.const (.string ⟨#[]⟩))),oo 5 (.mv (cq false))] [0,1] (sr [mq 6 0,mq 7 1,oo 8 (.call 220 [tp 6,tp 7]),oo 9 (.extract (tp 8) 0),oo 10 (.extract (tp 8) 1),mq 4 9,mq 5 10] [4,5] .ret))
def an_zgqff : Ann := ann (List.range 2) ac_zgqff
theorem ok_zgqff : okd Tryz.prog an_zgqff ac_zgqff Tryz.f188 := ⟨by kernel_rfl, by kernel_rfl⟩

def ac_zd73u : AC := (sr [oo 4 (.mv (.const (.string ⟨#[]⟩))),oo 5 (.mv (cq false))] [0,1] (.seq (sr [mq 6 0,mq 7 1,oo 8 (.call 254 [tp 6,tp 7]),oo 9 (.un .not (tp 8))] [0,1,9] (.cond (tp 9) (sr [mq 10 0,mq 4 10,oo 5 (.mv (cq false))] [4,5] .ret) .skip)) (sr [mq 11 0,mq 12 1,oo 13 (.len (tp 12) true),oo 14 (.slcS (tp 11) (some (tp 13)) none),mq 4 14,oo 5 (.mv (cq true))] [4,5] .ret)))
def an_zd73u : Ann := ann (List.range 4) ac_zd73u
theorem ok_zd73u : okd Tryz.prog an_zd73u ac_zd73u Tryz.f220 := ⟨by kernel_rfl, by kernel_rfl⟩

def ac_zntfc : AC := (sr [oo 4 (.mv (cq false))] [0,1] (sr [mq 5 0,oo 6 (.len (tp 5) true),mq 7 1,oo 8 (.len (tp 7) true),oo 9 (.bin .geq (tp 6) (tp 8)),mq 10 9,og 10 true 11 (.mv (tp 0)),og 10 true 12 (.mv (tp 1)),og 10 true 13 (.len (tp 12) true),og 10 true 14 (.slcS (tp 11) none (some (tp 13))),og 10 true 15 (.mv (tp 1)),og 10 true 16 (.bin .eql (tp 14) (tp 15)),oo 17 (.pick (tp 10) (tp 16) (cq false)),mq 4 17] [4] .ret))
def an_zntfc : Ann := ann (List.range 2) ac_zntfc
theorem ok_zntfc : okd Tryz.prog an_zntfc ac_zntfc Tryz.f254 := ⟨by kernel_rfl, by kernel_rfl⟩

def ac_zc2tl : AC := (sr [oo 4 (.mv (cq false))] [0,1] (sr [mq 5 0,mq 6 1,oo 7 (.call 254 [tp 5,tp 6]),mq 4 7] [4] .ret))
def an_zc2tl : Ann := ann (List.range 2) ac_zc2tl
theorem ok_zc2tl : okd Tryz.prog an_zc2tl ac_zc2tl Tryz.f281 := ⟨by kernel_rfl, by kernel_rfl⟩

def ac_zq3h5 : AC := (sr [oo 4 (.mv (cq false))] [0,1] (sr [mq 5 0,mq 6 1,oo 7 (.call 290 [tp 5,tp 6]),mq 4 7] [4] .ret))
def an_zq3h5 : Ann := ann (List.range 2) ac_zq3h5
theorem ok_zq3h5 : okd Tryz.prog an_zq3h5 ac_zq3h5 Tryz.f282 := ⟨by kernel_rfl, by kernel_rfl⟩

def ac_z30tk : AC := (sr [oo 4 (.mv (cq false))] [0,1] (sr [mq 5 0,oo 6 (.len (tp 5) true),mq 7 1,oo 8 (.len (tp 7) true),oo 9 (.bin .geq (tp 6) (tp 8)),mq 10 9,og 10 true 11 (.mv (tp 0)),og 10 true 12 (.mv (tp 0)),og 10 true 13 (.len (tp 12) true),og 10 true 14 (.mv (tp 1)),og 10 true 15 (.len (tp 14) true),og 10 true 16 (.bin .sub (tp 13) (tp 15)),og 10 true 17 (.slcS (tp 11) (some (tp 16)) none),og 10 true 18 (.mv (tp 1)),og 10 true 19 (.bin .eql (tp 17) (tp 18)),oo 20 (.pick (tp 10) (tp 19) (cq false)),mq 4 20] [4] .ret))
def an_z30tk : Ann := ann (List.range 2) ac_z30tk
theorem ok_z30tk : okd Tryz.prog an_z30tk ac_z30tk Tryz.f290 := ⟨by kernel_rfl, by kernel_rfl⟩

def ac_z2osy : AC := (sr [oo 2 (.mv (cq false))] [0] (sr [mq 6 0,oo 7 (.call 188 [tp 6,.const (.string ⟨#[42,46]⟩)]),mq 5 7,oo 8 (.extract (tp 5) 0),oo 9 (.extract (tp 5) 1),mq 3 8,mq 4 9] [0,3,4] (sr [mq 10 0,oo 11 (.bin .eql (tp 10) (.const (.string ⟨#[]⟩))),mq 12 11,og 12 false 13 (.mv (tp 0)),og 12 false 14 (.len (tp 13) true),og 12 false 15 (.bin .leq (tp 14) (ci 60)),og 12 false 16 (.mv (tp 15)),og 16 true 17 (.mv (tp 3)),og 16 true 18 (.call 93 [tp 17]),og 12 false 19 (.pick (tp 16) (tp 18) (cq false)),og 12 false 20 (.mv (tp 19)),og 20 true 21 (.mv (tp 4)),og 20 true 22 (.mv (tp 21)),og 22 false 23 (.mv (tp 3)),og 22 false 24 (.mv (tp 0)),og 22 false 25 (.bin .eql (tp 23) (tp 24)),og 20 true 26 (.pick (tp 22) (cq true) (tp 25)),og 12 false 27 (.pick (tp 20) (tp 26) (cq false)),oo 28 (.pick (tp 12) (cq true) (tp 27)),mq 2 28] [2] .ret)))
def an_z2osy : Ann := ann (List.range 3) ac_z2osy
theorem ok_z2osy : okd Tryz.prog an_z2osy ac_z2osy Tryz.f139 := ⟨by kernel_rfl, by kernel_rfl⟩

def ac_z6j2 : AC := (sr [oo 2 (.mv (cq false))] [0] (.seq (sr [mq 5 0,oo 6 (.srange (tp 5))] [0,6] (.block 0 (.loop (sr [oo 7 (.snext (tp 6)),oo 8 (.extract (tp 7) 0)] [0,6,7,8] (.seq (.cond (tp 8) .skip (.exit 0)) (.block 1 (sr [oo 9 (.extract (tp 7) 2),mq 4 9] [0,4,6] (sr [mq 10 4,oo 11 (.bin .lss (tp 10) (.const (.int .i32 33))),mq 12 11,og 12 false 13 (.mv (tp 4)),og 12 false 14 (.bin .gtr (tp 13) (.const (.int .i32 126))),oo 15 (.pick (tp 12) (cq true) (tp 14)),mq 16 15,og 16 false 17 (.mv (tp 4)),og 16 false 18 (.bin .eql (tp 17) (.const (.int .i32 63))),oo 19 (.pick (tp 16) (cq true) (tp 18)),mq 20 19,og 20 false 21 (.mv (tp 4)),og 20 false 22 (.bin .eql (tp 21) (.const (.int .i32 35))),oo 23 (.pick (tp 20) (cq true) (tp 22))] [0,6,23] (.cond (tp 23) (sr [oo 2 (.mv (cq false))] [2] .ret) .skip))))))))) (sr [mq 24 0,oo 25 (.call 281 [tp 24,.const (.string ⟨#[47]⟩)]),mq 26 25,og 26 true 27 (.mv (tp 0)),og 26 true 28 (.len (tp 27) true),og 26 true 29 (.bin .leq (tp 28) (ci 60)),oo 30 (.pick (tp 26) (tp 29) (cq false)),mq 2 30] [2] .ret)))
def an_z6j2 : Ann := ann (List.range 7) ac_z6j2
theorem ok_z6j2 : okd Tryz.prog an_z6j2 ac_z6j2 Tryz.f258 := ⟨by kernel_rfl, by kernel_rfl⟩

def ac_zgeto : AC := (sr [oo 2 (.mv (cq false))] [0] (sr [mq 3 0,oo 4 (.call 258 [tp 3]),mq 5 4,og 5 true 6 (.mv (tp 0)),og 5 true 7 (.bin .eql (tp 6) (.const (.string ⟨#[47]⟩))),og 5 true 8 (.mv (tp 7)),og 8 false 9 (.mv (tp 0)),og 8 false 10 (.call 282 [tp 9,.const (.string ⟨#[47]⟩)]),og 8 false 11 (.un .not (tp 10)),og 5 true 12 (.pick (tp 8) (cq true) (tp 11)),oo 13 (.pick (tp 5) (tp 12) (cq false)),mq 2 13] [2] .ret))
def an_zgeto : Ann := ann (List.range 2) ac_zgeto
theorem ok_zgeto : okd Tryz.prog an_zgeto ac_zgeto Tryz.f259 := ⟨by kernel_rfl, by kernel_rfl⟩

def ac_z2uwa : AC := (sr [oo 1 (.box 126 (tp 0)),oo 2 (.mv (cq false))] [1] (sr [fi 3 0 1,lq 4 3,oo 5 (.bin .eql (tp 4) (ci 1)),mq 6 5,og 6 true 7 (.fieldA 1 (tp 1)),og 6 true 8 (.load none (tp 7)),og 6 true 9 (.call 258 [tp 8]),oo 10 (.pick (tp 6) (tp 9) (cq false)),mq 11 10,og 11 false 12 (.fieldA 0 (tp 1)),og 11 false 13 (.load none (tp 12)),og 11 false 14 (.bin .eql (tp 13) (ci 2)),og 11 false 15 (.mv (tp 14)),og 15 true 16 (.fieldA 1 (tp 1)),og 15 true 17 (.load none (tp 16)),og 15 true 18 (.call 259 [tp 17]),og 11 false 19 (.pick (tp 15) (tp 18) (cq false)),oo 20 (.pick (tp 11) (cq true) (tp 19)),mq 2 20] [2] .ret))
def an_z2uwa : Ann := ann (List.range 2) ac_z2uwa
theorem ok_z2uwa : okd Tryz.prog an_z2uwa ac_z2uwa Tryz.f227 := ⟨by kernel_rfl, by kernel_rfl⟩

def ac_ziqey : AC := (sr [oo 2 (.mv (cq false))] [0] (sr [mq 3 0,oo 4 (.bin .eql (tp 3) (.const (.string ⟨#[]⟩))),mq 5 4,og 5 false 6 (.mv (tp 0)),og 5 false 7 (.call 94 [tp 6]),oo 8 (.pick (tp 5) (cq true) (tp 7)),mq 2 8] [2] .ret))
def an_ziqey : Ann := ann (List.range 2) ac_ziqey
theorem ok_ziqey : okd Tryz.prog an_ziqey ac_ziqey Tryz.f174 := ⟨by kernel_rfl, by kernel_rfl⟩

def ac_z2iq3 : AC := (sr [oo 2 (.mv (cq false))] [0] (.seq (sr [mq 5 0,oo 6 (.len (tp 5) false),oo 7 (.mv (ci 0))] [0,5,6,7] (.block 0 (.loop (sr [oo 8 (.bin .lss (tp 7) (tp 6))] [0,5,6,7,8] (.seq (.cond (tp 8) .skip (.exit 0)) (.seq (.block 1 (sr [mq 9 7,oo 10 (.idxA 2 (tp 5) (tp 7)),oo 11 (.load (some 2) (tp 10)),oo 4 (.alloc 166 [.pd (.raw (.string ⟨#[]⟩)),.pd (.raw (.string ⟨#[]⟩))]),mq 3 9,.mk none none (.store 2 (tp 4) (tp 11))] [0,3,4,5,6,7] (.seq (.draw [fi 12 0 4,lq 13 12,oo 14 (.call 93 [tp 13]),oo 15 (.un .not (tp 14)),mq 16 15,og 16 false 17 (.fieldA 1 (tp 4)),og 16 false 18 (.load none (tp 17)),og 16 false 19 (.call 174 [tp 18]),og 16 false 20 (.un .not (tp 19)),oo 21 (.pick (tp 16) (cq true) (tp 20)),mq 22 21,og 22 false 23 (.mv (tp 3)),og 22 false 24 (.bin .gtr (tp 23) (ci 0)),og 22 false 25 (.mv (tp 24)),og 25 true 26 (.mv (tp 0)),og 25 true 27 (.mv (tp 3)),og 25 true 28 (.bin .sub (tp 27) (ci 1)),og 25 true 29 (.idxA 2 (tp 26) (tp 28)),og 25 true 30 (.fieldA 0 (tp 29)),og 25 true 31 (.load none (tp 30)),og 25 true 32 (.fieldA 0 (tp 4)),og 25 true 33 (.load none (tp 32)),og 25 true 34 (.bin .geq (tp 31) (tp 33)),og 22 false 35 (.pick (tp 25) (tp 34) (cq false)),oo 36 (.pick (tp 22) (cq true) (tp 35))] [0,1,3,7,15,31,63,127,255,511,1023,2047,4095,8191,16383,16383,49151,131071,262143,524287,16383,1064959,4194303,8388607,16777215] (.take 0 (.take 1 (.alts (.cons 2 true (.take 3 (.take 4 (.take 5 (.take 6 (.alts (.cons 7 true (.take 8 (.take 9 (.take 10 (.take 11 (.take 12 (.take 13 (.take 14 (.take 15 (.take 16 (.take 17 (.take 18 (.take 19 (.take 20 (.take 21 (.take 22 (.take 23 (.take 24 .done))))))))))))))))) .nil)))))) .nil)))) (some [0,5,6,7,36])) (.cond (tp 36) (sr [oo 2 (.mv (cq false))] [2] .ret) .skip)))) (.region [oo 37 (.bin .add (tp 7) (ci 1)),mq 7 37] (some [0,5,6,7])))))))) (sr [mq 38 0,oo 39 (.len (tp 38) false),oo 40 (.bin .leq (tp 39) (ci 8)),mq 2 40] [2] .ret)))
def an_z2iq3 : Ann := ann (List.range 8) ac_z2iq3
theorem ok_z2iq3 : okd Tryz.prog an_z2iq3 ac_z2iq3 Tryz.f124 := ⟨by kernel_rfl, by kernel_rfl⟩

def ac_zr0tf : AC := (sr [oo 2 (.mv (cq false))] [0] (.seq (sr [mq 5 0,oo 6 (.len (tp 5) false),oo 7 (.mv (ci 0))] [0,5,6,7] (.block 0 (.loop (sr [oo 8 (.bin .lss (tp 7) (tp 6))] [0,5,6,7,8] (.seq (.cond (tp 8) .skip (.exit 0)) (.seq (.block 1 (sr [oo 9 (.idxA 2 (tp 5) (tp 7)),oo 10 (.load (some 2) (tp 9)),oo 4 (.alloc 166 [.pd (.raw (.string ⟨#[]⟩)),.pd (.raw (.string ⟨#[]⟩))]),.mk none none (.store 2 (tp 4) (tp 10))] [0,4,5,6,7] (sr [fi 11 0 4,lq 12 11,oo 13 (.bin .eql (tp 12) (.const (.string ⟨#[]⟩))),mq 14 13,og 14 false 15 (.fieldA 0 (tp 4)),og 14 false 16 (.load none (tp 15)),og 14 false 17 (.len (tp 16) true),og 14 false 18 (.bin .gtr (tp 17) (ci 40)),oo 19 (.pick (tp 14) (cq true) (tp 18)),mq 20 19,og 20 false 21 (.fieldA 1 (tp 4)),og 20 false 22 (.load none (tp 21)),og 20 false 23 (.len (tp 22) true),og 20 false 24 (.bin .gtr (tp 23) (ci 40)),oo 25 (.pick (tp 20) (cq true) (tp 24))] [0,5,6,7,25] (.cond (tp 25) (sr [oo 2 (.mv (cq false))] [2] .ret) .skip)))) (.region [oo 26 (.bin .add (tp 7) (ci 1)),mq 7 26] (some [0,5,6,7])))))))) (sr [mq 27 0,oo 28 (.len (tp 27) false),oo 29 (.bin .leq (tp 28) (ci 20)),mq 2 29] [2] .ret)))
def an_zr0tf : Ann := ann (List.range 8) ac_zr0tf
theorem ok_zr0tf : okd Tryz.prog an_zr0tf ac_zr0tf Tryz.f232 := ⟨by kernel_rfl, by kernel_rfl⟩

def ac_zixxy : AC := (sr [oo 4 (.mv (ci 0))] [0,1] (sr [mq 5 0,mq 6 1,oo 7 (.call 273 [tp 5,tp 6]),mq 4 7] [4] .ret))
def an_zixxy : Ann := ann (List.range 2) ac_zixxy
theorem ok_zixxy : okd Tryz.prog an_zixxy ac_zixxy Tryz.f256 := ⟨by kernel_rfl, by kernel_rfl⟩

def ac_zwtth : AC := (sr [oo 2 (.mv (cq false))] [0] (.seq (sr [mq 5 0,oo 6 (.len (tp 5) true),oo 7 (.mv (ci 0))] [0,6,7] (.block 0 (.loop (sr [oo 8 (.bin .lss (tp 7) (tp 6))] [0,6,7,8] (.seq (.cond (tp 8) .skip (.exit 0)) (.seq (.block 1 (sr [mq 9 7,mq 3 9] [0,3,6,7] (sr [mq 10 0,mq 11 3,oo 12 (.idxS (tp 10) (tp 11)),oo 13 (.bin .or (tp 12) (.const (.int .u8 32))),mq 4 13] [0,3,4,6,7] (sr [mq 14 4,oo 15 (.bin .geq (tp 14) (.const (.int .u8 97))),mq 16 15,og 16 true 17 (.mv (tp 4)),og 16 true 18 (.bin .leq (tp 17) (.const (.int .u8 122))),oo 19 (.pick (tp 16) (tp 18) (cq false)),mq 20 19,og 20 false 21 (.mv (tp 0)),og 20 false 22 (.mv (tp 3)),og 20 false 23 (.idxS (tp 21) (tp 22)),og 20 false 24 (.bin .geq (tp 23) (.const (.int .u8 48))),og 20 false 25 (.mv (tp 24)),og 25 true 26 (.mv (tp 0)),og 25 true 27 (.mv (tp 3)),og 25 true 28 (.idxS (tp 26) (tp 27)),og 25 true 29 (.bin .leq (tp 28) (.const (.int .u8 57))),og 20 false 30 (.pick (tp 25) (tp 29) (cq false)),oo 31 (.pick (tp 20) (cq true) (tp 30)),mq 32 31,og 32 false 33 (.mv (tp 0)),og 32 false 34 (.mv (tp 3)),og 32 false 35 (.idxS (tp 33) (tp 34)),og 32 false 36 (.call 256 [.const (.string ⟨#[33,35,36,37,38,39,42,43,45,46,94,95,96,124,126]⟩),tp 35]),og 32 false 37 (.bin .geq (tp 36) (ci 0)),oo 38 (.pick (tp 32) (cq true) (tp 37)),oo 39 (.un .not (tp 38))] [0,6,7,39] (.cond (tp 39) (sr [oo 2 (.mv (cq false))] [2] .ret) .skip))))) (.region [oo 40 (.bin .add (tp 7) (ci 1)),mq 7 40] (some [0,6,7])))))))) (sr [mq 41 0,oo 42 (.bin .neq (tp 41) (.const (.string ⟨#[]⟩))),mq 43 42,og 43 true 44 (.mv (tp 0)),og 43 true 45 (.len (tp 44) true),og 43 true 46 (.bin .leq (tp 45) (ci 40)),oo 47 (.pick (tp 43) (tp 46) (cq false)),mq 2 47] [2] .ret)))
def an_zwtth : Ann := ann (List.range 9) ac_zwtth
theorem ok_zwtth : okd Tryz.prog an_zwtth ac_zwtth Tryz.f225 := ⟨by kernel_rfl, by kernel_rfl⟩

def ac_z4wze : AC := (sr [oo 2 (.mv (cq false))] [0] (.seq (sr [mq 4 0,oo 5 (.len (tp 4) true),oo 6 (.mv (ci 0))] [0,5,6] (.block 0 (.loop (sr [oo 7 (.bin .lss (tp 6) (tp 5))] [0,5,6,7] (.seq (.cond (tp 7) .skip (.exit 0)) (.seq (.block 1 (sr [mq 8 6,mq 3 8] [0,3,5,6] (sr [mq 9 0,mq 10 3,oo 11 (.idxS (tp 9) (tp 10)),oo 12 (.bin .lss (tp 11) (.const (.int .u8 32))),mq 13 12,og 13 false 14 (.mv (tp 0)),og 13 false 15 (.mv (tp 3)),og 13 false 16 (.idxS (tp 14) (tp 15)),og 13 false 17 (.bin .gtr (tp 16) (.const (.int .u8 126))),oo 18 (.pick (tp 13) (cq true) (tp 17))] [0,5,6,18] (.cond (tp 18) (sr [oo 2 (.mv (cq false))] [2] .ret) .skip)))) (.region [oo 19 (.bin .add (tp 6) (ci 1)),mq 6 19] (some [0,5,6])))))))) (sr [mq 20 0,oo 21 (.len (tp 20) true),oo 22 (.bin .leq (tp 21) (ci 40)),mq 23 22,og 23 true 24 (.mv (tp 0)),og 23 true 25 (.call 257 [tp 24,.const (.string ⟨#[32]⟩)]),og 23 true 26 (.mv (tp 0)),og 23 true 27 (.bin .eql (tp 25) (tp 26)),oo 28 (.pick (tp 23) (tp 27) (cq false)),mq 2 28] [2] .ret)))
def an_z4wze : Ann := ann (List.range 8) ac_z4wze
theorem ok_z4wze : okd Tryz.prog an_z4wze ac_z4wze Tryz.f226 := ⟨by kernel_rfl, by kernel_rfl⟩

def ac_zmas7 : AC := (sr [oo 4 (.mv (.const (.string ⟨#[]⟩)))] [0,1] (.seq (sr [mq 7 0,oo 8 (.bin .eql (tp 7) (.const (.string ⟨#[]⟩))),mq 9 8,og 9 false 10 (.mv (tp 1)),og 9 false 11 (.bin .eql (tp 10) (.const (.string ⟨#[]⟩))),oo 12 (.pick (tp 9) (cq true) (tp 11))] [0,1,12] (.cond (tp 12) (sr [mq 13 0,mq 4 13] [4] .ret) .skip)) (.seq (sr [mq 14 1,oo 15 (.len (tp 14) true),oo 16 (.bin .eql (tp 15) (ci 1)),mq 17 16,og 17 true 18 (.mv (tp 1)),og 17 true 19 (.idxS (tp 18) (ci 0)),og 17 true 20 (.bin .lss (tp 19) (.const (.int .u8 128))),oo 21 (.pick (tp 17) (tp 20) (cq false))] [0,1,21] (.cond (tp 21) (.seq (.draw [mq 22 0,mq 23 1,oo 24 (.idxS (tp 23) (ci 0)),oo 25 (.call 275 [tp 22,tp 24]),mq 26 1,oo 27 (.idxS (tp 26) (ci 0)),oo 28 (.call 274 [tp 25,tp 27]),mq 4 28] [0,0,2,7,0,16,63,127] (.take 0 (.take 1 (.take 2 (.take 4 (.take 5 (.alts (.cons 3 false (.alts (.cons 6 true (.take 7 .done) .nil)) .nil))))))) (some [4])) .ret) .skip)) (.seq (sr [mq 30 1,oo 31 (.call 276 [tp 30]),mq 29 31,oo 32 (.extract (tp 29) 0),oo 33 (.extract (tp 29) 1),oo 5 (.alloc 289 [.pd (.raw (.bool false)),.pd (.raw (.bool false)),.pd (.raw (.bool false)),.pd (.raw (.bool false)),.pd (.raw (.bool false)),.pd (.raw (.bool false)),.pd (.raw (.bool false)),.pd (.raw (.bool false)),.pd (.raw (.bool false)),.pd (.raw (.bool false)),.pd (.raw (.bool false)),.pd (.raw (.bool false)),.pd (.raw (.bool false)),.pd (.raw (.bool false)),.pd (.raw (.bool false)),.pd (.raw (.bool false)),.pd (.raw (.bool false)),.pd (.raw (.bool false)),.pd (.raw (.bool false)),.pd (.raw (.bool false)),.pd (.raw (.bool false)),.pd (.raw (.bool false)),.pd (.raw (.bool false)),.pd (.raw (.bool false)),.pd (.raw (.bool false)),.pd (.raw (.bool false)),.pd (.raw (.bool false)),.pd (.raw (.bool false)),.pd (.raw (.bool false)),.pd (.raw (.bool false)),.pd (.raw (.bool false)),.pd (.raw (.bool false)),.pd (.raw (.bool false)),.pd (.raw (.bool false)),.pd (.raw (.bool false)),.pd (.raw (.bool false)),.pd (.raw (.bool false)),.pd (.raw (.bool false)),.pd (.raw (.bool false)),.pd (.raw (.bool false)),.pd (.raw (.bool false)),.pd (.raw (.bool false)),.pd (.raw (.bool false)),.pd (.raw (.bool false)),.pd (.raw (.bool false)),.pd (.raw (.bool false)),.pd (.raw (.bool false)),.pd (.raw (.bool false)),.pd (.raw (.bool false)),.pd (.raw (.bool false)),.pd (.raw (.bool false)),.pd (.raw (.bool false)),.pd (.raw (.bool false)),.pd (.raw (.bool false)),.pd (.raw (.bool false)),.pd (.raw (.bool false)),.pd (.raw (.bool false)),.pd (.raw (.bool false)),.pd (.raw (.bool false)),.pd (.raw (.bool false)),.pd (.raw (.bool false)),.pd (.raw (.bool false)),.pd (.raw (.bool false)),.pd (.raw (.bool false)),.pd (.raw (.bool false)),.pd (.raw (.bool false)),.pd (.raw (.bool false)),.pd (.raw (.bool false)),.pd (.raw (.bool false)),.pd (.raw (.bool false)),.pd (.raw (.bool false)),.pd (.raw (.bool false)),.pd (.raw (.bool false)),.pd (.raw (.bool false)),.pd (.raw (.bool false)),.pd (.raw (.bool false)),.pd (.raw (.bool false)),.pd (.raw (.bool false)),.pd (.raw (.bool false)),.pd (.raw (.bool false)),.pd (.raw (.bool false)),.pd (.raw (.bool false)),.pd (.raw (.bool false)),.pd (.raw (.bool false)),.pd (.raw (.bool false)),.pd (.raw (.bool false)),.pd (.raw (.bool false)),.pd (.raw (.bool false)),.pd (.raw (.bool false)),.pd (.raw (.bool false)),.pd (.raw (.bool false)),.pd (.raw (.bool false)),.pd (.raw (.bool false)),.pd (.raw (.bool false)),.pd (.raw (.bool false)),.pd (.raw (.bool false)),.pd (.raw (.bool false)),.pd (.raw (.bool false)),.pd (.raw (.bool false)),.pd (.raw (.bool false)),.pd (.raw (.bool false)),.pd (.raw (.bool false)),.pd (.raw (.bool false)),.pd (.raw (.bool false)),.pd (.raw (.bool false)),.pd (.raw (.bool false)),.pd (.raw (.bool false)),.pd (.raw (.bool false)),.pd (.raw (.bool false)),.pd (.raw (.bool false)),.pd (.raw (.bool false)),.pd (.raw (.bool false)),.pd (.raw (.bool false)),.pd (.raw (.bool false)),.pd (.raw (.bool false)),.pd (.raw (.bool false)),.pd (.raw (.bool false)),.pd (.raw (.bool false)),.pd (.raw (.bool false)),.pd (.raw (.bool false)),.pd (.raw (.bool false)),.pd (.raw (.bool false)),.pd (.raw (.bool false)),.pd (.raw (.bool false)),.pd (.raw (.bool false)),.pd (.raw (.bool false)),.pd (.raw (.bool false)),.pd (.raw (.bool false)),.pd (.raw (.bool false)),.pd (.raw (.bool false)),.pd (.raw (.bool false)),.pd (.raw (.bool false)),.pd (.raw (.bool false)),.pd (.raw (.bool false)),.pd (.raw (.bool false)),.pd (.raw (.bool false)),.pd (.raw (.bool false)),.pd (.raw (.bool false)),.pd (.raw (.bool false)),.pd (.raw (.bool false)),.pd (.raw (.bool false)),.pd (.raw (.bool false)),.pd (.raw (.bool false)),.pd (.raw (.bool false)),.pd (.raw (.bool false)),.pd (.raw (.bool false)),.pd (.raw (.bool false)),.pd (.raw (.bool false)),.pd (.raw (.bool false)),.pd (.raw (.bool false)),.pd (.raw (.bool false)),.pd (.raw (.bool false)),.pd (.raw (.bool false)),.pd (.raw (.bool false)),.pd (.raw (.bool false)),.pd (.raw (.bool false)),.pd (.raw (.bool false)),.pd (.raw (.bool false)),.pd (.raw (.bool false)),.pd (.raw (.bool false)),.pd (.raw (.bool false)),.pd (.raw (.bool false)),.pd (.raw (.bool false)),.pd (.raw (.bool false)),.pd (.raw (.bool false)),.pd (.raw (.bool false)),.pd (.raw (.bool false)),.pd (.raw (.bool false)),.pd (.raw (.bool false)),.pd (.raw (.bool false)),.pd (.raw (.bool false)),.pd (.raw (.bool false)),.pd (.raw (.bool false)),.pd (.raw (.bool false)),.pd (.raw (.bool false)),.pd (.raw (.bool false)),.pd (.raw (.bool false)),.pd (.raw (.bool false)),.pd (.raw (.bool false)),.pd (.raw (.bool false)),.pd (.raw (.bool false)),.pd (.raw (.bool false)),.pd (.raw (.bool false)),.pd (.raw (.bool false)),.pd (.raw (.bool false)),.pd (.raw (.bool false)),.pd (.raw (.bool false)),.pd (.raw (.bool false)),.pd (.raw (.bool false)),.pd (.raw (.bool false)),.pd (.raw (.bool false)),.pd (.raw (.bool false)),.pd (.raw (.bool false)),.pd (.raw (.bool false)),.pd (.raw (.bool false)),.pd (.raw (.bool false)),.pd (.raw (.bool false)),.pd (.raw (.bool false)),.pd (.raw (.bool false)),.pd (.raw (.bool false)),.pd (.raw (.bool false)),.pd (.raw (.bool false)),.pd (.raw (.bool false)),.pd (.raw (.bool false)),.pd (.raw (.bool false)),.pd (.raw (.bool false)),.pd (.raw (.bool false)),.pd (.raw (.bool false)),.pd (.raw (.bool false)),.pd (.raw (.bool false)),.pd (.raw (.bool false)),.pd (.raw (.bool false)),.pd (.raw (.bool false)),.pd (.raw (.bool false)),.pd (.raw (.bool false)),.pd (.raw (.bool false)),.pd (.raw (.bool false)),.pd (.raw (.bool false)),.pd (.raw (.bool false)),.pd (.raw (.bool false)),.pd (.raw (.bool false)),.pd (.raw (.bool false)),.pd (.raw (.bool false)),.pd (.raw (.bool false)),.pd (.raw (.bool false)),.pd (.raw (.bool false)),.pd (.raw (.bool false)),.pd (.raw (.bool false)),.pd (.raw (.bool false)),.pd (.raw (.bool false)),.pd (.raw (.bool false)),.pd (.raw (.bool false)),.pd (.raw (.bool false)),.pd (.raw (.bool false)),.pd (.raw (.bool false)),.pd (.raw (.bool false)),.pd (.raw (.bool false)),.pd (.raw (.bool false)),.pd (.raw (.bool false)),.pd (.raw (.bool false)),.pd (.raw (.bool false)),.pd (.raw (.bool false)),.pd (.raw (.bool false)),.pd (.raw (.bool false)),.pd (.raw (.bool false)),.pd (.raw (.bool false)),.pd (.raw (.bool false)),.pd (.raw (.bool false)),.pd (.raw (.bool false)),.pd (.raw (.bool false)),.pd (.raw (.bool false)),.pd (.raw (.bool false)),.pd (.raw (.bool false)),.pd (.raw (.bool false)),.pd (.raw (.bool false)),.pd (.raw (.bool false))]),.mk none none (.store 256 (tp 5) (tp 32)),mq 6 33] [0,1,5,6] (sr [mq 34 6] [0,1,5,34] (.cond (tp 34) (sr [mq 35 0,oo 36 (.call 278 [tp 35,tp 5]),oo 37 (.call 277 [tp 36,tp 5]),mq 4 37] [4] .ret) .skip))) (sr [mq 38 0,mq 39 1,oo 40 (.call 280 [tp 38,tp 39]),mq 41 1,oo 42 (.call 279 [tp 40,tp 41]),mq 4 42] [4] .ret)))))
def an_zmas7 : Ann := ann (List.range 9) ac_zmas7
theorem ok_zmas7 : okd Tryz.prog an_zmas7 ac_zmas7 Tryz.f257 := ⟨by kernel_rfl, by kernel_rfl⟩

def ac_zu0fc : AC := (sr [oo 4 (.mv (.const (.string ⟨#[]⟩)))] [0,1] (.seq (.block 0 (.loop (.seq (sr [mq 5 0,oo 6 (.len (tp 5) true),oo 7 (.bin .gtr (tp 6) (ci 0)),mq 8 7,og 8 true 9 (.mv (tp 0)),og 8 true 10 (.idxS (tp 9) (ci 0)),og 8 true 11 (.mv (tp 1)),og 8 true 12 (.bin .eql (tp 10) (tp 11)),oo 13 (.pick (tp 8) (tp 12) (cq false))] [0,1,13] (.cond (tp 13) .skip (.exit 0))) (.block 1 (.region [mq 14 0,oo 15 (.slcS (tp 14) (some (ci 1)) none),mq 0 15] (some [0,1])))))) (sr [mq 16 0,mq 4 16] [4] .ret)))
def an_zu0fc : Ann := ann (List.range 4) ac_zu0fc
theorem ok_zu0fc : okd Tryz.prog an_zu0fc ac_zu0fc Tryz.f274 := ⟨by kernel_rfl, by kernel_rfl⟩

def ac_zdteh : AC := (sr [oo 4 (.mv (.const (.string ⟨#[]⟩)))] [0,1] (.seq (.block 0 (.loop (.seq (sr [mq 5 0,oo 6 (.len (tp 5) true),oo 7 (.bin .gtr (tp 6) (ci 0)),mq 8 7,og 8 true 9 (.mv (tp 0)),og 8 true 10 (.mv (tp 0)),og 8 true 11 (.len (tp 10) true),og 8 true 12 (.bin .sub (tp 11) (ci 1)),og 8 true 13 (.idxS (tp 9) (tp 12)),og 8 true 14 (.mv (tp 1)),og 8 true 15 (.bin .eql (tp 13) (tp 14)),oo 16 (.pick (tp 8) (tp 15) (cq false))] [0,1,16] (.cond (tp 16) .skip (.exit 0))) (.block 1 (.region [mq 17 0,mq 18 0,oo 19 (.len (tp 18) true),oo 20 (.bin .sub (tp 19) (ci 1)),oo 21 (.slcS (tp 17) none (some (tp 20))),mq 0 21] (some [0,1])))))) (sr [mq 22 0,mq 4 22] [4] .ret)))
def an_zdteh : Ann := ann (List.range 4) ac_zdteh
theorem ok_zdteh : okd Tryz.prog an_zdteh ac_zdteh Tryz.f275 := ⟨by kernel_rfl, by kernel_rfl⟩

def ac_zrrew : AC := (sr [oo 4 (.mv (cq false))] [0,1] (sr [mq 5 0,oo 6 (.call 263 [tp 5]),mq 7 1,oo 8 (.call 263 [tp 7]),oo 9 (.bin .eql (tp 6) (tp 8)),mq 4 9] [4] .ret))
def an_zrrew : Ann := ann (List.range 2) ac_zrrew
theorem ok_zrrew : okd Tryz.prog an_zrrew ac_zrrew Tryz.f231 := ⟨by kernel_rfl, by kernel_rfl⟩

def ac_zjt8m : AC := (sr [oo 2 (.mv (cq false))] [0] (sr [oo 3 (.mv (.func 260))] [0,3] (sr [mq 4 0,oo 5 (.bin .neq (tp 4) (.const (.string ⟨#[]⟩))),mq 6 5,og 6 true 7 (.mv (tp 0)),og 6 true 8 (.len (tp 7) true),og 6 true 9 (.bin .leq (tp 8) (ci 10)),oo 10 (.pick (tp 6) (tp 9) (cq false)),mq 11 10,og 11 true 12 (.mv (tp 0)),og 11 true 13 (.mv (tp 3)),og 11 true 14 (.call 151 [tp 12,tp 13]),og 11 true 15 (.bin .lss (tp 14) (ci 0)),oo 16 (.pick (tp 11) (tp 15) (cq false)),mq 2 16] [2] .ret)))
def an_zjt8m : Ann := ann (List.range 3) ac_zjt8m
theorem ok_zjt8m : okd Tryz.prog an_zjt8m ac_zjt8m Tryz.f228 := ⟨by kernel_rfl, by kernel_rfl⟩

def ac_zluy0 : AC := (sr [oo 2 (.mv (cq false))] [0] (sr [mq 3 0,oo 4 (.bin .lss (tp 3) (.const (.int .i32 65))),mq 5 4,og 5 false 6 (.mv (tp 0)),og 5 false 7 (.bin .gtr (tp 6) (.const (.int .i32 90))),oo 8 (.pick (tp 5) (cq true) (tp 7)),mq 2 8] [2] .ret))
def an_zluy0 : Ann := ann (List.range 2) ac_zluy0
theorem ok_zluy0 : okd Tryz.prog an_zluy0 ac_zluy0 Tryz.f260 := ⟨by kernel_rfl, by kernel_rfl⟩


def ac_zfsc3 : AC := (sr [oo 4 (.mv (cq false))] [0,1] (.seq (sr [mq 6 0,oo 7 (.len (tp 6) false),mq 8 1,oo 9 (.len (tp 8) false),oo 10 (.bin .neq (tp 7) (tp 9))] [0,1,10] (.cond (tp 10) (sr [oo 4 (.mv (cq false))] [4] .ret) .skip)) (.seq (sr [mq 11 0,oo 12 (.len (tp 11) false),oo 13 (.mv (ci 0))] [0,1,12,13] (.block 0 (.loop (sr [oo 14 (.bin .lss (tp 13) (tp 12))] [0,1,12,13,14] (.seq (.cond (tp 14) .skip (.exit 0)) (.seq (.block 1 (sr [mq 15 13,mq 5 15] [0,1,5,12,13] (.seq (.draw [mq 16 0,mq 17 5,oo 18 (.idxA 2 (tp 16) (tp 17)),oo 19 (.load (some 2) (tp 18)),mq 20 1,mq 21 5,oo 22 (.idxA 2 (tp 20) (tp 21)),oo 23 (.load (some 2) (tp 22)),oo 24 (.eqs true [.str,.str] (tp 19) (tp 23))] [0,0,3,7,0,0,48,112,255] (.take 0 (.take 1 (.take 2 (.take 3 (.take 4 (.take 5 (.take 6 (.take 7 (.take 8 .done))))))))) (some [0,1,12,13,24])) (.cond (tp 24) (sr [oo 4 (.mv (cq false))] [4] .ret) .skip)))) (.region [oo 25 (.bin .add (tp 13) (ci 1)),mq 13 25] (some [0,1,12,13])))))))) (sr [oo 4 (.mv (cq true))] [4] .ret))))
def an_zfsc3 : Ann := ann (List.range 10) ac_zfsc3
theorem ok_zfsc3 : okd Tryz.prog an_zfsc3 ac_zfsc3 Tryz.f99 := ⟨by kernel_rfl, by kernel_rfl⟩

def ac_zu266 : AC := (sr [oo 4 (.mv (cq false))] [0,1] (.seq (sr [mq 6 0,oo 7 (.len (tp 6) false),mq 8 1,oo 9 (.len (tp 8) false),oo 10 (.bin .neq (tp 7) (tp 9))] [0,1,10] (.cond (tp 10) (sr [oo 4 (.mv (cq false))] [4] .ret) .skip)) (.seq (sr [mq 11 0,oo 12 (.len (tp 11) false),oo 13 (.mv (ci 0))] [0,1,12,13] (.block 0 (.loop (sr [oo 14 (.bin .lss (tp 13) (tp 12))] [0,1,12,13,14] (.seq (.cond (tp 14) .skip (.exit 0)) (.seq (.block 1 (sr [mq 15 13,mq 5 15] [0,1,5,12,13] (.seq (.draw [mq 16 0,mq 17 5,oo 18 (.idxA 1 (tp 16) (tp 17)),lq 19 18,mq 20 1,mq 21 5,oo 22 (.idxA 1 (tp 20) (tp 21)),lq 23 22,oo 24 (.bin .neq (tp 19) (tp 23))] [0,0,3,7,0,0,48,112,255] (.take 0 (.take 1 (.take 2 (.take 3 (.take 4 (.take 5 (.take 6 (.take 7 (.take 8 .done))))))))) (some [0,1,12,13,24])) (.cond (tp 24) (sr [oo 4 (.mv (cq false))] [4] .ret) .skip)))) (.region [oo 25 (.bin .add (tp 13) (ci 1)),mq 13 25] (some [0,1,12,13])))))))) (sr [oo 4 (.mv (cq true))] [4] .ret))))
def an_zu266 : Ann := ann (List.range 10) ac_zu266
theorem ok_zu266 : okd Tryz.prog an_zu266 ac_zu266 Tryz.f100 := ⟨by kernel_rfl, by kernel_rfl⟩

def ac_zdvt9 : AC := (sr [oo 4 (.mv (cq false))] [0,1] (.seq (sr [mq 6 0,oo 7 (.len (tp 6) false),mq 8 1,oo 9 (.len (tp 8) false),oo 10 (.bin .neq (tp 7) (tp 9))] [0,1,10] (.cond (tp 10) (sr [oo 4 (.mv (cq false))] [4] .ret) .skip)) (.seq (sr [mq 11 0,oo 12 (.len (tp 11) false),oo 13 (.mv (ci 0))] [0,1,12,13] (.block 0 (.loop (sr [oo 14 (.bin .lss (tp 13) (tp 12))] [0,1,12,13,14] (.seq (.cond (tp 14) .skip (.exit 0)) (.seq (.block 1 (sr [mq 15 13,mq 5 15] [0,1,5,12,13] (.seq (.draw [mq 16 0,mq 17 5,oo 18 (.idxA 1 (tp 16) (tp 17)),lq 19 18,mq 20 1,mq 21 5,oo 22 (.idxA 1 (tp 20) (tp 21)),lq 23 22,oo 24 (.bin .neq (tp 19) (tp 23))] [0,0,3,7,0,0,48,112,255] (.take 0 (.take 1 (.take 2 (.take 3 (.take 4 (.take 5 (.take 6 (.take 7 (.take 8 .done))))))))) (some [0,1,12,13,24])) (.cond (tp 24) (sr [oo 4 (.mv (cq false))] [4] .ret) .skip)))) (.region [oo 25 (.bin .add (tp 13) (ci 1)),mq 13 25] (some [0,1,12,13])))))))) (sr [oo 4 (.mv (cq true))] [4] .ret))))
def an_zdvt9 : Ann := ann (List.range 10) ac_zdvt9
theorem ok_zdvt9 : okd Tryz.prog an_zdvt9 ac_zdvt9 Tryz.f101 := ⟨by kernel_rfl, by kernel_rfl⟩

def ac_zj0mp : AC := (sr [oo 4 (.mv (cq false))] [0,1] (.seq (sr [mq 6 0,oo 7 (.len (tp 6) false),mq 8 1,oo 9 (.len (tp 8) false),oo 10 (.bin .neq (tp 7) (tp 9))] [0,1,10] (.cond (tp 10) (sr [oo 4 (.mv (cq false))] [4] .ret) .skip)) (.seq (sr [mq 11 0,oo 12 (.len (tp 11) false),oo 13 (.mv (ci 0))] [0,1,12,13] (.block 0 (.loop (sr [oo 14 (.bin .lss (tp 13) (tp 12))] [0,1,12,13,14] (.seq (.cond (tp 14) .skip (.exit 0)) (.seq (.block 1 (sr [mq 15 13,mq 5 15] [0,1,5,12,13] (.seq (.draw [mq 16 0,mq 17 5,oo 18 (.idxA 4 (tp 16) (tp 17)),oo 19 (.load (some 4) (tp 18)),mq 20 1,mq 21 5,oo 22 (.idxA 4 (tp 20) (tp 21)),oo 23 (.load (some 4) (tp 22)),oo 24 (.eqs true [.str,.str,.str,.int] (tp 19) (tp 23))] [0,0,3,7,0,0,48,112,255] (.take 0 (.take 1 (.take 2 (.take 3 (.take 4 (.take 5 (.take 6 (.take 7 (.take 8 .done))))))))) (some [0,1,12,13,24])) (.cond (tp 24) (sr [oo 4 (.mv (cq false))] [4] .ret) .skip)))) (.region [oo 25 (.bin .add (tp 13) (ci 1)),mq 13 25] (some [0,1,12,13])))))))) (sr [oo 4 (.mv (cq true))] [4] .ret))))
def an_zj0mp : Ann := ann (List.range 10) ac_zj0mp
theorem ok_zj0mp : okd Tryz.prog an_zj0mp ac_zj0mp Tryz.f102 := ⟨by kernel_rfl, by kernel_rfl⟩

def ac_zlr2h : AC := (sr [oo 4 (.mv (cq false))] [0,1] (.seq (sr [mq 6 0,oo 7 (.len (tp 6) false),mq 8 1,oo 9 (.len (tp 8) false),oo 10 (.bin .neq (tp 7) (tp 9))] [0,1,10] (.cond (tp 10) (sr [oo 4 (.mv (cq false))] [4] .ret) .skip)) (.seq (sr [mq 11 0,oo 12 (.len (tp 11) false),oo 13 (.mv (ci 0))] [0,1,12,13] (.block 0 (.loop (sr [oo 14 (.bin .lss (tp 13) (tp 12))] [0,1,12,13,14] (.seq (.cond (tp 14) .skip (.exit 0)) (.seq (.block 1 (sr [mq 15 13,mq 5 15] [0,1,5,12,13] (.seq (.draw [mq 16 0,mq 17 5,oo 18 (.idxA 3 (tp 16) (tp 17)),oo 19 (.load (some 3) (tp 18)),mq 20 1,mq 21 5,oo 22 (.idxA 3 (tp 20) (tp 21)),oo 23 (.load (some 3) (tp 22)),oo 24 (.eqs true [.int,.str,.str] (tp 19) (tp 23))] [0,0,3,7,0,0,48,112,255] (.take 0 (.take 1 (.take 2 (.take 3 (.take 4 (.take 5 (.take 6 (.take 7 (.take 8 .done))))))))) (some [0,1,12,13,24])) (.cond (tp 24) (sr [oo 4 (.mv (cq false))] [4] .ret) .skip)))) (.region [oo 25 (.bin .add (tp 13) (ci 1)),mq 13 25] (some [0,1,12,13])))))))) (sr [oo 4 (.mv (cq true))] [4] .ret))))
def an_zlr2h : Ann := ann (List.range 10) ac_zlr2h
theorem ok_zlr2h : okd Tryz.prog an_zlr2h ac_zlr2h Tryz.f103 := ⟨by kernel_rfl, by kernel_rfl⟩

def ac_zuyoe : AC := (sr [oo 6 (.mv (cq false))] [0,1,2] (.seq (sr [mq 10 0,oo 11 (.len (tp 10) false),mq 12 1,oo 13 (.len (tp 12) false),oo 14 (.bin .neq (tp 11) (tp 13))] [0,1,2,14] (.cond (tp 14) (sr [oo 6 (.mv (cq false))] [6] .ret) .skip)) (.seq (sr [mq 15 0,oo 16 (.len (tp 15) false),oo 17 (.mv (ci 0))] [1,2,15,16,17] (.block 0 (.loop (sr [oo 18 (.bin .lss (tp 17) (tp 16))] [1,2,15,16,17,18] (.seq (.cond (tp 18) .skip (.exit 0)) (.seq (.block 1 (sr [mq 19 17,oo 20 (.idxA 9 (tp 15) (tp 17)),oo 21 (.load (some 9) (tp 20)),oo 8 (.alloc 122 [.pd (.raw (.string ⟨#[]⟩)),.pd (.raw (.int .i64 0)),.pd (.raw (.bool false)),.pd (.raw (.string ⟨#[]⟩)),.pd (.raw (.int .i64 0)),.pd (.raw (.string ⟨#[]⟩)),.pd (.raw (.string ⟨#[]⟩)),.pd (.raw (.int .i64 0)),.nils]),mq 7 19,.mk none none (.store 9 (tp 8) (tp 21))] [1,2,7,8,15,16,17] (sr [mq 22 1,mq 23 7,oo 24 (.idxA 9 (tp 22) (tp 23)),oo 25 (.load (some 9) (tp 24)),oo 9 (.alloc 122 [.pd (.raw (.string ⟨#[]⟩)),.pd (.raw (.int .i64 0)),.pd (.raw (.bool false)),.pd (.raw (.string ⟨#[]⟩)),.pd (.raw (.int .i64 0)),.pd (.raw (.string ⟨#[]⟩)),.pd (.raw (.string ⟨#[]⟩)),.pd (.raw (.int .i64 0)),.nils]),.mk none none (.store 9 (tp 9) (tp 25))] [1,2,8,9,15,16,17] (sr [mq 26 2,oo 27 (.load (some 9) (tp 8)),oo 28 (.load (some 9) (tp 9)),oo 29 (.callv (tp 26) [tp 27,tp 28]),oo 30 (.un .not (tp 29))] [1,2,15,16,17,30] (.cond (tp 30) (sr [oo 6 (.mv (cq false))] [6] .ret) .skip))))) (.region [oo 31 (.bin .add (tp 17) (ci 1)),mq 17 31] (some [1,2,15,16,17])))))))) (sr [oo 6 (.mv (cq true))] [6] .ret))))
def an_zuyoe : Ann := ann (List.range 11) ac_zuyoe
theorem ok_zuyoe : okd Tryz.prog an_zuyoe ac_zuyoe Tryz.f104 := ⟨by kernel_rfl, by kernel_rfl⟩

def ac_zi41r : AC := (sr [oo 6 (.mv (cq false))] [0,1,2] (.seq (sr [mq 10 0,oo 11 (.len (tp 10) false),mq 12 1,oo 13 (.len (tp 12) false),oo 14 (.bin .neq (tp 11) (tp 13))] [0,1,2,14] (.cond (tp 14) (sr [oo 6 (.mv (cq false))] [6] .ret) .skip)) (.seq (sr [mq 15 0,oo 16 (.len (tp 15) false),oo 17 (.mv (ci 0))] [1,2,15,16,17] (.block 0 (.loop (sr [oo 18 (.bin .lss (tp 17) (tp 16))] [1,2,15,16,17,18] (.seq (.cond (tp 18) .skip (.exit 0)) (.seq (.block 1 (sr [mq 19 17,oo 20 (.idxA 3 (tp 15) (tp 17)),oo 21 (.load (some 3) (tp 20)),oo 8 (.alloc 104 [.nils,.nils,.nils]),mq 7 19,.mk none none (.store 3 (tp 8) (tp 21))] [1,2,7,8,15,16,17] (sr [mq 22 1,mq 23 7,oo 24 (.idxA 3 (tp 22) (tp 23)),oo 25 (.load (some 3) (tp 24)),oo 9 (.alloc 104 [.nils,.nils,.nils]),.mk none none (.store 3 (tp 9) (tp 25))] [1,2,8,9,15,16,17] (sr [mq 26 2,oo 27 (.load (some 3) (tp 8)),oo 28 (.load (some 3) (tp 9)),oo 29 (.callv (tp 26) [tp 27,tp 28]),oo 30 (.un .not (tp 29))] [1,2,15,16,17,30] (.cond (tp 30) (sr [oo 6 (.mv (cq false))] [6] .ret) .skip))))) (.region [oo 31 (.bin .add (tp 17) (ci 1)),mq 17 31] (some [1,2,15,16,17])))))))) (sr [oo 6 (.mv (cq true))] [6] .ret))))
def an_zi41r : Ann := ann (List.range 11) ac_zi41r
theorem ok_zi41r : okd Tryz.prog an_zi41r ac_zi41r Tryz.f106 := ⟨by kernel_rfl, by kernel_rfl⟩

def ac_z5yno : AC := (sr [oo 5 (.box 162 (tp 2)),oo 6 (.mv (cq false))] [0,1,5] (sr [mq 7 0,oo 8 (.len (tp 7) false),mq 9 1,oo 10 (.bin .leq (tp 8) (tp 9)),mq 11 10,og 11 true 12 (.mv (tp 0)),og 11 true 13 (.mkfn 176 [tp 5]),og 11 true 14 (.call 175 [tp 12,tp 13]),og 11 true 15 (.un .not (tp 14)),oo 16 (.pick (tp 11) (tp 15) (cq false)),mq 6 16] [6] .ret))
def an_z5yno : Ann := ann (List.range 2) ac_z5yno
theorem ok_z5yno : okd Tryz.prog an_z5yno ac_z5yno Tryz.f125 := ⟨by kernel_rfl, by kernel_rfl⟩

def ac_zhfyj : AC := (sr [oo 2 (.mv (cq false))] [0] (.seq (sr [mq 4 0,oo 5 (.len (tp 4) false),oo 6 (.bin .sub (tp 5) (ci 1)),mq 3 6] [0,3] (.block 0 (.loop (.seq (sr [mq 7 3,oo 8 (.bin .gtr (tp 7) (ci 0))] [0,3,8] (.cond (tp 8) .skip (.exit 0))) (.seq (.block 1 (.seq (.draw [mq 11 0,mq 12 3,oo 13 (.idxA 1 (tp 11) (tp 12)),lq 14 13,mq 15 0,mq 16 3,oo 17 (.bin .sub (tp 16) (ci 1)),oo 18 (.idxA 1 (tp 15) (tp 17)),lq 19 18,oo 20 (.call 177 [tp 14,tp 19])] [0,0,3,7,0,0,32,112,240,511] (.take 0 (.take 1 (.take 2 (.take 3 (.take 4 (.take 5 (.take 6 (.take 7 (.take 8 (.alts (.cons 9 true .done .nil))))))))))) (some [0,3,20])) (.cond (tp 20) (sr [oo 2 (.mv (cq false))] [2] .ret) .skip))) (.region [mq 9 3,oo 10 (.bin .sub (tp 9) (ci 1)),mq 3 10] (some [0,3]))))))) (sr [oo 2 (.mv (cq true))] [2] .ret)))
def an_zhfyj : Ann := ann [0,1,2,4,5,3,6] ac_zhfyj
theorem ok_zhfyj : okd Tryz.prog an_zhfyj ac_zhfyj Tryz.f127 := ⟨by kernel_rfl, by kernel_rfl⟩

def ac_zb3kh : AC := (sr [oo 3 (.box 189 (tp 1)),oo 4 (.mv (cq false))] [0,3] (.seq (sr [mq 7 0,oo 8 (.len (tp 7) false),oo 9 (.mv (ci 0))] [0,3,7,8,9] (.block 0 (.loop (sr [oo 10 (.bin .lss (tp 9) (tp 8))] [0,3,7,8,9,10] (.seq (.cond (tp 10) .skip (.exit 0)) (.seq (.block 1 (sr [mq 11 9,oo 12 (.idxA 1 (tp 7) (tp 9)),lq 13 12,oo 6 (.alloc 3 [.pd (.raw (.int .i64 0))]),mq 5 11,.mk none none (.store 1 (tp 6) (tp 13))] [0,3,5,6,7,8,9] (sr [mq 14 0,mq 15 5,oo 16 (.slcL 1 (tp 14) none (some (tp 15))),oo 17 (.mkfn 178 [tp 3,tp 6]),oo 18 (.call 175 [tp 16,tp 17])] [0,3,7,8,9,18] (.cond (tp 18) (sr [oo 4 (.mv (cq true))] [4] .ret) .skip)))) (.region [oo 19 (.bin .add (tp 9) (ci 1)),mq 9 19] (some [0,3,7,8,9])))))))) (sr [oo 4 (.mv (cq false))] [4] .ret)))
def an_zb3kh : Ann := ann (List.range 8) ac_zb3kh
theorem ok_zb3kh : okd Tryz.prog an_zb3kh ac_zb3kh Tryz.f128 := ⟨by kernel_rfl, by kernel_rfl⟩

def ac_zpo9w : AC := (sr [oo 5 (.box 191 (tp 2)),oo 6 (.mv (cq false))] [0,1,5] (sr [mq 7 0,oo 8 (.len (tp 7) false),mq 9 1,oo 10 (.bin .leq (tp 8) (tp 9)),mq 11 10,og 11 true 12 (.mv (tp 0)),og 11 true 13 (.mkfn 180 [tp 5]),og 11 true 14 (.call 179 [tp 12,tp 13]),og 11 true 15 (.un .not (tp 14)),oo 16 (.pick (tp 11) (tp 15) (cq false)),mq 6 16] [6] .ret))
def an_zpo9w : Ann := ann (List.range 2) ac_zpo9w
theorem ok_zpo9w : okd Tryz.prog an_zpo9w ac_zpo9w Tryz.f131 := ⟨by kernel_rfl, by kernel_rfl⟩

def ac_zp700 : AC := (sr [oo 3 (.box 171 (tp 1)),oo 4 (.mv (cq false))] [0,3] (.seq (sr [mq 7 0,oo 8 (.len (tp 7) false),oo 9 (.mv (ci 0))] [0,3,7,8,9] (.block 0 (.loop (sr [oo 10 (.bin .lss (tp 9) (tp 8))] [0,3,7,8,9,10] (.seq (.cond (tp 10) .skip (.exit 0)) (.seq (.block 1 (sr [mq 11 9,oo 12 (.idxA 9 (tp 7) (tp 9)),oo 13 (.load (some 9) (tp 12)),oo 6 (.alloc 122 [.pd (.raw (.string ⟨#[]⟩)),.pd (.raw (.int .i64 0)),.pd (.raw (.bool false)),.pd (.raw (.string ⟨#[]⟩)),.pd (.raw (.int .i64 0)),.pd (.raw (.string ⟨#[]⟩)),.pd (.raw (.string ⟨#[]⟩)),.pd (.raw (.int .i64 0)),.nils]),mq 5 11,.mk none none (.store 9 (tp 6) (tp 13))] [0,3,5,6,7,8,9] (sr [mq 14 0,mq 15 5,oo 16 (.slcL 9 (tp 14) none (some (tp 15))),oo 17 (.mkfn 183 [tp 3,tp 6]),oo 18 (.call 179 [tp 16,tp 17])] [0,3,7,8,9,18] (.cond (tp 18) (sr [oo 4 (.mv (cq true))] [4] .ret) .skip)))) (.region [oo 19 (.bin .add (tp 9) (ci 1)),mq 9 19] (some [0,3,7,8,9])))))))) (sr [oo 4 (.mv (cq false))] [4] .ret)))
def an_zp700 : Ann := ann (List.range 8) ac_zp700
theorem ok_zp700 : okd Tryz.prog an_zp700 ac_zp700 Tryz.f133 := ⟨by kernel_rfl, by kernel_rfl⟩

def ac_zo7vn : AC := (sr [oo 3 (.box 194 (tp 1)),oo 4 (.mv (cq false))] [0,3] (.seq (sr [mq 7 0,oo 8 (.len (tp 7) false),oo 9 (.mv (ci 0))] [0,3,7,8,9] (.block 0 (.loop (sr [oo 10 (.bin .lss (tp 9) (tp 8))] [0,3,7,8,9,10] (.seq (.cond (tp 10) .skip (.exit 0)) (.seq (.block 1 (sr [mq 11 9,oo 12 (.idxA 4 (tp 7) (tp 9)),oo 13 (.load (some 4) (tp 12)),oo 6 (.alloc 99 [.pd (.raw (.string ⟨#[]⟩)),.pd (.raw (.string ⟨#[]⟩)),.pd (.raw (.string ⟨#[]⟩)),.pd (.raw (.int .i64 0))]),mq 5 11,.mk none none (.store 4 (tp 6) (tp 13))] [0,3,5,6,7,8,9] (sr [mq 14 0,mq 15 5,oo 16 (.slcL 4 (tp 14) none (some (tp 15))),oo 17 (.mkfn 185 [tp 3,tp 6]),oo 18 (.call 184 [tp 16,tp 17])] [0,3,7,8,9,18] (.cond (tp 18) (sr [oo 4 (.mv (cq true))] [4] .ret) .skip)))) (.region [oo 19 (.bin .add (tp 9) (ci 1)),mq 9 19] (some [0,3,7,8,9])))))))) (sr [oo 4 (.mv (cq false))] [4] .ret)))
def an_zo7vn : Ann := ann (List.range 8) ac_zo7vn
theorem ok_zo7vn : okd Tryz.prog an_zo7vn ac_zo7vn Tryz.f134 := ⟨by kernel_rfl, by kernel_rfl⟩

def ac_zogir : AC := (sr [oo 3 (.box 196 (tp 1)),oo 4 (.mv (cq false))] [0,3] (.seq (sr [mq 7 0,oo 8 (.len (tp 7) false),oo 9 (.mv (ci 0))] [0,3,7,8,9] (.block 0 (.loop (sr [oo 10 (.bin .lss (tp 9) (tp 8))] [0,3,7,8,9,10] (.seq (.cond (tp 10) .skip (.exit 0)) (.seq (.block 1 (sr [mq 11 9,oo 12 (.idxA 1 (tp 7) (tp 9)),lq 13 12,oo 6 (.alloc 9 [.pd (.raw (.string ⟨#[]⟩))]),mq 5 11,.mk none none (.store 1 (tp 6) (tp 13))] [0,3,5,6,7,8,9] (sr [mq 14 0,mq 15 5,oo 16 (.slcL 1 (tp 14) none (some (tp 15))),oo 17 (.mkfn 187 [tp 3,tp 6]),oo 18 (.call 186 [tp 16,tp 17])] [0,3,7,8,9,18] (.cond (tp 18) (sr [oo 4 (.mv (cq true))] [4] .ret) .skip)))) (.region [oo 19 (.bin .add (tp 9) (ci 1)),mq 9 19] (some [0,3,7,8,9])))))))) (sr [oo 4 (.mv (cq false))] [4] .ret)))
def an_zogir : Ann := ann (List.range 8) ac_zogir
theorem ok_zogir : okd Tryz.prog an_zogir ac_zogir Tryz.f136 := ⟨by kernel_rfl, by kernel_rfl⟩

def ac_zblzf : AC := (sr [oo 5 (.box 198 (tp 2)),oo 6 (.mv (cq false))] [0,1,5] (sr [mq 7 0,oo 8 (.len (tp 7) false),mq 9 1,oo 10 (.bin .leq (tp 8) (tp 9)),mq 11 10,og 11 true 12 (.mv (tp 0)),og 11 true 13 (.mkfn 189 [tp 5]),og 11 true 14 (.call 184 [tp 12,tp 13]),og 11 true 15 (.un .not (tp 14)),oo 16 (.pick (tp 11) (tp 15) (cq false)),mq 6 16] [6] .ret))
def an_zblzf : Ann := ann (List.range 2) ac_zblzf
theorem ok_zblzf : okd Tryz.prog an_zblzf ac_zblzf Tryz.f140 := ⟨by kernel_rfl, by kernel_rfl⟩

def ac_zch4 : AC := (sr [oo 5 (.box 161 (tp 2)),oo 6 (.mv (cq false))] [0,1,5] (sr [mq 7 0,oo 8 (.len (tp 7) false),mq 9 1,oo 10 (.bin .leq (tp 8) (tp 9)),mq 11 10,og 11 true 12 (.mv (tp 0)),og 11 true 13 (.mkfn 190 [tp 5]),og 11 true 14 (.call 186 [tp 12,tp 13]),og 11 true 15 (.un .not (tp 14)),oo 16 (.pick (tp 11) (tp 15) (cq false)),mq 6 16] [6] .ret))
def an_zch4 : Ann := ann (List.range 2) ac_zch4
theorem ok_zch4 : okd Tryz.prog an_zch4 ac_zch4 Tryz.f142 := ⟨by kernel_rfl, by kernel_rfl⟩

def ac_z2qr7 : AC := (sr [oo 5 (.box 201 (tp 2)),oo 6 (.mv (cq false))] [0,1,5] (sr [mq 7 0,oo 8 (.len (tp 7) false),mq 9 1,oo 10 (.bin .leq (tp 8) (tp 9)),mq 11 10,og 11 true 12 (.mv (tp 0)),og 11 true 13 (.mkfn 192 [tp 5]),og 11 true 14 (.call 191 [tp 12,tp 13]),og 11 true 15 (.un .not (tp 14)),oo 16 (.pick (tp 11) (tp 15) (cq false)),mq 6 16] [6] .ret))
def an_z2qr7 : Ann := ann (List.range 2) ac_z2qr7
theorem ok_z2qr7 : okd Tryz.prog an_z2qr7 ac_z2qr7 Tryz.f143 := ⟨by kernel_rfl, by kernel_rfl⟩

def ac_zqdfu : AC := (sr [oo 5 (.box 202 (tp 2)),oo 6 (.mv (cq false))] [0,1,5] (sr [mq 7 0,oo 8 (.len (tp 7) false),mq 9 1,oo 10 (.bin .leq (tp 8) (tp 9)),mq 11 10,og 11 true 12 (.mv (tp 0)),og 11 true 13 (.mkfn 199 [tp 5]),og 11 true 14 (.call 198 [tp 12,tp 13]),og 11 true 15 (.un .not (tp 14)),oo 16 (.pick (tp 11) (tp 15) (cq false)),mq 6 16] [6] .ret))
def an_zqdfu : Ann := ann (List.range 2) ac_zqdfu
theorem ok_zqdfu : okd Tryz.prog an_zqdfu ac_zqdfu Tryz.f147 := ⟨by kernel_rfl, by kernel_rfl⟩

def ac_zjaw1 : AC := (sr [oo 6 (.mv (cq false))] [0,1,2] (.seq (sr [mq 10 0,oo 11 (.len (tp 10) false),mq 12 1,oo 13 (.len (tp 12) false),oo 14 (.bin .neq (tp 11) (tp 13))] [0,1,2,14] (.cond (tp 14) (sr [oo 6 (.mv (cq false))] [6] .ret) .skip)) (.seq (sr [mq 15 0,oo 16 (.len (tp 15) false),oo 17 (.mv (ci 0))] [1,2,15,16,17] (.block 0 (.loop (sr [oo 18 (.bin .lss (tp 17) (tp 16))] [1,2,15,16,17,18] (.seq (.cond (tp 18) .skip (.exit 0)) (.seq (.block 1 (sr [mq 19 17,oo 20 (.idxA 5 (tp 15) (tp 17)),oo 21 (.load (some 5) (tp 20)),oo 8 (.alloc 128 [.pd (.raw (.int .i64 0)),.pd (.raw (.string ⟨#[]⟩)),.pd (.raw (.string ⟨#[]⟩)),.nils,.nils]),mq 7 19,.mk none none (.store 5 (tp 8) (tp 21))] [1,2,7,8,15,16,17] (sr [mq 22 1,mq 23 7,oo 24 (.idxA 5 (tp 22) (tp 23)),oo 25 (.load (some 5) (tp 24)),oo 9 (.alloc 128 [.pd (.raw (.int .i64 0)),.pd (.raw (.string ⟨#[]⟩)),.pd (.raw (.string ⟨#[]⟩)),.nils,.nils]),.mk none none (.store 5 (tp 9) (tp 25))] [1,2,8,9,15,16,17] (sr [mq 26 2,oo 27 (.load (some 5) (tp 8)),oo 28 (.load (some 5) (tp 9)),oo 29 (.callv (tp 26) [tp 27,tp 28]),oo 30 (.un .not (tp 29))] [1,2,15,16,17,30] (.cond (tp 30) (sr [oo 6 (.mv (cq false))] [6] .ret) .skip))))) (.region [oo 31 (.bin .add (tp 17) (ci 1)),mq 17 31] (some [1,2,15,16,17])))))))) (sr [oo 6 (.mv (cq true))] [6] .ret))))
def an_zjaw1 : Ann := ann (List.range 11) ac_zjaw1
theorem ok_zjaw1 : okd Tryz.prog an_zjaw1 ac_zjaw1 Tryz.f153 := ⟨by kernel_rfl, by kernel_rfl⟩

def ac_z7uuy : AC := (sr [oo 4 (.mv (cq false))] [0,1] (.seq (sr [mq 6 0,oo 7 (.len (tp 6) false),mq 8 1,oo 9 (.len (tp 8) false),oo 10 (.bin .neq (tp 7) (tp 9))] [0,1,10] (.cond (tp 10) (sr [oo 4 (.mv (cq false))] [4] .ret) .skip)) (.seq (sr [mq 11 0,oo 12 (.len (tp 11) false),oo 13 (.mv (ci 0))] [0,1,12,13] (.block 0 (.loop (sr [oo 14 (.bin .lss (tp 13) (tp 12))] [0,1,12,13,14] (.seq (.cond (tp 14) .skip (.exit 0)) (.seq (.block 1 (sr [mq 15 13,mq 5 15] [0,1,5,12,13] (.seq (.draw [mq 16 0,mq 17 5,oo 18 (.idxA 8 (tp 16) (tp 17)),oo 19 (.load (some 8) (tp 18)),mq 20 1,mq 21 5,oo 22 (.idxA 8 (tp 20) (tp 21)),oo 23 (.load (some 8) (tp 22)),oo 24 (.eqs true [.int,.str,.str,.str,.int,.str,.bool,.int] (tp 19) (tp 23))] [0,0,3,7,0,0,48,112,255] (.take 0 (.take 1 (.take 2 (.take 3 (.take 4 (.take 5 (.take 6 (.take 7 (.take 8 .done))))))))) (some [0,1,12,13,24])) (.cond (tp 24) (sr [oo 4 (.mv (cq false))] [4] .ret) .skip)))) (.region [oo 25 (.bin .add (tp 13) (ci 1)),mq 13 25] (some [0,1,12,13])))))))) (sr [oo 4 (.mv (cq true))] [4] .ret))))
def an_z7uuy : Ann := ann (List.range 10) ac_z7uuy
theorem ok_z7uuy : okd Tryz.prog an_z7uuy ac_z7uuy Tryz.f155 := ⟨by kernel_rfl, by kernel_rfl⟩

def ac_ztr0f : AC := (sr [oo 4 (.mv (cq false))] [0,1] (.seq (sr [mq 6 0,oo 7 (.len (tp 6) false),mq 8 1,oo 9 (.len (tp 8) false),oo 10 (.bin .neq (tp 7) (tp 9))] [0,1,10] (.cond (tp 10) (sr [oo 4 (.mv (cq false))] [4] .ret) .skip)) (.seq (sr [mq 11 0,oo 12 (.len (tp 11) false),oo 13 (.mv (ci 0))] [0,1,12,13] (.block 0 (.loop (sr [oo 14 (.bin .lss (tp 13) (tp 12))] [0,1,12,13,14] (.seq (.cond (tp 14) .skip (.exit 0)) (.seq (.block 1 (sr [mq 15 13,mq 5 15] [0,1,5,12,13] (.seq (.draw [mq 16 0,mq 17 5,oo 18 (.idxA 5 (tp 16) (tp 17)),oo 19 (.load (some 5) (tp 18)),mq 20 1,mq 21 5,oo 22 (.idxA 5 (tp 20) (tp 21)),oo 23 (.load (some 5) (tp 22)),oo 24 (.eqs true [.int,.str,.str,.int,.int] (tp 19) (tp 23))] [0,0,3,7,0,0,48,112,255] (.take 0 (.take 1 (.take 2 (.take 3 (.take 4 (.take 5 (.take 6 (.take 7 (.take 8 .done))))))))) (some [0,1,12,13,24])) (.cond (tp 24) (sr [oo 4 (.mv (cq false))] [4] .ret) .skip)))) (.region [oo 25 (.bin .add (tp 13) (ci 1)),mq 13 25] (some [0,1,12,13])))))))) (sr [oo 4 (.mv (cq true))] [4] .ret))))
def an_ztr0f : Ann := ann (List.range 10) ac_ztr0f
theorem ok_ztr0f : okd Tryz.prog an_ztr0f ac_ztr0f Tryz.f156 := ⟨by kernel_rfl, by kernel_rfl⟩

def ac_z2spj : AC := (sr [oo 4 (.mv (cq false))] [0,1] (sr [mq 5 0,mq 6 1,oo 7 (.call 213 [tp 5,tp 6]),oo 8 (.bin .geq (tp 7) (ci 0)),mq 4 8] [4] .ret))
def an_z2spj : Ann := ann (List.range 2) ac_z2spj
theorem ok_z2spj : okd Tryz.prog an_z2spj ac_z2spj Tryz.f175 := ⟨by kernel_rfl, by kernel_rfl⟩

def ac_zkvy2 : AC := (sr [oo 3 (.mv (cq false))] [0,1] (sr [lq 4 1,mq 5 0,oo 6 (.callv (tp 4) [tp 5]),oo 7 (.un .not (tp 6)),mq 3 7] [3] .ret))
def an_zkvy2 : Ann := ann (List.range 2) ac_zkvy2
theorem ok_zkvy2 : okd Tryz.prog an_zkvy2 ac_zkvy2 Tryz.f176 := ⟨by kernel_rfl, by kernel_rfl⟩

def ac_zovpw : AC := (sr [oo 4 (.mv (cq false))] [0,1,2] (sr [lq 5 1,lq 6 2,mq 7 0,oo 8 (.callv (tp 5) [tp 6,tp 7]),mq 4 8] [4] .ret))
def an_zovpw : Ann := ann (List.range 2) ac_zovpw
theorem ok_zovpw : okd Tryz.prog an_zovpw ac_zovpw Tryz.f178 := ⟨by kernel_rfl, by kernel_rfl⟩

def ac_zosgm : AC := (sr [oo 4 (.mv (cq false))] [0,1] (sr [mq 5 0,mq 6 1,oo 7 (.call 214 [tp 5,tp 6]),oo 8 (.bin .geq (tp 7) (ci 0)),mq 4 8] [4] .ret))
def an_zosgm : Ann := ann (List.range 2) ac_zosgm
theorem ok_zosgm : okd Tryz.prog an_zosgm ac_zosgm Tryz.f179 := ⟨by kernel_rfl, by kernel_rfl⟩

def ac_zir97 : AC := (sr [oo 2 (.box 122 (tp 0)),oo 3 (.mv (cq false))] [1,2] (sr [lq 4 1,oo 5 (.load (some 9) (tp 2)),oo 6 (.callv (tp 4) [tp 5]),oo 7 (.un .not (tp 6)),mq 3 7] [3] .ret))
def an_zir97 : Ann := ann (List.range 2) ac_zir97
theorem ok_zir97 : okd Tryz.prog an_zir97 ac_zir97 Tryz.f180 := ⟨by kernel_rfl, by kernel_rfl⟩

def ac_ztyjm : AC := (sr [oo 3 (.box 122 (tp 0)),oo 4 (.mv (cq false))] [1,2,3] (sr [lq 5 1,oo 6 (.load (some 9) (tp 2)),oo 7 (.load (some 9) (tp 3)),oo 8 (.callv (tp 5) [tp 6,tp 7]),mq 4 8] [4] .ret))
def an_ztyjm : Ann := ann (List.range 2) ac_ztyjm
theorem ok_ztyjm : okd Tryz.prog an_ztyjm ac_ztyjm Tryz.f183 := ⟨by kernel_rfl, by kernel_rfl⟩

def ac_zic3s : AC := (sr [oo 4 (.mv (cq false))] [0,1] (sr [mq 5 0,mq 6 1,oo 7 (.call 218 [tp 5,tp 6]),oo 8 (.bin .geq (tp 7) (ci 0)),mq 4 8] [4] .ret))
def an_zic3s : Ann := ann (List.range 2) ac_zic3s
theorem ok_zic3s : okd Tryz.prog an_zic3s ac_zic3s Tryz.f184 := ⟨by kernel_rfl, by kernel_rfl⟩

def ac_z6aq8 : AC := (sr [oo 3 (.box 99 (tp 0)),oo 4 (.mv (cq false))] [1,2,3] (sr [lq 5 1,oo 6 (.load (some 4) (tp 2)),oo 7 (.load (some 4) (tp 3)),oo 8 (.callv (tp 5) [tp 6,tp 7]),mq 4 8] [4] .ret))
def an_z6aq8 : Ann := ann (List.range 2) ac_z6aq8
theorem ok_z6aq8 : okd Tryz.prog an_z6aq8 ac_z6aq8 Tryz.f185 := ⟨by kernel_rfl, by kernel_rfl⟩

def ac_zyx5 : AC := (sr [oo 4 (.mv (cq false))] [0,1] (sr [mq 5 0,mq 6 1,oo 7 (.call 219 [tp 5,tp 6]),oo 8 (.bin .geq (tp 7) (ci 0)),mq 4 8] [4] .ret))
def an_zyx5 : Ann := ann (List.range 2) ac_zyx5
theorem ok_zyx5 : okd Tryz.prog an_zyx5 ac_zyx5 Tryz.f186 := ⟨by kernel_rfl, by kernel_rfl⟩

def ac_zwcip : AC := (sr [oo 4 (.mv (cq false))] [0,1,2] (sr [lq 5 1,lq 6 2,mq 7 0,oo 8 (.callv (tp 5) [tp 6,tp 7]),mq 4 8] [4] .ret))
def an_zwcip : Ann := ann (List.range 2) ac_zwcip
theorem ok_zwcip : okd Tryz.prog an_zwcip ac_zwcip Tryz.f187 := ⟨by kernel_rfl, by kernel_rfl⟩

def ac_z31hg : AC := (sr [oo 2 (.box 99 (tp 0)),oo 3 (.mv (cq false))] [1,2] (sr [lq 4 1,oo 5 (.load (some 4) (tp 2)),oo 6 (.callv (tp 4) [tp 5]),oo 7 (.un .not (tp 6)),mq 3 7] [3] .ret))
def an_z31hg : Ann := ann (List.range 2) ac_z31hg
theorem ok_z31hg : okd Tryz.prog an_z31hg ac_z31hg Tryz.f189 := ⟨by kernel_rfl, by kernel_rfl⟩

def ac_z1wya : AC := (sr [oo 3 (.mv (cq false))] [0,1] (sr [lq 4 1,mq 5 0,oo 6 (.callv (tp 4) [tp 5]),oo 7 (.un .not (tp 6)),mq 3 7] [3] .ret))
def an_z1wya : Ann := ann (List.range 2) ac_z1wya
theorem ok_z1wya : okd Tryz.prog an_z1wya ac_z1wya Tryz.f190 := ⟨by kernel_rfl, by kernel_rfl⟩

def ac_zwd90 : AC := (sr [oo 4 (.mv (cq false))] [0,1] (sr [mq 5 0,mq 6 1,oo 7 (.call 221 [tp 5,tp 6]),oo 8 (.bin .geq (tp 7) (ci 0)),mq 4 8] [4] .ret))
def an_zwd90 : Ann := ann (List.range 2) ac_zwd90
theorem ok_zwd90 : okd Tryz.prog an_zwd90 ac_zwd90 Tryz.f191 := ⟨by kernel_rfl, by kernel_rfl⟩

def ac_z8keb : AC := (sr [oo 2 (.box 104 (tp 0)),oo 3 (.mv (cq false))] [1,2] (sr [lq 4 1,oo 5 (.load (some 3) (tp 2)),oo 6 (.callv (tp 4) [tp 5]),oo 7 (.un .not (tp 6)),mq 3 7] [3] .ret))
def an_z8keb : Ann := ann (List.range 2) ac_z8keb
theorem ok_z8keb : okd Tryz.prog an_z8keb ac_z8keb Tryz.f192 := ⟨by kernel_rfl, by kernel_rfl⟩

def ac_ziqd0 : AC := (sr [oo 5 (.box 233 (tp 2)),oo 6 (.mv (cq false))] [0,1,5] (sr [mq 7 0,oo 8 (.len (tp 7) false),mq 9 1,oo 10 (.bin .leq (tp 8) (tp 9)),mq 11 10,og 11 true 12 (.mv (tp 0)),og 11 true 13 (.mkfn 223 [tp 5]),og 11 true 14 (.call 222 [tp 12,tp 13]),og 11 true 15 (.un .not (tp 14)),oo 16 (.pick (tp 11) (tp 15) (cq false)),mq 6 16] [6] .ret))
def an_ziqd0 : Ann := ann (List.range 2) ac_ziqd0
theorem ok_ziqd0 : okd Tryz.prog an_ziqd0 ac_ziqd0 Tryz.f193 := ⟨by kernel_rfl, by kernel_rfl⟩

def ac_zb5o4 : AC := (sr [oo 5 (.box 236 (tp 2)),oo 6 (.mv (cq false))] [0,1,5] (sr [mq 7 0,oo 8 (.len (tp 7) false),mq 9 1,oo 10 (.bin .leq (tp 8) (tp 9)),mq 11 10,og 11 true 12 (.mv (tp 0)),og 11 true 13 (.mkfn 239 [tp 5]),og 11 true 14 (.call 238 [tp 12,tp 13]),og 11 true 15 (.un .not (tp 14)),oo 16 (.pick (tp 11) (tp 15) (cq false)),mq 6 16] [6] .ret))
def an_zb5o4 : Ann := ann (List.range 2) ac_zb5o4
theorem ok_zb5o4 : okd Tryz.prog an_zb5o4 ac_zb5o4 Tryz.f196 := ⟨by kernel_rfl, by kernel_rfl⟩

def ac_zkgk0 : AC := (sr [oo 4 (.mv (cq false))] [0,1] (sr [mq 5 0,mq 6 1,oo 7 (.call 240 [tp 5,tp 6]),oo 8 (.bin .geq (tp 7) (ci 0)),mq 4 8] [4] .ret))
def an_zkgk0 : Ann := ann (List.range 2) ac_zkgk0
theorem ok_zkgk0 : okd Tryz.prog an_zkgk0 ac_zkgk0 Tryz.f198 := ⟨by kernel_rfl, by kernel_rfl⟩

def ac_z7q8a : AC := (sr [oo 2 (.box 142 (tp 0)),oo 3 (.mv (cq false))] [1,2] (sr [lq 4 1,oo 5 (.load (some 3) (tp 2)),oo 6 (.callv (tp 4) [tp 5]),oo 7 (.un .not (tp 6)),mq 3 7] [3] .ret))
def an_z7q8a : Ann := ann (List.range 2) ac_z7q8a
theorem ok_z7q8a : okd Tryz.prog an_z7q8a ac_z7q8a Tryz.f199 := ⟨by kernel_rfl, by kernel_rfl⟩

def ac_zdsnp : AC := (sr [oo 6 (.mv (cq false))] [0,1,2] (.seq (sr [mq 10 0,oo 11 (.len (tp 10) false),mq 12 1,oo 13 (.len (tp 12) false),oo 14 (.bin .neq (tp 11) (tp 13))] [0,1,2,14] (.cond (tp 14) (sr [oo 6 (.mv (cq false))] [6] .ret) .skip)) (.seq (sr [mq 15 0,oo 16 (.len (tp 15) false),oo 17 (.mv (ci 0))] [1,2,15,16,17] (.block 0 (.loop (sr [oo 18 (.bin .lss (tp 17) (tp 16))] [1,2,15,16,17,18] (.seq (.cond (tp 18) .skip (.exit 0)) (.seq (.block 1 (sr [mq 19 17,oo 20 (.idxA 3 (tp 15) (tp 17)),oo 21 (.load (some 3) (tp 20)),oo 8 (.alloc 174 [.pd (.raw (.int .i64 0)),.pd (.raw (.string ⟨#[]⟩)),.nils]),mq 7 19,.mk none none (.store 3 (tp 8) (tp 21))] [1,2,7,8,15,16,17] (sr [mq 22 1,mq 23 7,oo 24 (.idxA 3 (tp 22) (tp 23)),oo 25 (.load (some 3) (tp 24)),oo 9 (.alloc 174 [.pd (.raw (.int .i64 0)),.pd (.raw (.string ⟨#[]⟩)),.nils]),.mk none none (.store 3 (tp 9) (tp 25))] [1,2,8,9,15,16,17] (sr [mq 26 2,oo 27 (.load (some 3) (tp 8)),oo 28 (.load (some 3) (tp 9)),oo 29 (.callv (tp 26) [tp 27,tp 28]),oo 30 (.un .not (tp 29))] [1,2,15,16,17,30] (.cond (tp 30) (sr [oo 6 (.mv (cq false))] [6] .ret) .skip))))) (.region [oo 31 (.bin .add (tp 17) (ci 1)),mq 17 31] (some [1,2,15,16,17])))))))) (sr [oo 6 (.mv (cq true))] [6] .ret))))
def an_zdsnp : Ann := ann (List.range 11) ac_zdsnp
theorem ok_zdsnp : okd Tryz.prog an_zdsnp ac_zdsnp Tryz.f202 := ⟨by kernel_rfl, by kernel_rfl⟩

def ac_zrckh : AC := (sr [oo 4 (.mv (ci 0))] [0,1] (.seq (sr [mq 6 0,oo 7 (.len (tp 6) false),oo 8 (.mv (ci 0))] [0,1,7,8] (.block 0 (.loop (sr [oo 9 (.bin .lss (tp 8) (tp 7))] [0,1,7,8,9] (.seq (.cond (tp 9) .skip (.exit 0)) (.seq (.block 1 (sr [mq 10 8,mq 5 10] [0,1,5,7,8] (sr [mq 11 1,mq 12 0,mq 13 5,oo 14 (.idxA 1 (tp 12) (tp 13)),lq 15 14,oo 16 (.callv (tp 11) [tp 15])] [0,1,5,7,8,16] (.cond (tp 16) (sr [mq 17 5,mq 4 17] [4] .ret) .skip)))) (.region [oo 18 (.bin .add (tp 8) (ci 1)),mq 8 18] (some [0,1,7,8])))))))) (sr [oo 4 (.mv (ci (-1)))] [4] .ret)))
def an_zrckh : Ann := ann (List.range 8) ac_zrckh
theorem ok_zrckh : okd Tryz.prog an_zrckh ac_zrckh Tryz.f213 := ⟨by kernel_rfl, by kernel_rfl⟩

def ac_z3tfr : AC := (sr [oo 4 (.mv (ci 0))] [0,1] (.seq (sr [mq 6 0,oo 7 (.len (tp 6) false),oo 8 (.mv (ci 0))] [0,1,7,8] (.block 0 (.loop (sr [oo 9 (.bin .lss (tp 8) (tp 7))] [0,1,7,8,9] (.seq (.cond (tp 9) .skip (.exit 0)) (.seq (.block 1 (sr [mq 10 8,mq 5 10] [0,1,5,7,8] (sr [mq 11 1,mq 12 0,mq 13 5,oo 14 (.idxA 9 (tp 12) (tp 13)),oo 15 (.load (some 9) (tp 14)),oo 16 (.callv (tp 11) [tp 15])] [0,1,5,7,8,16] (.cond (tp 16) (sr [mq 17 5,mq 4 17] [4] .ret) .skip)))) (.region [oo 18 (.bin .add (tp 8) (ci 1)),mq 8 18] (some [0,1,7,8])))))))) (sr [oo 4 (.mv (ci (-1)))] [4] .ret)))
def an_z3tfr : Ann := ann (List.range 8) ac_z3tfr
theorem ok_z3tfr : okd Tryz.prog an_z3tfr ac_z3tfr Tryz.f214 := ⟨by kernel_rfl, by kernel_rfl⟩

def ac_zy4fu : AC := (sr [oo 4 (.mv (cq false))] [0,1] (sr [mq 5 0,mq 6 1,oo 7 (.call 252 [tp 5,tp 6]),oo 8 (.bin .geq (tp 7) (ci 0)),mq 4 8] [4] .ret))
def an_zy4fu : Ann := ann (List.range 2) ac_zy4fu
theorem ok_zy4fu : okd Tryz.prog an_zy4fu ac_zy4fu Tryz.f215 := ⟨by kernel_rfl, by kernel_rfl⟩

def ac_zwjxg : AC := (sr [oo 4 (.mv (ci 0))] [0,1] (.seq (sr [mq 6 0,oo 7 (.len (tp 6) false),oo 8 (.mv (ci 0))] [0,1,7,8] (.block 0 (.loop (sr [oo 9 (.bin .lss (tp 8) (tp 7))] [0,1,7,8,9] (.seq (.cond (tp 9) .skip (.exit 0)) (.seq (.block 1 (sr [mq 10 8,mq 5 10] [0,1,5,7,8] (sr [mq 11 1,mq 12 0,mq 13 5,oo 14 (.idxA 4 (tp 12) (tp 13)),oo 15 (.load (some 4) (tp 14)),oo 16 (.callv (tp 11) [tp 15])] [0,1,5,7,8,16] (.cond (tp 16) (sr [mq 17 5,mq 4 17] [4] .ret) .skip)))) (.region [oo 18 (.bin .add (tp 8) (ci 1)),mq 8 18] (some [0,1,7,8])))))))) (sr [oo 4 (.mv (ci (-1)))] [4] .ret)))
def an_zwjxg : Ann := ann (List.range 8) ac_zwjxg
theorem ok_zwjxg : okd Tryz.prog an_zwjxg ac_zwjxg Tryz.f218 := ⟨by kernel_rfl, by kernel_rfl⟩

def ac_zski5 : AC := (sr [oo 4 (.mv (ci 0))] [0,1] (.seq (sr [mq 6 0,oo 7 (.len (tp 6) false),oo 8 (.mv (ci 0))] [0,1,7,8] (.block 0 (.loop (sr [oo 9 (.bin .lss (tp 8) (tp 7))] [0,1,7,8,9] (.seq (.cond (tp 9) .skip (.exit 0)) (.seq (.block 1 (sr [mq 10 8,mq 5 10] [0,1,5,7,8] (sr [mq 11 1,mq 12 0,mq 13 5,oo 14 (.idxA 1 (tp 12) (tp 13)),lq 15 14,oo 16 (.callv (tp 11) [tp 15])] [0,1,5,7,8,16] (.cond (tp 16) (sr [mq 17 5,mq 4 17] [4] .ret) .skip)))) (.region [oo 18 (.bin .add (tp 8) (ci 1)),mq 8 18] (some [0,1,7,8])))))))) (sr [oo 4 (.mv (ci (-1)))] [4] .ret)))
def an_zski5 : Ann := ann (List.range 8) ac_zski5
theorem ok_zski5 : okd Tryz.prog an_zski5 ac_zski5 Tryz.f219 := ⟨by kernel_rfl, by kernel_rfl⟩

def ac_zwh23 : AC := (sr [oo 4 (.mv (ci 0))] [0,1] (.seq (sr [mq 6 0,oo 7 (.len (tp 6) false),oo 8 (.mv (ci 0))] [0,1,7,8] (.block 0 (.loop (sr [oo 9 (.bin .lss (tp 8) (tp 7))] [0,1,7,8,9] (.seq (.cond (tp 9) .skip (.exit 0)) (.seq (.block 1 (sr [mq 10 8,mq 5 10] [0,1,5,7,8] (sr [mq 11 1,mq 12 0,mq 13 5,oo 14 (.idxA 3 (tp 12) (tp 13)),oo 15 (.load (some 3) (tp 14)),oo 16 (.callv (tp 11) [tp 15])] [0,1,5,7,8,16] (.cond (tp 16) (sr [mq 17 5,mq 4 17] [4] .ret) .skip)))) (.region [oo 18 (.bin .add (tp 8) (ci 1)),mq 8 18] (some [0,1,7,8])))))))) (sr [oo 4 (.mv (ci (-1)))] [4] .ret)))
def an_zwh23 : Ann := ann (List.range 8) ac_zwh23
theorem ok_zwh23 : okd Tryz.prog an_zwh23 ac_zwh23 Tryz.f221 := ⟨by kernel_rfl, by kernel_rfl⟩

def ac_zmyh8 : AC := (sr [oo 4 (.mv (cq false))] [0,1] (sr [mq 5 0,mq 6 1,oo 7 (.call 255 [tp 5,tp 6]),oo 8 (.bin .geq (tp 7) (ci 0)),mq 4 8] [4] .ret))
def an_zmyh8 : Ann := ann (List.range 2) ac_zmyh8
theorem ok_zmyh8 : okd Tryz.prog an_zmyh8 ac_zmyh8 Tryz.f222 := ⟨by kernel_rfl, by kernel_rfl⟩

def ac_z7wca : AC := (sr [oo 2 (.box 128 (tp 0)),oo 3 (.mv (cq false))] [1,2] (sr [lq 4 1,oo 5 (.load (some 5) (tp 2)),oo 6 (.callv (tp 4) [tp 5]),oo 7 (.un .not (tp 6)),mq 3 7] [3] .ret))
def an_z7wca : Ann := ann (List.range 2) ac_z7wca
theorem ok_z7wca : okd Tryz.prog an_z7wca ac_z7wca Tryz.f223 := ⟨by kernel_rfl, by kernel_rfl⟩

def ac_zr7hm : AC := (sr [oo 4 (.mv (cq false))] [0,1] (sr [mq 5 0,mq 6 1,oo 7 (.call 261 [tp 5,tp 6]),oo 8 (.bin .geq (tp 7) (ci 0)),mq 4 8] [4] .ret))
def an_zr7hm : Ann := ann (List.range 2) ac_zr7hm
theorem ok_zr7hm : okd Tryz.prog an_zr7hm ac_zr7hm Tryz.f229 := ⟨by kernel_rfl, by kernel_rfl⟩

def ac_zi3lv : AC := (sr [oo 4 (.mv (cq false))] [0,1] (sr [mq 5 0,mq 6 1,oo 7 (.call 265 [tp 5,tp 6]),oo 8 (.bin .geq (tp 7) (ci 0)),mq 4 8] [4] .ret))
def an_zi3lv : Ann := ann (List.range 2) ac_zi3lv
theorem ok_zi3lv : okd Tryz.prog an_zi3lv ac_zi3lv Tryz.f237 := ⟨by kernel_rfl, by kernel_rfl⟩

def ac_z7rwg : AC := (sr [oo 4 (.mv (cq false))] [0,1] (sr [mq 5 0,mq 6 1,oo 7 (.call 266 [tp 5,tp 6]),oo 8 (.bin .geq (tp 7) (ci 0)),mq 4 8] [4] .ret))
def an_z7rwg : Ann := ann (List.range 2) ac_z7rwg
theorem ok_z7rwg : okd Tryz.prog an_z7rwg ac_z7rwg Tryz.f238 := ⟨by kernel_rfl, by kernel_rfl⟩

def ac_zi55u : AC := (sr [oo 2 (.box 106 (tp 0)),oo 3 (.mv (cq false))] [1,2] (sr [lq 4 1,oo 5 (.load (some 5) (tp 2)),oo 6 (.callv (tp 4) [tp 5]),oo 7 (.un .not (tp 6)),mq 3 7] [3] .ret))
def an_zi55u : Ann := ann (List.range 2) ac_zi55u
theorem ok_zi55u : okd Tryz.prog an_zi55u ac_zi55u Tryz.f239 := ⟨by kernel_rfl, by kernel_rfl⟩

def ac_zhz8f : AC := (sr [oo 4 (.mv (ci 0))] [0,1] (.seq (sr [mq 6 0,oo 7 (.len (tp 6) false),oo 8 (.mv (ci 0))] [0,1,7,8] (.block 0 (.loop (sr [oo 9 (.bin .lss (tp 8) (tp 7))] [0,1,7,8,9] (.seq (.cond (tp 9) .skip (.exit 0)) (.seq (.block 1 (sr [mq 10 8,mq 5 10] [0,1,5,7,8] (sr [mq 11 1,mq 12 0,mq 13 5,oo 14 (.idxA 3 (tp 12) (tp 13)),oo 15 (.load (some 3) (tp 14)),oo 16 (.callv (tp 11) [tp 15])] [0,1,5,7,8,16] (.cond (tp 16) (sr [mq 17 5,mq 4 17] [4] .ret) .skip)))) (.region [oo 18 (.bin .add (tp 8) (ci 1)),mq 8 18] (some [0,1,7,8])))))))) (sr [oo 4 (.mv (ci (-1)))] [4] .ret)))
def an_zhz8f : Ann := ann (List.range 8) ac_zhz8f
theorem ok_zhz8f : okd Tryz.prog an_zhz8f ac_zhz8f Tryz.f240 := ⟨by kernel_rfl, by kernel_rfl⟩

def ac_zijlh : AC := (sr [oo 4 (.mv (ci 0))] [0,1] (.seq (sr [mq 6 0,oo 7 (.len (tp 6) false),oo 8 (.mv (ci 0))] [0,1,7,8] (.block 0 (.loop (sr [oo 9 (.bin .lss (tp 8) (tp 7))] [0,1,7,8,9] (.seq (.cond (tp 9) .skip (.exit 0)) (.seq (.block 1 (sr [mq 10 8,mq 5 10] [0,1,5,7,8] (sr [mq 11 1,mq 12 0,mq 13 5,oo 14 (.idxA 3 (tp 12) (tp 13)),oo 15 (.load (some 3) (tp 14)),oo 16 (.callv (tp 11) [tp 15])] [0,1,5,7,8,16] (.cond (tp 16) (sr [mq 17 5,mq 4 17] [4] .ret) .skip)))) (.region [oo 18 (.bin .add (tp 8) (ci 1)),mq 8 18] (some [0,1,7,8])))))))) (sr [oo 4 (.mv (ci (-1)))] [4] .ret)))
def an_zijlh : Ann := ann (List.range 8) ac_zijlh
theorem ok_zijlh : okd Tryz.prog an_zijlh ac_zijlh Tryz.f252 := ⟨by kernel_rfl, by kernel_rfl⟩

def ac_zsjmp : AC := (sr [oo 4 (.mv (ci 0))] [0,1] (.seq (sr [mq 6 0,oo 7 (.len (tp 6) false),oo 8 (.mv (ci 0))] [0,1,7,8] (.block 0 (.loop (sr [oo 9 (.bin .lss (tp 8) (tp 7))] [0,1,7,8,9] (.seq (.cond (tp 9) .skip (.exit 0)) (.seq (.block 1 (sr [mq 10 8,mq 5 10] [0,1,5,7,8] (sr [mq 11 1,mq 12 0,mq 13 5,oo 14 (.idxA 5 (tp 12) (tp 13)),oo 15 (.load (some 5) (tp 14)),oo 16 (.callv (tp 11) [tp 15])] [0,1,5,7,8,16] (.cond (tp 16) (sr [mq 17 5,mq 4 17] [4] .ret) .skip)))) (.region [oo 18 (.bin .add (tp 8) (ci 1)),mq 8 18] (some [0,1,7,8])))))))) (sr [oo 4 (.mv (ci (-1)))] [4] .ret)))
def an_zsjmp : Ann := ann (List.range 8) ac_zsjmp
theorem ok_zsjmp : okd Tryz.prog an_zsjmp ac_zsjmp Tryz.f255 := ⟨by kernel_rfl, by kernel_rfl⟩

def ac_zdecl : AC := (sr [oo 4 (.mv (ci 0))] [0,1] (.seq (sr [mq 6 0,oo 7 (.len (tp 6) false),oo 8 (.mv (ci 0))] [0,1,7,8] (.block 0 (.loop (sr [oo 9 (.bin .lss (tp 8) (tp 7))] [0,1,7,8,9] (.seq (.cond (tp 9) .skip (.exit 0)) (.seq (.block 1 (sr [mq 10 8,mq 5 10] [0,1,5,7,8] (sr [mq 11 1,mq 12 0,mq 13 5,oo 14 (.idxA 2 (tp 12) (tp 13)),oo 15 (.load (some 2) (tp 14)),oo 16 (.callv (tp 11) [tp 15])] [0,1,5,7,8,16] (.cond (tp 16) (sr [mq 17 5,mq 4 17] [4] .ret) .skip)))) (.region [oo 18 (.bin .add (tp 8) (ci 1)),mq 8 18] (some [0,1,7,8])))))))) (sr [oo 4 (.mv (ci (-1)))] [4] .ret)))
def an_zdecl : Ann := ann (List.range 8) ac_zdecl
theorem ok_zdecl : okd Tryz.prog an_zdecl ac_zdecl Tryz.f261 := ⟨by kernel_rfl, by kernel_rfl⟩

def ac_zwgkv : AC := (sr [oo 4 (.mv (ci 0))] [0,1] (.seq (sr [mq 6 0,oo 7 (.len (tp 6) false),oo 8 (.mv (ci 0))] [0,1,7,8] (.block 0 (.loop (sr [oo 9 (.bin .lss (tp 8) (tp 7))] [0,1,7,8,9] (.seq (.cond (tp 9) .skip (.exit 0)) (.seq (.block 1 (sr [mq 10 8,mq 5 10] [0,1,5,7,8] (sr [mq 11 1,mq 12 0,mq 13 5,oo 14 (.idxA 8 (tp 12) (tp 13)),oo 15 (.load (some 8) (tp 14)),oo 16 (.callv (tp 11) [tp 15])] [0,1,5,7,8,16] (.cond (tp 16) (sr [mq 17 5,mq 4 17] [4] .ret) .skip)))) (.region [oo 18 (.bin .add (tp 8) (ci 1)),mq 8 18] (some [0,1,7,8])))))))) (sr [oo 4 (.mv (ci (-1)))] [4] .ret)))
def an_zwgkv : Ann := ann (List.range 8) ac_zwgkv
theorem ok_zwgkv : okd Tryz.prog an_zwgkv ac_zwgkv Tryz.f265 := ⟨by kernel_rfl, by kernel_rfl⟩

def ac_zbcsd : AC := (sr [oo 4 (.mv (ci 0))] [0,1] (.seq (sr [mq 6 0,oo 7 (.len (tp 6) false),oo 8 (.mv (ci 0))] [0,1,7,8] (.block 0 (.loop (sr [oo 9 (.bin .lss (tp 8) (tp 7))] [0,1,7,8,9] (.seq (.cond (tp 9) .skip (.exit 0)) (.seq (.block 1 (sr [mq 10 8,mq 5 10] [0,1,5,7,8] (sr [mq 11 1,mq 12 0,mq 13 5,oo 14 (.idxA 5 (tp 12) (tp 13)),oo 15 (.load (some 5) (tp 14)),oo 16 (.callv (tp 11) [tp 15])] [0,1,5,7,8,16] (.cond (tp 16) (sr [mq 17 5,mq 4 17] [4] .ret) .skip)))) (.region [oo 18 (.bin .add (tp 8) (ci 1)),mq 8 18] (some [0,1,7,8])))))))) (sr [oo 4 (.mv (ci (-1)))] [4] .ret)))
def an_zbcsd : Ann := ann (List.range 8) ac_zbcsd
theorem ok_zbcsd : okd Tryz.prog an_zbcsd ac_zbcsd Tryz.f266 := ⟨by kernel_rfl, by kernel_rfl⟩


def ac_zyyke : AC := (sr [oo 2 (.box 35 (tp 0)),oo 3 (.box 35 (tp 1)),oo 4 (.mv (ci 0))] [2,3] (.seq (.draw [fi 5 0 2,lq 6 5,fi 7 0 3,lq 8 7,oo 9 (.call 80 [tp 6,tp 8]),fi 10 1 2,lq 11 10,fi 12 1 3,lq 13 12,oo 14 (.call 81 [tp 11,tp 13]),fi 15 2 2,lq 16 15,fi 17 2 3,lq 18 17,oo 19 (.call 81 [tp 16,tp 18]),oo 20 (.bslice 3 1 [tp 9,tp 14,tp 19]),oo 21 (.call 79 [tp 20]),mq 4 21] [0,1,0,4,15,0,32,0,128,511,0,1024,0,4096,16383,32767,65535,131071] (.take 0 (.take 1 (.take 2 (.take 3 (.take 5 (.take 6 (.take 7 (.take 8 (.take 10 (.take 11 (.take 12 (.take 13 (.alts (.cons 4 false (.alts (.cons 9 false (.alts (.cons 14 true (.alts (.cons 15 true (.alts (.cons 16 true (.take 17 .done) .nil)) .nil)) .nil)) .nil)) .nil)))))))))))))) (some [4])) .ret))
def an_zyyke : Ann := ann (List.range 2) ac_zyyke
theorem ok_zyyke : okd Tryz.prog an_zyyke ac_zyyke Tryz.f39 := ⟨by kernel_rfl, by kernel_rfl⟩

def ac_znvpm : AC := (sr [oo 1 (.box 47 (tp 0)),oo 2 (.mv (.const (.slice none 0 0)))] [1] (.seq (sr [oo 13 (.load (some 13) (tp 1)),oo 14 (.call 42 [tp 13]),oo 15 (.un .not (tp 14))] [1,15] (.cond (tp 15) (sr [oo 2 (.mv (.const (.slice none 0 0)))] [2] .ret) .skip)) (sr [oo 3 (.alloc 94 [.nils])] [1,3] (sr [oo 16 (.mkfn 82 [tp 1,tp 3]),mq 4 16] [1,3,4] (.seq (sr [fi 17 6 1,lq 18 17,oo 19 (.bin .neq (tp 18) (.const (.string ⟨#[]⟩)))] [1,3,4,19] (.cond (tp 19) (.region [mq 20 4,fi 21 6 1,lq 22 21,oo 23 (.build [.pd (.raw (.int .i64 0)),.pd (.raw (.string ⟨#[]⟩)),.pd (.raw (.string ⟨#[]⟩))] [(0,1,ci 1),(2,1,tp 22)]),oo 24 (.callv (tp 20) [tp 23])] (some [1,3,4])) .skip)) (.seq (sr [fi 25 7 1,lq 26 25,oo 27 (.len (tp 26) false),oo 28 (.mv (ci 0))] [1,3,4,26,27,28] (.block 0 (.loop (sr [oo 29 (.bin .lss (tp 28) (tp 27))] [1,3,4,26,27,28,29] (.seq (.cond (tp 29) .skip (.exit 0)) (.seq (.block 1 (sr [oo 30 (.idxA 9 (tp 26) (tp 28)),oo 31 (.load (some 9) (tp 30)),oo 6 (.alloc 122 [.pd (.raw (.string ⟨#[]⟩)),.pd (.raw (.int .i64 0)),.pd (.raw (.bool false)),.pd (.raw (.string ⟨#[]⟩)),.pd (.raw (.int .i64 0)),.pd (.raw (.string ⟨#[]⟩)),.pd (.raw (.string ⟨#[]⟩)),.pd (.raw (.int .i64 0)),.nils]),.mk none none (.store 9 (tp 6) (tp 31))] [1,3,4,6,26,27,28] (sr [fi 32 2 6,lq 33 32] [1,3,4,6,26,27,28,33] (.cond (tp 33) (.region [mq 34 4,fi 35 4 6,oo 36 (.load (some 3) (tp 35)),oo 37 (.callv (tp 34) [tp 36])] (some [1,3,4,26,27,28])) .skip)))) (.region [oo 38 (.bin .add (tp 28) (ci 1)),mq 28 38] (some [1,3,4,26,27,28])))))))) (.seq (sr [fi 39 8 1,lq 40 39,oo 41 (.len (tp 40) false),oo 42 (.mv (ci 0))] [1,3,4,40,41,42] (.block 2 (.loop (sr [oo 43 (.bin .lss (tp 42) (tp 41))] [1,3,4,40,41,42,43] (.seq (.cond (tp 43) .skip (.exit 2)) (.seq (.block 3 (sr [oo 44 (.idxA 4 (tp 40) (tp 42)),oo 45 (.load (some 4) (tp 44)),oo 8 (.alloc 99 [.pd (.raw (.string ⟨#[]⟩)),.pd (.raw (.string ⟨#[]⟩)),.pd (.raw (.string ⟨#[]⟩)),.pd (.raw (.int .i64 0))]),.mk none none (.store 4 (tp 8) (tp 45))] [1,3,4,8,40,41,42] (.region [mq 46 4,fi 47 0 8,lq 48 47,fi 49 1 8,lq 50 49,oo 51 (.build [.pd (.raw (.int .i64 0)),.pd (.raw (.string ⟨#[]⟩)),.pd (.raw (.string ⟨#[]⟩))] [(0,1,ci 5),(1,1,tp 48),(2,1,tp 50)]),oo 52 (.callv (tp 46) [tp 51])] (some [1,3,4,40,41,42])))) (.region [oo 53 (.bin .add (tp 42) (ci 1)),mq 42 53] (some [1,3,4,40,41,42])))))))) (.seq (sr [fi 54 10 1,lq 55 54,oo 56 (.len (tp 55) false),oo 57 (.mv (ci 0))] [1,3,4,55,56,57] (.block 4 (.loop (sr [oo 58 (.bin .lss (tp 57) (tp 56))] [1,3,4,55,56,57,58] (.seq (.cond (tp 58) .skip (.exit 4)) (.seq (.block 5 (sr [oo 59 (.idxA 3 (tp 55) (tp 57)),oo 60 (.load (some 3) (tp 59)),oo 10 (.alloc 104 [.nils,.nils,.nils]),.mk none none (.store 3 (tp 10) (tp 60))] [1,3,4,10,55,56,57] (sr [fi 61 2 10,lq 62 61,oo 63 (.len (tp 62) false),oo 64 (.mv (ci 0))] [1,3,4,55,56,57,62,63,64] (.block 6 (.loop (sr [oo 65 (.bin .lss (tp 64) (tp 63))] [1,3,4,55,56,57,62,63,64,65] (.seq (.cond (tp 65) .skip (.exit 6)) (.seq (.block 7 (sr [oo 66 (.idxA 5 (tp 62) (tp 64)),oo 67 (.load (some 5) (tp 66)),oo 12 (.alloc 106 [.pd (.raw (.int .i64 0)),.pd (.raw (.string ⟨#[]⟩)),.pd (.raw (.string ⟨#[]⟩)),.pd (.raw (.int .i64 0)),.pd (.raw (.int .i64 0))]),.mk none none (.store 5 (tp 12) (tp 67))] [1,3,4,12,55,56,57,62,63,64] (.region [mq 68 4,fi 69 0 12,oo 70 (.load (some 3) (tp 69)),oo 71 (.callv (tp 68) [tp 70])] (some [1,3,4,55,56,57,62,63,64])))) (.region [oo 72 (.bin .add (tp 64) (ci 1)),mq 64 72] (some [1,3,4,55,56,57,62,63,64])))))))))) (.region [oo 73 (.bin .add (tp 57) (ci 1)),mq 57 73] (some [1,3,4,55,56,57])))))))) (.seq (sr [fi 74 0 1,fi 75 0 74,lq 76 75,oo 77 (.bin .eql (tp 76) (ci 6))] [1,3,4,77] (.cond (tp 77) (.region [mq 78 4,fi 79 0 1,fi 80 1 79,lq 81 80,oo 82 (.build [.pd (.raw (.int .i64 0)),.pd (.raw (.string ⟨#[]⟩)),.pd (.raw (.string ⟨#[]⟩))] [(0,1,ci 2),(2,1,tp 81)]),oo 83 (.callv (tp 78) [tp 82])] (some [3])) .skip)) (sr [lq 84 3,oo 85 (.call 83 [tp 84,.func 39])] [3] (sr [lq 86 3,oo 87 (.call 84 [tp 86]),mq 2 87] [2] .ret)))))))))))
def an_znvpm : Ann := ann (List.range 31) ac_znvpm
theorem ok_znvpm : okd Tryz.prog an_znvpm ac_znvpm Tryz.f40 := ⟨by kernel_rfl, by kernel_rfl⟩

def ac_zfwje : AC := (sr [oo 1 (.box 47 (tp 0)),oo 2 (.mv (cq false))] [1] (sr [oo 5 .mkmap,.mk none none (.mset [] (tp 5) (ci 1) (.func 87)),.mk none none (.mset [] (tp 5) (ci 2) (.func 88)),.mk none none (.mset [] (tp 5) (ci 3) (.func 89)),.mk none none (.mset [] (tp 5) (ci 4) (.func 87)),.mk none none (.mset [] (tp 5) (ci 5) (.func 90)),.mk none none (.mset [] (tp 5) (ci 6) (.func 91)),.mk none none (.mset [] (tp 5) (ci 7) (.func 92)),mq 6 5,mq 3 6] [1,3] (sr [oo 7 (.load (some 13) (tp 1)),oo 8 (.build [.pd (.raw (.int .i64 0)),.pd (.raw (.string ⟨#[]⟩)),.pd (.raw (.string ⟨#[]⟩)),.pd (.raw (.bool false)),.nils,.nils,.pd (.raw (.string ⟨#[]⟩)),.nils,.nils,.nils,.nils,.nils,.nils] [(0,13,tp 7)]),oo 9 (.box 160 (tp 8)),mq 4 9] [1,3,4] (.seq (.draw [fi 10 0 1,oo 11 (.load (some 3) (tp 10)),oo 12 (.call 44 [tp 11]),mq 13 12,og 13 true 14 (.mv (tp 3)),og 13 true 15 (.fieldA 0 (tp 1)),og 13 true 16 (.fieldA 0 (tp 15)),og 13 true 17 (.load none (tp 16)),og 13 true 18 (.mget [] .nilFunc (tp 14) (tp 17)),og 13 true 19 (.mv (tp 4)),og 13 true 20 (.callv (tp 18) [tp 19]),oo 21 (.pick (tp 13) (tp 20) (cq false)),mq 22 21,og 22 true 23 (.mv (tp 4)),og 22 true 24 (.ncheck (tp 23)),og 22 true 25 (.fieldA 0 (tp 24)),og 22 true 26 (.load (some 13) (tp 25)),og 22 true 27 (.fieldA 0 (tp 1)),og 22 true 28 (.load (some 3) (tp 27)),og 22 true 29 (.build [.pd (.raw (.int .i64 0)),.pd (.raw (.string ⟨#[]⟩)),.pd (.raw (.string ⟨#[]⟩)),.pd (.raw (.bool false)),.nils,.nils,.pd (.raw (.string ⟨#[]⟩)),.nils,.nils,.nils,.nils,.nils,.nils] [(0,3,tp 28)]),og 22 true 30 (.call 53 [tp 26,tp 29]),oo 31 (.pick (tp 22) (tp 30) (cq false)),mq 2 31] [0,1,3,7,15,15,47,111,255,15,1023,2047,4095,8191,16383,32767,65535,8191,139263,401407,1048575,2097151,4194303] (.take 0 (.take 1 (.alts (.cons 2 true (.take 3 (.take 4 (.take 5 (.take 6 (.take 7 (.take 8 (.take 9 (.alts (.cons 10 true (.take 11 (.take 12 (.take 13 (.take 14 (.take 15 (.take 16 (.take 17 (.take 18 (.take 19 (.alts (.cons 20 true (.take 21 (.take 22 .done)) .nil))))))))))) .nil))))))))) .nil)))) (some [2])) .ret))))
def an_zfwje : Ann := ann (List.range 4) ac_zfwje
theorem ok_zfwje : okd Tryz.prog an_zfwje ac_zfwje Tryz.f42 := ⟨by kernel_rfl, by kernel_rfl⟩

def ac_zkdrf : AC := (sr [oo 1 (.box 35 (tp 0)),oo 2 (.mv (cq false))] [1] (.seq (sr [fi 3 0 1,lq 4 3] [1,4] (.block 0 (sr [oo 6 (.bin .eql (tp 4) (ci 1)),mq 5 6] [1,4,5] (.cond (tp 5) (sr [fi 7 1 1,lq 8 7,oo 9 (.bin .eql (tp 8) (.const (.string ⟨#[]⟩))),mq 10 9,og 10 true 11 (.fieldA 2 (tp 1)),og 10 true 12 (.load none (tp 11)),og 10 true 13 (.call 93 [tp 12]),oo 14 (.pick (tp 10) (tp 13) (cq false)),mq 2 14] [2] .ret) (sr [oo 16 (.bin .eql (tp 4) (ci 2)),mq 15 16] [1,15] (.cond (tp 15) (sr [fi 17 1 1,lq 18 17,oo 19 (.bin .eql (tp 18) (.const (.string ⟨#[]⟩))),mq 20 19,og 20 true 21 (.fieldA 2 (tp 1)),og 20 true 22 (.load none (tp 21)),og 20 true 23 (.call 94 [tp 22]),oo 24 (.pick (tp 20) (tp 23) (cq false)),mq 2 24] [2] .ret) .skip)))))) (sr [fi 25 0 1,lq 26 25,oo 27 (.call 95 [tp 26]),mq 28 27,og 28 true 29 (.fieldA 1 (tp 1)),og 28 true 30 (.load none (tp 29)),og 28 true 31 (.call 94 [tp 30]),oo 32 (.pick (tp 28) (tp 31) (cq false)),mq 33 32,og 33 true 34 (.fieldA 2 (tp 1)),og 33 true 35 (.load none (tp 34)),og 33 true 36 (.call 93 [tp 35]),oo 37 (.pick (tp 33) (tp 36) (cq false)),mq 2 37] [2] .ret)))
def an_zkdrf : Ann := ann (List.range 7) ac_zkdrf
theorem ok_zkdrf : okd Tryz.prog an_zkdrf ac_zkdrf Tryz.f44 := ⟨by kernel_rfl, by kernel_rfl⟩

def ac_zhbvt : AC := (sr [oo 2 (.box 47 (tp 0)),oo 3 (.box 47 (tp 1)),oo 4 (.mv (cq false))] [2,3] (.seq (.block 0 (sr [fi 6 0 2,oo 7 (.load (some 3) (tp 6)),fi 8 0 3,oo 9 (.load (some 3) (tp 8)),oo 10 (.eqs true [.int,.str,.str] (tp 7) (tp 9)),mq 11 10,og 11 false 12 (.fieldA 3 (tp 2)),og 11 false 13 (.load none (tp 12)),og 11 false 14 (.fieldA 3 (tp 3)),og 11 false 15 (.load none (tp 14)),og 11 false 16 (.binB true (tp 13) (tp 15)),oo 17 (.pick (tp 11) (cq true) (tp 16)),mq 18 17,og 18 false 19 (.fieldA 6 (tp 2)),og 18 false 20 (.load none (tp 19)),og 18 false 21 (.fieldA 6 (tp 3)),og 18 false 22 (.load none (tp 21)),og 18 false 23 (.bin .neq (tp 20) (tp 22)),oo 24 (.pick (tp 18) (cq true) (tp 23)),mq 5 24] [2,3,5] (.cond (tp 5) (sr [oo 4 (.mv (cq false))] [4] .ret) (sr [fi 26 4 2,lq 27 26,fi 28 4 3,lq 29 28,oo 30 (.call 99 [tp 27,tp 29]),oo 31 (.un .not (tp 30)),mq 32 31,og 32 false 33 (.fieldA 5 (tp 2)),og 32 false 34 (.load none (tp 33)),og 32 false 35 (.fieldA 5 (tp 3)),og 32 false 36 (.load none (tp 35)),og 32 false 37 (.call 100 [tp 34,tp 36]),og 32 false 38 (.un .not (tp 37)),oo 39 (.pick (tp 32) (cq true) (tp 38)),mq 40 39,og 40 false 41 (.fieldA 9 (tp 2)),og 40 false 42 (.load none (tp 41)),og 40 false 43 (.fieldA 9 (tp 3)),og 40 false 44 (.load none (tp 43)),og 40 false 45 (.call 101 [tp 42,tp 44]),og 40 false 46 (.un .not (tp 45)),oo 47 (.pick (tp 40) (cq true) (tp 46)),mq 25 47] [2,3,25] (.cond (tp 25) (sr [oo 4 (.mv (cq false))] [4] .ret) (sr [fi 49 8 2,lq 50 49,fi 51 8 3,lq 52 51,oo 53 (.call 102 [tp 50,tp 52]),oo 54 (.un .not (tp 53)),mq 55 54,og 55 false 56 (.fieldA 11 (tp 2)),og 55 false 57 (.load none (tp 56)),og 55 false 58 (.fieldA 11 (tp 3)),og 55 false 59 (.load none (tp 58)),og 55 false 60 (.call 103 [tp 57,tp 59]),og 55 false 61 (.un .not (tp 60)),oo 62 (.pick (tp 55) (cq true) (tp 61)),mq 63 62,og 63 false 64 (.fieldA 12 (tp 2)),og 63 false 65 (.load none (tp 64)),og 63 false 66 (.fieldA 12 (tp 3)),og 63 false 67 (.load none (tp 66)),og 63 false 68 (.call 103 [tp 65,tp 67]),og 63 false 69 (.un .not (tp 68)),oo 70 (.pick (tp 63) (cq true) (tp 69)),mq 48 70] [2,3,48] (.cond (tp 48) (sr [oo 4 (.mv (cq false))] [4] .ret) .skip))))))) (sr [fi 71 7 2,lq 72 71,fi 73 7 3,lq 74 73,oo 75 (.call 104 [tp 72,tp 74,.func 105]),mq 76 75,og 76 true 77 (.fieldA 10 (tp 2)),og 76 true 78 (.load none (tp 77)),og 76 true 79 (.fieldA 10 (tp 3)),og 76 true 80 (.load none (tp 79)),og 76 true 81 (.call 106 [tp 78,tp 80,.func 107]),oo 82 (.pick (tp 76) (tp 81) (cq false)),mq 4 82] [4] .ret)))
def an_zhbvt : Ann := ann (List.range 8) ac_zhbvt
theorem ok_zhbvt : okd Tryz.prog an_zhbvt ac_zhbvt Tryz.f53 := ⟨by kernel_rfl, by kernel_rfl⟩

def ac_zeird : AC := (sr [oo 2 (.mv (ci 0))] [0] (sr [oo 3 (.mv (ci 0))] [0,3] (.seq (sr [mq 6 0,oo 7 (.len (tp 6) false),oo 8 (.mv (ci 0))] [3,6,7,8] (.block 0 (.loop (sr [oo 9 (.bin .lss (tp 8) (tp 7))] [3,6,7,8,9] (.seq (.cond (tp 9) .skip (.exit 0)) (.seq (.block 1 (sr [oo 10 (.idxA 1 (tp 6) (tp 8)),lq 11 10,mq 5 11] [3,5,6,7,8] (sr [mq 12 5,mq 13 3,oo 14 (.bin .neq (tp 12) (tp 13))] [3,5,6,7,8,14] (.cond (tp 14) (sr [mq 15 5,mq 2 15] [2] .ret) .skip)))) (.region [oo 16 (.bin .add (tp 8) (ci 1)),mq 8 16] (some [3,6,7,8])))))))) (sr [mq 17 3,mq 2 17] [2] .ret))))
def an_zeird : Ann := ann (List.range 9) ac_zeird
theorem ok_zeird : okd Tryz.prog an_zeird ac_zeird Tryz.f79 := ⟨by kernel_rfl, by kernel_rfl⟩

def ac_zvrbp : AC := (sr [oo 3 (.box 35 (tp 0))] [1,2,3] (.seq (sr [fi 4 1 3,lq 5 4,oo 6 (.bin .eql (tp 5) (.const (.string ⟨#[]⟩))),mq 7 6,og 7 true 8 (.fieldA 0 (tp 3)),og 7 true 9 (.load none (tp 8)),og 7 true 10 (.bin .gtr (tp 9) (ci 2)),oo 11 (.pick (tp 7) (tp 10) (cq false))] [1,2,3,11] (.cond (tp 11) (.region [fi 12 0 1,fi 13 1 12,lq 14 13,fi 15 1 3,.mk none none (.store 1 (tp 15) (tp 14))] (some [2,3])) .skip)) (.region [lq 16 2,oo 17 (.load (some 3) (tp 3)),oo 18 (.bslice 35 3 [tp 17]),oo 19 (.append 35 3 40 (tp 16) (tp 18)),.mk none none (.store 1 (tp 2) (tp 19))] (some []))))
def an_zvrbp : Ann := ann (List.range 4) ac_zvrbp
theorem ok_zvrbp : okd Tryz.prog an_zvrbp ac_zvrbp Tryz.f82 := ⟨by kernel_rfl, by kernel_rfl⟩

def ac_zngfe : AC := (sr [oo 1 (.box 35 (tp 0)),oo 2 (.mv (.const (.string ⟨#[]⟩))),oo 3 (.mv (ci 0))] [1] (.seq (sr [oo 6 (.load (some 3) (tp 1)),oo 7 (.call 44 [tp 6]),oo 8 (.un .not (tp 7))] [1,8] (.cond (tp 8) (sr [oo 2 (.mv (.const (.string ⟨#[]⟩))),oo 3 (.mv (ci 1))] [2,3] .ret) .skip)) (sr [fi 10 1 1,lq 11 10,fi 12 2 1,lq 13 12,oo 14 (.call 123 [tp 11,tp 13]),mq 9 14,oo 15 (.extract (tp 9) 0),oo 16 (.extract (tp 9) 1),mq 4 15,mq 5 16] [1,4,5] (.seq (sr [mq 17 5,oo 18 (.bin .neq (tp 17) (ci 0))] [1,4,5,18] (.cond (tp 18) (sr [mq 19 5,oo 2 (.mv (.const (.string ⟨#[]⟩))),mq 3 19] [2,3] .ret) .skip)) (sr [fi 20 0 1,lq 21 20,oo 22 (.bin .add (ci 48) (tp 21)),oo 23 (.conv .u8 (tp 22)),oo 24 (.bslice 5 1 [tp 23]),oo 25 (.bstr (tp 24)),oo 26 (.bin .add (tp 25) (.const (.string ⟨#[32]⟩))),mq 27 4,oo 28 (.bin .add (tp 26) (tp 27)),mq 2 28,oo 3 (.mv (ci 0))] [2,3] .ret)))))
def an_zngfe : Ann := ann (List.range 7) ac_zngfe
theorem ok_zngfe : okd Tryz.prog an_zngfe ac_zngfe Tryz.f85 := ⟨by kernel_rfl, by kernel_rfl⟩

def ac_zk71m : AC := (sr [oo 2 (.mv (cq false))] [0] (sr [mq 3 0,oo 4 (.ncheck (tp 3)),fi 5 0 4,fi 6 3 5,.mk none none (.store 1 (tp 6) (cq false))] [] (sr [oo 2 (.mv (cq true))] [2] .ret)))
def an_zk71m : Ann := ann (List.range 3) ac_zk71m
theorem ok_zk71m : okd Tryz.prog an_zk71m ac_zk71m Tryz.f87 := ⟨by kernel_rfl, by kernel_rfl⟩

def ac_zag3z : AC := (sr [oo 2 (.mv (cq false))] [0] (sr [mq 4 0,oo 5 (.ncheck (tp 4)),fi 6 0 5,fi 7 4 6,lq 8 7,mq 3 8] [0,3] (sr [mq 9 0,oo 10 (.ncheck (tp 9)),fi 11 0 10,fi 12 4 11,.mk none none (.store 1 (tp 12) (.const (.slice none 0 0)))] [3] (sr [mq 13 3,oo 14 (.call 124 [tp 13]),mq 2 14] [2] .ret))))
def an_zag3z : Ann := ann (List.range 4) ac_zag3z
theorem ok_zag3z : okd Tryz.prog an_zag3z ac_zag3z Tryz.f88 := ⟨by kernel_rfl, by kernel_rfl⟩

def ac_zxlfl : AC := (sr [oo 2 (.mv (cq false))] [0] (sr [mq 4 0,oo 5 (.ncheck (tp 4)),fi 6 0 5,fi 7 5 6,lq 8 7,mq 3 8] [0,3] (sr [mq 9 0,oo 10 (.ncheck (tp 9)),fi 11 0 10,fi 12 5 11,.mk none none (.store 1 (tp 12) (.const (.slice none 0 0)))] [3] (sr [mq 13 3,oo 14 (.len (tp 13) false),oo 15 (.bin .gtr (tp 14) (ci 0)),mq 16 15,og 16 true 17 (.mv (tp 3)),og 16 true 18 (.call 125 [tp 17,ci 8,.func 126]),oo 19 (.pick (tp 16) (tp 18) (cq false)),mq 20 19,og 20 true 21 (.mv (tp 3)),og 20 true 22 (.call 127 [tp 21]),oo 23 (.pick (tp 20) (tp 22) (cq false)),mq 24 23,og 24 true 25 (.mv (tp 3)),og 24 true 26 (.call 128 [tp 25,.func 129]),og 24 true 27 (.un .not (tp 26)),oo 28 (.pick (tp 24) (tp 27) (cq false)),mq 2 28] [2] .ret))))
def an_zxlfl : Ann := ann (List.range 4) ac_zxlfl
theorem ok_zxlfl : okd Tryz.prog an_zxlfl ac_zxlfl Tryz.f89 := ⟨by kernel_rfl, by kernel_rfl⟩

def ac_zqquk : AC := (sr [oo 2 (.mv (cq false))] [0] (.seq (.draw [mq 6 0,oo 7 (.ncheck (tp 6)),fi 8 0 7,fi 9 7 8,lq 10 9,mq 11 0,oo 12 (.ncheck (tp 11)),fi 13 0 12,fi 14 6 13,lq 15 14,mq 3 10,mq 4 15] [0,1,3,7,15,0,32,96,224,480,31,2047] (.take 0 (.take 1 (.take 2 (.take 3 (.take 4 (.take 5 (.take 6 (.take 7 (.take 8 (.take 9 (.take 10 (.take 11 .done)))))))))))) (some [0,3,4])) (sr [mq 16 0,mq 17 0,oo 18 (.ncheck (tp 16)),fi 19 0 18,fi 20 7 19,.mk none none (.store 1 (tp 20) (.const (.slice none 0 0))),oo 21 (.ncheck (tp 17)),fi 22 0 21,fi 23 6 22,.mk none none (.store 1 (tp 23) (.const (.string ⟨#[]⟩)))] [3,4] (sr [oo 5 (.mv (.func 130))] [3,4,5] (sr [mq 24 4,oo 25 (.call 93 [tp 24]),mq 26 25,og 26 true 27 (.mv (tp 3)),og 26 true 28 (.len (tp 27) false),og 26 true 29 (.bin .gtr (tp 28) (ci 0)),oo 30 (.pick (tp 26) (tp 29) (cq false)),mq 31 30,og 31 true 32 (.mv (tp 3)),og 31 true 33 (.call 131 [tp 32,ci 8,.func 132]),oo 34 (.pick (tp 31) (tp 33) (cq false)),mq 35 34,og 35 true 36 (.mv (tp 3)),og 35 true 37 (.mv (tp 5)),og 35 true 38 (.call 133 [tp 36,tp 37]),og 35 true 39 (.un .not (tp 38)),oo 40 (.pick (tp 35) (tp 39) (cq false)),mq 2 40] [2] .ret)))))
def an_zqquk : Ann := ann (List.range 5) ac_zqquk
theorem ok_zqquk : okd Tryz.prog an_zqquk ac_zqquk Tryz.f90 := ⟨by kernel_rfl, by kernel_rfl⟩

def ac_ztpho : AC := (sr [oo 2 (.mv (cq false))] [0] (.seq (.draw [mq 7 0,oo 8 (.ncheck (tp 7)),fi 9 0 8,fi 10 8 9,lq 11 10,mq 12 0,oo 13 (.ncheck (tp 12)),fi 14 0 13,fi 15 9 14,lq 16 15,mq 17 0,oo 18 (.ncheck (tp 17)),fi 19 0 18,fi 20 10 19,lq 21 20,mq 3 11,mq 4 16,mq 5 21] [0,1,3,7,15,0,32,96,224,480,0,1024,3072,7168,15360,31,33791,131071] (.take 0 (.take 1 (.take 2 (.take 3 (.take 4 (.take 5 (.take 6 (.take 7 (.take 8 (.take 9 (.take 10 (.take 11 (.take 12 (.take 13 (.take 14 (.take 15 (.take 16 (.take 17 .done)))))))))))))))))) (some [0,3,4,5])) (sr [mq 22 0,mq 23 0,mq 24 0,oo 25 (.ncheck (tp 22)),fi 26 0 25,fi 27 8 26,.mk none none (.store 1 (tp 27) (.const (.slice none 0 0))),oo 28 (.ncheck (tp 23)),fi 29 0 28,fi 30 9 29,.mk none none (.store 1 (tp 30) (.const (.slice none 0 0))),oo 31 (.ncheck (tp 24)),fi 32 0 31,fi 33 10 32,.mk none none (.store 1 (tp 33) (.const (.slice none 0 0)))] [3,4,5] (.seq (sr [mq 34 3,oo 35 (.call 134 [tp 34,.func 135]),mq 36 35,og 36 false 37 (.mv (tp 4)),og 36 false 38 (.call 136 [tp 37,.func 137]),oo 39 (.pick (tp 36) (cq true) (tp 38))] [3,4,5,39] (.cond (tp 39) (sr [oo 2 (.mv (cq false))] [2] .ret) .skip)) (sr [oo 6 (.mv (.func 138))] [3,4,5,6] (sr [mq 40 3,oo 41 (.call 140 [tp 40,ci 4,.func 141]),mq 42 41,og 42 true 43 (.mv (tp 4)),og 42 true 44 (.mv (tp 6)),og 42 true 45 (.call 142 [tp 43,ci 4,tp 44]),oo 46 (.pick (tp 42) (tp 45) (cq false)),mq 47 46,og 47 true 48 (.mv (tp 5)),og 47 true 49 (.call 143 [tp 48,ci 6,.func 144]),oo 50 (.pick (tp 47) (tp 49) (cq false)),mq 2 50] [2] .ret))))))
def an_ztpho : Ann := ann (List.range 7) ac_ztpho
theorem ok_ztpho : okd Tryz.prog an_ztpho ac_ztpho Tryz.f91 := ⟨by kernel_rfl, by kernel_rfl⟩

def ac_zlbax : AC := (sr [oo 2 (.mv (cq false))] [0] (.seq (.draw [mq 7 0,oo 8 (.ncheck (tp 7)),fi 9 0 8,fi 10 11 9,lq 11 10,mq 12 0,oo 13 (.ncheck (tp 12)),fi 14 0 13,fi 15 12 14,lq 16 15,mq 3 11,mq 4 16] [0,1,3,7,15,0,32,96,224,480,31,2047] (.take 0 (.take 1 (.take 2 (.take 3 (.take 4 (.take 5 (.take 6 (.take 7 (.take 8 (.take 9 (.take 10 (.take 11 .done)))))))))))) (some [0,3,4])) (sr [mq 17 0,mq 18 0,oo 19 (.ncheck (tp 17)),fi 20 0 19,fi 21 11 20,.mk none none (.store 1 (tp 21) (.const (.slice none 0 0))),oo 22 (.ncheck (tp 18)),fi 23 0 22,fi 24 12 23,.mk none none (.store 1 (tp 24) (.const (.slice none 0 0)))] [3,4] (sr [oo 5 (.mv (.func 145))] [3,4,5] (sr [oo 6 (.mv (.func 146))] [3,4,5,6] (sr [mq 25 3,oo 26 (.len (tp 25) false),oo 27 (.bin .gtr (tp 26) (ci 0)),mq 28 27,og 28 true 29 (.mv (tp 4)),og 28 true 30 (.len (tp 29) false),og 28 true 31 (.bin .gtr (tp 30) (ci 0)),oo 32 (.pick (tp 28) (tp 31) (cq false)),mq 33 32,og 33 true 34 (.mv (tp 3)),og 33 true 35 (.mv (tp 5)),og 33 true 36 (.call 147 [tp 34,ci 4,tp 35]),oo 37 (.pick (tp 33) (tp 36) (cq false)),mq 38 37,og 38 true 39 (.mv (tp 4)),og 38 true 40 (.mv (tp 6)),og 38 true 41 (.call 147 [tp 39,ci 4,tp 40]),oo 42 (.pick (tp 38) (tp 41) (cq false)),mq 2 42] [2] .ret))))))
def an_zlbax : Ann := ann (List.range 6) ac_zlbax
theorem ok_zlbax : okd Tryz.prog an_zlbax ac_zlbax Tryz.f92 := ⟨by kernel_rfl, by kernel_rfl⟩

def ac_zavnu : AC := (sr [oo 2 (.mv (cq false))] [0] (sr [mq 3 0,oo 4 (.bin .geq (tp 3) (ci 1)),mq 5 4,og 5 true 6 (.mv (tp 0)),og 5 true 7 (.bin .leq (tp 6) (ci 7)),oo 8 (.pick (tp 5) (tp 7) (cq false)),mq 2 8] [2] .ret))
def an_zavnu : Ann := ann (List.range 2) ac_zavnu
theorem ok_zavnu : okd Tryz.prog an_zavnu ac_zavnu Tryz.f95 := ⟨by kernel_rfl, by kernel_rfl⟩

def ac_z1fwi : AC := (sr [oo 2 (.box 122 (tp 0)),oo 3 (.box 122 (tp 1)),oo 4 (.mv (cq false))] [2,3] (sr [fi 5 0 2,lq 6 5,fi 7 0 3,lq 8 7,oo 9 (.bin .eql (tp 6) (tp 8)),mq 10 9,og 10 true 11 (.fieldA 1 (tp 2)),og 10 true 12 (.load none (tp 11)),og 10 true 13 (.fieldA 1 (tp 3)),og 10 true 14 (.load none (tp 13)),og 10 true 15 (.bin .eql (tp 12) (tp 14)),oo 16 (.pick (tp 10) (tp 15) (cq false)),mq 17 16,og 17 true 18 (.fieldA 2 (tp 2)),og 17 true 19 (.load none (tp 18)),og 17 true 20 (.fieldA 2 (tp 3)),og 17 true 21 (.load none (tp 20)),og 17 true 22 (.binB false (tp 19) (tp 21)),oo 23 (.pick (tp 17) (tp 22) (cq false)),mq 24 23,og 24 true 25 (.fieldA 3 (tp 2)),og 24 true 26 (.load none (tp 25)),og 24 true 27 (.fieldA 3 (tp 3)),og 24 true 28 (.load none (tp 27)),og 24 true 29 (.bin .eql (tp 26) (tp 28)),oo 30 (.pick (tp 24) (tp 29) (cq false)),mq 31 30,og 31 true 32 (.fieldA 4 (tp 2)),og 31 true 33 (.load (some 3) (tp 32)),og 31 true 34 (.fieldA 4 (tp 3)),og 31 true 35 (.load (some 3) (tp 34)),og 31 true 36 (.eqs false [.int,.str,.str] (tp 33) (tp 35)),oo 37 (.pick (tp 31) (tp 36) (cq false)),mq 38 37,og 38 true 39 (.fieldA 7 (tp 2)),og 38 true 40 (.load none (tp 39)),og 38 true 41 (.fieldA 7 (tp 3)),og 38 true 42 (.load none (tp 41)),og 38 true 43 (.bin .eql (tp 40) (tp 42)),oo 44 (.pick (tp 38) (tp 43) (cq false)),mq 45 44,og 45 true 46 (.fieldA 8 (tp 2)),og 45 true 47 (.load none (tp 46)),og 45 true 48 (.fieldA 8 (tp 3)),og 45 true 49 (.load none (tp 48)),og 45 true 50 (.call 152 [tp 47,tp 49]),oo 51 (.pick (tp 45) (tp 50) (cq false)),mq 4 51] [4] .ret))
def an_z1fwi : Ann := ann (List.range 2) ac_z1fwi
theorem ok_z1fwi : okd Tryz.prog an_z1fwi ac_z1fwi Tryz.f105 := ⟨by kernel_rfl, by kernel_rfl⟩

def ac_z30xg : AC := (sr [oo 2 (.box 104 (tp 0)),oo 3 (.box 104 (tp 1)),oo 4 (.mv (cq false))] [2,3] (sr [fi 5 0 2,lq 6 5,fi 7 0 3,lq 8 7,oo 9 (.call 153 [tp 6,tp 8,.func 154]),mq 10 9,og 10 true 11 (.fieldA 1 (tp 2)),og 10 true 12 (.load none (tp 11)),og 10 true 13 (.fieldA 1 (tp 3)),og 10 true 14 (.load none (tp 13)),og 10 true 15 (.call 155 [tp 12,tp 14]),oo 16 (.pick (tp 10) (tp 15) (cq false)),mq 17 16,og 17 true 18 (.fieldA 2 (tp 2)),og 17 true 19 (.load none (tp 18)),og 17 true 20 (.fieldA 2 (tp 3)),og 17 true 21 (.load none (tp 20)),og 17 true 22 (.call 156 [tp 19,tp 21]),oo 23 (.pick (tp 17) (tp 22) (cq false)),mq 4 23] [4] .ret))
def an_z30xg : Ann := ann (List.range 2) ac_z30xg
theorem ok_z30xg : okd Tryz.prog an_z30xg ac_z30xg Tryz.f107 := ⟨by kernel_rfl, by kernel_rfl⟩

def ac_zkuzu : AC := (sr [oo 2 (.mv (cq false))] [0] (sr [mq 3 0,mq 4 0,oo 5 (.bin .neq (tp 3) (tp 4)),mq 2 5] [2] .ret))
def an_zkuzu : Ann := ann (List.range 2) ac_zkuzu
theorem ok_zkuzu : okd Tryz.prog an_zkuzu ac_zkuzu Tryz.f119 := ⟨by kernel_rfl, by kernel_rfl⟩

def ac_znt9b : AC := (sr [oo 2 (.mv (cq false))] [0] (sr [mq 3 0,oo 4 (.bin .geq (tp 3) (ci 1)),mq 5 4,og 5 true 6 (.mv (tp 0)),og 5 true 7 (.bin .leq (tp 6) (ci 65535)),oo 8 (.pick (tp 5) (tp 7) (cq false)),mq 2 8] [2] .ret))
def an_znt9b : Ann := ann (List.range 2) ac_znt9b
theorem ok_znt9b : okd Tryz.prog an_znt9b ac_znt9b Tryz.f126 := ⟨by kernel_rfl, by kernel_rfl⟩

def ac_zwdgh : AC := (sr [oo 4 (.mv (cq false))] [0,1] (sr [mq 5 0,mq 6 1,oo 7 (.bin .eql (tp 5) (tp 6)),mq 4 7] [4] .ret))
def an_zwdgh : Ann := ann (List.range 2) ac_zwdgh
theorem ok_zwdgh : okd Tryz.prog an_zwdgh ac_zwdgh Tryz.f129 := ⟨by kernel_rfl, by kernel_rfl⟩

def ac_zpej9 : AC := (sr [oo 2 (.box 122 (tp 0)),oo 3 (.box 122 (tp 1)),oo 4 (.mv (cq false))] [2,3] (sr [fi 5 0 2,lq 6 5,fi 7 0 3,lq 8 7,oo 9 (.bin .eql (tp 6) (tp 8)),mq 4 9] [4] .ret))
def an_zpej9 : Ann := ann (List.range 2) ac_zpej9
theorem ok_zpej9 : okd Tryz.prog an_zpej9 ac_zpej9 Tryz.f130 := ⟨by kernel_rfl, by kernel_rfl⟩

def ac_z5xl6 : AC := (sr [oo 1 (.box 122 (tp 0)),oo 2 (.mv (cq false))] [1] (sr [fi 4 4 1,oo 5 (.load (some 3) (tp 4)),oo 6 (.build [.pd (.raw (.int .i64 0)),.pd (.raw (.string ⟨#[]⟩)),.pd (.raw (.string ⟨#[]⟩))] []),oo 7 (.eqs false [.int,.str,.str] (tp 5) (tp 6)),mq 3 7] [1,3] (.seq (sr [fi 8 2 1,lq 9 8] [1,3,9] (.cond (tp 9) (.region [fi 10 4 1,fi 11 0 10,lq 12 11,oo 13 (.bin .eql (tp 12) (ci 4)),mq 14 13,og 14 true 15 (.fieldA 4 (tp 1)),og 14 true 16 (.fieldA 1 (tp 15)),og 14 true 17 (.load none (tp 16)),og 14 true 18 (.call 181 [tp 17]),oo 19 (.pick (tp 14) (tp 18) (cq false)),mq 20 19,og 20 true 21 (.fieldA 4 (tp 1)),og 20 true 22 (.fieldA 2 (tp 21)),og 20 true 23 (.load none (tp 22)),og 20 true 24 (.call 93 [tp 23]),oo 25 (.pick (tp 20) (tp 24) (cq false)),mq 3 25] (some [1,3])) .skip)) (sr [mq 26 3,mq 27 26,og 27 true 28 (.fieldA 0 (tp 1)),og 27 true 29 (.load none (tp 28)),og 27 true 30 (.call 94 [tp 29]),oo 31 (.pick (tp 27) (tp 30) (cq false)),mq 32 31,og 32 true 33 (.fieldA 1 (tp 1)),og 32 true 34 (.load none (tp 33)),og 32 true 35 (.call 126 [tp 34]),oo 36 (.pick (tp 32) (tp 35) (cq false)),mq 37 36,og 37 true 38 (.fieldA 3 (tp 1)),og 37 true 39 (.load none (tp 38)),og 37 true 40 (.call 139 [tp 39]),oo 41 (.pick (tp 37) (tp 40) (cq false)),mq 42 41,og 42 true 43 (.fieldA 7 (tp 1)),og 42 true 44 (.load none (tp 43)),og 42 true 45 (.bin .geq (tp 44) (ci 0)),oo 46 (.pick (tp 42) (tp 45) (cq false)),mq 47 46,og 47 true 48 (.fieldA 7 (tp 1)),og 47 true 49 (.load none (tp 48)),og 47 true 50 (.bin .leq (tp 49) (ci 2)),oo 51 (.pick (tp 47) (tp 50) (cq false)),mq 52 51,og 52 true 53 (.fieldA 8 (tp 1)),og 52 true 54 (.load none (tp 53)),og 52 true 55 (.call 182 [tp 54]),oo 56 (.pick (tp 52) (tp 55) (cq false)),mq 57 56,og 57 true 58 (.fieldA 7 (tp 1)),og 57 true 59 (.load none (tp 58)),og 57 true 60 (.bin .eql (tp 59) (ci 2)),og 57 true 61 (.mv (tp 60)),og 61 false 62 (.fieldA 8 (tp 1)),og 61 false 63 (.load none (tp 62)),og 61 false 64 (.len (tp 63) false),og 61 false 65 (.bin .eql (tp 64) (ci 0)),og 57 true 66 (.pick (tp 61) (cq true) (tp 65)),oo 67 (.pick (tp 57) (tp 66) (cq false)),mq 2 67] [2] .ret))))
def an_z5xl6 : Ann := ann (List.range 5) ac_z5xl6
theorem ok_z5xl6 : okd Tryz.prog an_z5xl6 ac_z5xl6 Tryz.f132 := ⟨by kernel_rfl, by kernel_rfl⟩

def ac_zh5vi : AC := (sr [oo 2 (.box 99 (tp 0)),oo 3 (.box 99 (tp 1)),oo 4 (.mv (cq false))] [2,3] (sr [oo 5 (.load (some 4) (tp 2)),oo 6 (.load (some 4) (tp 3)),oo 7 (.eqs false [.str,.str,.str,.int] (tp 5) (tp 6)),mq 4 7] [4] .ret))
def an_zh5vi : Ann := ann (List.range 2) ac_zh5vi
theorem ok_zh5vi : okd Tryz.prog an_zh5vi ac_zh5vi Tryz.f135 := ⟨by kernel_rfl, by kernel_rfl⟩

def ac_zkpqc : AC := (sr [oo 4 (.mv (cq false))] [0,1] (sr [mq 5 0,mq 6 1,oo 7 (.bin .eql (tp 5) (tp 6)),mq 4 7] [4] .ret))
def an_zkpqc : Ann := ann (List.range 2) ac_zkpqc
theorem ok_zkpqc : okd Tryz.prog an_zkpqc ac_zkpqc Tryz.f137 := ⟨by kernel_rfl, by kernel_rfl⟩

def ac_z4pg2 : AC := (sr [oo 2 (.mv (cq false))] [0] (sr [mq 3 0,oo 4 (.bin .neq (tp 3) (.const (.string ⟨#[]⟩))),mq 5 4,og 5 true 6 (.mv (tp 0)),og 5 true 7 (.call 139 [tp 6]),oo 8 (.pick (tp 5) (tp 7) (cq false)),mq 2 8] [2] .ret))
def an_z4pg2 : Ann := ann (List.range 2) ac_z4pg2
theorem ok_z4pg2 : okd Tryz.prog an_z4pg2 ac_z4pg2 Tryz.f138 := ⟨by kernel_rfl, by kernel_rfl⟩

def ac_za0y7 : AC := (sr [oo 1 (.box 99 (tp 0)),oo 2 (.mv (cq false))] [1] (sr [fi 3 0 1,lq 4 3,oo 5 (.call 181 [tp 4]),mq 6 5,og 6 true 7 (.fieldA 1 (tp 1)),og 6 true 8 (.load none (tp 7)),og 6 true 9 (.call 93 [tp 8]),oo 10 (.pick (tp 6) (tp 9) (cq false)),mq 11 10,og 11 true 12 (.fieldA 2 (tp 1)),og 11 true 13 (.load none (tp 12)),og 11 true 14 (.call 181 [tp 13]),oo 15 (.pick (tp 11) (tp 14) (cq false)),mq 16 15,og 16 true 17 (.fieldA 3 (tp 1)),og 16 true 18 (.load none (tp 17)),og 16 true 19 (.bin .eql (tp 18) (ci 0)),og 16 true 20 (.mv (tp 19)),og 20 false 21 (.fieldA 3 (tp 1)),og 20 false 22 (.load none (tp 21)),og 20 false 23 (.call 126 [tp 22]),og 16 true 24 (.pick (tp 20) (cq true) (tp 23)),oo 25 (.pick (tp 16) (tp 24) (cq false)),mq 2 25] [2] .ret))
def an_za0y7 : Ann := ann (List.range 2) ac_za0y7
theorem ok_za0y7 : okd Tryz.prog an_za0y7 ac_za0y7 Tryz.f141 := ⟨by kernel_rfl, by kernel_rfl⟩

def ac_zjms9 : AC := (sr [oo 1 (.box 104 (tp 0)),oo 2 (.mv (cq false))] [1] (sr [fi 3 0 1,lq 4 3,oo 5 (.call 193 [tp 4,ci 4,.func 194]),mq 6 5,og 6 true 7 (.fieldA 1 (tp 1)),og 6 true 8 (.load none (tp 7)),og 6 true 9 (.call 195 [tp 8]),oo 10 (.pick (tp 6) (tp 9) (cq false)),mq 11 10,og 11 true 12 (.fieldA 2 (tp 1)),og 11 true 13 (.load none (tp 12)),og 11 true 14 (.call 196 [tp 13,ci 4,.func 197]),oo 15 (.pick (tp 11) (tp 14) (cq false)),mq 2 15] [2] .ret))
def an_zjms9 : Ann := ann (List.range 2) ac_zjms9
theorem ok_zjms9 : okd Tryz.prog an_zjms9 ac_zjms9 Tryz.f144 := ⟨by kernel_rfl, by kernel_rfl⟩

def ac_z9wz0 : AC := (sr [oo 1 (.box 142 (tp 0)),oo 2 (.mv (cq false))] [1] (sr [fi 3 0 1,lq 4 3,oo 5 (.call 95 [tp 4]),mq 6 5,og 6 true 7 (.fieldA 1 (tp 1)),og 6 true 8 (.load none (tp 7)),og 6 true 9 (.call 94 [tp 8]),oo 10 (.pick (tp 6) (tp 9) (cq false)),mq 11 10,og 11 true 12 (.fieldA 2 (tp 1)),og 11 true 13 (.load none (tp 12)),og 11 true 14 (.bin .eql (tp 13) (.const (.string ⟨#[]⟩))),oo 15 (.pick (tp 11) (tp 14) (cq false)),mq 2 15] [2] .ret))
def an_z9wz0 : Ann := ann (List.range 2) ac_z9wz0
theorem ok_z9wz0 : okd Tryz.prog an_z9wz0 ac_z9wz0 Tryz.f145 := ⟨by kernel_rfl, by kernel_rfl⟩

def ac_z4xw6 : AC := (sr [oo 1 (.box 142 (tp 0)),oo 2 (.mv (cq false))] [1] (sr [fi 3 0 1,lq 4 3,oo 5 (.call 95 [tp 4]),mq 6 5,og 6 true 7 (.fieldA 1 (tp 1)),og 6 true 8 (.load none (tp 7)),og 6 true 9 (.bin .eql (tp 8) (.const (.string ⟨#[]⟩))),oo 10 (.pick (tp 6) (tp 9) (cq false)),mq 11 10,og 11 true 12 (.fieldA 2 (tp 1)),og 11 true 13 (.load none (tp 12)),og 11 true 14 (.bin .eql (tp 13) (.const (.string ⟨#[]⟩))),og 11 true 15 (.mv (tp 14)),og 15 false 16 (.fieldA 2 (tp 1)),og 15 false 17 (.load none (tp 16)),og 15 false 18 (.call 93 [tp 17]),og 11 true 19 (.pick (tp 15) (cq true) (tp 18)),oo 20 (.pick (tp 11) (tp 19) (cq false)),mq 2 20] [2] .ret))
def an_z4xw6 : Ann := ann (List.range 2) ac_z4xw6
theorem ok_z4xw6 : okd Tryz.prog an_z4xw6 ac_z4xw6 Tryz.f146 := ⟨by kernel_rfl, by kernel_rfl⟩

def ac_zx2gm : AC := (sr [oo 4 (.mv (cq false))] [0,1] (sr [mq 5 0,mq 6 1,oo 7 (.call 202 [tp 5,tp 6,.func 203]),mq 4 7] [4] .ret))
def an_zx2gm : Ann := ann (List.range 2) ac_zx2gm
theorem ok_zx2gm : okd Tryz.prog an_zx2gm ac_zx2gm Tryz.f152 := ⟨by kernel_rfl, by kernel_rfl⟩

def ac_zb37x : AC := (sr [oo 2 (.box 128 (tp 0)),oo 3 (.box 128 (tp 1)),oo 4 (.mv (cq false))] [2,3] (sr [fi 5 0 2,oo 6 (.load (some 2) (tp 5)),fi 7 0 3,oo 8 (.load (some 2) (tp 7)),oo 9 (.eqs false [.int,.str] (tp 6) (tp 8)),mq 10 9,og 10 true 11 (.fieldA 2 (tp 2)),og 10 true 12 (.load none (tp 11)),og 10 true 13 (.fieldA 2 (tp 3)),og 10 true 14 (.load none (tp 13)),og 10 true 15 (.bin .eql (tp 12) (tp 14)),oo 16 (.pick (tp 10) (tp 15) (cq false)),mq 17 16,og 17 true 18 (.fieldA 3 (tp 2)),og 17 true 19 (.load none (tp 18)),og 17 true 20 (.fieldA 3 (tp 3)),og 17 true 21 (.load none (tp 20)),og 17 true 22 (.call 99 [tp 19,tp 21]),oo 23 (.pick (tp 17) (tp 22) (cq false)),mq 24 23,og 24 true 25 (.fieldA 4 (tp 2)),og 24 true 26 (.load none (tp 25)),og 24 true 27 (.fieldA 4 (tp 3)),og 24 true 28 (.load none (tp 27)),og 24 true 29 (.call 99 [tp 26,tp 28]),oo 30 (.pick (tp 24) (tp 29) (cq false)),mq 4 30] [4] .ret))
def an_zb37x : Ann := ann (List.range 2) ac_zb37x
theorem ok_zb37x : okd Tryz.prog an_zb37x ac_zb37x Tryz.f154 := ⟨by kernel_rfl, by kernel_rfl⟩

def ac_zte1c : AC := (sr [oo 4 (.mv (cq false))] [0,1] (sr [mq 5 0,oo 6 (.call 119 [tp 5]),mq 7 6,og 7 true 8 (.mv (tp 1)),og 7 true 9 (.call 119 [tp 8]),og 7 true 10 (.un .not (tp 9)),oo 11 (.pick (tp 7) (tp 10) (cq false)),mq 12 11,og 12 false 13 (.mv (tp 0)),og 12 false 14 (.mv (tp 1)),og 12 false 15 (.bin .lss (tp 13) (tp 14)),oo 16 (.pick (tp 12) (cq true) (tp 15)),mq 4 16] [4] .ret))
def an_zte1c : Ann := ann (List.range 2) ac_zte1c
theorem ok_zte1c : okd Tryz.prog an_zte1c ac_zte1c Tryz.f177 := ⟨by kernel_rfl, by kernel_rfl⟩

def ac_ztrsy : AC := (sr [oo 2 (.mv (cq false))] [0] (sr [mq 3 0,oo 4 (.bin .eql (tp 3) (.const (.string ⟨#[]⟩))),mq 5 4,og 5 false 6 (.mv (tp 0)),og 5 false 7 (.call 94 [tp 6]),oo 8 (.pick (tp 5) (cq true) (tp 7)),mq 2 8] [2] .ret))
def an_ztrsy : Ann := ann (List.range 2) ac_ztrsy
theorem ok_ztrsy : okd Tryz.prog an_ztrsy ac_ztrsy Tryz.f181 := ⟨by kernel_rfl, by kernel_rfl⟩

def ac_zlask : AC := (sr [oo 2 (.mv (cq false))] [0] (sr [mq 3 0,oo 4 (.len (tp 3) false),oo 5 (.bin .leq (tp 4) (ci 8)),mq 6 5,og 6 true 7 (.mv (tp 0)),og 6 true 8 (.call 215 [tp 7,.func 216]),og 6 true 9 (.un .not (tp 8)),oo 10 (.pick (tp 6) (tp 9) (cq false)),mq 2 10] [2] .ret))
def an_zlask : Ann := ann (List.range 2) ac_zlask
theorem ok_zlask : okd Tryz.prog an_zlask ac_zlask Tryz.f182 := ⟨by kernel_rfl, by kernel_rfl⟩

def ac_zi87h : AC := (sr [oo 1 (.box 128 (tp 0)),oo 2 (.mv (cq false))] [1] (sr [oo 3 (.mv (.func 224))] [1,3] (.seq (.block 0 (sr [fi 5 0 1,oo 6 (.load (some 2) (tp 5)),oo 7 (.call 227 [tp 6]),oo 8 (.un .not (tp 7)),mq 9 8,og 9 false 10 (.fieldA 2 (tp 1)),og 9 false 11 (.load none (tp 10)),og 9 false 12 (.bin .neq (tp 11) (.const (.string ⟨#[]⟩))),og 9 false 13 (.mv (tp 12)),og 13 true 14 (.fieldA 2 (tp 1)),og 13 true 15 (.load none (tp 14)),og 13 true 16 (.call 228 [tp 15]),og 13 true 17 (.un .not (tp 16)),og 9 false 18 (.pick (tp 13) (tp 17) (cq false)),oo 19 (.pick (tp 9) (cq true) (tp 18)),mq 4 19] [1,3,4] (.cond (tp 4) (sr [oo 2 (.mv (cq false))] [2] .ret) (sr [fi 21 3 1,lq 22 21,oo 23 (.len (tp 22) false),oo 24 (.bin .gtr (tp 23) (ci 8)),mq 25 24,og 25 false 26 (.fieldA 3 (tp 1)),og 25 false 27 (.load none (tp 26)),og 25 false 28 (.mv (tp 3)),og 25 false 29 (.call 229 [tp 27,tp 28]),oo 30 (.pick (tp 25) (cq true) (tp 29)),mq 31 30,og 31 false 32 (.fieldA 3 (tp 1)),og 31 false 33 (.load none (tp 32)),og 31 false 34 (.call 230 [tp 33,.func 231]),oo 35 (.pick (tp 31) (cq true) (tp 34)),mq 20 35] [1,20] (.cond (tp 20) (sr [oo 2 (.mv (cq false))] [2] .ret) .skip))))) (sr [fi 36 4 1,lq 37 36,oo 38 (.len (tp 37) false),oo 39 (.bin .leq (tp 38) (ci 8)),mq 40 39,og 40 true 41 (.fieldA 4 (tp 1)),og 40 true 42 (.load none (tp 41)),og 40 true 43 (.call 232 [tp 42]),oo 44 (.pick (tp 40) (tp 43) (cq false)),mq 45 44,og 45 true 46 (.fieldA 4 (tp 1)),og 45 true 47 (.load none (tp 46)),og 45 true 48 (.call 230 [tp 47,.func 233]),og 45 true 49 (.un .not (tp 48)),oo 50 (.pick (tp 45) (tp 49) (cq false)),mq 2 50] [2] .ret))))
def an_zi87h : Ann := ann (List.range 7) ac_zi87h
theorem ok_zi87h : okd Tryz.prog an_zi87h ac_zi87h Tryz.f194 := ⟨by kernel_rfl, by kernel_rfl⟩

def ac_zhmnj : AC := (sr [oo 2 (.mv (cq false))] [0] (.seq (sr [mq 6 0,oo 7 (.len (tp 6) false),oo 8 (.mv (ci 0))] [0,6,7,8] (.block 0 (.loop (sr [oo 9 (.bin .lss (tp 8) (tp 7))] [0,6,7,8,9] (.seq (.cond (tp 9) .skip (.exit 0)) (.seq (.block 1 (sr [mq 10 8,oo 11 (.idxA 8 (tp 6) (tp 8)),oo 12 (.load (some 8) (tp 11)),oo 4 (.alloc 176 [.pd (.raw (.int .i64 0)),.pd (.raw (.string ⟨#[]⟩)),.pd (.raw (.string ⟨#[]⟩)),.pd (.raw (.string ⟨#[]⟩)),.pd (.raw (.int .i64 0)),.pd (.raw (.string ⟨#[]⟩)),.pd (.raw (.bool false)),.pd (.raw (.int .i64 0))]),mq 3 10,.mk none none (.store 8 (tp 4) (tp 12))] [0,3,4,6,7,8] (sr [oo 13 (.mkfn 234 [tp 4]),mq 5 13] [0,3,4,5,6,7,8] (sr [oo 14 (.load (some 8) (tp 4)),oo 15 (.call 236 [tp 14]),oo 16 (.un .not (tp 15)),mq 17 16,og 17 false 18 (.mv (tp 0)),og 17 false 19 (.mv (tp 3)),og 17 false 20 (.slcL 8 (tp 18) none (some (tp 19))),og 17 false 21 (.mv (tp 5)),og 17 false 22 (.call 237 [tp 20,tp 21]),oo 23 (.pick (tp 17) (cq true) (tp 22))] [0,6,7,8,23] (.cond (tp 23) (sr [oo 2 (.mv (cq false))] [2] .ret) .skip))))) (.region [oo 24 (.bin .add (tp 8) (ci 1)),mq 8 24] (some [0,6,7,8])))))))) (sr [mq 25 0,oo 26 (.len (tp 25) false),oo 27 (.bin .leq (tp 26) (ci 8)),mq 2 27] [2] .ret)))
def an_zhmnj : Ann := ann (List.range 9) ac_zhmnj
theorem ok_zhmnj : okd Tryz.prog an_zhmnj ac_zhmnj Tryz.f195 := ⟨by kernel_rfl, by kernel_rfl⟩

def ac_z2jf5 : AC := (sr [oo 1 (.box 106 (tp 0)),oo 2 (.mv (cq false))] [1] (sr [fi 3 0 1,fi 4 0 3,lq 5 4,oo 6 (.call 95 [tp 5]),mq 7 6,og 7 true 8 (.fieldA 0 (tp 1)),og 7 true 9 (.fieldA 1 (tp 8)),og 7 true 10 (.load none (tp 9)),og 7 true 11 (.call 181 [tp 10]),oo 12 (.pick (tp 7) (tp 11) (cq false)),mq 13 12,og 13 true 14 (.fieldA 0 (tp 1)),og 13 true 15 (.fieldA 2 (tp 14)),og 13 true 16 (.load none (tp 15)),og 13 true 17 (.call 93 [tp 16]),oo 18 (.pick (tp 13) (tp 17) (cq false)),mq 19 18,og 19 true 20 (.fieldA 3 (tp 1)),og 19 true 21 (.load none (tp 20)),og 19 true 22 (.bin .eql (tp 21) (ci 0)),og 19 true 23 (.mv (tp 22)),og 23 false 24 (.fieldA 3 (tp 1)),og 23 false 25 (.load none (tp 24)),og 23 false 26 (.call 126 [tp 25]),og 19 true 27 (.pick (tp 23) (cq true) (tp 26)),oo 28 (.pick (tp 19) (tp 27) (cq false)),mq 29 28,og 29 true 30 (.fieldA 4 (tp 1)),og 29 true 31 (.load none (tp 30)),og 29 true 32 (.bin .geq (tp 31) (ci 0)),oo 33 (.pick (tp 29) (tp 32) (cq false)),mq 34 33,og 34 true 35 (.fieldA 4 (tp 1)),og 34 true 36 (.load none (tp 35)),og 34 true 37 (.bin .leq (tp 36) (ci 1000)),oo 38 (.pick (tp 34) (tp 37) (cq false)),mq 2 38] [2] .ret))
def an_z2jf5 : Ann := ann (List.range 2) ac_z2jf5
theorem ok_z2jf5 : okd Tryz.prog an_z2jf5 ac_z2jf5 Tryz.f197 := ⟨by kernel_rfl, by kernel_rfl⟩

def ac_zvpxe : AC := (sr [oo 2 (.box 174 (tp 0)),oo 3 (.box 174 (tp 1)),oo 4 (.mv (cq false))] [2,3] (sr [fi 5 0 2,lq 6 5,fi 7 0 3,lq 8 7,oo 9 (.bin .eql (tp 6) (tp 8)),mq 10 9,og 10 true 11 (.fieldA 1 (tp 2)),og 10 true 12 (.load none (tp 11)),og 10 true 13 (.fieldA 1 (tp 3)),og 10 true 14 (.load none (tp 13)),og 10 true 15 (.bin .eql (tp 12) (tp 14)),oo 16 (.pick (tp 10) (tp 15) (cq false)),mq 17 16,og 17 true 18 (.fieldA 2 (tp 2)),og 17 true 19 (.load none (tp 18)),og 17 true 20 (.fieldA 2 (tp 3)),og 17 true 21 (.load none (tp 20)),og 17 true 22 (.call 101 [tp 19,tp 21]),oo 23 (.pick (tp 17) (tp 22) (cq false)),mq 4 23] [4] .ret))
def an_zvpxe : Ann := ann (List.range 2) ac_zvpxe
theorem ok_zvpxe : okd Tryz.prog an_zvpxe ac_zvpxe Tryz.f203 := ⟨by kernel_rfl, by kernel_rfl⟩

def ac_zdaaj : AC := (sr [oo 1 (.box 174 (tp 0)),oo 2 (.mv (cq false))] [1] (sr [oo 3 (.load (some 3) (tp 1)),oo 4 (.call 217 [tp 3]),oo 5 (.isnil false (tp 4)),mq 2 5] [2] .ret))
def an_zdaaj : Ann := ann (List.range 2) ac_zdaaj
theorem ok_zdaaj : okd Tryz.prog an_zdaaj ac_zdaaj Tryz.f216 := ⟨by kernel_rfl, by kernel_rfl⟩

def ac_zyjit : AC := (sr [oo 1 (.box 174 (tp 0)),oo 2 (.mv (.const .nilIface))] [1] (sr [fi 4 2 1,lq 5 4,oo 6 (.len (tp 5) false),oo 7 (.bin .geq (tp 6) (ci 1)),mq 8 7,og 8 true 9 (.fieldA 2 (tp 1)),og 8 true 10 (.load none (tp 9)),og 8 true 11 (.len (tp 10) false),og 8 true 12 (.bin .leq (tp 11) (ci 8)),oo 13 (.pick (tp 8) (tp 12) (cq false)),mq 14 13,og 14 true 15 (.fieldA 2 (tp 1)),og 14 true 16 (.load none (tp 15)),og 14 true 17 (.call 186 [tp 16,.func 253]),og 14 true 18 (.un .not (tp 17)),oo 19 (.pick (tp 14) (tp 18) (cq false)),mq 3 19] [1,3] (.seq (.block 0 (sr [fi 21 1 1,lq 22 21,oo 23 (.call 93 [tp 22]),oo 24 (.un .not (tp 23)),mq 20 24] [1,3,20] (.cond (tp 20) (sr [oo 2 (.mv (.const .nilIface))] [2] .ret) (sr [fi 26 0 1,lq 27 26,oo 28 (.bin .eql (tp 27) (ci 1)),mq 29 28,og 29 true 30 (.mv (tp 3)),oo 31 (.pick (tp 29) (tp 30) (cq false)),mq 25 31] [1,3,25] (.cond (tp 25) (sr [fi 32 1 1,lq 33 32,fi 34 2 1,lq 35 34,oo 36 (.build [.pd (.raw (.string ⟨#[]⟩)),.nils] [(0,1,tp 33),(1,1,tp 35)]),oo 37 (.mkif 275 (tp 36)),mq 2 37] [2] .ret) (sr [fi 39 0 1,lq 40 39,oo 41 (.bin .eql (tp 40) (ci 2)),mq 42 41,og 42 true 43 (.mv (tp 3)),oo 44 (.pick (tp 42) (tp 43) (cq false)),mq 38 44] [1,38] (.cond (tp 38) (sr [fi 45 1 1,lq 46 45,fi 47 2 1,lq 48 47,oo 49 (.build [.pd (.raw (.string ⟨#[]⟩)),.nils] [(0,1,tp 46),(1,1,tp 48)]),oo 50 (.build [.pd (.raw (.string ⟨#[]⟩)),.nils] [(0,2,tp 49)]),oo 51 (.mkif 277 (tp 50)),mq 2 51] [2] .ret) (sr [fi 53 0 1,lq 54 53,oo 55 (.bin .eql (tp 54) (ci 3)),mq 56 55,og 56 true 57 (.fieldA 2 (tp 1)),og 56 true 58 (.load none (tp 57)),og 56 true 59 (.len (tp 58) false),og 56 true 60 (.bin .eql (tp 59) (ci 0)),oo 61 (.pick (tp 56) (tp 60) (cq false)),mq 52 61] [1,52] (.cond (tp 52) (sr [fi 62 1 1,lq 63 62,oo 64 (.mkif 278 (tp 63)),mq 2 64] [2] .ret) (sr [fi 66 0 1,lq 67 66,oo 68 (.bin .eql (tp 67) (ci 4)),mq 69 68,og 69 true 70 (.fieldA 2 (tp 1)),og 69 true 71 (.load none (tp 70)),og 69 true 72 (.len (tp 71) false),og 69 true 73 (.bin .eql (tp 72) (ci 0)),oo 74 (.pick (tp 69) (tp 73) (cq false)),mq 65 74] [1,65] (.cond (tp 65) (sr [fi 75 1 1,lq 76 75,oo 77 (.build [.pd (.raw (.string ⟨#[]⟩))] [(0,1,tp 76)]),oo 78 (.mkif 280 (tp 77)),mq 2 78] [2] .ret) .skip))))))))))) (sr [oo 2 (.mv (.const .nilIface))] [2] .ret))))
def an_zyjit : Ann := ann (List.range 13) ac_zyjit
theorem ok_zyjit : okd Tryz.prog an_zyjit ac_zyjit Tryz.f217 := ⟨by kernel_rfl, by kernel_rfl⟩

def ac_zqrzx : AC := (sr [oo 1 (.box 166 (tp 0)),oo 2 (.mv (cq false))] [1] (sr [fi 3 0 1,lq 4 3,oo 5 (.call 225 [tp 4]),oo 6 (.un .not (tp 5)),mq 7 6,og 7 false 8 (.fieldA 1 (tp 1)),og 7 false 9 (.load none (tp 8)),og 7 false 10 (.call 226 [tp 9]),og 7 false 11 (.un .not (tp 10)),oo 12 (.pick (tp 7) (cq true) (tp 11)),mq 2 12] [2] .ret))
def an_zqrzx : Ann := ann (List.range 2) ac_zqrzx
theorem ok_zqrzx : okd Tryz.prog an_zqrzx ac_zqrzx Tryz.f224 := ⟨by kernel_rfl, by kernel_rfl⟩

def ac_z6for : AC := (sr [oo 3 (.box 196 (tp 1)),oo 4 (.mv (cq false))] [0,3] (.seq (sr [mq 7 0,oo 8 (.len (tp 7) false),oo 9 (.mv (ci 0))] [0,3,7,8,9] (.block 0 (.loop (sr [oo 10 (.bin .lss (tp 9) (tp 8))] [0,3,7,8,9,10] (.seq (.cond (tp 10) .skip (.exit 0)) (.seq (.block 1 (sr [mq 11 9,oo 12 (.idxA 2 (tp 7) (tp 9)),oo 13 (.load (some 2) (tp 12)),oo 6 (.alloc 166 [.pd (.raw (.string ⟨#[]⟩)),.pd (.raw (.string ⟨#[]⟩))]),mq 5 11,.mk none none (.store 2 (tp 6) (tp 13))] [0,3,5,6,7,8,9] (sr [mq 14 0,mq 15 5,oo 16 (.slcL 2 (tp 14) none (some (tp 15))),oo 17 (.mkfn 262 [tp 3,tp 6]),oo 18 (.call 229 [tp 16,tp 17])] [0,3,7,8,9,18] (.cond (tp 18) (sr [oo 4 (.mv (cq true))] [4] .ret) .skip)))) (.region [oo 19 (.bin .add (tp 9) (ci 1)),mq 9 19] (some [0,3,7,8,9])))))))) (sr [oo 4 (.mv (cq false))] [4] .ret)))
def an_z6for : Ann := ann (List.range 8) ac_z6for
theorem ok_z6for : okd Tryz.prog an_z6for ac_z6for Tryz.f230 := ⟨by kernel_rfl, by kernel_rfl⟩

def ac_zwio7 : AC := (sr [oo 4 (.mv (cq false))] [0,1] (sr [mq 5 0,mq 6 1,oo 7 (.bin .eql (tp 5) (tp 6)),mq 4 7] [4] .ret))
def an_zwio7 : Ann := ann (List.range 2) ac_zwio7
theorem ok_zwio7 : okd Tryz.prog an_zwio7 ac_zwio7 Tryz.f233 := ⟨by kernel_rfl, by kernel_rfl⟩

def ac_z38ed : AC := (sr [oo 2 (.box 176 (tp 0)),oo 3 (.mv (cq false))] [1,2] (sr [oo 4 (.load (some 8) (tp 2)),oo 5 (.call 235 [tp 4]),mq 6 5,og 6 true 7 (.load (some 8) (tp 1)),og 6 true 8 (.call 235 [tp 7]),oo 9 (.pick (tp 6) (tp 8) (cq false)),mq 10 9,og 10 false 11 (.fieldA 0 (tp 2)),og 10 false 12 (.load none (tp 11)),og 10 false 13 (.fieldA 0 (tp 1)),og 10 false 14 (.load none (tp 13)),og 10 false 15 (.bin .eql (tp 12) (tp 14)),og 10 false 16 (.mv (tp 15)),og 16 true 17 (.fieldA 1 (tp 2)),og 16 true 18 (.load none (tp 17)),og 16 true 19 (.fieldA 1 (tp 1)),og 16 true 20 (.load none (tp 19)),og 16 true 21 (.call 231 [tp 18,tp 20]),og 10 false 22 (.pick (tp 16) (tp 21) (cq false)),oo 23 (.pick (tp 10) (cq true) (tp 22)),mq 3 23] [3] .ret))
def an_z38ed : Ann := ann (List.range 2) ac_z38ed
theorem ok_z38ed : okd Tryz.prog an_z38ed ac_z38ed Tryz.f234 := ⟨by kernel_rfl, by kernel_rfl⟩

def ac_zm6be : AC := (sr [oo 1 (.box 176 (tp 0)),oo 2 (.mv (cq false))] [1] (sr [fi 3 0 1,lq 4 3,oo 5 (.bin .eql (tp 4) (ci 4)),mq 6 5,og 6 false 7 (.fieldA 0 (tp 1)),og 6 false 8 (.load none (tp 7)),og 6 false 9 (.bin .eql (tp 8) (ci 5)),oo 10 (.pick (tp 6) (cq true) (tp 9)),mq 2 10] [2] .ret))
def an_zm6be : Ann := ann (List.range 2) ac_zm6be
theorem ok_zm6be : okd Tryz.prog an_zm6be ac_zm6be Tryz.f235 := ⟨by kernel_rfl, by kernel_rfl⟩

def ac_zhj59 : AC := (sr [oo 1 (.box 176 (tp 0)),oo 2 (.mv (cq false))] [1] (.seq (sr [fi 3 0 1,lq 4 3] [1,4] (.block 0 (.seq (sr [oo 6 (.bin .eql (tp 4) (ci 1)),mq 5 6] [1,4,5] (.cond (tp 5) .skip (.region [oo 7 (.bin .eql (tp 4) (ci 2)),mq 5 7] (some [1,4,5])))) (.cond (tp 5) (sr [oo 8 (.load (some 8) (tp 1)),fi 9 0 1,lq 10 9,fi 11 1 1,lq 12 11,fi 13 2 1,lq 14 13,oo 15 (.build [.pd (.raw (.int .i64 0)),.pd (.raw (.string ⟨#[]⟩)),.pd (.raw (.string ⟨#[]⟩)),.pd (.raw (.string ⟨#[]⟩)),.pd (.raw (.int .i64 0)),.pd (.raw (.string ⟨#[]⟩)),.pd (.raw (.bool false)),.pd (.raw (.int .i64 0))] [(0,1,tp 10),(1,1,tp 12),(2,1,tp 14)]),oo 16 (.eqs false [.int,.str,.str,.str,.int,.str,.bool,.int] (tp 8) (tp 15)),mq 17 16,og 17 true 18 (.fieldA 1 (tp 1)),og 17 true 19 (.load none (tp 18)),og 17 true 20 (.call 225 [tp 19]),oo 21 (.pick (tp 17) (tp 20) (cq false)),mq 22 21,og 22 true 23 (.fieldA 2 (tp 1)),og 22 true 24 (.load none (tp 23)),og 22 true 25 (.call 226 [tp 24]),oo 26 (.pick (tp 22) (tp 25) (cq false)),mq 2 26] [2] .ret) (sr [oo 28 (.bin .eql (tp 4) (ci 3)),mq 27 28] [1,4,27] (.cond (tp 27) (sr [oo 29 (.load (some 8) (tp 1)),fi 30 0 1,lq 31 30,fi 32 1 1,lq 33 32,oo 34 (.build [.pd (.raw (.int .i64 0)),.pd (.raw (.string ⟨#[]⟩)),.pd (.raw (.string ⟨#[]⟩)),.pd (.raw (.string ⟨#[]⟩)),.pd (.raw (.int .i64 0)),.pd (.raw (.string ⟨#[]⟩)),.pd (.raw (.bool false)),.pd (.raw (.int .i64 0))] [(0,1,tp 31),(1,1,tp 33)]),oo 35 (.eqs false [.int,.str,.str,.str,.int,.str,.bool,.int] (tp 29) (tp 34)),mq 36 35,og 36 true 37 (.fieldA 1 (tp 1)),og 36 true 38 (.load none (tp 37)),og 36 true 39 (.call 225 [tp 38]),oo 40 (.pick (tp 36) (tp 39) (cq false)),mq 2 40] [2] .ret) (sr [oo 42 (.bin .eql (tp 4) (ci 4)),mq 41 42] [1,4,41] (.cond (tp 41) (sr [fi 43 1 1,lq 44 43,oo 45 (.bin .eql (tp 44) (.const (.string ⟨#[]⟩))),mq 46 45,og 46 true 47 (.fieldA 2 (tp 1)),og 46 true 48 (.load none (tp 47)),og 46 true 49 (.bin .eql (tp 48) (.const (.string ⟨#[]⟩))),oo 50 (.pick (tp 46) (tp 49) (cq false)),mq 51 50,og 51 true 52 (.load (some 8) (tp 1)),og 51 true 53 (.call 264 [tp 52]),oo 54 (.pick (tp 51) (tp 53) (cq false)),mq 55 54,og 55 true 56 (.fieldA 4 (tp 1)),og 55 true 57 (.load none (tp 56)),og 55 true 58 (.bin .geq (tp 57) (ci 0)),oo 59 (.pick (tp 55) (tp 58) (cq false)),mq 60 59,og 60 true 61 (.fieldA 4 (tp 1)),og 60 true 62 (.load none (tp 61)),og 60 true 63 (.bin .leq (tp 62) (ci 65535)),oo 64 (.pick (tp 60) (tp 63) (cq false)),mq 65 64,og 65 true 66 (.fieldA 7 (tp 1)),og 65 true 67 (.load none (tp 66)),og 65 true 68 (.bin .eql (tp 67) (ci 301)),og 65 true 69 (.mv (tp 68)),og 69 false 70 (.fieldA 7 (tp 1)),og 69 false 71 (.load none (tp 70)),og 69 false 72 (.bin .eql (tp 71) (ci 302)),og 65 true 73 (.pick (tp 69) (cq true) (tp 72)),oo 74 (.pick (tp 65) (tp 73) (cq false)),mq 2 74] [2] .ret) (sr [oo 76 (.bin .eql (tp 4) (ci 5)),mq 75 76] [1,75] (.cond (tp 75) (sr [oo 77 (.load (some 8) (tp 1)),fi 78 0 1,lq 79 78,fi 80 3 1,lq 81 80,fi 82 5 1,lq 83 82,fi 84 6 1,lq 85 84,oo 86 (.build [.pd (.raw (.int .i64 0)),.pd (.raw (.string ⟨#[]⟩)),.pd (.raw (.string ⟨#[]⟩)),.pd (.raw (.string ⟨#[]⟩)),.pd (.raw (.int .i64 0)),.pd (.raw (.string ⟨#[]⟩)),.pd (.raw (.bool false)),.pd (.raw (.int .i64 0))] [(0,1,tp 79),(3,1,tp 81),(5,1,tp 83),(6,1,tp 85)]),oo 87 (.eqs false [.int,.str,.str,.str,.int,.str,.bool,.int] (tp 77) (tp 86)),mq 88 87,og 88 true 89 (.load (some 8) (tp 1)),og 88 true 90 (.call 264 [tp 89]),oo 91 (.pick (tp 88) (tp 90) (cq false)),mq 92 91,og 92 true 93 (.fieldA 3 (tp 1)),og 92 true 94 (.load none (tp 93)),og 92 true 95 (.bin .neq (tp 94) (.const (.string ⟨#[]⟩))),og 92 true 96 (.mv (tp 95)),og 96 false 97 (.fieldA 5 (tp 1)),og 96 false 98 (.load none (tp 97)),og 96 false 99 (.bin .neq (tp 98) (.const (.string ⟨#[]⟩))),og 92 true 100 (.pick (tp 96) (cq true) (tp 99)),oo 101 (.pick (tp 92) (tp 100) (cq false)),mq 2 101] [2] .ret) .skip)))))))))) (sr [oo 2 (.mv (cq false))] [2] .ret)))
def an_zhj59 : Ann := ann (List.range 12) ac_zhj59
theorem ok_zhj59 : okd Tryz.prog an_zhj59 ac_zhj59 Tryz.f236 := ⟨by kernel_rfl, by kernel_rfl⟩

def ac_zuzx4 : AC := (sr [oo 2 (.mv (cq false))] [0] (sr [mq 3 0,oo 4 (.call 174 [tp 3]),oo 5 (.un .not (tp 4)),mq 2 5] [2] .ret))
def an_zuzx4 : Ann := ann (List.range 2) ac_zuzx4
theorem ok_zuzx4 : okd Tryz.prog an_zuzx4 ac_zuzx4 Tryz.f253 := ⟨by kernel_rfl, by kernel_rfl⟩

def ac_zpw6o : AC := (sr [oo 3 (.box 166 (tp 0)),oo 4 (.mv (cq false))] [1,2,3] (sr [lq 5 1,fi 6 0 3,lq 7 6,fi 8 0 2,lq 9 8,oo 10 (.callv (tp 5) [tp 7,tp 9]),mq 4 10] [4] .ret))
def an_zpw6o : Ann := ann (List.range 2) ac_zpw6o
theorem ok_zpw6o : okd Tryz.prog an_zpw6o ac_zpw6o Tryz.f262 := ⟨by kernel_rfl, by kernel_rfl⟩

def ac_z3d8y : AC := (sr [oo 1 (.box 176 (tp 0)),oo 2 (.mv (cq false))] [1] (.seq (sr [fi 3 3 1,lq 4 3,oo 5 (.bin .neq (tp 4) (.const (.string ⟨#[]⟩))),mq 6 5,og 6 true 7 (.fieldA 3 (tp 1)),og 6 true 8 (.load none (tp 7)),og 6 true 9 (.call 93 [tp 8]),og 6 true 10 (.un .not (tp 9)),oo 11 (.pick (tp 6) (tp 10) (cq false))] [1,11] (.cond (tp 11) (sr [oo 2 (.mv (cq false))] [2] .ret) .skip)) (.seq (.block 0 (sr [fi 13 5 1,lq 14 13,oo 15 (.bin .eql (tp 14) (.const (.string ⟨#[]⟩))),mq 12 15] [1,12] (.cond (tp 12) (sr [fi 16 6 1,lq 17 16,oo 18 (.un .not (tp 17)),mq 2 18] [2] .ret) (sr [fi 20 6 1,lq 21 20,mq 19 21] [1,19] (.cond (tp 19) (sr [fi 22 5 1,lq 23 22,oo 24 (.call 258 [tp 23]),mq 2 24] [2] .ret) .skip))))) (sr [fi 25 5 1,lq 26 25,oo 27 (.build [.pd (.raw (.int .i64 0)),.pd (.raw (.string ⟨#[]⟩))] [(0,1,ci 2),(1,1,tp 26)]),oo 28 (.call 227 [tp 27]),mq 2 28] [2] .ret))))
def an_z3d8y : Ann := ann (List.range 8) ac_z3d8y
theorem ok_z3d8y : okd Tryz.prog an_z3d8y ac_z3d8y Tryz.f264 := ⟨by kernel_rfl, by kernel_rfl⟩


def ac_zvzmk : AC := (sr [oo 4 (.mv (cq false))] [0,1] (.seq (sr [mq 6 0,oo 7 (.len (tp 6) false),mq 8 1,oo 9 (.len (tp 8) false),oo 10 (.bin .neq (tp 7) (tp 9))] [0,1,10] (.cond (tp 10) (sr [oo 4 (.mv (cq false))] [4] .ret) .skip)) (.seq (sr [oo 5 (.mv (ci 0))] [0,1,5] (.block 0 (.loop (.seq (sr [mq 11 5,mq 12 0,oo 13 (.len (tp 12) false),oo 14 (.bin .lss (tp 11) (tp 13))] [0,1,5,14] (.cond (tp 14) .skip (.exit 0))) (.seq (.block 1 (.seq (.draw [mq 17 0,mq 18 5,oo 19 (.idxA 3 (tp 17) (tp 18)),oo 20 (.load (some 3) (tp 19)),mq 21 1,mq 22 5,oo 23 (.idxA 3 (tp 21) (tp 22)),oo 24 (.load (some 3) (tp 23)),oo 25 (.eqs true [.int,.str,.str] (tp 20) (tp 24))] [0,0,3,7,0,0,48,112,255] (.take 0 (.take 1 (.take 2 (.take 3 (.take 4 (.take 5 (.take 6 (.take 7 (.take 8 .done))))))))) (some [0,1,5,25])) (.cond (tp 25) (sr [oo 4 (.mv (cq false))] [4] .ret) .skip))) (.region [mq 15 5,oo 16 (.bin .add (tp 15) (ci 1)),mq 5 16] (some [0,1,5]))))))) (sr [oo 4 (.mv (cq true))] [4] .ret))))
def an_zvzmk : Ann := ann [0,1,2,3,4,6,7,5,8] ac_zvzmk
theorem ok_zvzmk : okd Tryz.prog an_zvzmk ac_zvzmk Tryz.f43 := ⟨by kernel_rfl, by kernel_rfl⟩


def ac_zn42u : AC := (sr [oo 1 (.box 35 (tp 0)),oo 2 (.alloc 35 [.pd (.raw (.int .i64 0)),.pd (.raw (.string ⟨#[]⟩)),.pd (.raw (.string ⟨#[]⟩))])] [1,2] (.seq (.draw [fi 3 0 1,lq 4 3,fi 5 1 1,lq 6 5,oo 7 (.call 48 [tp 6]),fi 8 2 1,lq 9 8,oo 10 (.call 48 [tp 9]),oo 11 (.build [.pd (.raw (.int .i64 0)),.pd (.raw (.string ⟨#[]⟩)),.pd (.raw (.string ⟨#[]⟩))] [(0,1,tp 4),(1,1,tp 7),(2,1,tp 10)]),.mk none none (.store 3 (tp 2) (tp 11))] [0,1,0,4,12,0,32,124,255,511] (.take 0 (.take 1 (.take 2 (.take 3 (.take 5 (.take 6 (.alts (.cons 4 false (.alts (.cons 7 false (.take 8 (.alts (.cons 9 true .done .nil))) .nil)) .nil)))))))) (some [2])) .ret))
def an_zn42u : Ann := ann (List.range 2) ac_zn42u
theorem ok_zn42u : okd Tryz.prog an_zn42u ac_zn42u Tryz.f18 := ⟨by kernel_rfl, by kernel_rfl⟩
theorem ret_zn42u (st : St) : resD Tryz.prog st Tryz.f18.results.toList = resA st [.cell 2 (some 3)] := resD_of (by kernel_rfl)

def ac_zba9k : AC := (sr [oo 2 (.mv (.const (.string ⟨#[]⟩)))] [0] (.seq (sr [mq 3 0,oo 4 (.len (tp 3) true),oo 5 (.bin .gtr (tp 4) (ci 100))] [0,5] (.cond (tp 5) (sr [mq 6 0,oo 7 (.slcS (tp 6) none (some (ci 100))),mq 2 7] [2] .ret) .skip)) (sr [mq 8 0,mq 2 8] [2] .ret)))
def an_zba9k : Ann := ann (List.range 4) ac_zba9k
theorem ok_zba9k : okd Tryz.prog an_zba9k ac_zba9k Tryz.f48 := ⟨by kernel_rfl, by kernel_rfl⟩


def ac_zyx20 : AC := (sr [oo 1 (.box 126 (tp 0)),oo 2 (.alloc 126 [.pd (.raw (.int .i64 0)),.pd (.raw (.string ⟨#[]⟩))])] [1,2] (sr [fi 3 1 1,lq 4 3,oo 5 (.call 48 [tp 4]),fi 6 1 1,.mk none none (.store 1 (tp 6) (tp 5))] [1,2] (sr [oo 7 (.load (some 2) (tp 1)),.mk none none (.store 2 (tp 2) (tp 7))] [2] .ret)))
def an_zyx20 : Ann := ann (List.range 3) ac_zyx20
theorem ok_zyx20 : okd Tryz.prog an_zyx20 ac_zyx20 Tryz.f108 := ⟨by kernel_rfl, by kernel_rfl⟩
theorem ret_zyx20 (st : St) : resD Tryz.prog st Tryz.f108.results.toList = resA st [.cell 2 (some 2)] := resD_of (by kernel_rfl)

def ac_ztgmw : AC := (sr [oo 2 (.mv (.const (.slice none 0 0)))] [0] (sr [oo 3 (.mv (.const (.slice none 0 0)))] [0,3] (.seq (sr [oo 4 (.mv (ci 0))] [0,3,4] (.block 0 (.loop (.seq (sr [mq 5 4,mq 6 0,oo 7 (.len (tp 6) false),oo 8 (.bin .lss (tp 5) (tp 7)),mq 9 8,og 9 true 10 (.mv (tp 4)),og 9 true 11 (.bin .lss (tp 10) (ci 31)),oo 12 (.pick (tp 9) (tp 11) (cq false))] [0,3,4,12] (.cond (tp 12) .skip (.exit 0))) (.seq (.block 1 (.draw [mq 15 3,mq 16 0,mq 17 4,oo 18 (.idxA 2 (tp 16) (tp 17)),fi 19 0 18,lq 20 19,oo 21 (.call 48 [tp 20]),mq 22 0,mq 23 4,oo 24 (.idxA 2 (tp 22) (tp 23)),fi 25 1 24,lq 26 25,oo 27 (.call 48 [tp 26]),oo 28 (.build [.pd (.raw (.string ⟨#[]⟩)),.pd (.raw (.string ⟨#[]⟩))] [(0,1,tp 21),(1,1,tp 27)]),oo 29 (.bslice 166 2 [tp 28]),oo 30 (.append 166 2 32 (tp 15) (tp 29)),mq 3 30] [0,0,0,6,14,30,62,0,0,384,896,1920,4094,8190,16382,32767,65535] (.take 0 (.take 1 (.take 2 (.take 3 (.take 4 (.take 5 (.take 7 (.take 8 (.take 9 (.take 10 (.take 11 (.alts (.cons 6 false (.alts (.cons 12 false (.take 13 (.alts (.cons 14 false (.alts (.cons 15 true (.take 16 .done) .nil)) .nil))) .nil)) .nil))))))))))))) (some [0,3,4]))) (.region [mq 13 4,oo 14 (.bin .add (tp 13) (ci 1)),mq 4 14] (some [0,3,4]))))))) (sr [mq 31 3,mq 2 31] [2] .ret))))
def an_ztgmw : Ann := ann [0,1,2,3,5,4,6] ac_ztgmw
theorem ok_ztgmw : okd Tryz.prog an_ztgmw ac_ztgmw Tryz.f55 := ⟨by kernel_rfl, by kernel_rfl⟩

def ac_zt3fs : AC := (sr [oo 1 (.box 128 (tp 0)),oo 2 (.alloc 128 [.pd (.raw (.int .i64 0)),.pd (.raw (.string ⟨#[]⟩)),.pd (.raw (.string ⟨#[]⟩)),.nils,.nils])] [1,2] (.seq (.draw [fi 3 0 1,oo 4 (.load (some 2) (tp 3)),oo 5 (.call 108 [tp 4]),fi 6 2 1,lq 7 6,oo 8 (.call 48 [tp 7]),fi 9 3 1,lq 10 9,oo 11 (.call 55 [tp 10]),fi 12 4 1,lq 13 12,oo 14 (.call 55 [tp 13]),oo 15 (.build [.pd (.raw (.int .i64 0)),.pd (.raw (.string ⟨#[]⟩)),.pd (.raw (.string ⟨#[]⟩)),.nils,.nils] [(0,2,tp 5),(2,1,tp 8),(3,1,tp 11),(4,1,tp 14)]),.mk none none (.store 5 (tp 2) (tp 15))] [0,1,3,0,8,31,0,64,255,0,512,2047,4095,8191] (.take 0 (.take 1 (.take 3 (.take 4 (.take 6 (.take 7 (.take 9 (.take 10 (.alts (.cons 2 false (.alts (.cons 5 false (.alts (.cons 8 false (.alts (.cons 11 true (.take 12 (.alts (.cons 13 true .done .nil))) .nil)) .nil)) .nil)) .nil)))))))))) (some [2])) .ret))
def an_zt3fs : Ann := ann (List.range 2) ac_zt3fs
theorem ok_zt3fs : okd Tryz.prog an_zt3fs ac_zt3fs Tryz.f59 := ⟨by kernel_rfl, by kernel_rfl⟩
theorem ret_zt3fs (st : St) : resD Tryz.prog st Tryz.f59.results.toList = resA st [.cell 2 (some 5)] := resD_of (by kernel_rfl)

def ac_z9moo : AC := (sr [oo 2 (.mv (.const (.slice none 0 0)))] [0] (sr [oo 3 (.mv (.const (.slice none 0 0)))] [0,3] (.seq (sr [oo 4 (.mv (ci 0))] [0,3,4] (.block 0 (.loop (.seq (sr [mq 6 4,mq 7 0,oo 8 (.len (tp 7) false),oo 9 (.bin .lss (tp 6) (tp 8)),mq 10 9,og 10 true 11 (.mv (tp 4)),og 10 true 12 (.bin .lss (tp 11) (ci 9)),oo 13 (.pick (tp 10) (tp 12) (cq false))] [0,3,4,13] (.cond (tp 13) .skip (.exit 0))) (.seq (.block 1 (sr [mq 16 0,mq 17 4,oo 18 (.idxA 8 (tp 16) (tp 17)),oo 19 (.load (some 8) (tp 18)),oo 5 (.alloc 176 [.pd (.raw (.int .i64 0)),.pd (.raw (.string ⟨#[]⟩)),.pd (.raw (.string ⟨#[]⟩)),.pd (.raw (.string ⟨#[]⟩)),.pd (.raw (.int .i64 0)),.pd (.raw (.string ⟨#[]⟩)),.pd (.raw (.bool false)),.pd (.raw (.int .i64 0))]),.mk none none (.store 8 (tp 5) (tp 19))] [0,3,4,5] (.seq (.draw [fi 20 1 5,lq 21 20,oo 22 (.call 48 [tp 21]),fi 23 2 5,lq 24 23,oo 25 (.call 48 [tp 24]),fi 26 3 5,lq 27 26,oo 28 (.call 48 [tp 27]),fi 29 5 5,lq 30 29,oo 31 (.call 48 [tp 30]),fi 32 1 5,.mk none none (.store 1 (tp 32) (tp 22)),fi 33 2 5,.mk none none (.store 1 (tp 33) (tp 25)),fi 34 3 5,.mk none none (.store 1 (tp 34) (tp 28)),fi 35 5 5,.mk none none (.store 1 (tp 35) (tp 31))] [0,1,3,0,8,31,0,64,255,0,512,2047,1759,8191,16383,32767,65535,131071,262143,524287] (.take 0 (.take 1 (.take 3 (.take 4 (.take 6 (.take 7 (.take 9 (.take 10 (.alts (.cons 2 false (.take 12 (.alts (.cons 5 false (.alts (.cons 8 false (.alts (.cons 11 false (.alts (.cons 13 true (.take 14 (.alts (.cons 15 true (.take 16 (.alts (.cons 17 true (.take 18 (.alts (.cons 19 true .done .nil))) .nil))) .nil))) .nil)) .nil)) .nil)) .nil))) .nil)))))))))) (some [0,3,4,5])) (.region [mq 36 3,oo 37 (.load (some 8) (tp 5)),oo 38 (.bslice 176 8 [tp 37]),oo 39 (.append 176 8 96 (tp 36) (tp 38)),mq 3 39] (some [0,3,4]))))) (.region [mq 14 4,oo 15 (.bin .add (tp 14) (ci 1)),mq 4 15] (some [0,3,4]))))))) (sr [mq 40 3,mq 2 40] [2] .ret))))
def an_z9moo : Ann := ann [0,1,2,3,5,6,4,7,8] ac_z9moo
theorem ok_z9moo : okd Tryz.prog an_z9moo ac_z9moo Tryz.f58 := ⟨by kernel_rfl, by kernel_rfl⟩

def ac_zpih5 : AC := (sr [oo 2 (.mv (.const (.slice none 0 0)))] [0] (sr [oo 3 (.mv (.const (.slice none 0 0)))] [0,3] (.seq (sr [oo 4 (.mv (ci 0))] [0,3,4] (.block 0 (.loop (.seq (sr [mq 7 4,mq 8 0,oo 9 (.len (tp 8) false),oo 10 (.bin .lss (tp 7) (tp 9)),mq 11 10,og 11 true 12 (.mv (tp 4)),og 11 true 13 (.bin .lss (tp 12) (ci 9)),oo 14 (.pick (tp 11) (tp 13) (cq false))] [0,3,4,14] (.cond (tp 14) .skip (.exit 0))) (.seq (.block 1 (.seq (.draw [mq 17 0,mq 18 4,oo 19 (.idxA 3 (tp 17) (tp 18)),fi 20 0 19,lq 21 20,mq 22 0,mq 23 4,oo 24 (.idxA 3 (tp 22) (tp 23)),fi 25 1 24,lq 26 25,oo 27 (.call 48 [tp 26]),oo 28 (.build [.pd (.raw (.int .i64 0)),.pd (.raw (.string ⟨#[]⟩)),.nils] [(0,1,tp 21),(1,1,tp 27)]),oo 5 (.alloc 174 [.pd (.raw (.int .i64 0)),.pd (.raw (.string ⟨#[]⟩)),.nils]),.mk none none (.store 3 (tp 5) (tp 28))] [0,0,3,7,15,0,0,96,224,480,992,2047,0,8191] (.take 0 (.take 1 (.take 2 (.take 3 (.take 4 (.take 5 (.take 6 (.take 7 (.take 8 (.take 9 (.alts (.cons 10 false (.take 11 (.alts (.cons 12 false (.alts (.cons 13 true .done .nil)) .nil))) (.cons 12 false (.alts (.cons 10 false (.take 11 (.alts (.cons 13 true .done .nil))) .nil)) .nil))))))))))))) (some [0,3,4,5])) (.seq (sr [oo 6 (.mv (ci 0))] [0,3,4,5,6] (.block 2 (.loop (.seq (sr [mq 29 6,mq 30 0,mq 31 4,oo 32 (.idxA 3 (tp 30) (tp 31)),fi 33 2 32,lq 34 33,oo 35 (.len (tp 34) false),oo 36 (.bin .lss (tp 29) (tp 35)),mq 37 36,og 37 true 38 (.mv (tp 6)),og 37 true 39 (.bin .lss (tp 38) (ci 9)),oo 40 (.pick (tp 37) (tp 39) (cq false))] [0,3,4,5,6,40] (.cond (tp 40) .skip (.exit 2))) (.seq (.block 3 (.draw [fi 43 2 5,lq 44 43,mq 45 0,mq 46 4,oo 47 (.idxA 3 (tp 45) (tp 46)),fi 48 2 47,lq 49 48,mq 50 6,oo 51 (.idxA 1 (tp 49) (tp 50)),lq 52 51,oo 53 (.call 48 [tp 52]),oo 54 (.bslice 9 1 [tp 53]),oo 55 (.append 9 1 16 (tp 44) (tp 54)),fi 56 2 5,.mk none none (.store 1 (tp 56) (tp 55))] [0,1,0,0,12,28,60,0,252,508,1020,2044,4095,8191,16383] (.take 0 (.take 1 (.take 2 (.take 3 (.take 4 (.take 5 (.take 6 (.take 7 (.take 8 (.take 9 (.alts (.cons 10 false (.alts (.cons 11 false (.alts (.cons 12 true (.take 13 (.alts (.cons 14 true .done .nil))) .nil)) .nil)) .nil)))))))))))) (some [0,3,4,5,6]))) (.region [mq 41 6,oo 42 (.bin .add (tp 41) (ci 1)),mq 6 42] (some [0,3,4,5,6]))))))) (.region [mq 57 3,oo 58 (.load (some 3) (tp 5)),oo 59 (.bslice 174 3 [tp 58]),oo 60 (.append 174 3 48 (tp 57) (tp 59)),mq 3 60] (some [0,3,4]))))) (.region [mq 15 4,oo 16 (.bin .add (tp 15) (ci 1)),mq 4 16] (some [0,3,4]))))))) (sr [mq 61 3,mq 2 61] [2] .ret))))
def an_zpih5 : Ann := ann [0,1,2,3,5,6,7,9,8,4,10,11] ac_zpih5
theorem ok_zpih5 : okd Tryz.prog an_zpih5 ac_zpih5 Tryz.f57 := ⟨by kernel_rfl, by kernel_rfl⟩

def ac_zg0x2 : AC := (sr [oo 2 (.mv (.const (.slice none 0 0)))] [0] (sr [oo 3 (.mv (.const (.slice none 0 0)))] [0,3] (.seq (sr [oo 4 (.mv (ci 0))] [0,3,4] (.block 0 (.loop (.seq (sr [mq 5 4,mq 6 0,oo 7 (.len (tp 6) false),oo 8 (.bin .lss (tp 5) (tp 7)),mq 9 8,og 9 true 10 (.mv (tp 4)),og 9 true 11 (.bin .lss (tp 10) (ci 5)),oo 12 (.pick (tp 9) (tp 11) (cq false))] [0,3,4,12] (.cond (tp 12) .skip (.exit 0))) (.seq (.block 1 (.draw [mq 15 3,mq 16 0,mq 17 4,oo 18 (.idxA 3 (tp 16) (tp 17)),fi 19 0 18,lq 20 19,mq 21 0,mq 22 4,oo 23 (.idxA 3 (tp 21) (tp 22)),fi 24 1 23,lq 25 24,oo 26 (.call 48 [tp 25]),mq 27 0,mq 28 4,oo 29 (.idxA 3 (tp 27) (tp 28)),fi 30 2 29,lq 31 30,oo 32 (.call 48 [tp 31]),oo 33 (.build [.pd (.raw (.int .i64 0)),.pd (.raw (.string ⟨#[]⟩)),.pd (.raw (.string ⟨#[]⟩))] [(0,1,tp 20),(1,1,tp 26),(2,1,tp 32)]),oo 34 (.bslice 142 3 [tp 33]),oo 35 (.append 142 3 40 (tp 15) (tp 34)),mq 3 35] [0,0,0,6,14,30,0,0,192,448,960,1984,0,0,12288,28672,61440,131008,262142,524286,1048575,2097151] (.take 0 (.take 1 (.take 2 (.take 3 (.take 4 (.take 5 (.take 6 (.take 7 (.take 8 (.take 9 (.take 10 (.take 12 (.take 13 (.take 14 (.take 15 (.take 16 (.alts (.cons 11 false (.alts (.cons 17 false (.take 18 (.alts (.cons 19 false (.alts (.cons 20 true (.take 21 .done) .nil)) .nil))) .nil)) .nil)))))))))))))))))) (some [0,3,4]))) (.region [mq 13 4,oo 14 (.bin .add (tp 13) (ci 1)),mq 4 14] (some [0,3,4]))))))) (sr [mq 36 3,mq 2 36] [2] .ret))))
def an_zg0x2 : Ann := ann [0,1,2,3,5,4,6] ac_zg0x2
theorem ok_zg0x2 : okd Tryz.prog an_zg0x2 ac_zg0x2 Tryz.f56 := ⟨by kernel_rfl, by kernel_rfl⟩

def ac_z8s55 : AC := (sr [oo 1 (.box 47 (tp 0)),oo 2 (.alloc 47 [.pd (.raw (.int .i64 0)),.pd (.raw (.string ⟨#[]⟩)),.pd (.raw (.string ⟨#[]⟩)),.pd (.raw (.bool false)),.nils,.nils,.pd (.raw (.string ⟨#[]⟩)),.nils,.nils,.nils,.nils,.nils,.nils])] [1,2] (.seq (.draw [fi 15 0 1,oo 16 (.load (some 3) (tp 15)),oo 17 (.call 18 [tp 16]),fi 18 3 1,lq 19 18,fi 20 4 1,lq 21 20,oo 22 (.call 55 [tp 21]),fi 23 6 1,lq 24 23,oo 25 (.call 48 [tp 24]),fi 26 11 1,lq 27 26,oo 28 (.call 56 [tp 27]),fi 29 12 1,lq 30 29,oo 31 (.call 56 [tp 30]),oo 32 (.build [.pd (.raw (.int .i64 0)),.pd (.raw (.string ⟨#[]⟩)),.pd (.raw (.string ⟨#[]⟩)),.pd (.raw (.bool false)),.nils,.nils,.pd (.raw (.string ⟨#[]⟩)),.nils,.nils,.nils,.nils,.nils,.nils] [(0,3,tp 17),(3,1,tp 19),(4,1,tp 22),(6,1,tp 25),(11,1,tp 28),(12,1,tp 31)]),oo 3 (.alloc 47 [.pd (.raw (.int .i64 0)),.pd (.raw (.string ⟨#[]⟩)),.pd (.raw (.string ⟨#[]⟩)),.pd (.raw (.bool false)),.nils,.nils,.pd (.raw (.string ⟨#[]⟩)),.nils,.nils,.nils,.nils,.nils,.nils]),.mk none none (.store 13 (tp 3) (tp 32))] [0,1,3,0,8,0,32,103,0,256,999,0,2048,8167,0,16384,65511,131071,0,524287] (.take 0 (.take 1 (.take 3 (.take 4 (.take 5 (.take 6 (.take 8 (.take 9 (.take 11 (.take 12 (.take 14 (.take 15 (.alts (.cons 2 false (.alts (.cons 7 false (.alts (.cons 10 false (.alts (.cons 13 false (.alts (.cons 16 false (.take 17 (.alts (.cons 18 false (.alts (.cons 19 true .done .nil)) .nil))) (.cons 18 false (.alts (.cons 16 false (.take 17 (.alts (.cons 19 true .done .nil))) .nil)) .nil))) (.cons 18 false (.alts (.cons 13 false (.alts (.cons 16 false (.take 17 (.alts (.cons 19 true .done .nil))) .nil)) .nil)) .nil))) (.cons 18 false (.alts (.cons 10 false (.alts (.cons 13 false (.alts (.cons 16 false (.take 17 (.alts (.cons 19 true .done .nil))) .nil)) .nil)) .nil)) .nil))) (.cons 18 false (.alts (.cons 7 false (.alts (.cons 10 false (.alts (.cons 13 false (.alts (.cons 16 false (.take 17 (.alts (.cons 19 true .done .nil))) .nil)) .nil)) .nil)) .nil)) .nil))) (.cons 18 false (.alts (.cons 2 false (.alts (.cons 7 false (.alts (.cons 10 false (.alts (.cons 13 false (.alts (.cons 16 false (.take 17 (.alts (.cons 19 true .done .nil))) .nil)) .nil)) .nil)) .nil)) .nil)) .nil))))))))))))))) (some [1,2,3])) (.seq (sr [oo 4 (.mv (ci 0))] [1,2,3,4] (.block 0 (.loop (.seq (sr [mq 33 4,fi 34 5 1,lq 35 34,oo 36 (.len (tp 35) false),oo 37 (.bin .lss (tp 33) (tp 36)),mq 38 37,og 38 true 39 (.mv (tp 4)),og 38 true 40 (.bin .lss (tp 39) (ci 9)),oo 41 (.pick (tp 38) (tp 40) (cq false))] [1,2,3,4,41] (.cond (tp 41) .skip (.exit 0))) (.seq (.block 1 (.draw [fi 44 5 3,lq 45 44,fi 46 5 1,lq 47 46,mq 48 4,oo 49 (.idxA 1 (tp 47) (tp 48)),lq 50 49,oo 51 (.bslice 3 1 [tp 50]),oo 52 (.append 3 1 8 (tp 45) (tp 51)),fi 53 5 3,.mk none none (.store 1 (tp 53) (tp 52))] [0,1,0,4,0,28,60,124,255,511,1023] (.take 0 (.take 1 (.take 2 (.take 3 (.take 4 (.take 5 (.take 6 (.alts (.cons 7 false (.alts (.cons 8 true (.take 9 (.alts (.cons 10 true .done .nil))) .nil)) .nil))))))))) (some [1,2,3,4]))) (.region [mq 42 4,oo 43 (.bin .add (tp 42) (ci 1)),mq 4 43] (some [1,2,3,4]))))))) (.seq (sr [oo 5 (.mv (ci 0))] [1,2,3,5] (.block 2 (.loop (.seq (sr [mq 54 5,fi 55 7 1,lq 56 55,oo 57 (.len (tp 56) false),oo 58 (.bin .lss (tp 54) (tp 57)),mq 59 58,og 59 true 60 (.mv (tp 5)),og 59 true 61 (.bin .lss (tp 60) (ci 9)),oo 62 (.pick (tp 59) (tp 61) (cq false))] [1,2,3,5,62] (.cond (tp 62) .skip (.exit 2))) (.seq (.block 3 (sr [fi 65 7 1,lq 66 65,mq 67 5,oo 68 (.idxA 9 (tp 66) (tp 67)),oo 69 (.load (some 9) (tp 68)),oo 6 (.alloc 122 [.pd (.raw (.string ⟨#[]⟩)),.pd (.raw (.int .i64 0)),.pd (.raw (.bool false)),.pd (.raw (.string ⟨#[]⟩)),.pd (.raw (.int .i64 0)),.pd (.raw (.string ⟨#[]⟩)),.pd (.raw (.string ⟨#[]⟩)),.pd (.raw (.int .i64 0)),.nils]),.mk none none (.store 9 (tp 6) (tp 69))] [1,2,3,5,6] (.draw [fi 70 7 3,lq 71 70,fi 72 0 6,lq 73 72,oo 74 (.call 48 [tp 73]),fi 75 1 6,lq 76 75,fi 77 2 6,lq 78 77,fi 79 3 6,lq 80 79,oo 81 (.call 48 [tp 80]),fi 82 4 6,oo 83 (.load (some 3) (tp 82)),oo 84 (.call 18 [tp 83]),fi 85 7 6,lq 86 85,fi 87 8 6,lq 88 87,oo 89 (.call 57 [tp 88]),oo 90 (.build [.pd (.raw (.string ⟨#[]⟩)),.pd (.raw (.int .i64 0)),.pd (.raw (.bool false)),.pd (.raw (.string ⟨#[]⟩)),.pd (.raw (.int .i64 0)),.pd (.raw (.string ⟨#[]⟩)),.pd (.raw (.string ⟨#[]⟩)),.pd (.raw (.int .i64 0)),.nils] [(0,1,tp 74),(1,1,tp 76),(2,1,tp 78),(3,1,tp 81),(4,3,tp 84),(7,1,tp 86),(8,1,tp 89)]),oo 91 (.bslice 122 9 [tp 90]),oo 92 (.append 122 9 120 (tp 71) (tp 91)),fi 93 7 3,.mk none none (.store 1 (tp 93) (tp 92))] [0,1,0,4,12,0,32,0,128,0,512,1564,0,4096,15900,0,32768,0,131072,425500,1048572,2097148,4194303,8388607,16777215] (.take 0 (.take 1 (.take 2 (.take 3 (.take 5 (.take 6 (.take 7 (.take 8 (.take 9 (.take 10 (.take 12 (.take 13 (.take 15 (.take 16 (.take 17 (.take 18 (.alts (.cons 4 false (.alts (.cons 11 false (.alts (.cons 14 false (.alts (.cons 19 false (.take 20 (.alts (.cons 21 false (.alts (.cons 22 true (.take 23 (.alts (.cons 24 true .done .nil))) .nil)) .nil))) .nil)) .nil)) .nil)) .nil)))))))))))))))))) (some [1,2,3,5])))) (.region [mq 63 5,oo 64 (.bin .add (tp 63) (ci 1)),mq 5 64] (some [1,2,3,5]))))))) (.seq (sr [oo 7 (.mv (ci 0))] [1,2,3,7] (.block 4 (.loop (.seq (sr [mq 94 7,fi 95 8 1,lq 96 95,oo 97 (.len (tp 96) false),oo 98 (.bin .lss (tp 94) (tp 97)),mq 99 98,og 99 true 100 (.mv (tp 7)),og 99 true 101 (.bin .lss (tp 100) (ci 5)),oo 102 (.pick (tp 99) (tp 101) (cq false))] [1,2,3,7,102] (.cond (tp 102) .skip (.exit 4))) (.seq (.block 5 (sr [fi 105 8 1,lq 106 105,mq 107 7,oo 108 (.idxA 4 (tp 106) (tp 107)),oo 109 (.load (some 4) (tp 108)),oo 8 (.alloc 99 [.pd (.raw (.string ⟨#[]⟩)),.pd (.raw (.string ⟨#[]⟩)),.pd (.raw (.string ⟨#[]⟩)),.pd (.raw (.int .i64 0))]),.mk none none (.store 4 (tp 8) (tp 109))] [1,2,3,7,8] (.draw [fi 110 8 3,lq 111 110,fi 112 0 8,lq 113 112,oo 114 (.call 48 [tp 113]),fi 115 1 8,lq 116 115,oo 117 (.call 48 [tp 116]),fi 118 2 8,lq 119 118,oo 120 (.call 48 [tp 119]),fi 121 3 8,lq 122 121,oo 123 (.build [.pd (.raw (.string ⟨#[]⟩)),.pd (.raw (.string ⟨#[]⟩)),.pd (.raw (.string ⟨#[]⟩)),.pd (.raw (.int .i64 0))] [(0,1,tp 114),(1,1,tp 117),(2,1,tp 120),(3,1,tp 122)]),oo 124 (.bslice 99 4 [tp 123]),oo 125 (.append 99 4 56 (tp 111) (tp 124)),fi 126 8 3,.mk none none (.store 1 (tp 126) (tp 125))] [0,1,0,4,12,0,32,124,0,256,1020,0,2048,8188,16380,32767,65535,131071] (.take 0 (.take 1 (.take 2 (.take 3 (.take 5 (.take 6 (.take 8 (.take 9 (.take 11 (.take 12 (.alts (.cons 4 false (.alts (.cons 7 false (.alts (.cons 10 false (.take 13 (.alts (.cons 14 false (.alts (.cons 15 true (.take 16 (.alts (.cons 17 true .done .nil))) .nil)) .nil))) .nil)) .nil)) .nil)))))))))))) (some [1,2,3,7])))) (.region [mq 103 7,oo 104 (.bin .add (tp 103) (ci 1)),mq 7 104] (some [1,2,3,7]))))))) (.seq (sr [oo 9 (.mv (ci 0))] [1,2,3,9] (.block 6 (.loop (.seq (sr [mq 127 9,fi 128 9 1,lq 129 128,oo 130 (.len (tp 129) false),oo 131 (.bin .lss (tp 127) (tp 130)),mq 132 131,og 132 true 133 (.mv (tp 9)),og 132 true 134 (.bin .lss (tp 133) (ci 5)),oo 135 (.pick (tp 132) (tp 134) (cq false))] [1,2,3,9,135] (.cond (tp 135) .skip (.exit 6))) (.seq (.block 7 (.draw [fi 138 9 3,lq 139 138,fi 140 9 1,lq 141 140,mq 142 9,oo 143 (.idxA 1 (tp 141) (tp 142)),lq 144 143,oo 145 (.call 48 [tp 144]),oo 146 (.bslice 9 1 [tp 145]),oo 147 (.append 9 1 16 (tp 139) (tp 146)),fi 148 9 3,.mk none none (.store 1 (tp 148) (tp 147))] [0,1,0,4,0,28,60,124,252,511,1023,2047] (.take 0 (.take 1 (.take 2 (.take 3 (.take 4 (.take 5 (.take 6 (.alts (.cons 7 false (.alts (.cons 8 false (.alts (.cons 9 true (.take 10 (.alts (.cons 11 true .done .nil))) .nil)) .nil)) .nil))))))))) (some [1,2,3,9]))) (.region [mq 136 9,oo 137 (.bin .add (tp 136) (ci 1)),mq 9 137] (some [1,2,3,9]))))))) (.seq (sr [oo 10 (.mv (ci 0))] [1,2,3,10] (.block 8 (.loop (.seq (sr [mq 149 10,fi 150 10 1,lq 151 150,oo 152 (.len (tp 151) false),oo 153 (.bin .lss (tp 149) (tp 152)),mq 154 153,og 154 true 155 (.mv (tp 10)),og 154 true 156 (.bin .lss (tp 155) (ci 7)),oo 157 (.pick (tp 154) (tp 156) (cq false))] [1,2,3,10,157] (.cond (tp 157) .skip (.exit 8))) (.seq (.block 9 (sr [fi 160 10 1,lq 161 160,mq 162 10,oo 163 (.idxA 3 (tp 161) (tp 162)),fi 164 1 163,lq 165 164,oo 166 (.call 58 [tp 165]),oo 167 (.build [.nils,.nils,.nils] [(1,1,tp 166)]),oo 11 (.alloc 104 [.nils,.nils,.nils]),.mk none none (.store 3 (tp 11) (tp 167))] [1,2,3,10,11] (.seq (sr [oo 12 (.mv (ci 0))] [1,2,3,10,11,12] (.block 10 (.loop (.seq (sr [mq 168 12,fi 169 10 1,lq 170 169,mq 171 10,oo 172 (.idxA 3 (tp 170) (tp 171)),fi 173 0 172,lq 174 173,oo 175 (.len (tp 174) false),oo 176 (.bin .lss (tp 168) (tp 175)),mq 177 176,og 177 true 178 (.mv (tp 12)),og 177 true 179 (.bin .lss (tp 178) (ci 5)),oo 180 (.pick (tp 177) (tp 179) (cq false))] [1,2,3,10,11,12,180] (.cond (tp 180) .skip (.exit 10))) (.seq (.block 11 (.draw [fi 183 0 11,lq 184 183,fi 185 10 1,lq 186 185,mq 187 10,oo 188 (.idxA 3 (tp 186) (tp 187)),fi 189 0 188,lq 190 189,mq 191 12,oo 192 (.idxA 5 (tp 190) (tp 191)),oo 193 (.load (some 5) (tp 192)),oo 194 (.call 59 [tp 193]),oo 195 (.bslice 128 5 [tp 194]),oo 196 (.append 128 5 88 (tp 184) (tp 195)),fi 197 0 11,.mk none none (.store 1 (tp 197) (tp 196))] [0,1,0,4,0,28,60,124,0,508,1020,2044,4092,8191,16383,32767] (.take 0 (.take 1 (.take 2 (.take 3 (.take 4 (.take 5 (.take 6 (.take 7 (.take 8 (.take 9 (.take 10 (.alts (.cons 11 false (.alts (.cons 12 false (.alts (.cons 13 true (.take 14 (.alts (.cons 15 true .done .nil))) .nil)) .nil)) .nil))))))))))))) (some [1,2,3,10,11,12]))) (.region [mq 181 12,oo 182 (.bin .add (tp 181) (ci 1)),mq 12 182] (some [1,2,3,10,11,12]))))))) (.seq (sr [oo 13 (.mv (ci 0))] [1,2,3,10,11,13] (.block 12 (.loop (.seq (sr [mq 198 13,fi 199 10 1,lq 200 199,mq 201 10,oo 202 (.idxA 3 (tp 200) (tp 201)),fi 203 2 202,lq 204 203,oo 205 (.len (tp 204) false),oo 206 (.bin .lss (tp 198) (tp 205)),mq 207 206,og 207 true 208 (.mv (tp 13)),og 207 true 209 (.bin .lss (tp 208) (ci 5)),oo 210 (.pick (tp 207) (tp 209) (cq false))] [1,2,3,10,11,13,210] (.cond (tp 210) .skip (.exit 12))) (.seq (.block 13 (sr [fi 213 10 1,lq 214 213,mq 215 10,oo 216 (.idxA 3 (tp 214) (tp 215)),fi 217 2 216,lq 218 217,mq 219 13,oo 220 (.idxA 5 (tp 218) (tp 219)),oo 221 (.load (some 5) (tp 220)),oo 14 (.alloc 106 [.pd (.raw (.int .i64 0)),.pd (.raw (.string ⟨#[]⟩)),.pd (.raw (.string ⟨#[]⟩)),.pd (.raw (.int .i64 0)),.pd (.raw (.int .i64 0))]),.mk none none (.store 5 (tp 14) (tp 221))] [1,2,3,10,11,13,14] (.draw [fi 222 2 11,lq 223 222,fi 224 0 14,oo 225 (.load (some 3) (tp 224)),oo 226 (.call 18 [tp 225]),fi 227 3 14,lq 228 227,fi 229 4 14,lq 230 229,oo 231 (.build [.pd (.raw (.int .i64 0)),.pd (.raw (.string ⟨#[]⟩)),.pd (.raw (.string ⟨#[]⟩)),.pd (.raw (.int .i64 0)),.pd (.raw (.int .i64 0))] [(0,3,tp 226),(3,1,tp 228),(4,1,tp 230)]),oo 232 (.bslice 106 5 [tp 231]),oo 233 (.append 106 5 56 (tp 223) (tp 232)),fi 234 2 11,.mk none none (.store 1 (tp 234) (tp 233))] [0,1,0,4,12,0,32,0,128,508,1020,2047,4095,8191] (.take 0 (.take 1 (.take 2 (.take 3 (.take 5 (.take 6 (.take 7 (.take 8 (.alts (.cons 4 false (.take 9 (.alts (.cons 10 false (.alts (.cons 11 true (.take 12 (.alts (.cons 13 true .done .nil))) .nil)) .nil))) .nil)))))))))) (some [1,2,3,10,11,13])))) (.region [mq 211 13,oo 212 (.bin .add (tp 211) (ci 1)),mq 13 212] (some [1,2,3,10,11,13]))))))) (.region [fi 235 10 3,lq 236 235,oo 237 (.load (some 3) (tp 11)),oo 238 (.bslice 104 3 [tp 237]),oo 239 (.append 104 3 72 (tp 236) (tp 238)),fi 240 10 3,.mk none none (.store 1 (tp 240) (tp 239))] (some [1,2,3,10])))))) (.region [mq 158 10,oo 159 (.bin .add (tp 158) (ci 1)),mq 10 159] (some [1,2,3,10]))))))) (sr [oo 241 (.load (some 13) (tp 3)),.mk none none (.store 13 (tp 2) (tp 241))] [2] .ret))))))))
def an_z8s55 : Ann := ann [0,1,2,3,5,4,6,7,9,10,8,11,12,14,15,13,16,17,19,18,20,21,23,24,25,27,26,28,29,31,32,30,22,33,34] ac_z8s55
theorem ok_z8s55 : okd Tryz.prog an_z8s55 ac_z8s55 Tryz.f28 := ⟨by kernel_rfl, by kernel_rfl⟩
theorem ret_z8s55 (st : St) : resD Tryz.prog st Tryz.f28.results.toList = resA st [.cell 2 (some 13)] := resD_of (by kernel_rfl)


def ac_zn02s : AC := (sr [oo 1 (.box 92 (tp 0)),oo 2 (.mv (cq false))] [1] (.seq (.draw [fi 12 0 1,oo 13 (.load (some 3) (tp 12)),oo 14 (.call 18 [tp 13]),fi 15 3 1,oo 16 (.load (some 3) (tp 15)),oo 17 (.call 18 [tp 16]),fi 18 6 1,oo 19 (.load (some 3) (tp 18)),oo 20 (.call 18 [tp 19]),fi 21 9 1,oo 22 (.load (some 13) (tp 21)),oo 23 (.call 28 [tp 22]),oo 3 (.alloc 35 [.pd (.raw (.int .i64 0)),.pd (.raw (.string ⟨#[]⟩)),.pd (.raw (.string ⟨#[]⟩))]),oo 4 (.alloc 35 [.pd (.raw (.int .i64 0)),.pd (.raw (.string ⟨#[]⟩)),.pd (.raw (.string ⟨#[]⟩))]),oo 5 (.alloc 35 [.pd (.raw (.int .i64 0)),.pd (.raw (.string ⟨#[]⟩)),.pd (.raw (.string ⟨#[]⟩))]),oo 6 (.alloc 47 [.pd (.raw (.int .i64 0)),.pd (.raw (.string ⟨#[]⟩)),.pd (.raw (.string ⟨#[]⟩)),.pd (.raw (.bool false)),.nils,.nils,.pd (.raw (.string ⟨#[]⟩)),.nils,.nils,.nils,.nils,.nils,.nils]),.mk none none (.store 3 (tp 3) (tp 14)),.mk none none (.store 3 (tp 4) (tp 17)),.mk none none (.store 3 (tp 5) (tp 20)),.mk none none (.store 13 (tp 6) (tp 23))] [0,1,3,0,8,31,0,64,255,0,512,2047,0,0,0,0,65535,131071,262143,524287] (.take 0 (.take 1 (.take 3 (.take 4 (.take 6 (.take 7 (.take 9 (.take 10 (.late [12,13,14,15] [2,5,8,11] (.alts (.cons 16 true (.alts (.cons 17 true (.alts (.cons 18 true (.alts (.cons 19 true .done .nil)) .nil)) .nil)) .nil))))))))))) (some [3,4,5,6])) (.seq (.draw [oo 24 (.load (some 3) (tp 3)),oo 25 (.load (some 3) (tp 4)),oo 26 (.call 39 [tp 24,tp 25]),oo 27 (.load (some 3) (tp 4)),oo 28 (.load (some 3) (tp 5)),oo 29 (.call 39 [tp 27,tp 28]),oo 30 (.load (some 3) (tp 3)),oo 31 (.load (some 3) (tp 5)),oo 32 (.call 39 [tp 30,tp 31]),mq 7 26,mq 8 29,mq 9 32] [0,0,3,0,0,31,0,0,255,511,1023,2047] (.take 0 (.take 1 (.take 3 (.take 4 (.take 6 (.take 7 (.alts (.cons 2 false (.alts (.cons 5 false (.alts (.cons 8 true (.take 9 (.take 10 (.take 11 .done))) .nil)) .nil)) .nil)))))))) (some [3,4,6,7,8,9])) (.seq (sr [oo 33 (.load (some 3) (tp 4)),oo 34 (.load (some 3) (tp 3)),oo 35 (.call 39 [tp 33,tp 34]),mq 36 7,oo 37 (.un .neg (tp 36)),oo 38 (.bin .neq (tp 35) (tp 37)),mq 39 38,og 39 false 40 (.mv (tp 7)),og 39 false 41 (.bin .eql (tp 40) (ci 0)),og 39 false 42 (.load (some 3) (tp 3)),og 39 false 43 (.load (some 3) (tp 4)),og 39 false 44 (.eqs false [.int,.str,.str] (tp 42) (tp 43)),og 39 false 45 (.binB true (tp 41) (tp 44)),oo 46 (.pick (tp 39) (cq true) (tp 45)),mq 47 46,og 47 false 48 (.mv (tp 7)),og 47 false 49 (.bin .leq (tp 48) (ci 0)),og 47 false 50 (.mv (tp 49)),og 50 true 51 (.mv (tp 8)),og 50 true 52 (.bin .leq (tp 51) (ci 0)),og 47 false 53 (.pick (tp 50) (tp 52) (cq false)),og 47 false 54 (.mv (tp 53)),og 54 true 55 (.mv (tp 9)),og 54 true 56 (.bin .gtr (tp 55) (ci 0)),og 47 false 57 (.pick (tp 54) (tp 56) (cq false)),oo 58 (.pick (tp 47) (cq true) (tp 57)),mq 59 58,og 59 false 60 (.mv (tp 7)),og 59 false 61 (.bin .lss (tp 60) (ci 0)),og 59 false 62 (.mv (tp 61)),og 62 true 63 (.mv (tp 8)),og 62 true 64 (.bin .leq (tp 63) (ci 0)),og 59 false 65 (.pick (tp 62) (tp 64) (cq false)),og 59 false 66 (.mv (tp 65)),og 66 true 67 (.mv (tp 9)),og 66 true 68 (.bin .geq (tp 67) (ci 0)),og 59 false 69 (.pick (tp 66) (tp 68) (cq false)),oo 70 (.pick (tp 59) (cq true) (tp 69))] [6,70] (.cond (tp 70) (sr [oo 2 (.mv (cq false))] [2] .ret) .skip)) (sr [oo 71 (.load (some 13) (tp 6)),oo 72 (.call 40 [tp 71]),mq 10 72] [10] (.seq (sr [oo 11 (.mv (ci 1))] [10,11] (.block 0 (.loop (.seq (sr [mq 73 11,mq 74 10,oo 75 (.len (tp 74) false),oo 76 (.bin .lss (tp 73) (tp 75))] [10,11,76] (.cond (tp 76) .skip (.exit 0))) (.seq (.block 1 (.seq (.draw [mq 79 10,mq 80 11,oo 81 (.bin .sub (tp 80) (ci 1)),oo 82 (.idxA 3 (tp 79) (tp 81)),oo 83 (.load (some 3) (tp 82)),mq 84 10,mq 85 11,oo 86 (.idxA 3 (tp 84) (tp 85)),oo 87 (.load (some 3) (tp 86)),oo 88 (.call 39 [tp 83,tp 87]),oo 89 (.bin .geq (tp 88) (ci 0))] [0,0,2,7,15,0,0,96,224,511,1023] (.take 0 (.take 1 (.take 2 (.take 3 (.take 4 (.take 5 (.take 6 (.take 7 (.take 8 (.alts (.cons 9 true (.take 10 .done) .nil))))))))))) (some [10,11,89])) (.cond (tp 89) (sr [oo 2 (.mv (cq false))] [2] .ret) .skip))) (.region [mq 77 11,oo 78 (.bin .add (tp 77) (ci 1)),mq 11 78] (some [10,11]))))))) (sr [oo 90 (.call 41 []),mq 2 90] [2] .ret)))))))
def an_zn02s : Ann := ann [0,1,2,3,4,5,6,7,9,10,8,11] ac_zn02s
theorem ok_zn02s : okd Tryz.prog an_zn02s ac_zn02s Tryz.f11 := ⟨by kernel_rfl, by kernel_rfl⟩

def ac_z7f18 : AC := (sr [oo 0 (.mv (cq false))] [] (sr [oo 5 (.call 86 []),oo 6 (.field 0 (some 3) (tp 5)),oo 7 (.call 85 [tp 6]),mq 4 7,oo 8 (.extract (tp 4) 0),oo 9 (.extract (tp 4) 1),mq 1 8,mq 2 9] [1,2] (sr [oo 10 (.build [.pd (.raw (.int .i64 0)),.pd (.raw (.string ⟨#[]⟩)),.pd (.raw (.string ⟨#[]⟩))] [(0,1,ci 2),(2,1,.const (.string ⟨#[119,101,98]⟩))]),oo 11 (.build [.pd (.raw (.int .i64 0)),.pd (.raw (.string ⟨#[]⟩)),.pd (.raw (.string ⟨#[]⟩))] [(0,1,ci 3),(1,1,.const (.string ⟨#[97,112,112]⟩)),(2,1,.const (.string ⟨#[97,112,105]⟩))]),oo 12 (.build [.pd (.raw (.int .i64 0)),.pd (.raw (.string ⟨#[]⟩)),.pd (.raw (.string ⟨#[]⟩))] [(0,1,ci 5),(1,1,.const (.string ⟨#[119,101,98]⟩)),(2,1,.const (.string ⟨#[103,119]⟩))]),oo 13 (.bslice 35 3 [tp 10,tp 11,tp 12]),mq 3 13] [1,2,3] (sr [oo 14 (.build [.pd (.raw (.int .i64 0)),.pd (.raw (.string ⟨#[]⟩)),.pd (.raw (.string ⟨#[]⟩))] [(0,1,ci 5),(1,1,.const (.string ⟨#[119,101,98]⟩)),(2,1,.const (.string ⟨#[103,119]⟩))]),oo 15 (.build [.pd (.raw (.int .i64 0)),.pd (.raw (.string ⟨#[]⟩)),.pd (.raw (.string ⟨#[]⟩)),.pd (.raw (.bool false)),.nils,.nils,.pd (.raw (.string ⟨#[]⟩)),.nils,.nils,.nils,.nils,.nils,.nils] [(0,3,tp 14),(6,1,.const (.string ⟨#[99]⟩))]),oo 16 (.call 42 [tp 15]),oo 17 (.un .not (tp 16)),mq 18 17,og 18 true 19 (.call 86 []),og 18 true 20 (.call 40 [tp 19]),og 18 true 21 (.mv (tp 3)),og 18 true 22 (.call 43 [tp 20,tp 21]),oo 23 (.pick (tp 18) (tp 22) (cq false)),mq 24 23,og 24 true 25 (.mv (tp 1)),og 24 true 26 (.bin .eql (tp 25) (.const (.string ⟨#[54,32,119,101,98,47,97]⟩))),oo 27 (.pick (tp 24) (tp 26) (cq false)),mq 28 27,og 28 true 29 (.mv (tp 2)),og 28 true 30 (.bin .eql (tp 29) (ci 0)),oo 31 (.pick (tp 28) (tp 30) (cq false)),mq 32 31,oo 33 (.pick (tp 32) (cq true) (cq false)),mq 34 33,oo 35 (.pick (tp 34) (cq true) (cq false)),mq 36 35,oo 37 (.pick (tp 36) (cq true) (cq false)),mq 38 37,oo 39 (.pick (tp 38) (cq true) (cq false)),mq 40 39,oo 41 (.pick (tp 40) (cq true) (cq false)),mq 42 41,oo 43 (.pick (tp 42) (cq true) (cq false)),mq 44 43,oo 45 (.pick (tp 44) (cq true) (cq false)),mq 46 45,oo 47 (.pick (tp 46) (cq true) (cq false)),mq 0 47] [0] .ret))))
def an_z7f18 : Ann := ann (List.range 4) ac_z7f18
theorem ok_z7f18 : okd Tryz.prog an_z7f18 ac_z7f18 Tryz.f41 := ⟨by kernel_rfl, by kernel_rfl⟩

def ac_zlfbg : AC := (sr [oo 0 (.alloc 47 [.pd (.raw (.int .i64 0)),.pd (.raw (.string ⟨#[]⟩)),.pd (.raw (.string ⟨#[]⟩)),.pd (.raw (.bool false)),.nils,.nils,.pd (.raw (.string ⟨#[]⟩)),.nils,.nils,.nils,.nils,.nils,.nils])] [0] (sr [oo 1 (.build [.pd (.raw (.int .i64 0)),.pd (.raw (.string ⟨#[]⟩)),.pd (.raw (.string ⟨#[]⟩))] [(0,1,ci 6),(1,1,.const (.string ⟨#[119,101,98]⟩)),(2,1,.const (.string ⟨#[97]⟩))]),oo 2 (.build [.pd (.raw (.string ⟨#[]⟩)),.pd (.raw (.string ⟨#[]⟩)),.pd (.raw (.string ⟨#[]⟩)),.pd (.raw (.int .i64 0))] [(1,1,.const (.string ⟨#[103,119]⟩))]),oo 3 (.bslice 99 4 [tp 2]),oo 4 (.build [.pd (.raw (.int .i64 0)),.pd (.raw (.string ⟨#[]⟩)),.pd (.raw (.string ⟨#[]⟩))] [(0,1,ci 3),(1,1,.const (.string ⟨#[97,112,112]⟩)),(2,1,.const (.string ⟨#[97,112,105]⟩))]),oo 5 (.build [.pd (.raw (.int .i64 0)),.pd (.raw (.string ⟨#[]⟩)),.pd (.raw (.string ⟨#[]⟩)),.pd (.raw (.int .i64 0)),.pd (.raw (.int .i64 0))] [(0,3,tp 4)]),oo 6 (.bslice 106 5 [tp 5]),oo 7 (.build [.nils,.nils,.nils] [(2,1,tp 6)]),oo 8 (.bslice 104 3 [tp 7]),oo 9 (.build [.pd (.raw (.int .i64 0)),.pd (.raw (.string ⟨#[]⟩)),.pd (.raw (.string ⟨#[]⟩)),.pd (.raw (.bool false)),.nils,.nils,.pd (.raw (.string ⟨#[]⟩)),.nils,.nils,.nils,.nils,.nils,.nils] [(0,3,tp 1),(8,1,tp 3),(10,1,tp 8)]),.mk none none (.store 13 (tp 0) (tp 9))] [0] .ret))
def an_zlfbg : Ann := ann (List.range 2) ac_zlfbg
theorem ok_zlfbg : okd Tryz.prog an_zlfbg ac_zlfbg Tryz.f86 := ⟨by kernel_rfl, by kernel_rfl⟩
theorem ret_zlfbg (st : St) : resD Tryz.prog st Tryz.f86.results.toList = resA st [.cell 0 (some 13)] := resD_of (by kernel_rfl)

def ac_z77de : AC := (sr [oo 4 (.mv (.const (.string ⟨#[]⟩))),oo 5 (.mv (ci 0))] [0,1] (.seq (sr [mq 6 0,oo 7 (.bin .neq (tp 6) (.const (.string ⟨#[]⟩))),mq 8 7,og 8 true 9 (.mv (tp 0)),og 8 true 10 (.call 94 [tp 9]),og 8 true 11 (.un .not (tp 10)),oo 12 (.pick (tp 8) (tp 11) (cq false)),mq 13 12,og 13 false 14 (.mv (tp 1)),og 13 false 15 (.call 93 [tp 14]),og 13 false 16 (.un .not (tp 15)),oo 17 (.pick (tp 13) (cq true) (tp 16))] [0,1,17] (.cond (tp 17) (sr [oo 4 (.mv (.const (.string ⟨#[]⟩))),oo 5 (.mv (ci 1))] [4,5] .ret) .skip)) (sr [mq 18 0,oo 19 (.bin .add (tp 18) (.const (.string ⟨#[47]⟩))),mq 20 1,oo 21 (.bin .add (tp 19) (tp 20)),mq 4 21,oo 5 (.mv (ci 0))] [4,5] .ret)))
def an_z77de : Ann := ann (List.range 4) ac_z77de
theorem ok_z77de : okd Tryz.prog an_z77de ac_z77de Tryz.f123 := ⟨by kernel_rfl, by kernel_rfl⟩

end Go.Proofs.YtjgpdjakehoofaaGreatDoor


namespace Go.Proofs.YtjgpdjakehoofaaGreatDoor
open Go Go.RowKit
set_option linter.unusedSimpArgs false
set_option linter.unusedVariables false
set_option maxRecDepth 100000

inductive Sh where
 | int (k : IntKind)
 | str
 | bool
 | slice (s : List Sh)

mutual
inductive HasSh : Sh → PD → Prop
 | int (k : IntKind) (n : Int) (h : (Lit.int k n).wf = true) : HasSh (.int k) (.raw (.int k n))
 | str (s : ByteArray) (h : s.size ≤ maxLen) : HasSh .str (.raw (.string s))
 | bool (b : Bool) : HasSh .bool (.raw (.bool b))
 | slice (s : List Sh) (els : List (List PD)) (hm : els.length ≤ maxLen) (h : ∀ r ∈ els, HasShs s r) : HasSh (.slice s) (.slice els)
inductive HasShs : List Sh → List PD → Prop
 | nil : HasShs [] []
 | cons (s : Sh) (d : PD) (ss : List Sh) (ds : List PD) (h : HasSh s d) (hs : HasShs ss ds) : HasShs (s :: ss) (d :: ds)
end

theorem HasShs.append : ∀ {s1 s2 : List Sh} {d1 d2 : List PD}, HasShs s1 d1 → HasShs s2 d2 → HasShs (s1 ++ s2) (d1 ++ d2)
 | [], _, _, _, h, k => by cases h; exact k
 | _ :: _, _, _, _, h, k => by
   cases h with
   | cons s d ss ds h hs => exact .cons _ _ _ _ h (hs.append k)

mutual
def shp (P : Program) : Nat → TypeId → Option (List Sh)
 | 0, _ => none
 | n + 1, t => match P.underlying t with
   | some (.int k) => some [.int k]
   | some .string => some [.str]
   | some .bool => some [.bool]
   | some (.slice e) => match shp P n e with
     | some s => if P.cellsOf e = s.length ∧ 0 < s.length then some [.slice s] else none
     | none => none
   | some (.struct fs) => match shpF P n fs.toList 0 with
     | some s => if s.length = P.cellsOf t then some s else none
     | none => none
   | _ => none
def shpF (P : Program) : Nat → List Field → Nat → Option (List Sh)
 | _, [], _ => some []
 | 0, _ :: _, _ => none
 | n + 1, f :: fs, off => if f.offset ≠ off then none else match shp P n f.type with
   | some s => if P.cellsOf f.type = s.length then (shpF P n fs (off + s.length)).map (s ++ ·) else none
   | none => none
end

theorem list_of {α : Type} [Inhabited α] {Q : Nat → α → Prop} : ∀ (n : Nat), (∀ j, j < n → ∃ d, Q j d) → ∃ l : List α, l.length = n ∧ ∀ j, j < n → Q j (l.getD j default)
 | 0, _ => ⟨[], rfl, fun j hj => by omega⟩
 | n + 1, h => by
   obtain ⟨l, h1, h2⟩ := list_of n (fun j hj => h j (by omega))
   obtain ⟨d, hd⟩ := h n (by omega)
   refine ⟨l ++ [d], by simp [h1], fun j hj => ?_⟩
   by_cases hjn : j < n
   ·have := h2 j hjn
    rw [List.getD_eq_getElem?_getD, List.getElem?_append_left (by omega), ← List.getD_eq_getElem?_getD]
    exact this
   ·have e : j = n := by omega
    subst e
    rw [List.getD_eq_getElem?_getD, List.getElem?_append_right (by omega), h1, Nat.sub_self]
    exact hd

section
variable {H : Type} {enc : TypeId × Value → H} {P : Program} {w : World} {spare : Nat → Bool} {held : Bool} {Fz : Nat → Nat → Prop}

theorem readF (hF : ∀ b o v, w.cell? ⟨b, o, none⟩ = some v → Fz b o) (n0 : Nat) (ih : ∀ n, n ≤ n0 → ∀ (t : TypeId) (s : List Sh) (fuel : Nat) (cs : List Value) (x : DataW H × List MemPlace), shp P n t = some s → DataW.trod enc P w 0 spare held fuel t cs = some x → ∃ ds, PReps Fz w cs ds ∧ HasShs s ds) (cs : List Value) :
 ∀ (n : Nat), n ≤ n0 + 1 → ∀ (fs : List Field) (off : Nat) (s : List Sh), shpF P n fs off = some s →
   (∀ f ∈ fs, ∃ fuel x, DataW.trod enc P w 0 spare held fuel f.type ((cs.drop f.offset).take (P.cellsOf f.type)) = some x) → off + s.length ≤ cs.length →
   ∃ ds, PReps Fz w ((cs.drop off).take s.length) ds ∧ HasShs s ds
 | _, _, [], off, s, h, _, _ => by
   have : s = [] := by
    unfold shpF at h
    simpa using h.symm
   subst this
   exact ⟨[], by simpa using PReps.nil, .nil⟩
 | 0, _, f :: fs, off, s, h, _, _ => by unfold shpF at h; cases h
 | n + 1, hn, f :: fs, off, s, h, hf, hl => by
   unfold shpF at h
   split at h
   ·cases h
   ·rename_i ho
    simp only [ne_eq, Decidable.not_not] at ho
    split at h
    ·rename_i s1 h1
     split at h
     ·rename_i hc
      obtain ⟨s2, h2, rfl⟩ := Option.map_eq_some_iff.1 h
      obtain ⟨fuel, x, hx⟩ := hf f List.mem_cons_self
      rw [ho, hc] at hx
      obtain ⟨d1, p1, q1⟩ := ih n (by omega) f.type s1 fuel _ x h1 hx
      rw [List.length_append] at hl
      obtain ⟨d2, p2, q2⟩ := readF hF n0 ih cs n (by omega) fs (off + s1.length) s2 h2 (fun g hg => hf g (List.mem_cons_of_mem _ hg)) (by omega)
      refine ⟨d1 ++ d2, ?_, q1.append q2⟩
      have e : (cs.drop off).take (s1 ++ s2).length = (cs.drop off).take s1.length ++ (cs.drop (off + s1.length)).take s2.length := by
       rw [List.length_append, List.take_add, List.drop_drop]
      rw [e]
      exact p1.append p2
     ·cases h
    ·cases h

theorem read (hF : ∀ b o v, w.cell? ⟨b, o, none⟩ = some v → Fz b o) : ∀ (n0 n : Nat), n ≤ n0 → ∀ (t : TypeId) (s : List Sh) (fuel : Nat) (cs : List Value) (x : DataW H × List MemPlace), shp P n t = some s → DataW.trod enc P w 0 spare held fuel t cs = some x → ∃ ds, PReps Fz w cs ds ∧ HasShs s ds
 | 0, n, hn, t, s, fuel, cs, x, h, hx => by
   have : n = 0 := by omega
   subst this
   unfold shp at h
   cases h
 | n0 + 1, 0, hn, t, s, fuel, cs, x, h, hx => by unfold shp at h; cases h
 | n0 + 1, n + 1, hn, t, s, fuel, cs, x, h, hx => by
   have ih := read hF n0
   unfold shp at h
   split at h
   ·rename_i k hu
    cases h
    obtain ⟨m, rfl, _, hw⟩ := DataW.trod_int hu hx
    exact ⟨[.raw (.int k m)], .cons _ _ _ _ (.raw _ rfl) .nil, .cons _ _ _ _ (.int k m hw) .nil⟩
   ·rename_i hu
    cases h
    obtain ⟨m, rfl, _, hw⟩ := DataW.trod_string hu hx
    exact ⟨[.raw (.string m)], .cons _ _ _ _ (.raw _ rfl) .nil, .cons _ _ _ _ (.str m hw) .nil⟩
   ·rename_i hu
    cases h
    obtain ⟨m, rfl, _⟩ := DataW.trod_bool hu hx
    exact ⟨[.raw (.bool m)], .cons _ _ _ _ (.raw _ rfl) .nil, .cons _ _ _ _ (.bool m) .nil⟩
   ·rename_i e hu
    split at h
    ·rename_i s1 h1
     split at h
     ·rename_i hc
      cases h
      rcases DataW.trod_slice hu hx with ⟨rfl, _⟩ | ⟨a, len, cap, elems, rest, m, _, rfl, _, _, hl, hm, hlen, hel, _, _⟩
      ·exact ⟨[.slice []], .cons _ _ _ _ (.empty _ _) .nil, .cons _ _ _ _ (.slice _ _ (by simp) (by simp)) .nil⟩
      ·have each : ∀ j, j < len → ∃ d, PReps Fz w ((w.cells? 0 (a.add (j * P.cellsOf e)) (P.cellsOf e)).getD []) d ∧ HasShs s1 d := by
        intro j hj
        have hj' := hel j hj
        rw [List.getElem?_eq_getElem (by omega)] at hj'
        obtain ⟨cj, e1, e2⟩ := Option.bind_eq_some_iff.1 hj'
        rw [e1]
        exact ih n (by omega) e s1 m cj _ h1 e2
       obtain ⟨els, hels, hall⟩ := list_of len each
       rcases Nat.eq_zero_or_pos len with h0 | hpos
       ·subst h0
        have : els = [] := List.eq_nil_of_length_eq_zero hels
        subst this
        exact ⟨[.slice []], .cons _ _ _ _ (.empty _ _) .nil, .cons _ _ _ _ (.slice _ _ (by simp) (by simp)) .nil⟩
       ·have hcell : ∀ j i u, j < len → ((w.cells? 0 (a.add (j * P.cellsOf e)) (P.cellsOf e)).getD [])[i]? = some u → w.cell? ((a.add (j * P.cellsOf e)).add i) = some u := by
         intro j i u hj hu'
         have hj' := hel j hj
         rw [List.getElem?_eq_getElem (by omega)] at hj'
         obtain ⟨cj, e1, e2⟩ := Option.bind_eq_some_iff.1 hj'
         rw [e1] at hu'
         simp only [Option.getD_some] at hu'
         unfold World.cells? at e1
         simp only [Nat.zero_le, if_true] at e1
         have hi : i < P.cellsOf e := by
          have h3 := (List.getElem?_eq_some_iff.1 hu').1
          have h4 := mapM_some_length e1
          simp at h4
          omega
         have := mapM_some_get e1 i i (by simp [hi])
         rw [hu'] at this
         exact this
        have hvl : ∀ j, j < len → ((w.cells? 0 (a.add (j * P.cellsOf e)) (P.cellsOf e)).getD []).length = P.cellsOf e := by
         intro j hj
         have hj' := hel j hj
         rw [List.getElem?_eq_getElem (by omega)] at hj'
         obtain ⟨cj, e1, e2⟩ := Option.bind_eq_some_iff.1 hj'
         rw [e1]
         simp only [Option.getD_some]
         unfold World.cells? at e1
         simp only [Nat.zero_le, if_true] at e1
         have h4 := mapM_some_length e1
         simpa using h4
        have hspot : ∃ b off, a = ⟨b, off, none⟩ := by
         have h1 := hvl 0 hpos
         have h2 := hcell 0 0 _ hpos (List.getElem?_eq_getElem (by omega))
         simp only [Nat.zero_mul, Addr.add, if_true] at h2
         unfold World.cell? at h2
         split at h2
         ·split at h2
          ·cases h2
          ·rename_i hs
           obtain ⟨b, off, sp⟩ := a
           simp only [Option.not_isSome_iff_eq_none] at hs
           subst hs
           exact ⟨b, off, rfl⟩
         ·cases h2
        obtain ⟨b, off, rfl⟩ := hspot
        refine ⟨[.slice els], .cons _ _ _ _ (.slice b off len cap (P.cellsOf e) els (fun j => (w.cells? 0 ((⟨b, off, none⟩ : Addr).add (j * P.cellsOf e)) (P.cellsOf e)).getD []) hels hpos hl (by omega) hvl (fun j i u hj hu' => ?_) (fun j hj => ?_)) .nil, .cons _ _ _ _ (.slice _ _ (by omega) (fun r hr => ?_)) .nil⟩
        ·have h5 := hcell j i u hj hu'
         rw [Addr.add_mid, Addr.add_mid] at h5
         exact ⟨h5, hF _ _ _ h5⟩
        ·exact (hall j hj).1
        ·obtain ⟨j, hj, rfl⟩ := List.getElem_of_mem hr
         have := (hall j (by omega)).2
         rwa [List.getD_eq_getElem?_getD, List.getElem?_eq_getElem hj] at this
     ·cases h
    ·cases h
   ·rename_i fs hu
    split at h
    ·rename_i s1 h1
     split at h
     ·rename_i hc
      cases h
      obtain ⟨xs, m, _, _, hl, hxl, hall⟩ := DataW.trod_struct hu hx
      obtain ⟨ds, h2, h3⟩ := readF hF n0 ih cs n (by omega) fs.toList 0 s h1 (fun f hf => by
       obtain ⟨i, hi, rfl⟩ := List.getElem_of_mem hf
       have h4 := hall i _ (by rw [← Array.getElem?_toList]; exact List.getElem?_eq_getElem hi)
       rw [List.getElem?_eq_getElem (by rw [hxl]; simpa using hi)] at h4
       exact ⟨m, _, h4⟩) (by omega)
      refine ⟨ds, ?_, h3⟩
      rw [List.drop_zero, List.take_of_length_le (by omega)] at h2
      exact h2
     ·cases h
    ·cases h
   ·cases h
end

end Go.Proofs.YtjgpdjakehoofaaGreatDoor



namespace Go.Proofs.YtjgpdjakehoofaaGreatDoor
open Go Go.RowKit Go.ChangeShapes Go.WideShapes Go.ChangeAt Go.WideMaps Go.WideElems
set_option linter.unusedSimpArgs false
set_option linter.unusedVariables false
set_option maxRecDepth 100000

theorem own_ : ownKnob Tryz.prog.godebug = none := by kernel_rfl
theorem laidOut_ : laidOutB Tryz.prog = true := by kernel_rfl

abbrev allFz (W : World) : Nat → Nat → Prop := fun b _ => b < W.heap.size

theorem allFz_cell {W : World} (b o : Nat) (v : Value) (h : W.cell? ⟨b, o, none⟩ = some v) : allFz W b o := by
 unfold World.cell? at h
 split at h
 ·rename_i hh; exact (Array.getElem?_eq_some_iff.1 hh).1
 ·cases h

section
variable {H : Type} {enc : TypeId × Value → H} {P : Program} {W : World} {base : Nat} {spare : Nat → Bool} {held : Bool}

theorem law_true {f : FuncId} {args : List D} {vs : List Value} (hp : Pure P f args (fun d => d = bln true)) (hr : Reps (gh0 (allFz W)) W args vs) :
 Calls P f vs.toArray W fun e w' => e = .returned (.bool true) ∧ Below W.heap.size W w' :=
 (hp (allFz W) W vs (fun _ _ h => h) hr).mono fun e w' ⟨v, d, Fz', h1, h2, _, h4, _, _, _, h8⟩ => by
  subst h2
  refine ⟨?_, h4⟩
  rw [h1]
  have := raw_inv h8
  rw [this]
end

end Go.Proofs.YtjgpdjakehoofaaGreatDoor


