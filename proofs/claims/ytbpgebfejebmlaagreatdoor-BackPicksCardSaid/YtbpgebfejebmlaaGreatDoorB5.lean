/- The abstract layer, part 14: operations one behind the other do what they say. -/
import Derived.Test.YtbpgebfejebmlaaGreatDoorB4
namespace Go.Proofs.YtbpgebfejebmlaaGreatDoor
open Go Go.RowKit
set_option linter.unusedSimpArgs false
set_option linter.unusedVariables false

variable {C : Ctx} {st st' : St} {g : Gh} {a : Act} {w : World}

theorem astep_plain {P : Program} {o : AOper} (hp : o.op.plain = true) (K : St → Prop) : astep P o st K = (match o.op.ex o.dst st with | some (d, st') => K (st'.puto o.dst d) | none => False) := by
  obtain ⟨gd, dst, ao⟩ := o
  cases ao <;> first | rfl | cases hp

theorem Caps.reps : ∀ {cs : List (Nat × Nat)} {vs : List Value}, Caps g cs vs → Reps g w (cs.map fun c => .ptr c.1 c.2) vs
  | [], _, h => by simp only [Caps] at h; simp [h, Reps]
  | c :: cs, _, h => by
    simp only [Caps] at h
    obtain ⟨b, vs', rfl, hb, hs⟩ := h
    simp only [List.map_cons, Reps]
    exact ⟨_, vs', rfl, by simp only [Rep]; exact ⟨b, hb, rfl⟩, Caps.reps hs⟩

theorem call_sound {f : FuncId} {ds : List D} {K : D → St → Prop} (h : CallW C.P f ds st K) (hs : SR C st g a w) {vs : List Value} (hv : Reps g w ds vs) {o : Oper} {c : Call} (ho : o.op = .call c)
    (hr : (do let d ← resolve a.eval c o.type; invoke d.target d.args : Sem Next).run C.P w = (callFunc f vs.toArray).run C.P w) (next : Act → World → Prop) (Q : Exit → Act → World → Prop)
    (hn : ∀ d st' g' v w', SR C st' g' a w' → Rep g' w' d v → K d st' → next (a.put o.dst v) w') : o.wp C.P a w next Q := by
  have hrun : (execOp a.eval o).run C.P w = .ok (.enter f vs.toArray) w := by
    unfold execOp
    simp only [ho]
    rw [hr, h.1]
  unfold Oper.wp
  rw [hrun, Oper.upon_enter]
  refine (h.2 C g a w vs rfl hs hv).mono ?_
  rintro e w' ⟨v, d, st', g', rfl, hk, hsr, hrep⟩
  exact hn d st' g' v w' hsr hrep hk

theorem map_arr {α β : Type} (f : α → β) (l : Array α) : (l.toList.map f).toArray = l.map f := by rw [← Array.toList_map]

theorem comp_inv {P : Program} {op : Op} {ao : AOp} (h : comp P op = some ao) (hp : ao.plain = false) :
    (∃ c x y, op = .pick c x y ∧ ao = .pick c x y) ∨ (∃ c f, op = .call c ∧ c.callee = .value (.func f) ∧ ao = .call f c.args.toList) ∨
    (∃ c x, op = .call c ∧ c.callee = .value x ∧ ao = .callv x c.args.toList) ∨
    (∃ c x y t e i z, op = .call c ∧ c.callee = .builtin .append ∧ c.args.toList = [x, y] ∧ c.argTypes.toList = [t, t] ∧ P.underlying t = some (.slice e) ∧ P.info? e = some i ∧ i.zero = some z ∧
      z.cells.size = i.size ∧ 0 < i.size ∧ ao = .append e i.size i.bytes x y) := by
  unfold comp at h
  split at h
  case h_3 c x y => cases h; exact .inl ⟨c, x, y, rfl, rfl⟩
  case h_21 c =>
    split at h
    · rename_i f hc; cases h; exact .inr (.inl ⟨c, f, rfl, hc, rfl⟩)
    · rename_i x _ hc; cases h; exact .inr (.inr (.inl ⟨c, x, rfl, hc, rfl⟩))
    · repeat' split at h
      all_goals first | (cases h; done) | (cases h; cases hp; done)
    · repeat' split at h
      all_goals first | (cases h; done) | (cases h; cases hp; done)
    · repeat' split at h
      all_goals first | (cases h; done) | (cases h; cases hp; done)
    · rename_i hc
      split at h
      · rename_i x y t u ha ht
        split at h
        · rename_i htu
          subst htu
          split at h
          · rename_i e hu
            split at h
            · rename_i i hi
              split at h
              · rename_i z hz
                split at h
                · rename_i hh; cases h; exact .inr (.inr (.inr ⟨c, x, y, t, e, i, z, rfl, hc, ha, ht, hu, hi, hz, hh.1, hh.2, rfl⟩))
                · cases h
              · cases h
            · cases h
          · cases h
        · cases h
      · cases h
    · cases h
  all_goals (repeat' split at h)
  all_goals first | (cases h; done) | (cases h; cases hp; done) | (obtain ⟨k, _, rfl⟩ := Option.map_eq_some_iff.1 h; cases hp)

theorem append_sound (hs : SR C st g a w) {o : Oper} {c : Call} {x y : Operand} {t e : TypeId} {i : TypeInfo} {z : Value} (ho : o.op = .call c) (hc : c.callee = .builtin .append) (ha : c.args.toList = [x, y]) (ht : c.argTypes.toList = [t, t])
    (hu : C.P.underlying t = some (.slice e)) (hi : C.P.info? e = some i) (hz : i.zero = some z) (hzs : z.cells.size = i.size) (hpos : 0 < i.size) (n : Nat) (hn : o.dst = some n) (hd : C.wr n = true)
    (st1 : St) (g1 : Gh) (hs1 : SR C st1 g1 a w) (htk : g1.tk n = none) (hfz : g1.Fz = g.Fz) (hbxe : g1.bx = g.bx) (els es : List (List PD)) (hv : PRep g.Fz w (a.eval x) (.slice els)) (hl : ∀ r ∈ els, r.length = i.size)
    (O : Nat → Prop) (hxO : C.X st1.hs O w) (hO1 : ∀ k, (a.eval x).ownBlock = some k → O k) (hO2 : ∀ k, g1.has C.w0.heap.size k → O k)
    (m : Nat) (xs : List Value) (hown : w.ownsRow 0 e i.size (a.eval x) m xs) (hfr : ∀ b, (a.eval x).ownBlock = some b → (C.w0.heap.size ≤ b ∨ C.S b) ∧ ∀ o, g.Fz b o → o < m * i.size)
    (hbx : ∀ b, (a.eval x).ownBlock = some b → ∀ k, g1.bx k ≠ some b) (htks : ∀ b, (a.eval x).ownBlock = some b → ∀ s u f, g1.tk s = some (u, f) → u.ownBlock ≠ some b)
    (hy : (st.ev y).els = some es) (hly : ∀ r ∈ es, r.length = i.size) (h63 : els.length + es.length ≤ maxLen) (hbytes : (els.length + es.length) * i.bytes ≤ 140737488355328) {K : St → Prop} (hk : K (st1.put n (.own e i.size (els ++ es) n)))
    (next : Act → World → Prop) (Q : Exit → Act → World → Prop) (hnx : ∀ st' g' a' w', SR C st' g' a' w' → K st' → SF g w g' w' none → next a' w') : o.wp C.P a w next Q := by
  have ha' : c.args = #[x, y] := by rw [← Array.toArray_toList (xs := c.args), ha]
  have ht' : c.argTypes = #[t, t] := by rw [← Array.toArray_toList (xs := c.argTypes), ht]
  obtain ⟨v', w', g', hrun, hsr, hrep, hsf⟩ := hs1.append n htk t o.type e i z hu hi hz hzs hpos (a.eval x) (a.eval y) els es (by rw [hfz]; exact hv) hl O hxO hO1 hO2 m xs hown (by rw [hfz]; exact hfr) hbx htks
    (by rw [hfz]; exact (hs.ev y).els hy) hly h63 hbytes
  have hex : (execOp a.eval o).run C.P w = .ok (.value v') w' := by
    unfold execOp
    simp only [ho, resolve, hc, ha', ht', invoke, builtin, Sem.run_bind, Sem.run_pure, Result.andThen_ok, List.map_toArray, List.map_cons, List.map_nil, hrun]
  unfold Oper.wp
  rw [hex]
  refine hnx _ _ _ _ (SR.puto hsr (dst := o.dst) (fun d e => by rw [hn] at e; cases e; exact hd) hrep) ?_ ⟨by rw [← hfz]; exact hsf.ex, by rw [← hbxe]; exact hsf.bx⟩
  rw [hn]
  exact hk

theorem astep_sound {o : Oper} {ao : AOp} (h : comp C.P o.op = some ao) (hd : ∀ d, o.dst = some d → C.wr d = true) (gd : Option (Nat × Bool)) {K : St → Prop} (hs : SR C st g a w) (hk : astep C.P ⟨gd, o.dst, ao⟩ st K)
    (next : Act → World → Prop) (Q : Exit → Act → World → Prop) (hn : ∀ st' g' a' w', SR C st' g' a' w' → K st' → (ao.calls = false → SF g w g' w' (ao.touch o.dst st)) → next a' w') : o.wp C.P a w next Q := by
  by_cases hp : ao.plain = true
  · rw [astep_plain (by exact hp)] at hk
    simp only at hk
    split at hk
    · rename_i d st1 he
      obtain ⟨nx, w', g', hrun, hsr, hsf, hres⟩ := (comp_sound h hp hd st g a w d st1 hs he).2
      unfold Oper.wp
      rw [hrun]
      rcases hres with ⟨v, rfl, hv⟩ | ⟨rfl, rfl⟩
      · exact hn _ _ _ _ (hsr.puto hd hv) hk fun _ => hsf
      · exact hn _ _ _ _ (hsr.puto hd (by simp only [Rep])) hk fun _ => hsf
    · exact hk.elim
  · rcases comp_inv h (by simpa using hp) with ⟨c, x, y, ho, rfl⟩ | ⟨c, f, ho, hc, rfl⟩ | ⟨c, x, ho, hc, rfl⟩ | ⟨c, x, y, t, e, i, z, ho, hc, ha, ht, hu, hi, hz, hzs, hpos, rfl⟩
    · simp only [astep] at hk
      split at hk
      · rename_i b hb
        have hx := hs.ev c
        rw [hb] at hx
        have ex := raw_inv hx
        have hrun : (execOp a.eval o).run C.P w = .ok (.value (if b then a.eval x else a.eval y)) w := by
          unfold execOp
          simp only [ho, ex, asBool]
          rfl
        unfold Oper.wp
        rw [hrun]
        cases b
        · exact hn _ _ _ _ ((hs.know hb).puto hd (hs.ev y)) (hk.2 rfl) fun _ => SF.refl _ _ _
        · exact hn _ _ _ _ ((hs.know hb).puto hd (hs.ev x)) (hk.1 rfl) fun _ => SF.refl _ _ _
      · exact hk.elim
    · simp only [astep] at hk
      refine call_sound hk hs (Reps.evs hs c.args.toList) ho ?_ next Q (fun d st' g' v w' h1 h2 h3 => hn _ _ _ _ (h1.puto hd h2) h3 fun e => by cases e)
      simp [resolve, hc, Act.eval, Deferred.ofValue, invoke, map_arr]
    · simp only [astep] at hk
      split at hk
      · rename_i f caps hev
        have hx := hs.ev x
        rw [hev] at hx
        simp only [Rep] at hx
        obtain ⟨cv, ex, hcs⟩ := hx
        refine call_sound hk hs ((Reps.evs hs c.args.toList).append hcs.reps) ho ?_ next Q (fun d st' g' v w' h1 h2 h3 => hn _ _ _ _ (h1.puto hd h2) h3 fun e => by cases e)
        simp [resolve, hc, ex, Deferred.ofValue, invoke, map_arr, ← List.append_toArray]
      · exact hk.elim
    · simp only [astep] at hk
      split at hk
      · rename_i n e' sz' els s es hn' hx hy
        obtain ⟨rfl, rfl, hly, h63, hbytes, hk⟩ := hk
        have hxr := hs.ev x
        rw [hx] at hxr
        simp only [Rep] at hxr
        obtain ⟨hpr, htk, hl⟩ := hxr
        obtain ⟨i', m, xs, hi', _, hown, hfr⟩ := hs.mem.tks s _ _ htk
        rw [hi] at hi'; cases hi'
        have h1 := (hs.purge s).purge n
        refine append_sound hs ho hc ha ht hu hi hz hzs hpos n hn' (hd n hn') _ _ h1 (by simp) rfl rfl els es hpr hl (g.has C.w0.heap.size) hs.x (fun k hk => .inr (.inl ⟨s, _, _, htk, hk⟩)) (fun k hk => hasPurge (hasPurge hk)) m xs hown hfr ?_ ?_ hy hly h63 hbytes hk next Q fun st' g' a' w' k1 k2 k3 => hn st' g' a' w' k1 k2 fun _ => k3
        · intro b hb k hk'
          exact hs.mem.bxtk k s b _ _ hk' htk hb
        · intro b hb r u f hr hu'
          have hr' : r ≠ n ∧ r ≠ s ∧ g.tk r = some (u, f) := by
            by_cases h1 : r = n
            · simp [h1] at hr
            · by_cases h2 : r = s
              · simp [h1, h2] at hr
              · simpa [h1, h2] using hr
          exact hr'.2.1 (hs.mem.tkinj r s u _ f _ b hr'.2.2 htk hu' hb)
      · rename_i n es hn' hx hy
        obtain ⟨hly, h63, hbytes, hk⟩ := hk
        have hxr := hs.ev x
        rw [hx] at hxr
        simp only [Rep] at hxr
        have h1 := hs.purge n
        refine append_sound hs ho hc ha ht hu hi hz hzs hpos n hn' (hd n hn') _ _ h1 (by simp) rfl rfl [] es (by rw [hxr]; exact .empty _ _) (by simp) (g.has C.w0.heap.size) hs.x (by rw [hxr]; simp [Value.ownBlock]) (fun k hk => hasPurge hk) 0 [] (by rw [hxr]; exact World.ownsRow_nil _ _ _ _) (by rw [hxr]; simp [Value.ownBlock]) ?_ ?_ hy hly (by simpa using h63) (by simpa using hbytes) (by simpa using hk) next Q fun st' g' a' w' k1 k2 k3 => hn st' g' a' w' k1 k2 fun _ => k3
        · rw [hxr]; simp [Value.ownBlock]
        · rw [hxr]; simp [Value.ownBlock]
      · exact hk.elim

end Go.Proofs.YtbpgebfejebmlaaGreatDoor
