/- The abstract layer, part 10: each operation does what it says: structs, rows, loads, stores. -/
import Derived.Test.YtbpgebfejebmlaaGreatDoorA9
namespace Go.Proofs.YtbpgebfejebmlaaGreatDoor
open Go Go.RowKit
set_option linter.unusedSimpArgs false
set_option linter.unusedVariables false

variable {C : Ctx} {st st' : St} {g : Gh} {a : Act} {w : World}

theorem places_run {P : Program} : ∀ (fs : List Field), fs.all (fun f => (P.info? f.type).isSome) = true →
    fs.mapM (fun f => (P.info? f.type).map fun i => (f.offset, i.size)) = some (fs.map fun f => (f.offset, ((P.info? f.type).map (·.size)).getD 0))
  | [], _ => rfl
  | f :: fs, h => by
    simp only [List.all_cons, Bool.and_eq_true] at h
    obtain ⟨i, hi⟩ := Option.isSome_iff_exists.1 h.1
    simp [List.mapM_cons, hi, places_run fs h.2]

theorem zip_map_id {α β γ : Type} (f : α → β → γ) : ∀ (l : List α) (m : List β), m.length = l.length → ∀ (k : List γ), (∀ (j : Nat) (x : α) (y : β), l[j]? = some x → m[j]? = some y → k[j]? = some (f x y)) → k.length = l.length → (l.zip m).map (fun q => f q.1 q.2) = k
  | [], m, hm, k, _, hk => by
    have : k = [] := List.eq_nil_of_length_eq_zero (by simpa using hk)
    simp [this]
  | x :: l, [], hm, _, _, _ => by simp at hm
  | x :: l, y :: m, hm, [], _, hk => by simp at hk
  | x :: l, y :: m, hm, z :: k, h, hk => by
    have h0 := h 0 x y (by simp) (by simp)
    simp only [List.getElem?_cons_zero, Option.some.injEq] at h0
    simp only [List.zip_cons_cons, List.map_cons, h0]
    rw [zip_map_id f l m (by simpa using hm) k (fun j a b ha hb => by have := h (j + 1) a b (by simpa using ha) (by simpa using hb); simpa using this) (by simpa using hk)]

theorem snd_build {o : Oper} {t : TypeId} {parts : Array (Nat × Operand)} {fs : Array Field} {i : TypeInfo} {z : Value} {ps : List (Nat × Nat × Operand)} (ho : o.op = .build t parts)
    (hu : C.P.underlying t = some (.struct fs)) (hi : C.P.info? t = some i) (hz : i.zero = some z) (hp : partsOf C.P fs parts.toList = some ps) (hall : fs.toList.all (fun f => (C.P.info? f.type).isSome) = true) :
    Sound C o (.build (z.cells.toList.map cD0) ps) := by
  refine Sound.quiet fun st g a w d st' hs he => ?_
  simp only [AOp.ex] at he
  split at he
  · cases he
  rename_i hfix
  have hfix : ps.all (fun p => (st.ev p.2.2).fixed) = true := by simpa using hfix
  obtain ⟨ds, hf, he2⟩ := Option.map_eq_some_iff.1 he
  cases he2
  obtain ⟨hlen, hspec⟩ := partsOf_spec hp
  obtain ⟨places, hplaces⟩ : ∃ l, l = fs.toList.map fun f => (f.offset, ((C.P.info? f.type).map (·.size)).getD 0) := ⟨_, rfl⟩
  obtain ⟨vals, hvals⟩ : ∃ l : List (Nat × Nat × Nat × Value), l = (parts.toList.zip ps).map fun q => (q.1.1, q.2.1, q.2.2.1, a.eval q.1.2) := ⟨_, rfl⟩
  have hget : ∀ (j : Nat) (p : Nat × Nat × Nat × Value), vals[j]? = some p → ∃ (x : Nat × Operand) (y : Nat × Nat × Operand), parts.toList[j]? = some x ∧ ps[j]? = some y ∧ p = (x.1, y.1, y.2.1, a.eval x.2) := by
    intro j p hj
    simp only [hvals, List.getElem?_map, Option.map_eq_some_iff] at hj
    obtain ⟨q, hq, rfl⟩ := hj
    rw [List.getElem?_zip_eq_some] at hq
    exact ⟨q.1, q.2, hq.1, hq.2, rfl⟩
  have hvl : vals.length = ps.length := by simp [hvals, hlen]
  have hplace : ∀ p ∈ vals, (places.toArray[·]?) p.1 = some (p.2.1, p.2.2.1) := by
    intro p hp'
    obtain ⟨j, hj, hjp⟩ := List.mem_iff_getElem.1 hp'
    obtain ⟨x, y, hx, hy, rfl⟩ := hget j p (by rw [List.getElem?_eq_getElem hj, hjp])
    obtain ⟨_, f, i', h1, h2, h3, h4⟩ := hspec j x y hx hy
    have : fs.toList[x.1]? = some f := by rw [Array.getElem?_toList]; exact h1
    simp [hplaces, this, h2, h3, h4]
  have hcs : ∀ (j : Nat) (p : Nat × Nat × Nat × Value) (c : List D), vals[j]? = some p → (ps.map fun q => (st.ev q.2.2).cells)[j]? = some c → Reps g w c p.2.2.2.cells.toList := by
    intro j p c hj hc
    obtain ⟨x, y, hx, hy, rfl⟩ := hget j p hj
    simp only [List.getElem?_map, hy, Option.map_some, Option.some.injEq] at hc
    subst hc
    obtain ⟨h1, _⟩ := hspec j x y hx hy
    rw [← h1]
    refine (hs.ev x.2).cellsF ?_
    rw [h1]
    exact List.all_eq_true.1 hfix y (List.mem_of_getElem? hy)
  have hzip : (vals.zip (ps.map fun q => (st.ev q.2.2).cells)).map (fun q => (q.1.2.1, q.1.2.2.1, q.2)) = ps.map fun p => (p.1, p.2.1, (st.ev p.2.2).cells) := by
    refine zip_map_id (fun p c => (p.2.1, p.2.2.1, c)) vals (ps.map fun q => (st.ev q.2.2).cells) (by simp [hvl]) (ps.map fun p => (p.1, p.2.1, (st.ev p.2.2).cells)) ?_ (by simp [hvl])
    intro j p c hj hc
    obtain ⟨x, y, hx, hy, rfl⟩ := hget j p hj
    simp only [List.getElem?_map, hy, Option.map_some, Option.some.injEq] at hc ⊢
    subst hc; rfl
  obtain ⟨r, hr, hrr⟩ := fill_run (g := g) (w := w) (places.toArray[·]?) vals z.cells (z.cells.toList.map cD0) ds (ps.map fun q => (st.ev q.2.2).cells) hplace (cD0s_rep _ _ _) (by simp [hvl]) hcs (by rw [hzip]; exact hf)
  have hparts : vals.map (fun p => (p.1, p.2.2.2)) = (parts.map fun (i, x) => (i, a.eval x)).toList := by
    rw [Array.toList_map]
    refine List.ext_getElem? fun j => ?_
    rw [List.getElem?_map, List.getElem?_map]
    cases hj : vals[j]? with
    | none =>
      have : parts.toList[j]? = none := by
        rw [List.getElem?_eq_none_iff] at hj ⊢
        omega
      exact (congrArg (Option.map fun (x : Nat × Operand) => (x.1, a.eval x.2)) this).symm
    | some p =>
      obtain ⟨x, y, hx, hy, rfl⟩ := hget j p hj
      exact (congrArg (Option.map fun (x : Nat × Operand) => (x.1, a.eval x.2)) hx).symm
  refine ⟨rfl, .agg r, ?_, ?_⟩
  · intro w' _
    unfold execOp
    simp only [ho, Sem.run_bind]
    rw [run_build w' t _ r]
    · rfl
    · unfold Program.built
      simp only [hi, hu, hz, places_run _ hall, ← hplaces]
      rw [← hparts]
      exact hr
  · simp only [Rep]
    exact ⟨r.toList, by simp, hrr⟩

theorem rowsD_spec {sz : Nat} : ∀ {ds : List D} {vs : List Value} {rows : List (List PD)}, Reps g w ds vs → rowsD sz ds = some rows →
    RowsR g.Fz w (vs.map fun v => v.cells.toList) rows ∧ (∀ r ∈ rows, r.length = sz) ∧ rows.length = ds.length
  | [], _, _, h, hr => by
    simp only [rowsD, Option.some.injEq] at hr
    simp only [Reps] at h
    subst hr; subst h
    simp [RowsR]
  | d :: ds, _, _, h, hr => by
    simp only [Reps] at h
    obtain ⟨v, vs', rfl, hv, hs⟩ := h
    simp only [rowsD] at hr
    split at hr
    · rename_i r rs h1 h2
      split at hr
      · rename_i h3
        cases hr
        obtain ⟨e1, e2, e3⟩ := rowsD_spec hs h2
        refine ⟨?_, ?_, by simp [e3]⟩
        · simp only [List.map_cons, RowsR]
          exact ⟨r, rs, rfl, (hv.cells (toPDs_sc h1)).toPDs h1, e1⟩
        · intro x hx
          rcases List.mem_cons.1 hx with rfl | hx
          · exact h3
          · exact e2 x hx
      · cases hr
    · cases hr

theorem snd_bslice {o : Oper} {t e : TypeId} {n : Nat} {parts : Array (Nat × Operand)} {i : TypeInfo} {z : Value} (ho : o.op = .buildSlice t n parts)
    (hu : C.P.underlying t = some (.slice e)) (hi : C.P.info? e = some i) (hz : i.zero = some z) (hidx : parts.toList.map (·.1) = List.range n) (hzs : z.cells.size = i.size) (hpos : 0 < i.size) (hbig : n * i.size ≤ 16777216) :
    Sound C o (.bslice e i.size (parts.toList.map (·.2))) := by
  intro _ st g a w d st' hs he
  simp only [AOp.ex] at he
  split at he
  · rename_i t' rows hd hr
    cases he
    have h1 := hs.purge t'
    have hev := Reps.evs hs (parts.toList.map (·.2))
    obtain ⟨r1, r2, r3⟩ := rowsD_spec hev hr
    have hnl : parts.toList.length = n := by have := congrArg List.length hidx; simpa using this
    have hrn : rows.length = n := by simp [r3, hnl]
    let vs := (parts.toList.map (·.2)).map a.eval
    have hvl : vs.length = n := by simp [vs, hnl]
    have hsz : ∀ v ∈ vs, v.cells.size = i.size := by
      intro v hv
      have := RowsR.sizes r1 r2 v.cells.toList (List.mem_map_of_mem hv)
      simpa using this
    have hcells : ∃ cells : Array Value, (Instr.buildSlice t n (parts.map fun (i, x) => (i, a.eval x))).run C.P w = .ok (.slice (some ⟨w.heap.size, 0, none⟩) n n) (w.alloc (.cells cells e)) ∧ cells.toList = (vs.map fun v => v.cells.toList).flatten := by
      have hpv : (parts.map fun (i, x) => (i, a.eval x)).toList = (vs.zipIdx 0).map fun x => (x.2, x.1) := by
        rw [Array.toList_map]
        refine List.ext_getElem? fun j => ?_
        rw [List.getElem?_map, List.getElem?_map, List.getElem?_zipIdx]
        have hj := congrArg (·[j]?) hidx
        simp only [List.getElem?_map] at hj
        simp only [vs, List.getElem?_map]
        cases hp : parts.toList[j]? with
        | none => simp
        | some p =>
          rw [hp] at hj
          have hjn : j < n := by rw [← hnl]; exact (List.getElem?_eq_some_iff.1 hp).1
          rw [List.getElem?_range hjn] at hj
          simp only [Option.map_some, Option.some.injEq] at hj
          simp [hj]
      rcases Nat.eq_zero_or_pos n with h0 | hn
      · subst h0
        have hv0 : vs = [] := List.eq_nil_of_length_eq_zero hvl
        refine ⟨#[], ?_, by simp [hv0]⟩
        rw [hv0] at hpv
        simp only [Instr.buildSlice, Sem.run_bind, run_underlying hu, Result.andThen_ok, sizeOf, typeInfo, run_program, hi, Sem.run_pure]
        have hp0 : parts = #[] := Array.eq_empty_of_size_eq_zero (by simpa using hnl)
        subst hp0
        have h00 : Array.range 0 = #[] := by simp [Array.range]
        simp [Instr.fill, newRow, h00]
      · refine ⟨(vs.flatMap fun v => v.cells.toList).toArray, ?_, by simp [List.flatMap]⟩
        refine run_buildSlice w t e n _ _ i z hu hi hz (by omega) (by
          have := Nat.mul_pos hn hpos; omega) ?_
        rw [hpv]
        exact Go.Great.fill_whole hpos vs _ hsz (by simp [hvl])
    obtain ⟨cells, hrun, hct⟩ := hcells
    have hlenf : (vs.map fun v => v.cells.toList).flatten.length = n * i.size := by
      rw [flat_len i.size _ (RowsR.sizes r1 r2)]; simp [vs, hnl]
    have hsizes : n ≤ maxLen := by
      unfold maxLen
      have : n * 1 ≤ n * i.size := Nat.mul_le_mul_left n hpos
      omega
    have hown : (w.alloc (.cells cells e)).ownsRow 0 e i.size (.slice (some ⟨w.heap.size, 0, none⟩) n n) n cells.toList :=
      ⟨by rw [hct]; exact hlenf, .inr ⟨w.heap.size, n, cells, rfl, Nat.zero_le _, Go.heap_alloc_new w _, Nat.le_refl _, hsizes, by rw [← Array.length_toList, hct]; exact hlenf, by
        rw [hct, ← hlenf, List.take_length]⟩⟩
    obtain ⟨h2, h3⟩ := SR.owned h1 t' (by simp) (World.grownBy_alloc w (.cells cells e) none) _ h1.x (fun k e => by cases e) (fun _ h => h) (fun k e => by cases e) e i hi hpos _ n _ hown (fun b hb => by cases hb; exact .inr (Nat.le_refl _)) (fun b o _ hb => by cases hb)
    refine ⟨(fun h => by cases h), .value (.slice (some ⟨w.heap.size, 0, none⟩) n n), _, _, ?_, h2, ⟨h3.ex, fun k b _ hk => ⟨hk, (World.grownBy_alloc w (.cells cells e) none).block b (hs.mem.bxok k b hk).1 (fun e => by cases e)⟩⟩, .inl ⟨_, rfl, ?_⟩⟩
    · unfold execOp
      simp only [ho, Sem.run_bind, hrun, Result.andThen_ok, Sem.run_pure]
    · simp only [Rep]
      refine ⟨?_, by simp, r2⟩
      have := PRep.of_rows (Fz := (Gh.withOwn (g.noTk t') t' (.slice (some ⟨w.heap.size, 0, none⟩) n n) e (n * i.size)).Fz) (w := w.alloc (.cells cells e)) (sz := i.size) (b := w.heap.size) (cap := n) (r1.mono h3.ex) r2 (by omega) (by omega) (fun j u hu => by
        have hj : j < n * i.size := by rw [← hlenf]; exact (List.getElem?_eq_some_iff.1 hu).1
        exact ⟨own_cell hown rfl j u (by rw [hct]; exact hu), .inr ⟨rfl, hj⟩⟩)
      rw [hrn] at this
      exact this
  · cases he

theorem snd_load_none {o : Oper} {t : TypeId} {x : Operand} (ho : o.op = .load t x) (hk : aggSize C.P t = some none) : Sound C o (.load none x) := by
  obtain ⟨d0, hu, hd⟩ := aggSize_none hk
  have hagg : ∀ w, (isAgg t).run C.P w = .ok false w := fun w => by
    unfold isAgg
    rw [Sem.run_bind, run_underlying hu w]
    cases d0 <;> simp_all
  have key : ∀ (a : Act) (w : World) (b off : Nat) (v : Value), a.eval x = .pointer (some ⟨b, off, none⟩) → w.cell? ⟨b, off, none⟩ = some v → (execOp a.eval o).run C.P w = .ok (.value v) w := fun a w b off v h1 h2 => by
    unfold execOp
    simp [ho, h1, Instr.loadAt, Instr.sureAddr, loadVar, hagg, h2]
  refine Sound.quiet fun st g a w d st' hs he => ?_
  have hx := hs.ev x
  simp only [AOp.ex] at he
  split at he
  · rename_i n off hev
    obtain ⟨d1, h1, h2⟩ := Option.map_eq_some_iff.1 he
    cases h2
    obtain ⟨ds, h3, h4⟩ := Option.bind_eq_some_iff.1 h1
    rw [hev] at hx
    simp only [Rep] at hx
    obtain ⟨b, hb, hv⟩ := hx
    obtain ⟨b', cs, t', h5, h6, h7⟩ := hs.mem.bxs n ds h3
    rw [hb] at h5; cases h5
    obtain ⟨v, h8, h9⟩ := h7.get off d h4
    refine ⟨rfl, v, fun w' hk => key a w' b off v hv ?_, h9⟩
    rw [Array.getElem?_toList] at h8
    have h6' := (hk.bx n b (by simp only [AOp.reads, hev]) hb).trans h6
    simp [World.cell?, h6', h8]
  · rename_i c cs hev
    cases he
    rw [hev] at hx
    simp only [Rep] at hx
    obtain ⟨b, off, vs, hv, hp, hc⟩ := hx
    cases hp with
    | cons v _ vs _ h1 h2 =>
      refine ⟨rfl, v, fun w' hk => key a w' b off v hv ?_, by simpa only [Rep] using h1⟩
      have := (hk.fz _ _ (hc 0 v (by simp)).2).trans (hc 0 v (by simp)).1
      simpa using this
  · cases he

theorem aggSize_some {P : Program} {t : TypeId} {k : Nat} (h : aggSize P t = some (some k)) : ∃ fs i, P.underlying t = some (.struct fs) ∧ P.info? t = some i ∧ i.size = k := by
  unfold aggSize at h
  split at h
  · rename_i fs i h1 h2
    cases h
    exact ⟨fs, i, h1, h2, rfl⟩
  all_goals cases h

theorem snd_load_some {o : Oper} {t : TypeId} {x : Operand} {k : Nat} (ho : o.op = .load t x) (hk : aggSize C.P t = some (some k)) : Sound C o (.load (some k) x) := by
  obtain ⟨fs, i, hu, hi, rfl⟩ := aggSize_some hk
  have key : ∀ (a : Act) (w : World) (b off : Nat) (vs : List Value), a.eval x = .pointer (some ⟨b, off, none⟩) → vs.length = i.size → w.rangeAt b off vs → (execOp a.eval o).run C.P w = .ok (.value (.agg vs.toArray)) w := fun a w b off vs h1 h2 h3 => by
    unfold execOp
    simp only [ho, h1, Sem.run_bind, run_loadAt_mid w b off t vs _ h3 hu rfl (by simp [hi, h2]), Result.andThen_ok, Sem.run_pure]
  refine Sound.quiet fun st g a w d st' hs he => ?_
  have hx := hs.ev x
  simp only [AOp.ex] at he
  split at he
  · rename_i n off hev
    obtain ⟨ds, h3, h4⟩ := Option.bind_eq_some_iff.1 he
    split at h4
    · rename_i hlen
      cases h4
      rw [hev] at hx
      simp only [Rep] at hx
      obtain ⟨b, hb, hv⟩ := hx
      obtain ⟨b', cs, t', h5, h6, h7⟩ := hs.mem.bxs n ds h3
      rw [hb] at h5; cases h5
      refine ⟨rfl, _, fun w' hk => key a w' b off ((cs.toList.drop off).take i.size) hv ?_ (rangeAt_of_box ((hk.bx n b (by simp only [AOp.reads, hev]) hb).trans h6) off i.size), ?_⟩
      · have := h7.length
        rw [List.length_take, List.length_drop]; omega
      · simp only [Rep]
        exact ⟨_, rfl, (h7.drop off).take i.size⟩
    · cases h4
  · rename_i cs hev
    split at he
    · rename_i hlen
      cases he
      rw [hev] at hx
      simp only [Rep] at hx
      obtain ⟨b, off, vs, hv, hp, hc⟩ := hx
      refine ⟨rfl, _, fun w' hk => key a w' b off (vs.take i.size) hv ?_ ?_, ?_⟩
      · have := hp.length
        rw [List.length_take]; omega
      · intro j v hj
        rw [List.getElem?_take] at hj
        split at hj
        · exact (hk.fz _ _ (hc j v hj).2).trans (hc j v hj).1
        · cases hj
      · simp only [Rep]
        exact ⟨_, rfl, Reps.of_pd (hp.take i.size)⟩
    · cases he
  · cases he

theorem snd_store {o : Oper} {t : TypeId} {x y : Operand} {i : TypeInfo} (ho : o.op = .store t x y) (hi : C.P.info? t = some i) : Sound C o (.store i.size x y) := by
  intro _ st g a w d st' hs he
  have hx := hs.ev x
  have hy := hs.ev y
  simp only [AOp.ex] at he
  split at he
  · rename_i n off hev
    obtain ⟨ds, h3, h4⟩ := Option.bind_eq_some_iff.1 he
    split at h4
    · rename_i hc
      cases h4
      rw [hev] at hx
      simp only [Rep] at hx
      obtain ⟨b, hb, hv⟩ := hx
      obtain ⟨b', cs, t', h5, h6, h7⟩ := hs.mem.bxs n ds h3
      rw [hb] at h5; cases h5
      have hyc := hy.cells hc.2.2.1
      have hlen : (a.eval y).cells.size = i.size := by rw [← Array.length_toList, hyc.length]; exact hc.1
      have hcl : cs.size = ds.length := by rw [← Array.length_toList, h7.length]
      have hrun := run_storeCells_at (P := C.P) b off t' (a.eval y).cells.toList 0 cs w h6 (by rw [Array.length_toList]; omega) (hyc.ones hc.2.2.1)
      have hset := hs.setbox n b ds h3 hb cs t' h6 hc.2.2.2 (cs.toList.take (off + 0) ++ (a.eval y).cells.toList ++ cs.toList.drop (off + 0 + (a.eval y).cells.toList.length)).toArray
        (ds.take off ++ ((st.ev y).cells ++ ds.drop (off + i.size))) (by
          simp only [Nat.add_zero, Array.length_toList, hlen]
          rw [List.append_assoc]
          exact (h7.take off).append (hyc.append (h7.drop _)))
      refine ⟨(fun h => by cases h), .skip, _, g, ?_, hset, ⟨fun b' o hf => ⟨hf, World.cell?_of_block (setRow_other w b b' _ (fun e => by subst e; exact (hs.mem.bxok n b' hb).2.2 o hf))⟩, fun k b' hk hkb => ⟨hkb, setRow_other w b b' _ (fun e => by
        subst e
        exact hk (by simp only [AOp.touch, hev, hs.mem.bxinj k n b' hkb hb]))⟩⟩, .inr ⟨rfl, rfl⟩⟩
      unfold execOp
      simp only [ho, hv, Instr.storeAt, Instr.sureAddr, storeVar, sizeOf, typeInfo, Sem.run_bind, run_program, Result.andThen_ok, hi, Sem.run_pure, hlen, ne_eq, not_true_eq_false, if_false, hrun, Sem.run_ite]
    · cases h4
  · cases he

end Go.Proofs.YtbpgebfejebmlaaGreatDoor
