/- The abstract layer, part 5: append. -/
import Derived.Test.YtbpgebfejebmlaaGreatDoorA4
namespace Go.Proofs.YtbpgebfejebmlaaGreatDoor
open Go Go.RowKit
set_option linter.unusedSimpArgs false
set_option linter.unusedVariables false

/-- append, and which blocks it turns: none that there was, or the row's own alone. -/
theorem run_append3 {P : Program} (w : World) (base : Nat) (t ty e : TypeId) (i : TypeInfo) (z : Value) (ht : P.underlying t = some (.slice e)) (hi : P.info? e = some i) (hz : i.zero = some z)
    (hzs : z.cells.size = i.size) (hsz : 0 < i.size) (v : Value) (n : Nat) (xs : List Value) (hown : w.ownsRow base e i.size v n xs)
    (y : Option Addr) (m c : Nat) (news : List Value) (hl : news.length = m * i.size) (hy : 0 < m → ∃ ad, y = some ad ∧ ∀ j u, news[j]? = some u → w.cell? (ad.add j) = some u) (h1 : ∀ u ∈ news, u.oneCell' = true)
    (h63 : n + m ≤ maxLen) (hbytes : (n + m) * i.bytes ≤ 140737488355328) (hbase : base ≤ w.heap.size) :
    ∃ v' w', (Builtin.append_ #[t, t] ty #[v, .slice y m c]).run P w = .ok v' w' ∧ w'.ownsRow base e i.size v' (n + m) (xs ++ news) ∧
      ((w.grownBy w' none ∧ (v' = v ∧ w' = w ∨ v'.ownBlock = some w.heap.size)) ∨ (∃ b, v.ownBlock = some b ∧ v'.ownBlock = some b ∧ w.grownBy w' (some b))) := by
  rcases Nat.eq_zero_or_pos m with hm | hm
  · subst hm
    have hn : news = [] := List.eq_nil_of_length_eq_zero (by simpa using hl)
    subst hn
    refine ⟨v, w, ?_, by simpa using hown, .inl ⟨⟨rfl, rfl, rfl, Nat.le_refl _, fun _ _ _ => rfl⟩, .inl ⟨rfl, rfl⟩⟩⟩
    rcases hown.2 with ⟨rfl, rfl⟩ | ⟨g, cap, cur, rfl, _, _, hnc, _⟩
    · cases y <;> simp [Builtin.append_, run_underlying ht, sizeOf, typeInfo, hi, Builtin.lenOf, Builtin.firstCells, loadCells, loadCellsFrom]
    · cases y <;> simp [Builtin.append_, run_underlying ht, sizeOf, typeInfo, hi, Builtin.lenOf, Builtin.firstCells, loadCells, loadCellsFrom, hnc, storeCells]
  · obtain ⟨ad, rfl, hnews⟩ := hy hm
    have hsmall : n + m ≤ 9223372036854775807 := by simp only [maxLen] at h63; omega
    have hlen : (xs ++ news).length = (n + m) * i.size := by rw [List.length_append, hown.1, hl, Nat.add_mul]
    have grown : ∀ (old : Nat), old < n + m →
        (w.drew.alloc (.cells (xs.toArray ++ news.toArray ++ Builtin.zeroCells z.cells (grownCap w (n + m) old e - (n + m))) e)).ownsRow base e i.size
          (.slice (some ⟨w.heap.size, 0, none⟩) (n + m) (grownCap w (n + m) old e)) (n + m) (xs ++ news) ∧
        w.grownBy (w.drew.alloc (.cells (xs.toArray ++ news.toArray ++ Builtin.zeroCells z.cells (grownCap w (n + m) old e - (n + m))) e)) none := by
      intro old ho
      have hge := grownCap_ge w (n + m) old e
      have hcm : grownCap w (n + m) old e ≤ maxLen := grownCap_le_maxLen w (n + m) old e h63
      refine ⟨⟨hlen, .inr ⟨w.heap.size, _, _, rfl, hbase, Go.heap_alloc_new w.drew _, hge, hcm, ?_, ?_⟩⟩, ⟨rfl, rfl, rfl, by simp, fun k hk _ => Below.heap_alloc w.drew _ k hk⟩⟩
      · simp only [Array.size_append, List.size_toArray, size_zeroCells, hzs, hown.1, hl, ← Nat.add_mul]
        congr 1
        omega
      · simp only [Array.toList_append, List.append_assoc]
        rw [← List.append_assoc, ← hlen]
        exact List.take_left
    rcases hown.2 with ⟨rfl, rfl⟩ | ⟨g, cap, cur, rfl, hbg, hg, hnc, hcm, hcs, htake⟩
    · have hx : xs = [] := List.eq_nil_of_length_eq_zero (by simpa using hown.1)
      subst hx
      have hr := run_append_nil (P := P) w t ty e i z ht hi hz ad m c news hl hnews hm (by omega) (by have hb := hbytes; simp only [Nat.zero_add] at hb; omega)
      have hgr := grown 0 (by omega)
      simp only [Nat.zero_add, List.nil_append, Array.empty_append] at hgr ⊢
      exact ⟨_, _, hr, hgr.1, .inl ⟨hgr.2, .inr rfl⟩⟩
    · by_cases hroom : n + m ≤ cap
      · have hfit : n * i.size + news.length ≤ cur.size := by rw [hl, hcs, ← Nat.add_mul]; exact Nat.mul_le_mul_right _ hroom
        have hr := run_append_room (P := P) w t ty e i ht hi g n cap cur hg ad m c news hl hnews h1 hroom hfit
        refine ⟨_, _, hr, ⟨hlen, .inr ⟨g, cap, _, rfl, hbg, setRow_heap w g cur _ e _ hg, hroom, hcm, ?_, ?_⟩⟩, .inr ⟨g, rfl, rfl, ⟨rfl, rfl, rfl, by simp [World.setRow], fun k _ hk => setRow_other w g k _ (fun e => hk (by rw [e]))⟩⟩⟩
        · simp only [List.size_toArray, List.length_append, List.length_take, List.length_drop, Array.length_toList]
          omega
        · rw [htake, ← hlen]
          exact List.take_left
      · have holds : ∀ j u, xs[j]? = some u → w.cell? ((⟨g, 0, none⟩ : Addr).add j) = some u := hown.cells (g := g) rfl
        have hr := run_append_grow (P := P) w t ty e i z ht hi hz ⟨g, 0, none⟩ n cap xs hown.1 holds ad m c news hl hnews (by omega) (by omega) (growslice_fits (by omega) hbytes)
        have hgr := grown cap (by omega)
        exact ⟨_, _, hr, hgr.1, .inl ⟨hgr.2, .inr rfl⟩⟩

variable {C : Ctx} {st : St} {g : Gh} {a : Act} {w : World}

theorem own_cell {w : World} {base : Nat} {e : TypeId} {size : Nat} {v : Value} {n : Nat} {xs : List Value} (h : w.ownsRow base e size v n xs) {b : Nat} (hb : v.ownBlock = some b) (j : Nat) (u : Value) (hu : xs[j]? = some u) : w.cell? ⟨b, j, none⟩ = some u := by
  have := h.cells hb j u hu
  rwa [Addr.add_mid, Nat.zero_add] at this

/-- What a step leaves as it was: what was frozen; the variables, but the one that it touches. -/
structure SF (g : Gh) (w : World) (g' : Gh) (w' : World) (t : Option Nat) : Prop where
  ex : Ex g.Fz w g'.Fz w'
  bx : ∀ n b, t ≠ some n → g.bx n = some b → g'.bx n = some b ∧ w'.heap[b]? = w.heap[b]?

theorem SF.refl (g : Gh) (w : World) (t : Option Nat) : SF g w g w t := ⟨Ex.refl _ _, fun _ _ _ h => ⟨h, rfl⟩⟩

/-- append to a row of the function's own (its name given up ahead): it has the name again. -/
theorem SR.append (h : SR C st g a w) (t : Nat) (htk : g.tk t = none) (ty ty' e : TypeId) (i : TypeInfo) (z : Value) (ht : C.P.underlying ty = some (.slice e)) (hi : C.P.info? e = some i) (hz : i.zero = some z)
    (hzs : z.cells.size = i.size) (hsz : 0 < i.size) (v y : Value) (els es : List (List PD)) (hv : PRep g.Fz w v (.slice els)) (hl : ∀ r ∈ els, r.length = i.size)
    (O : Nat → Prop) (hxO : C.X st.hs O w) (hO1 : ∀ k, v.ownBlock = some k → O k) (hO2 : ∀ k, g.has C.w0.heap.size k → O k)
    (n : Nat) (xs : List Value) (hown : w.ownsRow 0 e i.size v n xs) (hfz : ∀ b, v.ownBlock = some b → (C.w0.heap.size ≤ b ∨ C.S b) ∧ ∀ o, g.Fz b o → o < n * i.size)
    (hbx : ∀ b, v.ownBlock = some b → ∀ k, g.bx k ≠ some b) (htks : ∀ b, v.ownBlock = some b → ∀ s u f, g.tk s = some (u, f) → u.ownBlock ≠ some b)
    (hy : PRep g.Fz w y (.slice es)) (hly : ∀ r ∈ es, r.length = i.size) (h63 : els.length + es.length ≤ maxLen) (hbytes : (els.length + es.length) * i.bytes ≤ 140737488355328) :
    ∃ v' w' g', (Builtin.append_ #[ty, ty] ty' #[v, y]).run C.P w = .ok v' w' ∧ SR C st g' a w' ∧ Rep g' w' (.own e i.size (els ++ es) t) v' ∧ SF g w g' w' none := by
  have m := h.mem
  obtain ⟨ya, yc, yss, rfl, hyc, _, hyr, hyx⟩ := hy.rows hly
  obtain ⟨va, vc, vss, rfl, hvc, _, hvr, hvx⟩ := hv.rows hl
  have hn : n = els.length := by
    rcases hown.2 with ⟨e1, e2⟩ | ⟨g1, cap, cur, e1, _⟩
    · injection e1 with _ e3 _; omega
    · injection e1 with _ e3 _; exact e3.symm
  subst hn
  have hvl := RowsR.sizes hvr hl
  have hyl := RowsR.sizes hyr hly
  have hyf : yss.flatten.length = es.length * i.size := by rw [flat_len i.size yss hyl, hyr.length]
  have hvf : vss.flatten.length = els.length * i.size := by rw [flat_len i.size vss hvl, hvr.length]
  -- the row's cells are the slice's rows
  have hxs : xs = vss.flatten := by
    rcases Nat.eq_zero_or_pos els.length with h0 | hpos
    · have e1 : xs = [] := List.eq_nil_of_length_eq_zero (by rw [hown.1, h0, Nat.zero_mul])
      have e2 : vss.flatten = [] := List.eq_nil_of_length_eq_zero (by rw [hvf, h0, Nat.zero_mul])
      rw [e1, e2]
    · obtain ⟨b, off, rfl, hcell⟩ := hvx hpos
      have hoff : off = 0 := by
        rcases hown.2 with ⟨e1, _⟩ | ⟨g1, cap, cur, e1, _⟩
        · cases e1
        · injection e1 with e2 _ _; injection e2 with e3; injection e3
      subst hoff
      refine List.ext_getElem? fun j => ?_
      by_cases hj : j < els.length * i.size
      · have h1 := own_cell hown (b := b) rfl j (xs[j]'(by rw [hown.1]; exact hj)) (List.getElem?_eq_getElem _)
        have h2 := (hcell j (vss.flatten[j]'(by rw [hvf]; exact hj)) (List.getElem?_eq_getElem _)).1
        rw [Nat.zero_add, h1] at h2
        rw [List.getElem?_eq_getElem (by rw [hown.1]; exact hj), List.getElem?_eq_getElem (by rw [hvf]; exact hj)]
        exact h2
      · rw [List.getElem?_eq_none (by rw [hown.1]; omega), List.getElem?_eq_none (by rw [hvf]; omega)]
  subst hxs
  obtain ⟨v', w', hrun, hown', hcase⟩ := run_append3 (P := C.P) w 0 ty ty' e i z ht hi hz hzs hsz _ els.length vss.flatten hown ya es.length yc yss.flatten hyf
    (fun hp => by
      obtain ⟨b, off, rfl, hc⟩ := hyx hp
      exact ⟨_, rfl, fun j u hu => by rw [Addr.add_mid]; exact (hc j u hu).1⟩) hyr.ones h63 hbytes (Nat.zero_le _)
  have hrow : ∀ b, (Value.slice va els.length vc).ownBlock = some b → (C.w0.heap.size ≤ b ∨ C.S b) ∧ (∀ k, g.bx k ≠ some b) ∧ (∀ s u f, g.tk s = some (u, f) → u.ownBlock ≠ some b) ∧ (∀ D ∈ g.df, D ≠ b) ∧ ∃ cs t f, w.heap[b]? = some (.cells cs t f) := by
    intro b hb
    obtain ⟨cs, tt, f, hcur⟩ : ∃ cs t f, w.heap[b]? = some (.cells cs t f) := by
      rcases hown.2 with ⟨e1, _⟩ | ⟨g1, cap, cur, e1, _, hcur, _⟩
      · rw [e1] at hb; cases hb
      · rw [e1] at hb; cases hb; exact ⟨_, _, _, hcur⟩
    exact ⟨(hfz b hb).1, hbx b hb, htks b hb, (fun D hD e => by
      subst e
      rw [(m.dfs _ hD).2] at hcur; cases hcur), _, _, _, hcur⟩
  have hSR : ∃ row, w.grownBy w' row ∧ (∀ k, row = some k → (Value.slice va els.length vc).ownBlock = some k) ∧ (∀ b, v'.ownBlock = some b → row = some b ∨ w.heap.size ≤ b) ∧ (∀ b, row = some b → v'.ownBlock = some b) := by
    rcases hcase with ⟨hg, hc⟩ | ⟨b, hb, hb', hg⟩
    · rcases hc with ⟨rfl, rfl⟩ | hc
      · exact ⟨(Value.slice va els.length vc).ownBlock, ⟨rfl, rfl, rfl, Nat.le_refl _, fun _ _ _ => rfl⟩, fun k e => e, fun b hb => .inl hb, fun b e => e⟩
      · exact ⟨none, hg, (fun k e => by cases e), (fun b hb => by rw [hc] at hb; cases hb; exact .inr (Nat.le_refl _)), (fun b e => by cases e)⟩
    · exact ⟨some b, hg, (fun k e => by cases e; exact hb), (fun c hc => by rw [hb'] at hc; exact .inl hc), (fun c e => by cases e; exact hb')⟩
  obtain ⟨row, hg, hr1, hr2, hr3⟩ := hSR
  have howned := SR.owned h t htk hg O hxO (fun k e => hO1 k (hr1 k e)) hO2 (fun k e => hrow k (hr1 k e)) e i hi hsz v' (els.length + es.length) _ hown' hr2 (by
    intro b o hf hb
    have hb1 := hr1 b hb
    have ho := (hfz b hb1).2 o hf
    refine ⟨?_, fun _ => by rw [Nat.add_mul]; omega⟩
    have hj : o < vss.flatten.length := by rw [hvf]; exact ho
    rw [own_cell hown hb1 o (vss.flatten[o]) (List.getElem?_eq_getElem hj)]
    exact own_cell hown' (hr3 b hb) o _ (by rw [List.getElem?_append_left hj]; exact List.getElem?_eq_getElem hj))
  refine ⟨v', w', _, hrun, howned.1, ?_, howned.2.ex, fun k b _ hk => ⟨hk, hg.block b (m.bxok k b hk).1 (fun e => (hrow b (hr1 b e.symm)).2.1 k hk)⟩⟩
  simp only [Rep]
  refine ⟨?_, by simp, ?_⟩
  · have hrows : RowsR (g.withOwn t v' e ((els.length + es.length) * i.size)).Fz w' (vss ++ yss) (els ++ es) := (hvr.mono howned.2.ex).append (hyr.mono howned.2.ex)
    rcases hown'.2 with ⟨rfl, h0⟩ | ⟨b, cap, cur, rfl, _, _, hcap, _⟩
    · have : els ++ es = [] := List.eq_nil_of_length_eq_zero (by rw [List.length_append]; exact h0)
      rw [this]; exact .empty _ _
    · have hp : PRep (g.withOwn t (.slice (some ⟨b, 0, none⟩) (els.length + es.length) cap) e ((els.length + es.length) * i.size)).Fz w' (.slice (some ⟨b, 0, none⟩) (els ++ es).length cap) (.slice (els ++ es)) := by
        refine PRep.of_rows (sz := i.size) hrows (fun r hr => ?_) (by simpa using hcap) (by simpa using h63) (fun j u hu => ?_)
        · rcases List.mem_append.1 hr with hr | hr
          · exact hl r hr
          · exact hly r hr
        · have hj : j < (els.length + es.length) * i.size := by
            have := (List.getElem?_eq_some_iff.1 hu).1
            rw [List.flatten_append, List.length_append, hvf, hyf, ← Nat.add_mul] at this
            exact this
          exact ⟨own_cell hown' rfl j u (by rw [← List.flatten_append]; exact hu), .inr ⟨rfl, hj⟩⟩
      rwa [List.length_append] at hp
  · intro r hr
    rcases List.mem_append.1 hr with hr | hr
    · exact hl r hr
    · exact hly r hr

end Go.Proofs.YtbpgebfejebmlaaGreatDoor
