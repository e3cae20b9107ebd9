/- The abstract layer, part 8: comparisons. -/
import Derived.Test.YtbpgebfejebmlaaGreatDoorA7
namespace Go.Proofs.YtbpgebfejebmlaaGreatDoor
open Go Go.RowKit
set_option linter.unusedSimpArgs false
set_option linter.unusedVariables false

theorem bytes_eq (a b : ByteArray) : (a.toList == b.toList) = decide (a = b) := by
  rw [Bool.eq_iff_iff, beq_iff_eq, decide_eq_true_iff]
  constructor
  · intro h
    rw [ByteArray.toList_eq, ByteArray.toList_eq] at h
    obtain ⟨⟨x⟩⟩ := a
    obtain ⟨⟨y⟩⟩ := b
    simp only at h
    rw [h]
  · rintro rfl
    rfl

theorem eqVs_split : ∀ (ks : List LK) {ls : List LK} {xs ys : List Value} {b : Bool}, eqVs (ks ++ ls) xs ys = some b →
    ∃ b1 b2, eqVs ks (xs.take ks.length) (ys.take ks.length) = some b1 ∧ eqVs ls (xs.drop ks.length) (ys.drop ks.length) = some b2 ∧ b = (b1 && b2)
  | [], _, xs, ys, b, h => ⟨true, b, by simp [eqVs], by simpa using h, by simp⟩
  | k :: ks, ls, xs, ys, b, h => by
    cases xs with
    | nil => simp [eqVs] at h
    | cons x xs =>
      cases ys with
      | nil => simp [eqVs] at h
      | cons y ys =>
        simp only [List.cons_append, eqVs] at h
        split at h
        · rename_i a c h1 h2
          cases h
          obtain ⟨b1, b2, e1, e2, rfl⟩ := eqVs_split ks h2
          refine ⟨a && b1, b2, ?_, by simpa using e2, by rw [Bool.and_assoc]⟩
          simp only [List.length_cons, List.take_succ_cons, eqVs, h1, e1]
        · cases h

theorem eqVs_length : ∀ {ks : List LK} {xs ys : List Value} {b : Bool}, eqVs ks xs ys = some b → xs.length = ks.length ∧ ys.length = ks.length
  | [], [], [], _, _ => ⟨rfl, rfl⟩
  | k :: ks, x :: xs, y :: ys, _, h => by
    simp only [eqVs] at h
    split at h
    · rename_i a c h1 h2
      have := eqVs_length h2
      simp [this.1, this.2]
    · cases h
  | [], _ :: _, _, _, h => by simp [eqVs] at h
  | [], [], _ :: _, _, h => by simp [eqVs] at h
  | _ :: _, [], _, _, h => by simp [eqVs] at h
  | _ :: _, _ :: _, [], _, h => by simp [eqVs] at h

theorem eq_scalar {P : Program} (w : World) (d : Nat) (t : TypeId) (k : LK) (x y : Value) (b : Bool) (h : eqV k x y = some b)
    (ht : (∃ q, P.underlying t = some (.int q) ∧ k = .int) ∨ (P.underlying t = some .string ∧ k = .str) ∨ (P.underlying t = some .bool ∧ k = .bool)) : (Op.equalIn (d + 1) t x y).run P w = .ok b w := by
  rcases ht with ⟨q, hu, rfl⟩ | ⟨hu, rfl⟩ | ⟨hu, rfl⟩
  · cases x <;> cases y <;> simp only [eqV, reduceCtorEq] at h
    split at h
    · rename_i e; subst e; cases h; rw [run_equalIn_int w d t _ q _ _ hu]; rfl
    · cases h
  · cases x <;> cases y <;> simp only [eqV, reduceCtorEq] at h
    cases h; rw [run_equalIn_string w d t _ _ hu, bytes_eq]
  · cases x <;> cases y <;> simp only [eqV, reduceCtorEq] at h
    cases h; exact run_equalIn_bool w d t _ _ hu

theorem eqVs_one {k : LK} {xs ys : List Value} {b : Bool} (h : eqVs [k] xs ys = some b) : ∃ x y, xs = [x] ∧ ys = [y] ∧ eqV k x y = some b := by
  obtain ⟨h1, h2⟩ := eqVs_length h
  match xs, ys, h1, h2 with
  | [x], [y], _, _ =>
    refine ⟨x, y, rfl, rfl, ?_⟩
    simp only [eqVs] at h
    split at h
    · rename_i a c e1 e2
      cases e2
      rw [e1, ← h]
      simp
    · cases h

/-- What a part of a struct's cells is. -/
theorem part_scalar {P : Program} (w : World) (t : TypeId) (xs : List Value) (off : Nat) (d : TypeDesc) (hu : P.underlying t = some d) (hd : d.isRow = false) (x : Value) (hx : xs[off]? = some x) : (part t xs.toArray off).run P w = .ok x w := by
  have hagg : (isAgg t).run P w = .ok false w := by
    unfold isAgg
    rw [Sem.run_bind, run_underlying hu w]
    cases d <;> simp_all
  unfold part
  rw [Sem.run_bind, hagg]
  simp [hx]

theorem part_struct {P : Program} (w : World) (t : TypeId) (xs : List Value) (off : Nat) (fs : Array Field) (hu : P.underlying t = some (.struct fs)) (i : TypeInfo) (hi : P.info? t = some i) : (part t xs.toArray off).run P w = .ok (.agg ((xs.drop off).take i.size).toArray) w := by
  have hagg : (isAgg t).run P w = .ok true w := by
    unfold isAgg
    rw [Sem.run_bind, run_underlying hu w]
    simp
  unfold part
  rw [Sem.run_bind, hagg]
  simp [sizeOf, typeInfo, hi, List.extract_eq_take_drop]

mutual
theorem eq_run {P : Program} (w : World) : ∀ (n : Nat) (t : TypeId) (ks : List LK), leafs P n t = some ks → ∀ (d : Nat), n ≤ d → ∀ (xs ys : List Value) (b : Bool), eqVs ks xs ys = some b →
    (∀ fs, P.underlying t = some (.struct fs) → (Op.equalIn d t (.agg xs.toArray) (.agg ys.toArray)).run P w = .ok b w) ∧
    ((∃ u, P.underlying t = some u ∧ u.isRow = false) → ∃ x y, xs = [x] ∧ ys = [y] ∧ (Op.equalIn d t x y).run P w = .ok b w)
  | 0, _, _, h, _, _, _, _, _, _ => by simp [leafs] at h
  | n + 1, t, ks, h, d, hd, xs, ys, b, hb => by
    obtain ⟨d, rfl⟩ : ∃ m, d = m + 1 := ⟨d - 1, by omega⟩
    simp only [leafs] at h
    split at h
    · rename_i q hu
      cases h
      obtain ⟨x, y, rfl, rfl, e⟩ := eqVs_one hb
      exact ⟨(fun fs hf => by rw [hu] at hf; cases hf), fun _ => ⟨x, y, rfl, rfl, eq_scalar w d t .int x y b e (.inl ⟨q, hu, rfl⟩)⟩⟩
    · rename_i hu
      cases h
      obtain ⟨x, y, rfl, rfl, e⟩ := eqVs_one hb
      exact ⟨(fun fs hf => by rw [hu] at hf; cases hf), fun _ => ⟨x, y, rfl, rfl, eq_scalar w d t .str x y b e (.inr (.inl ⟨hu, rfl⟩))⟩⟩
    · rename_i hu
      cases h
      obtain ⟨x, y, rfl, rfl, e⟩ := eqVs_one hb
      exact ⟨(fun fs hf => by rw [hu] at hf; cases hf), fun _ => ⟨x, y, rfl, rfl, eq_scalar w d t .bool x y b e (.inr (.inr ⟨hu, rfl⟩))⟩⟩
    · rename_i fs hu
      split at h
      · cases h
      · rename_i hp
        refine ⟨fun fs' hf => ?_, fun ⟨u, h1, h2⟩ => by rw [hu] at h1; cases h1; simp [TypeDesc.isRow] at h2⟩
        have hfo : P.fieldsOf t = fs := by simp [Program.fieldsOf, hu]
        rw [run_equalIn_struct w d t _ _ (by rw [hfo]; exact hu) (by simpa using hp), hfo]
        exact eqF_run w n fs.toList 0 ks h d (by omega) xs ys b (by simpa using hb)
    · cases h
theorem eqF_run {P : Program} (w : World) : ∀ (n : Nat) (fs : List Field) (off : Nat) (ks : List LK), leafsF P n fs off = some ks → ∀ (d : Nat), n ≤ d → ∀ (xs ys : List Value) (b : Bool), eqVs ks (xs.drop off) (ys.drop off) = some b →
    (Op.eqFields d xs.toArray ys.toArray fs).run P w = .ok b w
  | _, [], _, _, h, _, _, _, _, _, hb => by
    simp only [leafsF, Option.some.injEq] at h
    subst h
    obtain ⟨h1, h2⟩ := eqVs_length hb
    rw [List.eq_nil_of_length_eq_zero h1, List.eq_nil_of_length_eq_zero h2] at hb
    simp only [eqVs, Option.some.injEq] at hb
    subst hb
    simp [Op.eqFields]
  | 0, _ :: _, _, _, h, _, _, _, _, _, _ => by simp [leafsF] at h
  | n + 1, f :: fs, off, ks, h, d, hd, xs, ys, b, hb => by
    simp only [leafsF] at h
    split at h
    · cases h
    · rename_i hname
      have hn : f.name ≠ "_" := fun e => hname (.inl e)
      have ho : f.offset = off := by
        rcases Nat.decEq f.offset off with h1 | h1
        · exact absurd (.inr h1) hname
        · exact h1
      split at h
      · rename_i kf i h1 h2
        split at h
        · rename_i hsz
          obtain ⟨ks', h3, rfl⟩ := Option.map_eq_some_iff.1 h
          obtain ⟨b1, b2, e1, e2, rfl⟩ := eqVs_split kf hb
          rw [List.drop_drop, List.drop_drop] at e2
          have ih := eq_run w n f.type kf h1 d (by omega) _ _ b1 e1
          have hrest := eqF_run w n fs (off + kf.length) ks' h3 d (by omega) xs ys b2 e2
          have hfld : ∃ x y, (part f.type xs.toArray f.offset).run P w = .ok x w ∧ (part f.type ys.toArray f.offset).run P w = .ok y w ∧ (Op.equalIn d f.type x y).run P w = .ok b1 w := by
            cases hu : P.underlying f.type with
            | none => cases n <;> simp [leafs, hu] at h1
            | some u =>
              by_cases hr : u.isRow = false
              · obtain ⟨x, y, ex, ey, er⟩ := ih.2 ⟨u, hu, hr⟩
                refine ⟨x, y, part_scalar w _ _ _ u hu hr x ?_, part_scalar w _ _ _ u hu hr y ?_, er⟩
                · have : ((xs.drop off).take kf.length)[0]? = some x := by rw [ex]; rfl
                  rw [List.getElem?_take] at this
                  split at this
                  · rw [List.getElem?_drop] at this; rw [ho]; simpa using this
                  · cases this
                · have : ((ys.drop off).take kf.length)[0]? = some y := by rw [ey]; rfl
                  rw [List.getElem?_take] at this
                  split at this
                  · rw [List.getElem?_drop] at this; rw [ho]; simpa using this
                  · cases this
              · cases u with
                | struct gs =>
                  refine ⟨_, _, part_struct w _ _ _ gs hu i h2, part_struct w _ _ _ gs hu i h2, ?_⟩
                  rw [ho, hsz]
                  exact ih.1 gs hu
                | array m e => cases n <;> simp [leafs, hu] at h1
                | _ => exact absurd rfl hr
          obtain ⟨x, y, hx, hy, hxy⟩ := hfld
          simp only [Op.eqFields, if_pos hn, Sem.run_bind, hx, hy, hxy, Result.andThen_ok]
          cases b1
          · simp
          · simpa using hrest
        · cases h
      · cases h
end

end Go.Proofs.YtbpgebfejebmlaaGreatDoor
