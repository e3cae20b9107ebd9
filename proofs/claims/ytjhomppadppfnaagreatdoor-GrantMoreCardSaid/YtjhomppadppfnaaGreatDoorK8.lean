/- Texts of the prover's, joined: FH E4 FD E5 FE FI D9 H1 R4 H2. -/
import Derived.Test.YtjhomppadppfnaaGreatDoorK7
import Derived.Test.YtjhomppadppfnaaGreatDoorProg
import Derived.KernelRfl
import Derived.ChangeMaps5

namespace Go.Proofs.YtjhomppadppfnaaGreatDoor
open Go Go.RowKit
set_option linter.unusedSimpArgs false
set_option linter.unusedVariables false
set_option maxRecDepth 100000

/-- A piece of code by itself: what holds behind it. -/
theorem run_cutJ {P : Program} {x y : AC} {st : St} {S : List Fr} {K : Exit → St → Prop} (J : St → Prop) (h1 : ∀ K' : Exit → St → Prop, (∀ s, J s → K' .normal s) → run P x st (contS P [] K')) (h2 : ∀ s, J s → run P y s (contS P S K)) : run P (.seq x y) st (contS P S K) := by
  rw [run_seq]; exact h1 (contS P (.seq y :: S) K) h2

def fewListener (l : AListener) : AListener := ⟨few l.name, l.port, l.tls, few l.host, fewRef l.cert, l.from_, fewNeeds l.needs⟩
def fewParent (p : AParent) : AParent := ⟨few p.space, few p.name, few p.section_, p.port⟩
def fewBackend (b : ABackend) : ABackend := ⟨fewRef b.ref, b.port, b.weight⟩
def fewRule (r : ARule) : ARule := ⟨(r.matches_.take 5).map fewMatch, fewFilters r.filters, (r.backends.take 5).map fewBackend⟩
def fewObj (o : AObj) : AObj := ⟨fewRef o.ref, o.good, fewPairs o.labels, o.ports.take 9, few o.cls, (o.listeners.take 9).map fewListener, (o.parents.take 5).map fewParent, (o.hosts.take 5).map few, (o.rules.take 7).map fewRule, fewSides o.from_, fewSides o.to_⟩

set_option maxHeartbeats 4000000 in
theorem law9_Few (o : AObj) : Pure Tryz.prog 20 [o.d] (fun d => d = (fewObj o).d) := by
  refine pure_of_run follows an_z172 Tryz.func20 rfl ok_z172 dst_z172 (by simp [Tryz.ntmps20]) ?_
  rw [run_start]
  simp only [ac_z172]
  apply run_cut
  · intro K' hK
    simp only [go_sem, contS_seq, simprocAttr]
    exact hK
  apply run_cut
  · intro K' hK
    simp only [go_sem, contS_seq, simprocAttr]
    repeat' (first | exact hK | (refine (law9_FewRef o.ref).callX (enters_of Tryz.func21 rfl rfl) _ rfl rfl ?_; rintro _ rfl; simp only [go_sem, contS_seq, simprocAttr]) | (refine (law5_Few o.labels).callX (enters_of Tryz.func55 rfl rfl) _ rfl rfl ?_; rintro _ rfl; simp only [go_sem, contS_seq, simprocAttr]) | (refine (law1_Few o.cls).callX (enters_of Tryz.func22 rfl rfl) _ rfl rfl ?_; rintro _ rfl; simp only [go_sem, contS_seq, simprocAttr]) | (refine (law9_sides o.from_).callX (enters_of Tryz.func56 rfl rfl) _ rfl rfl ?_; rintro _ rfl; simp only [go_sem, contS_seq, simprocAttr]) | (refine (law9_sides o.to_).callX (enters_of Tryz.func56 rfl rfl) _ rfl rfl ?_; rintro _ rfl; simp only [go_sem, contS_seq, simprocAttr]) | refine And.intro ?_ ?_)
  refine run_cutJ (fun s => ∃ i : Nat, s = ⟨[(41, bln false), (1, .ptr 1 0), (2, .ptr 2 0), (3, .ptr 3 0), (4, int i), (41, bln false)], [(1, [int o.ref.kind, str o.ref.space, str o.ref.name, bln o.good, .pd (.slice (rows APair.pd o.labels)), .pd (.slice (ints o.ports)), str o.cls, .pd (.slice (rows AListener.pd o.listeners)), .pd (.slice (rows AParent.pd o.parents)), .pd (.slice (strs o.hosts)), .pd (.slice (rows ARule.pd o.rules)), .pd (.slice (rows ASide.pd o.from_)), .pd (.slice (rows ASide.pd o.to_))]), (2, [int 0, str ⟨#[]⟩, str ⟨#[]⟩, bln false, .nils, .nils, str ⟨#[]⟩, .nils, .nils, .nils, .nils, .nils, .nils]), (3, [int (fewRef o.ref).kind, str (fewRef o.ref).space, str (fewRef o.ref).name, bln o.good, .pd (.slice (rows APair.pd (fewPairs o.labels))), .own 3 1 (rows cInt ((o.ports.take 9).map id)) 52, str (few o.cls), .nils, .nils, .nils, .nils, .pd (.slice (rows ASide.pd (fewSides o.from_))), .pd (.slice (rows ASide.pd (fewSides o.to_)))])], [], .no⟩) ?_ ?_
  · intro K' hK
    simp only [go_sem, contS_seq, simprocAttr, rows_len]
    refine loopS (fun k st => ∃ i : Nat, k = 9 - i ∧ i ≤ 9 ∧ i ≤ o.ports.length ∧
      st = ⟨[(1, .ptr 1 0), (2, .ptr 2 0), (3, .ptr 3 0), (4, int i)], [(1, [int o.ref.kind, str o.ref.space, str o.ref.name, bln o.good, .pd (.slice (rows APair.pd o.labels)), .pd (.slice (ints o.ports)), str o.cls, .pd (.slice (rows AListener.pd o.listeners)), .pd (.slice (rows AParent.pd o.parents)), .pd (.slice (strs o.hosts)), .pd (.slice (rows ARule.pd o.rules)), .pd (.slice (rows ASide.pd o.from_)), .pd (.slice (rows ASide.pd o.to_))]), (2, [int 0, str ⟨#[]⟩, str ⟨#[]⟩, bln false, .nils, .nils, str ⟨#[]⟩, .nils, .nils, .nils, .nils, .nils, .nils]), (3, [int (fewRef o.ref).kind, str (fewRef o.ref).space, str (fewRef o.ref).name, bln o.good, .pd (.slice (rows APair.pd (fewPairs o.labels))), .own 3 1 (rows cInt ((o.ports.take i).map id)) 52, str (few o.cls), .nils, .nils, .nils, .nils, .pd (.slice (rows ASide.pd (fewSides o.from_))), .pd (.slice (rows ASide.pd (fewSides o.to_)))])], [], .no⟩) 9 _
      ?_ ⟨0, rfl, by omega, by omega, rfl⟩ ?_
    · exact Weak.ownB 3 5 52 3 1 (by kernel_rfl) (by decide) rfl rfl (by simp [lessL, lk, St.purge, D.purge, rows]) (by simp [lessL, lk, St.purge, D.purges, D.purge, rows]) (by simp [lessL]) rfl
    rintro k st ⟨i, rfl, hi6, hi, rfl⟩
    have hw := i64_succ (show i < 1000000000 by omega)
    by_cases hlt : i < o.ports.length ∧ i < 9
    · obtain ⟨x, hx⟩ := at_lt hlt.1
      have h1 : ((i : Int) < (o.ports.length : Int)) = True := eq_true (by omega)
      have h2 : ((i : Int) < 9) = True := eq_true (by omega)
      have hl' : ((o.ports.take i).map id).length ≤ i := by simp; omega
      have e1 : rows cInt ((o.ports.take i).map id) ++ [[PD.raw (Value.int IntKind.i64 x)]] = rows cInt ((o.ports.take (i + 1)).map id) := few_step hx
      simp only [go_sem, contS_seq, simprocAttr, rows_len, rows_get hx, h1, h2]
      simp only [go_sem, contS_seq, simprocAttr, hw, e1]
      refine ⟨by simp, by unfold maxLen; omega, by omega, 9 - (i + 1), _, by omega, ?_, i + 1, rfl, by omega, by omega, rfl⟩
      exact Weak.less (by simp [lessL, lk]) (by simp [lessL, lk]) (by simp [lessL, lk]) rfl
    · have h3 := few_end (g := id) hi6 hi hlt
      rw [h3]
      by_cases h1 : i < o.ports.length
      · have h1' : ((i : Int) < (o.ports.length : Int)) = True := eq_true (by omega)
        have h2 : ((i : Int) < 9) = False := eq_false (by omega)
        simp only [go_sem, contS_seq, simprocAttr, rows_len, h1', h2]
        exact hK _ ⟨i, rfl⟩
      · have h1' : ((i : Int) < (o.ports.length : Int)) = False := eq_false (by omega)
        simp only [go_sem, contS_seq, simprocAttr, rows_len, h1']
        exact hK _ ⟨i, rfl⟩
  rintro s ⟨_, rfl⟩
  refine run_cutJ (fun s => ∃ i : Nat, s = ⟨[(62, bln false), (1, .ptr 1 0), (2, .ptr 2 0), (3, .ptr 3 0), (5, int i), (62, bln false)], [(1, [int o.ref.kind, str o.ref.space, str o.ref.name, bln o.good, .pd (.slice (rows APair.pd o.labels)), .pd (.slice (ints o.ports)), str o.cls, .pd (.slice (rows AListener.pd o.listeners)), .pd (.slice (rows AParent.pd o.parents)), .pd (.slice (strs o.hosts)), .pd (.slice (rows ARule.pd o.rules)), .pd (.slice (rows ASide.pd o.from_)), .pd (.slice (rows ASide.pd o.to_))]), (2, [int 0, str ⟨#[]⟩, str ⟨#[]⟩, bln false, .nils, .nils, str ⟨#[]⟩, .nils, .nils, .nils, .nils, .nils, .nils]), (3, [int (fewRef o.ref).kind, str (fewRef o.ref).space, str (fewRef o.ref).name, bln o.good, .pd (.slice (rows APair.pd (fewPairs o.labels))), .own 3 1 (rows cInt ((o.ports.take 9).map id)) 52, str (few o.cls), .own 82 9 (rows AListener.pd ((o.listeners.take 9).map fewListener)) 92, .nils, .nils, .nils, .pd (.slice (rows ASide.pd (fewSides o.from_))), .pd (.slice (rows ASide.pd (fewSides o.to_)))])], [], .no⟩) ?_ ?_
  · intro K' hK
    simp only [go_sem, contS_seq, simprocAttr, rows_len]
    refine loopS (fun k st => ∃ i : Nat, k = 9 - i ∧ i ≤ 9 ∧ i ≤ o.listeners.length ∧
      st = ⟨[(1, .ptr 1 0), (2, .ptr 2 0), (3, .ptr 3 0), (5, int i)], [(1, [int o.ref.kind, str o.ref.space, str o.ref.name, bln o.good, .pd (.slice (rows APair.pd o.labels)), .pd (.slice (ints o.ports)), str o.cls, .pd (.slice (rows AListener.pd o.listeners)), .pd (.slice (rows AParent.pd o.parents)), .pd (.slice (strs o.hosts)), .pd (.slice (rows ARule.pd o.rules)), .pd (.slice (rows ASide.pd o.from_)), .pd (.slice (rows ASide.pd o.to_))]), (2, [int 0, str ⟨#[]⟩, str ⟨#[]⟩, bln false, .nils, .nils, str ⟨#[]⟩, .nils, .nils, .nils, .nils, .nils, .nils]), (3, [int (fewRef o.ref).kind, str (fewRef o.ref).space, str (fewRef o.ref).name, bln o.good, .pd (.slice (rows APair.pd (fewPairs o.labels))), .own 3 1 (rows cInt ((o.ports.take 9).map id)) 52, str (few o.cls), .own 82 9 (rows AListener.pd ((o.listeners.take i).map fewListener)) 92, .nils, .nils, .nils, .pd (.slice (rows ASide.pd (fewSides o.from_))), .pd (.slice (rows ASide.pd (fewSides o.to_)))])], [], .no⟩) 9 _
      ?_ ⟨0, rfl, by omega, by omega, rfl⟩ ?_
    · exact Weak.ownB 3 7 92 82 9 (by kernel_rfl) (by decide) rfl rfl (by simp [lessL, lk, St.purge, D.purge, rows]) (by simp [lessL, lk, St.purge, D.purges, D.purge, rows]) (by simp [lessL]) rfl
    rintro k st ⟨i, rfl, hi6, hi, rfl⟩
    have hw := i64_succ (show i < 1000000000 by omega)
    by_cases hlt : i < o.listeners.length ∧ i < 9
    · obtain ⟨x, hx⟩ := at_lt hlt.1
      have h1 : ((i : Int) < (o.listeners.length : Int)) = True := eq_true (by omega)
      have h2 : ((i : Int) < 9) = True := eq_true (by omega)
      have hl' : ((o.listeners.take i).map fewListener).length ≤ i := by simp; omega
      have e1 : rows AListener.pd ((o.listeners.take i).map fewListener) ++ [[PD.raw (Value.string (few x.name)), PD.raw (Value.int IntKind.i64 x.port), PD.raw (Value.bool x.tls), PD.raw (Value.string (few x.host)), PD.raw (Value.int IntKind.i64 (fewRef x.cert).kind), PD.raw (Value.string ((fewRef x.cert).space)), PD.raw (Value.string ((fewRef x.cert).name)), PD.raw (Value.int IntKind.i64 x.from_), PD.slice (rows ANeed.pd (fewNeeds x.needs))]] = rows AListener.pd ((o.listeners.take (i + 1)).map fewListener) := few_step hx
      simp only [go_sem, contS_seq, simprocAttr, rows_len, rows_get hx, h1, h2]
      repeat' (first | (refine (law1_Few x.name).callX (enters_of Tryz.func22 rfl rfl) _ rfl rfl ?_; rintro _ rfl; simp only [go_sem, contS_seq, simprocAttr, rows_len, rows_get hx]) | (refine (law1_Few x.host).callX (enters_of Tryz.func22 rfl rfl) _ rfl rfl ?_; rintro _ rfl; simp only [go_sem, contS_seq, simprocAttr, rows_len, rows_get hx]) | (refine (law9_FewRef x.cert).callX (enters_of Tryz.func21 rfl rfl) _ rfl rfl ?_; rintro _ rfl; simp only [go_sem, contS_seq, simprocAttr, rows_len, rows_get hx]) | (refine (law8_Few x.needs).callX (enters_of Tryz.func57 rfl rfl) _ rfl rfl ?_; rintro _ rfl; simp only [go_sem, contS_seq, simprocAttr, rows_len, rows_get hx]))
      simp only [go_sem, contS_seq, simprocAttr, hw, e1]
      refine ⟨by simp, by unfold maxLen; omega, by omega, 9 - (i + 1), _, by omega, ?_, i + 1, rfl, by omega, by omega, rfl⟩
      exact Weak.less (by simp [lessL, lk]) (by simp [lessL, lk]) (by simp [lessL, lk]) rfl
    · have h3 := few_end (g := fewListener) hi6 hi hlt
      rw [h3]
      by_cases h1 : i < o.listeners.length
      · have h1' : ((i : Int) < (o.listeners.length : Int)) = True := eq_true (by omega)
        have h2 : ((i : Int) < 9) = False := eq_false (by omega)
        simp only [go_sem, contS_seq, simprocAttr, rows_len, h1', h2]
        exact hK _ ⟨i, rfl⟩
      · have h1' : ((i : Int) < (o.listeners.length : Int)) = False := eq_false (by omega)
        simp only [go_sem, contS_seq, simprocAttr, rows_len, h1']
        exact hK _ ⟨i, rfl⟩
  rintro s ⟨_, rfl⟩
  refine run_cutJ (fun s => ∃ i : Nat, s = ⟨[(102, bln false), (1, .ptr 1 0), (2, .ptr 2 0), (3, .ptr 3 0), (7, int i), (102, bln false)], [(1, [int o.ref.kind, str o.ref.space, str o.ref.name, bln o.good, .pd (.slice (rows APair.pd o.labels)), .pd (.slice (ints o.ports)), str o.cls, .pd (.slice (rows AListener.pd o.listeners)), .pd (.slice (rows AParent.pd o.parents)), .pd (.slice (strs o.hosts)), .pd (.slice (rows ARule.pd o.rules)), .pd (.slice (rows ASide.pd o.from_)), .pd (.slice (rows ASide.pd o.to_))]), (2, [int 0, str ⟨#[]⟩, str ⟨#[]⟩, bln false, .nils, .nils, str ⟨#[]⟩, .nils, .nils, .nils, .nils, .nils, .nils]), (3, [int (fewRef o.ref).kind, str (fewRef o.ref).space, str (fewRef o.ref).name, bln o.good, .pd (.slice (rows APair.pd (fewPairs o.labels))), .own 3 1 (rows cInt ((o.ports.take 9).map id)) 52, str (few o.cls), .own 82 9 (rows AListener.pd ((o.listeners.take 9).map fewListener)) 92, .own 96 4 (rows AParent.pd ((o.parents.take 5).map fewParent)) 125, .nils, .nils, .pd (.slice (rows ASide.pd (fewSides o.from_))), .pd (.slice (rows ASide.pd (fewSides o.to_)))])], [], .no⟩) ?_ ?_
  · intro K' hK
    simp only [go_sem, contS_seq, simprocAttr, rows_len]
    refine loopS (fun k st => ∃ i : Nat, k = 5 - i ∧ i ≤ 5 ∧ i ≤ o.parents.length ∧
      st = ⟨[(1, .ptr 1 0), (2, .ptr 2 0), (3, .ptr 3 0), (7, int i)], [(1, [int o.ref.kind, str o.ref.space, str o.ref.name, bln o.good, .pd (.slice (rows APair.pd o.labels)), .pd (.slice (ints o.ports)), str o.cls, .pd (.slice (rows AListener.pd o.listeners)), .pd (.slice (rows AParent.pd o.parents)), .pd (.slice (strs o.hosts)), .pd (.slice (rows ARule.pd o.rules)), .pd (.slice (rows ASide.pd o.from_)), .pd (.slice (rows ASide.pd o.to_))]), (2, [int 0, str ⟨#[]⟩, str ⟨#[]⟩, bln false, .nils, .nils, str ⟨#[]⟩, .nils, .nils, .nils, .nils, .nils, .nils]), (3, [int (fewRef o.ref).kind, str (fewRef o.ref).space, str (fewRef o.ref).name, bln o.good, .pd (.slice (rows APair.pd (fewPairs o.labels))), .own 3 1 (rows cInt ((o.ports.take 9).map id)) 52, str (few o.cls), .own 82 9 (rows AListener.pd ((o.listeners.take 9).map fewListener)) 92, .own 96 4 (rows AParent.pd ((o.parents.take i).map fewParent)) 125, .nils, .nils, .pd (.slice (rows ASide.pd (fewSides o.from_))), .pd (.slice (rows ASide.pd (fewSides o.to_)))])], [], .no⟩) 5 _
      ?_ ⟨0, rfl, by omega, by omega, rfl⟩ ?_
    · exact Weak.ownB 3 8 125 96 4 (by kernel_rfl) (by decide) rfl rfl (by simp [lessL, lk, St.purge, D.purge, rows]) (by simp [lessL, lk, St.purge, D.purges, D.purge, rows]) (by simp [lessL]) rfl
    rintro k st ⟨i, rfl, hi6, hi, rfl⟩
    have hw := i64_succ (show i < 1000000000 by omega)
    by_cases hlt : i < o.parents.length ∧ i < 5
    · obtain ⟨x, hx⟩ := at_lt hlt.1
      have h1 : ((i : Int) < (o.parents.length : Int)) = True := eq_true (by omega)
      have h2 : ((i : Int) < 5) = True := eq_true (by omega)
      have hl' : ((o.parents.take i).map fewParent).length ≤ i := by simp; omega
      have e1 : rows AParent.pd ((o.parents.take i).map fewParent) ++ [[PD.raw (Value.string (few x.space)), PD.raw (Value.string (few x.name)), PD.raw (Value.string (few x.section_)), PD.raw (Value.int IntKind.i64 x.port)]] = rows AParent.pd ((o.parents.take (i + 1)).map fewParent) := few_step hx
      simp only [go_sem, contS_seq, simprocAttr, rows_len, rows_get hx, h1, h2]
      repeat' (first | (refine (law1_Few x.space).callX (enters_of Tryz.func22 rfl rfl) _ rfl rfl ?_; rintro _ rfl; simp only [go_sem, contS_seq, simprocAttr, rows_len, rows_get hx]) | (refine (law1_Few x.name).callX (enters_of Tryz.func22 rfl rfl) _ rfl rfl ?_; rintro _ rfl; simp only [go_sem, contS_seq, simprocAttr, rows_len, rows_get hx]) | (refine (law1_Few x.section_).callX (enters_of Tryz.func22 rfl rfl) _ rfl rfl ?_; rintro _ rfl; simp only [go_sem, contS_seq, simprocAttr, rows_len, rows_get hx]))
      simp only [go_sem, contS_seq, simprocAttr, hw, e1]
      refine ⟨by simp, by unfold maxLen; omega, by omega, 5 - (i + 1), _, by omega, ?_, i + 1, rfl, by omega, by omega, rfl⟩
      exact Weak.less (by simp [lessL, lk]) (by simp [lessL, lk]) (by simp [lessL, lk]) rfl
    · have h3 := few_end (g := fewParent) hi6 hi hlt
      rw [h3]
      by_cases h1 : i < o.parents.length
      · have h1' : ((i : Int) < (o.parents.length : Int)) = True := eq_true (by omega)
        have h2 : ((i : Int) < 5) = False := eq_false (by omega)
        simp only [go_sem, contS_seq, simprocAttr, rows_len, h1', h2]
        exact hK _ ⟨i, rfl⟩
      · have h1' : ((i : Int) < (o.parents.length : Int)) = False := eq_false (by omega)
        simp only [go_sem, contS_seq, simprocAttr, rows_len, h1']
        exact hK _ ⟨i, rfl⟩
  rintro s ⟨_, rfl⟩
  refine run_cutJ (fun s => ∃ i : Nat, s = ⟨[(135, bln false), (1, .ptr 1 0), (2, .ptr 2 0), (3, .ptr 3 0), (9, int i), (135, bln false)], [(1, [int o.ref.kind, str o.ref.space, str o.ref.name, bln o.good, .pd (.slice (rows APair.pd o.labels)), .pd (.slice (ints o.ports)), str o.cls, .pd (.slice (rows AListener.pd o.listeners)), .pd (.slice (rows AParent.pd o.parents)), .pd (.slice (strs o.hosts)), .pd (.slice (rows ARule.pd o.rules)), .pd (.slice (rows ASide.pd o.from_)), .pd (.slice (rows ASide.pd o.to_))]), (2, [int 0, str ⟨#[]⟩, str ⟨#[]⟩, bln false, .nils, .nils, str ⟨#[]⟩, .nils, .nils, .nils, .nils, .nils, .nils]), (3, [int (fewRef o.ref).kind, str (fewRef o.ref).space, str (fewRef o.ref).name, bln o.good, .pd (.slice (rows APair.pd (fewPairs o.labels))), .own 3 1 (rows cInt ((o.ports.take 9).map id)) 52, str (few o.cls), .own 82 9 (rows AListener.pd ((o.listeners.take 9).map fewListener)) 92, .own 96 4 (rows AParent.pd ((o.parents.take 5).map fewParent)) 125, .own 9 1 (rows cStr ((o.hosts.take 5).map few)) 147, .nils, .pd (.slice (rows ASide.pd (fewSides o.from_))), .pd (.slice (rows ASide.pd (fewSides o.to_)))])], [], .no⟩) ?_ ?_
  · intro K' hK
    simp only [go_sem, contS_seq, simprocAttr, rows_len]
    refine loopS (fun k st => ∃ i : Nat, k = 5 - i ∧ i ≤ 5 ∧ i ≤ o.hosts.length ∧
      st = ⟨[(1, .ptr 1 0), (2, .ptr 2 0), (3, .ptr 3 0), (9, int i)], [(1, [int o.ref.kind, str o.ref.space, str o.ref.name, bln o.good, .pd (.slice (rows APair.pd o.labels)), .pd (.slice (ints o.ports)), str o.cls, .pd (.slice (rows AListener.pd o.listeners)), .pd (.slice (rows AParent.pd o.parents)), .pd (.slice (strs o.hosts)), .pd (.slice (rows ARule.pd o.rules)), .pd (.slice (rows ASide.pd o.from_)), .pd (.slice (rows ASide.pd o.to_))]), (2, [int 0, str ⟨#[]⟩, str ⟨#[]⟩, bln false, .nils, .nils, str ⟨#[]⟩, .nils, .nils, .nils, .nils, .nils, .nils]), (3, [int (fewRef o.ref).kind, str (fewRef o.ref).space, str (fewRef o.ref).name, bln o.good, .pd (.slice (rows APair.pd (fewPairs o.labels))), .own 3 1 (rows cInt ((o.ports.take 9).map id)) 52, str (few o.cls), .own 82 9 (rows AListener.pd ((o.listeners.take 9).map fewListener)) 92, .own 96 4 (rows AParent.pd ((o.parents.take 5).map fewParent)) 125, .own 9 1 (rows cStr ((o.hosts.take i).map few)) 147, .nils, .pd (.slice (rows ASide.pd (fewSides o.from_))), .pd (.slice (rows ASide.pd (fewSides o.to_)))])], [], .no⟩) 5 _
      ?_ ⟨0, rfl, by omega, by omega, rfl⟩ ?_
    · exact Weak.ownB 3 9 147 9 1 (by kernel_rfl) (by decide) rfl rfl (by simp [lessL, lk, St.purge, D.purge, rows]) (by simp [lessL, lk, St.purge, D.purges, D.purge, rows]) (by simp [lessL]) rfl
    rintro k st ⟨i, rfl, hi6, hi, rfl⟩
    have hw := i64_succ (show i < 1000000000 by omega)
    by_cases hlt : i < o.hosts.length ∧ i < 5
    · obtain ⟨x, hx⟩ := at_lt hlt.1
      have h1 : ((i : Int) < (o.hosts.length : Int)) = True := eq_true (by omega)
      have h2 : ((i : Int) < 5) = True := eq_true (by omega)
      have hl' : ((o.hosts.take i).map few).length ≤ i := by simp; omega
      have e1 : rows cStr ((o.hosts.take i).map few) ++ [[PD.raw (Value.string (few x))]] = rows cStr ((o.hosts.take (i + 1)).map few) := few_step hx
      simp only [go_sem, contS_seq, simprocAttr, rows_len, rows_get hx, h1, h2]
      repeat' (first | (refine (law1_Few x).callX (enters_of Tryz.func22 rfl rfl) _ rfl rfl ?_; rintro _ rfl; simp only [go_sem, contS_seq, simprocAttr, rows_len, rows_get hx]))
      simp only [go_sem, contS_seq, simprocAttr, hw, e1]
      refine ⟨by simp, by unfold maxLen; omega, by omega, 5 - (i + 1), _, by omega, ?_, i + 1, rfl, by omega, by omega, rfl⟩
      exact Weak.less (by simp [lessL, lk]) (by simp [lessL, lk]) (by simp [lessL, lk]) rfl
    · have h3 := few_end (g := few) hi6 hi hlt
      rw [h3]
      by_cases h1 : i < o.hosts.length
      · have h1' : ((i : Int) < (o.hosts.length : Int)) = True := eq_true (by omega)
        have h2 : ((i : Int) < 5) = False := eq_false (by omega)
        simp only [go_sem, contS_seq, simprocAttr, rows_len, h1', h2]
        exact hK _ ⟨i, rfl⟩
      · have h1' : ((i : Int) < (o.hosts.length : Int)) = False := eq_false (by omega)
        simp only [go_sem, contS_seq, simprocAttr, rows_len, h1']
        exact hK _ ⟨i, rfl⟩
  rintro s ⟨_, rfl⟩
  refine run_cutJ (fun s => ∃ i : Nat, s = ⟨[(157, bln false), (1, .ptr 1 0), (2, .ptr 2 0), (3, .ptr 3 0), (10, int i), (157, bln false)], [(1, [int o.ref.kind, str o.ref.space, str o.ref.name, bln o.good, .pd (.slice (rows APair.pd o.labels)), .pd (.slice (ints o.ports)), str o.cls, .pd (.slice (rows AListener.pd o.listeners)), .pd (.slice (rows AParent.pd o.parents)), .pd (.slice (strs o.hosts)), .pd (.slice (rows ARule.pd o.rules)), .pd (.slice (rows ASide.pd o.from_)), .pd (.slice (rows ASide.pd o.to_))]), (2, [int 0, str ⟨#[]⟩, str ⟨#[]⟩, bln false, .nils, .nils, str ⟨#[]⟩, .nils, .nils, .nils, .nils, .nils, .nils]), (3, [int (fewRef o.ref).kind, str (fewRef o.ref).space, str (fewRef o.ref).name, bln o.good, .pd (.slice (rows APair.pd (fewPairs o.labels))), .own 3 1 (rows cInt ((o.ports.take 9).map id)) 52, str (few o.cls), .own 82 9 (rows AListener.pd ((o.listeners.take 9).map fewListener)) 92, .own 96 4 (rows AParent.pd ((o.parents.take 5).map fewParent)) 125, .own 9 1 (rows cStr ((o.hosts.take 5).map few)) 147, .own 72 3 (rows ARule.pd ((o.rules.take 7).map fewRule)) 239, .pd (.slice (rows ASide.pd (fewSides o.from_))), .pd (.slice (rows ASide.pd (fewSides o.to_)))])], [], .no⟩) ?_ ?_
  · intro K' hK
    simp only [go_sem, contS_seq, simprocAttr, rows_len]
    refine loopS (fun k st => ∃ i : Nat, k = 7 - i ∧ i ≤ 7 ∧ i ≤ o.rules.length ∧
      st = ⟨[(1, .ptr 1 0), (2, .ptr 2 0), (3, .ptr 3 0), (10, int i)], [(1, [int o.ref.kind, str o.ref.space, str o.ref.name, bln o.good, .pd (.slice (rows APair.pd o.labels)), .pd (.slice (ints o.ports)), str o.cls, .pd (.slice (rows AListener.pd o.listeners)), .pd (.slice (rows AParent.pd o.parents)), .pd (.slice (strs o.hosts)), .pd (.slice (rows ARule.pd o.rules)), .pd (.slice (rows ASide.pd o.from_)), .pd (.slice (rows ASide.pd o.to_))]), (2, [int 0, str ⟨#[]⟩, str ⟨#[]⟩, bln false, .nils, .nils, str ⟨#[]⟩, .nils, .nils, .nils, .nils, .nils, .nils]), (3, [int (fewRef o.ref).kind, str (fewRef o.ref).space, str (fewRef o.ref).name, bln o.good, .pd (.slice (rows APair.pd (fewPairs o.labels))), .own 3 1 (rows cInt ((o.ports.take 9).map id)) 52, str (few o.cls), .own 82 9 (rows AListener.pd ((o.listeners.take 9).map fewListener)) 92, .own 96 4 (rows AParent.pd ((o.parents.take 5).map fewParent)) 125, .own 9 1 (rows cStr ((o.hosts.take 5).map few)) 147, .own 72 3 (rows ARule.pd ((o.rules.take i).map fewRule)) 239, .pd (.slice (rows ASide.pd (fewSides o.from_))), .pd (.slice (rows ASide.pd (fewSides o.to_)))])], [], .no⟩) 7 _
      ?_ ⟨0, rfl, by omega, by omega, rfl⟩ ?_
    · exact Weak.ownB 3 10 239 72 3 (by kernel_rfl) (by decide) rfl rfl (by simp [lessL, lk, St.purge, D.purge, rows]) (by simp [lessL, lk, St.purge, D.purges, D.purge, rows]) (by simp [lessL]) rfl
    rintro k st ⟨i, rfl, hi6, hi, rfl⟩
    have hw := i64_succ (show i < 1000000000 by omega)
    by_cases hlt : i < o.rules.length ∧ i < 7
    · obtain ⟨x, hx⟩ := at_lt hlt.1
      have h1 : ((i : Int) < (o.rules.length : Int)) = True := eq_true (by omega)
      have h2 : ((i : Int) < 7) = True := eq_true (by omega)
      have hl' : ((o.rules.take i).map fewRule).length ≤ i := by simp; omega
      have e1 : rows ARule.pd ((o.rules.take i).map fewRule) ++ [[PD.slice (rows AMatch.pd ((x.matches_.take 5).map fewMatch)), PD.slice (rows AFilter.pd (fewFilters x.filters)), PD.slice (rows ABackend.pd ((x.backends.take 5).map fewBackend))]] = rows ARule.pd ((o.rules.take (i + 1)).map fewRule) := few_step hx
      apply run_cut
      · intro K' hK
        simp only [go_sem, contS_seq, simprocAttr, rows_len, h1, h2]
        exact hK
      apply run_cut
      · intro K' hK
        rw [run_block]
        apply run_cut
        · intro K' hK
          simp only [go_sem, contS_seq, simprocAttr, rows_len, rows_get hx]
          refine (law7_Few x.filters).callW (enters_of Tryz.func58 rfl rfl) _ rfl rfl ?_
          rintro _ rfl
          simp only [go_sem, contS_seq, simprocAttr]
          exact hK
        refine run_cutJ (fun s => ∃ j : Nat, s = ⟨[(180, bln false), (1, .ptr 1 0), (2, .ptr 2 0), (3, .ptr 3 0), (10, int i), (11, .ptr 11 0), (12, int j), (180, bln false)], [(1, [int o.ref.kind, str o.ref.space, str o.ref.name, bln o.good, .pd (.slice (rows APair.pd o.labels)), .pd (.slice (ints o.ports)), str o.cls, .pd (.slice (rows AListener.pd o.listeners)), .pd (.slice (rows AParent.pd o.parents)), .pd (.slice (strs o.hosts)), .pd (.slice (rows ARule.pd o.rules)), .pd (.slice (rows ASide.pd o.from_)), .pd (.slice (rows ASide.pd o.to_))]), (2, [int 0, str ⟨#[]⟩, str ⟨#[]⟩, bln false, .nils, .nils, str ⟨#[]⟩, .nils, .nils, .nils, .nils, .nils, .nils]), (3, [int (fewRef o.ref).kind, str (fewRef o.ref).space, str (fewRef o.ref).name, bln o.good, .pd (.slice (rows APair.pd (fewPairs o.labels))), .own 3 1 (rows cInt ((o.ports.take 9).map id)) 52, str (few o.cls), .own 82 9 (rows AListener.pd ((o.listeners.take 9).map fewListener)) 92, .own 96 4 (rows AParent.pd ((o.parents.take 5).map fewParent)) 125, .own 9 1 (rows cStr ((o.hosts.take 5).map few)) 147, .own 72 3 (rows ARule.pd ((o.rules.take i).map fewRule)) 239, .pd (.slice (rows ASide.pd (fewSides o.from_))), .pd (.slice (rows ASide.pd (fewSides o.to_)))]), (11, [.own 101 5 (rows AMatch.pd ((x.matches_.take 5).map fewMatch)) 196, .pd (.slice (rows AFilter.pd (fewFilters x.filters))), .nils])], [], .no⟩) ?_ ?_
        · intro K' hK
          simp only [go_sem, contS_seq, simprocAttr, rows_len, rows_get hx]
          refine loopS (fun k st => ∃ j : Nat, k = 5 - j ∧ j ≤ 5 ∧ j ≤ x.matches_.length ∧
            st = ⟨[(1, .ptr 1 0), (2, .ptr 2 0), (3, .ptr 3 0), (10, int i), (11, .ptr 11 0), (12, int j)], [(1, [int o.ref.kind, str o.ref.space, str o.ref.name, bln o.good, .pd (.slice (rows APair.pd o.labels)), .pd (.slice (ints o.ports)), str o.cls, .pd (.slice (rows AListener.pd o.listeners)), .pd (.slice (rows AParent.pd o.parents)), .pd (.slice (strs o.hosts)), .pd (.slice (rows ARule.pd o.rules)), .pd (.slice (rows ASide.pd o.from_)), .pd (.slice (rows ASide.pd o.to_))]), (2, [int 0, str ⟨#[]⟩, str ⟨#[]⟩, bln false, .nils, .nils, str ⟨#[]⟩, .nils, .nils, .nils, .nils, .nils, .nils]), (3, [int (fewRef o.ref).kind, str (fewRef o.ref).space, str (fewRef o.ref).name, bln o.good, .pd (.slice (rows APair.pd (fewPairs o.labels))), .own 3 1 (rows cInt ((o.ports.take 9).map id)) 52, str (few o.cls), .own 82 9 (rows AListener.pd ((o.listeners.take 9).map fewListener)) 92, .own 96 4 (rows AParent.pd ((o.parents.take 5).map fewParent)) 125, .own 9 1 (rows cStr ((o.hosts.take 5).map few)) 147, .own 72 3 (rows ARule.pd ((o.rules.take i).map fewRule)) 239, .pd (.slice (rows ASide.pd (fewSides o.from_))), .pd (.slice (rows ASide.pd (fewSides o.to_)))]), (11, [.own 101 5 (rows AMatch.pd ((x.matches_.take j).map fewMatch)) 196, .pd (.slice (rows AFilter.pd (fewFilters x.filters))), .nils])], [], .no⟩) 5 _
            ?_ ⟨0, rfl, by omega, by omega, rfl⟩ ?_
          · exact Weak.ownB 11 0 196 101 5 (by kernel_rfl) (by decide) rfl rfl (by simp [lessL, lk, St.purge, D.purge, rows]) (by simp [lessL, lk, St.purge, D.purges, D.purge, rows]) (by simp [lessL]) rfl
          rintro k st ⟨j, rfl, hj6, hj, rfl⟩
          have hwj := i64_succ (show j < 1000000000 by omega)
          by_cases hltj : j < x.matches_.length ∧ j < 5
          · obtain ⟨y, hy⟩ := at_lt hltj.1
            have h1' : ((j : Int) < (x.matches_.length : Int)) = True := eq_true (by omega)
            have h2' : ((j : Int) < 5) = True := eq_true (by omega)
            have hlj : ((x.matches_.take j).map fewMatch).length ≤ j := by simp; omega
            have e2 : rows AMatch.pd ((x.matches_.take j).map fewMatch) ++ [[PD.raw (Value.int IntKind.i64 (fewMatch y).pkind), PD.raw (Value.string (fewMatch y).pval), PD.raw (Value.string (fewMatch y).method), PD.slice (rows APair.pd (fewMatch y).head), PD.slice (rows APair.pd (fewMatch y).query)]] = rows AMatch.pd ((x.matches_.take (j + 1)).map fewMatch) := few_step hy
            simp only [go_sem, contS_seq, simprocAttr, rows_len, rows_get hx, rows_get hy, h1', h2']
            repeat' (first | (refine (law6_Few y).callX (enters_of Tryz.func59 rfl rfl) _ rfl rfl ?_; rintro _ rfl; simp only [go_sem, contS_seq, simprocAttr, rows_len, rows_get hx, rows_get hy]))
            simp only [go_sem, contS_seq, simprocAttr, hwj, e2]
            refine ⟨by simp, by unfold maxLen; omega, by omega, 5 - (j + 1), _, by omega, ?_, j + 1, rfl, by omega, by omega, rfl⟩
            exact Weak.less (by simp [lessL, lk]) (by simp [lessL, lk]) (by simp [lessL, lk]) rfl
          · have h3 := few_end (g := fewMatch) hj6 hj hltj
            rw [h3]
            by_cases h1 : j < x.matches_.length
            · have h1' : ((j : Int) < (x.matches_.length : Int)) = True := eq_true (by omega)
              have h2 : ((j : Int) < 5) = False := eq_false (by omega)
              simp only [go_sem, contS_seq, simprocAttr, rows_len, rows_get hx, h1', h2]
              exact hK _ ⟨j, rfl⟩
            · have h1' : ((j : Int) < (x.matches_.length : Int)) = False := eq_false (by omega)
              simp only [go_sem, contS_seq, simprocAttr, rows_len, rows_get hx, h1']
              exact hK _ ⟨j, rfl⟩
        rintro s ⟨_, rfl⟩
        refine run_cutJ (fun s => ∃ j : Nat, s = ⟨[(210, bln false), (1, .ptr 1 0), (2, .ptr 2 0), (3, .ptr 3 0), (10, int i), (11, .ptr 11 0), (13, int j), (210, bln false)], [(1, [int o.ref.kind, str o.ref.space, str o.ref.name, bln o.good, .pd (.slice (rows APair.pd o.labels)), .pd (.slice (ints o.ports)), str o.cls, .pd (.slice (rows AListener.pd o.listeners)), .pd (.slice (rows AParent.pd o.parents)), .pd (.slice (strs o.hosts)), .pd (.slice (rows ARule.pd o.rules)), .pd (.slice (rows ASide.pd o.from_)), .pd (.slice (rows ASide.pd o.to_))]), (2, [int 0, str ⟨#[]⟩, str ⟨#[]⟩, bln false, .nils, .nils, str ⟨#[]⟩, .nils, .nils, .nils, .nils, .nils, .nils]), (3, [int (fewRef o.ref).kind, str (fewRef o.ref).space, str (fewRef o.ref).name, bln o.good, .pd (.slice (rows APair.pd (fewPairs o.labels))), .own 3 1 (rows cInt ((o.ports.take 9).map id)) 52, str (few o.cls), .own 82 9 (rows AListener.pd ((o.listeners.take 9).map fewListener)) 92, .own 96 4 (rows AParent.pd ((o.parents.take 5).map fewParent)) 125, .own 9 1 (rows cStr ((o.hosts.take 5).map few)) 147, .own 72 3 (rows ARule.pd ((o.rules.take i).map fewRule)) 239, .pd (.slice (rows ASide.pd (fewSides o.from_))), .pd (.slice (rows ASide.pd (fewSides o.to_)))]), (11, [.own 101 5 (rows AMatch.pd ((x.matches_.take 5).map fewMatch)) 196, .pd (.slice (rows AFilter.pd (fewFilters x.filters))), .own 74 5 (rows ABackend.pd ((x.backends.take 5).map fewBackend)) 233])], [], .no⟩) ?_ ?_
        · intro K' hK
          simp only [go_sem, contS_seq, simprocAttr, rows_len, rows_get hx]
          refine loopS (fun k st => ∃ j : Nat, k = 5 - j ∧ j ≤ 5 ∧ j ≤ x.backends.length ∧
            st = ⟨[(1, .ptr 1 0), (2, .ptr 2 0), (3, .ptr 3 0), (10, int i), (11, .ptr 11 0), (13, int j)], [(1, [int o.ref.kind, str o.ref.space, str o.ref.name, bln o.good, .pd (.slice (rows APair.pd o.labels)), .pd (.slice (ints o.ports)), str o.cls, .pd (.slice (rows AListener.pd o.listeners)), .pd (.slice (rows AParent.pd o.parents)), .pd (.slice (strs o.hosts)), .pd (.slice (rows ARule.pd o.rules)), .pd (.slice (rows ASide.pd o.from_)), .pd (.slice (rows ASide.pd o.to_))]), (2, [int 0, str ⟨#[]⟩, str ⟨#[]⟩, bln false, .nils, .nils, str ⟨#[]⟩, .nils, .nils, .nils, .nils, .nils, .nils]), (3, [int (fewRef o.ref).kind, str (fewRef o.ref).space, str (fewRef o.ref).name, bln o.good, .pd (.slice (rows APair.pd (fewPairs o.labels))), .own 3 1 (rows cInt ((o.ports.take 9).map id)) 52, str (few o.cls), .own 82 9 (rows AListener.pd ((o.listeners.take 9).map fewListener)) 92, .own 96 4 (rows AParent.pd ((o.parents.take 5).map fewParent)) 125, .own 9 1 (rows cStr ((o.hosts.take 5).map few)) 147, .own 72 3 (rows ARule.pd ((o.rules.take i).map fewRule)) 239, .pd (.slice (rows ASide.pd (fewSides o.from_))), .pd (.slice (rows ASide.pd (fewSides o.to_)))]), (11, [.own 101 5 (rows AMatch.pd ((x.matches_.take 5).map fewMatch)) 196, .pd (.slice (rows AFilter.pd (fewFilters x.filters))), .own 74 5 (rows ABackend.pd ((x.backends.take j).map fewBackend)) 233])], [], .no⟩) 5 _
            ?_ ⟨0, rfl, by omega, by omega, rfl⟩ ?_
          · exact Weak.ownB 11 2 233 74 5 (by kernel_rfl) (by decide) rfl rfl (by simp [lessL, lk, St.purge, D.purge, rows]) (by simp [lessL, lk, St.purge, D.purges, D.purge, rows]) (by simp [lessL]) rfl
          rintro k st ⟨j, rfl, hj6, hj, rfl⟩
          have hwj := i64_succ (show j < 1000000000 by omega)
          by_cases hltj : j < x.backends.length ∧ j < 5
          · obtain ⟨y, hy⟩ := at_lt hltj.1
            have h1' : ((j : Int) < (x.backends.length : Int)) = True := eq_true (by omega)
            have h2' : ((j : Int) < 5) = True := eq_true (by omega)
            have hlj : ((x.backends.take j).map fewBackend).length ≤ j := by simp; omega
            have e2 : rows ABackend.pd ((x.backends.take j).map fewBackend) ++ [[PD.raw (Value.int IntKind.i64 (fewRef y.ref).kind), PD.raw (Value.string (fewRef y.ref).space), PD.raw (Value.string (fewRef y.ref).name), PD.raw (Value.int IntKind.i64 y.port), PD.raw (Value.int IntKind.i64 y.weight)]] = rows ABackend.pd ((x.backends.take (j + 1)).map fewBackend) := few_step hy
            simp only [go_sem, contS_seq, simprocAttr, rows_len, rows_get hx, rows_get hy, h1', h2']
            repeat' (first | (refine (law9_FewRef y.ref).callX (enters_of Tryz.func21 rfl rfl) _ rfl rfl ?_; rintro _ rfl; simp only [go_sem, contS_seq, simprocAttr, rows_len, rows_get hx, rows_get hy]))
            simp only [go_sem, contS_seq, simprocAttr, hwj, e2]
            refine ⟨by simp, by unfold maxLen; omega, by omega, 5 - (j + 1), _, by omega, ?_, j + 1, rfl, by omega, by omega, rfl⟩
            exact Weak.less (by simp [lessL, lk]) (by simp [lessL, lk]) (by simp [lessL, lk]) rfl
          · have h3 := few_end (g := fewBackend) hj6 hj hltj
            rw [h3]
            by_cases h1 : j < x.backends.length
            · have h1' : ((j : Int) < (x.backends.length : Int)) = True := eq_true (by omega)
              have h2 : ((j : Int) < 5) = False := eq_false (by omega)
              simp only [go_sem, contS_seq, simprocAttr, rows_len, rows_get hx, h1', h2]
              exact hK _ ⟨j, rfl⟩
            · have h1' : ((j : Int) < (x.backends.length : Int)) = False := eq_false (by omega)
              simp only [go_sem, contS_seq, simprocAttr, rows_len, rows_get hx, h1']
              exact hK _ ⟨j, rfl⟩
        rintro s ⟨_, rfl⟩
        simp only [go_sem, contS_seq, simprocAttr, rows_len, e1]
        refine ⟨by simp, by unfold maxLen; omega, by omega, ?_⟩
        exact hK
      simp only [go_sem, contS_seq, simprocAttr, hw]
      refine ⟨7 - (i + 1), _, by omega, ?_, i + 1, rfl, by omega, by omega, rfl⟩
      exact Weak.less (by simp [lessL, lk]) (by simp [lessL, lk]) (by simp [lessL, lk]) rfl
    · have h3 := few_end (g := fewRule) hi6 hi hlt
      rw [h3]
      by_cases h1 : i < o.rules.length
      · have h1' : ((i : Int) < (o.rules.length : Int)) = True := eq_true (by omega)
        have h2 : ((i : Int) < 7) = False := eq_false (by omega)
        simp only [go_sem, contS_seq, simprocAttr, rows_len, h1', h2]
        exact hK _ ⟨i, rfl⟩
      · have h1' : ((i : Int) < (o.rules.length : Int)) = False := eq_false (by omega)
        simp only [go_sem, contS_seq, simprocAttr, rows_len, h1']
        exact hK _ ⟨i, rfl⟩
  rintro s ⟨_, rfl⟩
  simp only [go_sem, contS_seq, simprocAttr]
  simp only [retK, fullK, iterK, resD, resA, AOp.ex, St.ev, Option.map_some, Option.bind_some, St.get, lk, reduceIte, Nat.reduceEqDiff, Option.getD_some, oneD, List.getElem?_cons_zero, List.getElem?_cons_succ, List.drop_zero, List.drop_succ_cons, List.take_succ_cons, List.take_zero, List.length_cons, List.length_nil, Nat.zero_add, Nat.reduceAdd, Nat.le_refl, Nat.reduceLeDiff, D.pub, D.pubs, ret_z172, List.map_id]
  exact ⟨_, rfl, rfl, rfl⟩


def near (r : ARef) (s : ByteArray) : ARef := if r.space = ⟨#[]⟩ ∧ r.kind ≠ 1 ∧ r.kind ≠ 2 then { r with space := s } else r

set_option maxRecDepth 100000 in
theorem grant_Near (r : ARef) (s : ByteArray) : Pure Tryz.prog 27 [r.d, str s] (fun d => d = (near r s).d) := by
  refine pure_of_run follows an_z152 Tryz.func27 rfl ok_z152 dst_z152 (by simp [Tryz.ntmps27]) ?_
  rw [run_start]
  simp only [ac_z152, go_sem, contS_seq, simprocAttr]
  simp only [retK, fullK, iterK, resD, resA, AOp.ex, St.ev, Option.map_some, Option.bind_some, St.get, lk, reduceIte, Nat.reduceEqDiff, Option.getD_some, oneD, List.getElem?_cons_zero, List.getElem?_cons_succ, List.drop_zero, List.drop_succ_cons, List.take_succ_cons, List.take_zero, List.length_cons, List.length_nil, Nat.zero_add, Nat.reduceAdd, Nat.le_refl, Nat.reduceLeDiff, D.pub, D.pubs, ret_z152]
  refine ⟨fun h1 => ⟨fun h2 => ?_, fun h2 => ⟨fun h3 => ?_, fun h3 => ?_⟩⟩, fun h1 => ?_⟩
  · exact ⟨_, rfl, rfl, by simp [near, h1, h2, oneD, D.pub, D.pubs]⟩
  · exact ⟨_, rfl, rfl, by simp [near, h1, h3, oneD, D.pub, D.pubs]⟩
  · exact ⟨_, rfl, rfl, by simp [near, h1, h2, h3, oneD, D.pub, D.pubs]⟩
  · exact ⟨_, rfl, rfl, by simp [near, h1, oneD, D.pub, D.pubs]⟩

/-- A ref as it is handed on. -/
abbrev refVal (r : ARef) : Value := .agg #[.int .i64 r.kind, .string r.space, .string r.name]

/-- The refs of those that let it: the iterator. -/
theorem by_iter (p : AObj → Bool) (os : List AObj) (kind : Int) (space : ByteArray) (to_ : ARef) (hos : os.length ≤ 1000000)
    (hp : ∀ o ∈ os, Pure Tryz.prog 18 [o.d, int kind, str space, to_.d] (fun d => d = bln (p o))) :
    IterB Tryz.prog 83 [(500001, 0), (500002, 0), (500003, 0), (500004, 0)]
      [(500001, [.pd (.slice (rows AObj.pd os))]), (500002, [int kind]), (500003, [str space]), (500004, [int to_.kind, str to_.space, str to_.name])] ((os.filter p).map fun o => refVal o.ref) := by
  refine iter_of_run follows an_z150 Tryz.func83 rfl ok_z150 dst_z150 (by simp [Tryz.ntmps83]) rfl ?_
  intro l
  rw [run_start]
  simp only [ac_z150, go_sem, contS_seq, simprocAttr, rows_len]
  have hb := hos
  refine loopS (fun k st => ∃ i : Nat, k = os.length - i ∧ i ≤ os.length ∧
    st = ⟨[(0, yieldD l), (2, .ptr 500002 0), (3, .ptr 500003 0), (4, .ptr 500004 0), (8, .pd (.slice (rows AObj.pd os))), (9, int os.length), (10, int i)],
      [(500001, [.pd (.slice (rows AObj.pd os))]), (500002, [int kind]), (500003, [str space]), (500004, [int to_.kind, str to_.space, str to_.name])], [], .it l (((os.filter p).map fun o => refVal o.ref).map ([·])) ((os.take i).filter p).length false⟩) os.length _
    (Weak.refl _ _) ⟨0, rfl, Nat.zero_le _, rfl⟩ ?_
  rintro k st ⟨i, rfl, hi, rfl⟩
  by_cases hlt : i < os.length
  · obtain ⟨o, ho⟩ := at_lt hlt
    have hlt' : (i : Int) < (os.length : Int) := by omega
    simp only [go_sem, contS_seq, simprocAttr, hlt', decide_true, rows_get ho]
    refine (hp o (List.mem_of_getElem? ho)).callW (enters_of Tryz.func18 rfl rfl) _ rfl rfl ?_
    rintro d rfl
    have hw : IntKind.i64.wrap ((i : Int) + 1) = ((i + 1 : Nat) : Int) := by rw [IntWalk.i64_in _ (by omega)]; omega
    cases hpo : p o with
    | true =>
      have hx : (((os.filter p).map fun o => refVal o.ref).map ([·]))[((os.take i).filter p).length]? = some [refVal o.ref] := by
        simp [List.getElem?_map, filter_at ho hpo]
      simp only [go_sem, contS_seq, simprocAttr, hx, hw]
      refine ⟨⟨_, _, ?_, ?_, i + 1, rfl, ?_, rfl⟩, ?_⟩
      · omega
      · rw [filter_yes ho hpo]; exact Weak.less (by simp [lessL, lk]) (by simp [lessL, lk]) (by simp [lessL, lk]) rfl
      · omega
      · exact ⟨[], _, _, rfl, rfl, fun h => by cases h⟩
    | false =>
      simp only [go_sem, contS_seq, simprocAttr, hw]
      refine ⟨_, _, ?_, ?_, i + 1, rfl, ?_, rfl⟩
      · omega
      · rw [filter_no ho hpo]; exact Weak.less (by simp [lessL, lk]) (by simp [lessL, lk]) (by simp [lessL, lk]) rfl
      · omega
  · have hlt' : ¬ (i : Int) < (os.length : Int) := by omega
    simp only [go_sem, contS_seq, simprocAttr, hlt', decide_false]
    exact ⟨[], _, _, rfl, rfl, fun _ => by rw [List.take_of_length_le (by omega)]; simp⟩

/-- It is made of its captured variables. -/
theorem grant_by (os : List AObj) (kind : Int) (space : ByteArray) (to_ : ARef) :
    Full Tryz.prog 49 [.pd (.slice (rows AObj.pd os)), int kind, str space, to_.d] [] true
      (fun d bs => d = .fn 83 [(4, 0), (5, 0), (6, 0), (7, 0)] ∧ bs = [(4, [.pd (.slice (rows AObj.pd os))]), (5, [int kind]), (6, [str space]), (7, [int to_.kind, str to_.space, str to_.name])]) := by
  refine full_of_run follows an_z149 Tryz.func49 rfl ok_z149 dst_z149 (by simp [Tryz.ntmps49]) (by simp [Tryz.ntmps49]) (.inl rfl) ?_
  rw [run_start]
  simp only [ac_z149, go_sem, contS_seq, simprocAttr]
  simp only [retK, fullK, iterK, resD, resA, AOp.ex, St.ev, Option.map_some, Option.bind_some, St.get, lk, reduceIte, Nat.reduceEqDiff, Option.getD_some, oneD, List.getElem?_cons_zero, List.getElem?_cons_succ, List.drop_zero, List.drop_succ_cons, List.take_succ_cons, List.take_zero, List.length_cons, List.length_nil, Nat.zero_add, Nat.reduceAdd, Nat.le_refl, Nat.reduceLeDiff, D.pub, D.pubs, Tryz.results49]
  exact ⟨_, _, rfl, by simp [lessL, lk], rfl, rfl⟩

/-- May it? -/
theorem grant_Permits (p : AObj → Bool) (os : List AObj) (kind : Int) (space : ByteArray) (to_ : ARef) (hos : os.length ≤ 1000000)
    (hp : ∀ o ∈ os, Pure Tryz.prog 18 [o.d, int kind, str space, to_.d] (fun d => d = bln (p o))) :
    Pure Tryz.prog 17 [.pd (.slice (rows AObj.pd os)), int kind, str space, to_.d] (fun d => d = bln (os.any p || decide (space = to_.space))) := by
  refine pure_of_run follows an_z151 Tryz.func17 rfl ok_z151 dst_z151 (by simp [Tryz.ntmps17]) ?_
  rw [run_start]
  simp only [ac_z151, go_sem, contS_seq, simprocAttr]
  refine (grant_by os kind space to_).callW (enters_of Tryz.func49 rfl rfl) _ false [] [] [(4, 200001), (5, 200002), (6, 200003), (7, 200004)] [] rfl rfl rfl ?_
  rintro d bs ⟨rfl, rfl⟩
  simp only [go_sem, contS_seq, simprocAttr]
  refine rangeS ((os.filter p).map fun o => refVal o.ref) (fun i bs => i = 0 ∧ bs = [(7, [int to_.kind, str to_.space, str to_.name]), (8, [bln false])]) rfl rfl rfl
    ((by_iter p os kind space to_ hos hp).iterW (enters_of Tryz.func83 rfl rfl) false [(200001, 500001), (200002, 500002), (200003, 500003), (200004, 500004)] rfl rfl rfl) ⟨rfl, rfl⟩ ?_ ?_
  · rintro i v bs hv ⟨rfl, rfl⟩
    simp only [go_sem, contS_seq, simprocAttr]
    simp only [retK, fullK, iterK, resD, resA, AOp.ex, St.ev, Option.map_some, Option.bind_some, St.get, lk, reduceIte, Nat.reduceEqDiff, Option.getD_some, oneD, List.getElem?_cons_zero, List.getElem?_cons_succ, List.drop_zero, List.drop_succ_cons, List.take_succ_cons, List.take_zero, List.length_cons, List.length_nil, Nat.zero_add, Nat.reduceAdd, Nat.le_refl, Nat.reduceLeDiff, D.pub, D.pubs, ret_z151]
    have hany : os.any p = true := by
      rw [List.getElem?_map] at hv
      obtain ⟨o, ho, _⟩ := Option.map_eq_some_iff.1 hv
      have := List.mem_filter.1 (List.mem_of_getElem? ho)
      exact List.any_eq_true.2 ⟨o, this.1, this.2⟩
    exact ⟨_, rfl, rfl, by simp [hany, oneD, D.pub]⟩
  · rintro bs ⟨hl, rfl⟩
    simp only [go_sem, contS_seq, simprocAttr]
    simp only [retK, fullK, iterK, resD, resA, AOp.ex, St.ev, Option.map_some, Option.bind_some, St.get, lk, reduceIte, Nat.reduceEqDiff, Option.getD_some, oneD, List.getElem?_cons_zero, List.getElem?_cons_succ, List.drop_zero, List.drop_succ_cons, List.take_succ_cons, List.take_zero, List.length_cons, List.length_nil, Nat.zero_add, Nat.reduceAdd, Nat.le_refl, Nat.reduceLeDiff, D.pub, D.pubs, ret_z151]
    have hany : os.any p = false := by
      rw [List.length_map, List.length_eq_zero_iff, List.filter_eq_nil_iff] at hl
      exact List.any_eq_false.2 hl
    exact ⟨_, rfl, rfl, by simp [hany, oneD, D.pub]⟩


def sideIs (kind : Int) (space : ByteArray) (s : ASide) : Bool := decide (s.kind = kind) && decide (s.space = space)
def sideAt (t : ARef) (s : ASide) : Bool := decide (s.kind = t.kind) && (decide (s.name = ⟨#[]⟩) || decide (s.name = t.name))

theorem Lets_1 (kind : Int) (space : ByteArray) (s : ASide) : PureB Tryz.prog 50 [s.d, .ptr 1000001 0, .ptr 1000002 0] [(1000001, [int kind]), (1000002, [str space])] (fun d => d = bln (sideIs kind space s)) := by
  refine pureB_of_run follows an_z98 Tryz.func50 rfl ok_z98 dst_z98 (by simp [Tryz.ntmps50]) ?_
  rw [run_start]
  simp only [ac_z98, go_sem, contS_seq, simprocAttr]
  (repeat' (first | (refine GifP.mk (fun _ => ?_) (fun _ => ?_)) | (refine Gif.mk (fun _ => ?_) (fun _ => ?_)))) <;> (simp only [retK, fullK, iterK, resD, resA, AOp.ex, St.ev, Option.map_some, Option.bind_some, St.get, lk, reduceIte, Nat.reduceEqDiff, Option.getD_some, oneD, List.getElem?_cons_zero, List.getElem?_cons_succ, List.drop_zero, List.drop_succ_cons, List.take_succ_cons, List.take_zero, List.length_cons, List.length_nil, Nat.zero_add, Nat.reduceAdd, Nat.le_refl, Nat.reduceLeDiff, D.pub, D.pubs, Tryz.results50]; exact ⟨_, rfl, rfl, congrArg bln (by first | rfl | (rw [Bool.eq_iff_iff]; simp only [sideIs]; simp; done) | (rw [Bool.eq_iff_iff]; simp only [sideIs]; simp; omega) | (rw [Bool.eq_iff_iff]; simp only [sideIs]; simp [*]; done) | (rw [Bool.eq_iff_iff]; simp only [sideIs]; simp [*]; omega) | (simp_all [sideIs]; done) | (exfalso; omega))⟩)

theorem Lets_2 (t : ARef) (s : ASide) : PureB Tryz.prog 51 [s.d, .ptr 1000001 0] [(1000001, [int t.kind, str t.space, str t.name])] (fun d => d = bln (sideAt t s)) := by
  refine pureB_of_run follows an_z99 Tryz.func51 rfl ok_z99 dst_z99 (by simp [Tryz.ntmps51]) ?_
  rw [run_start]
  simp only [ac_z99, go_sem, contS_seq, simprocAttr]
  (repeat' (first | (refine GifP.mk (fun _ => ?_) (fun _ => ?_)) | (refine Gif.mk (fun _ => ?_) (fun _ => ?_)))) <;> (simp only [retK, fullK, iterK, resD, resA, AOp.ex, St.ev, Option.map_some, Option.bind_some, St.get, lk, reduceIte, Nat.reduceEqDiff, Option.getD_some, oneD, List.getElem?_cons_zero, List.getElem?_cons_succ, List.drop_zero, List.drop_succ_cons, List.take_succ_cons, List.take_zero, List.length_cons, List.length_nil, Nat.zero_add, Nat.reduceAdd, Nat.le_refl, Nat.reduceLeDiff, D.pub, D.pubs, Tryz.results51]; exact ⟨_, rfl, rfl, congrArg bln (by first | rfl | (rw [Bool.eq_iff_iff]; simp only [sideAt]; simp; done) | (rw [Bool.eq_iff_iff]; simp only [sideAt]; simp; omega) | (rw [Bool.eq_iff_iff]; simp only [sideAt]; simp [*]; done) | (rw [Bool.eq_iff_iff]; simp only [sideAt]; simp [*]; omega) | (simp_all [sideAt]; done) | (exfalso; omega))⟩)

/-- Does a grant let a kind of a space point at an object? -/
def lets (kind : Int) (space : ByteArray) (t : ARef) (o : AObj) : Bool :=
  decide (o.ref.kind = 7) && decide (o.ref.space = t.space) && objMay o && o.from_.any (sideIs kind space) && o.to_.any (sideAt t)

theorem grant_Lets (o : AObj) (h : o.ok) (kind : Int) (space : ByteArray) (t : ARef) : Pure Tryz.prog 18 [o.d, int kind, str space, t.d] (fun d => d = bln (lets kind space t o)) := by
  refine pure_of_run follows an_z95 Tryz.func18 rfl ok_z95 dst_z95 (by simp [Tryz.ntmps18]) ?_
  rw [run_start]
  simp only [ac_z95, go_sem, contS_seq, simprocAttr]
  (repeat' (first | (refine GifP.mk (fun _ => ?_) (fun _ => ?_)) | (refine Gif.mk (fun _ => ?_) (fun _ => ?_)) | ((first | refine (object_May o h).callW (enters_of Tryz.func52 rfl rfl) _ rfl rfl ?_ | refine (ContainsFunc_Side (sideIs kind space) 50 (enters_of Tryz.func50 rfl rfl) [(1000001, 0), (1000002, 0)] [(1000001, [int kind]), (1000002, [str space])] (Cl.of rfl rfl rfl rfl rfl) o.from_ h.fr (fun s _ => Lets_1 kind space s)).callW (enters_of Tryz.func53 rfl rfl) _ [(5, 1000001), (6, 1000002)] rfl rfl rfl ?_ | refine (ContainsFunc_Side (sideAt t) 51 (enters_of Tryz.func51 rfl rfl) [(1000001, 0)] [(1000001, [int t.kind, str t.space, str t.name])] (Cl.of rfl rfl rfl rfl rfl) o.to_ h.to (fun s _ => Lets_2 t s)).callW (enters_of Tryz.func53 rfl rfl) _ [(7, 1000001)] rfl rfl rfl ?_); rintro _ rfl; try simp only [go_sem, contS_seq, simprocAttr]))) <;> (simp only [retK, fullK, iterK, resD, resA, AOp.ex, St.ev, Option.map_some, Option.bind_some, St.get, lk, reduceIte, Nat.reduceEqDiff, Option.getD_some, oneD, List.getElem?_cons_zero, List.getElem?_cons_succ, List.drop_zero, List.drop_succ_cons, List.take_succ_cons, List.take_zero, List.length_cons, List.length_nil, Nat.zero_add, Nat.reduceAdd, Nat.le_refl, Nat.reduceLeDiff, D.pub, D.pubs, Tryz.results18]; exact ⟨_, rfl, rfl, congrArg bln (by first | rfl | (rw [Bool.eq_iff_iff]; simp only [lets]; simp; done) | (rw [Bool.eq_iff_iff]; simp only [lets]; simp; omega) | (rw [Bool.eq_iff_iff]; simp only [lets]; simp [*]; done) | (rw [Bool.eq_iff_iff]; simp only [lets]; simp [*]; omega) | (simp_all [lets]; done) | (exfalso; omega))⟩)

/-- May a kind of a space point at an object? -/
def permits (os : List AObj) (kind : Int) (space : ByteArray) (t : ARef) : Bool := os.any (lets kind space t) || decide (space = t.space)

theorem grant_Permits' (os : List AObj) (hos : os.length ≤ 1000000) (h : ∀ o ∈ os, o.ok) (kind : Int) (space : ByteArray) (t : ARef) :
    Pure Tryz.prog 17 [.pd (.slice (rows AObj.pd os)), int kind, str space, t.d] (fun d => d = bln (permits os kind space t)) :=
  grant_Permits (lets kind space t) os kind space t hos (fun o ho => grant_Lets o (h o ho) kind space t)

def isRef (r : ARef) (o : AObj) : Bool := decide (o.ref = r)

theorem Find_1 (r : ARef) (o : AObj) : PureB Tryz.prog 68 [o.d, .ptr 1000001 0] [(1000001, [int r.kind, str r.space, str r.name])] (fun d => d = bln (isRef r o)) := by
  refine pureB_of_run follows an_z101 Tryz.func68 rfl ok_z101 dst_z101 (by simp [Tryz.ntmps68]) ?_
  rw [run_start]
  simp only [ac_z101, go_sem, contS_seq, simprocAttr, eqVs, eqV, eq_Ref]
  simp only [retK, fullK, iterK, resD, resA, AOp.ex, St.ev, Option.map_some, Option.bind_some, St.get, lk, reduceIte, Nat.reduceEqDiff, Option.getD_some, oneD, List.getElem?_cons_zero, List.getElem?_cons_succ, List.drop_zero, List.drop_succ_cons, List.take_succ_cons, List.take_zero, List.length_cons, List.length_nil, Nat.zero_add, Nat.reduceAdd, Nat.le_refl, Nat.reduceLeDiff, D.pub, D.pubs, Tryz.results68]
  exact ⟨_, rfl, rfl, rfl⟩

theorem lidx_find {α : Type} (p : α → Bool) : ∀ (l : List α) (k : Nat), (l.find? p = none ∧ lidx p l k = -1) ∨ ∃ x j, l.find? p = some x ∧ lidx p l k = ((k + j : Nat) : Int) ∧ l[j]? = some x
  | [], k => .inl ⟨rfl, rfl⟩
  | x :: l, k => by
    rw [List.find?_cons, lidx]
    by_cases h : p x = true
    · rw [if_pos h, h]; exact .inr ⟨x, 0, rfl, by simp, by simp⟩
    · rw [if_neg h]
      have h' : p x = false := by simpa using h
      rw [h']
      rcases lidx_find p l (k + 1) with h1 | ⟨y, j, h1, h2, h3⟩
      · exact .inl h1
      · exact .inr ⟨y, j + 1, h1, by rw [h2]; omega, by simpa using h3⟩

def ref0 : ARef := ⟨0, ⟨#[]⟩, ⟨#[]⟩⟩

/-- The first object of a ref, or none. -/
def found (os : List AObj) (r : ARef) : Option AObj := os.find? (isRef r)

def foundD : Option AObj → D
  | some o => .tup [o.d, bln true]
  | none => .tup [(AObj.zero ref0).d, bln false]

theorem grant_Find (os : List AObj) (hos : os.length ≤ 1000000) (r : ARef) : Pure Tryz.prog 25 [.pd (.slice (rows AObj.pd os)), r.d] (fun d => d = foundD (found os r)) := by
  refine pure_of_run follows an_z97 Tryz.func25 rfl ok_z97 dst_z97 (by simp [Tryz.ntmps25]) ?_
  rw [run_start]
  simp only [ac_z97, go_sem, contS_seq, simprocAttr]
  refine (IndexFunc_Object (isRef r) 68 (enters_of Tryz.func68 rfl rfl) [(1000001, 0)] [(1000001, [int r.kind, str r.space, str r.name])] (Cl.of rfl rfl rfl rfl rfl) os hos (fun o _ => Find_1 r o)).callW (enters_of Tryz.func67 rfl rfl) _ [(3, 1000001)] rfl rfl rfl ?_
  rintro d rfl
  rcases lidx_find (isRef r) os 0 with ⟨h1, h2⟩ | ⟨x, j, h1, h2, h3⟩
  · rw [h2]
    simp only [go_sem, contS_seq, simprocAttr]
    simp only [retK, fullK, iterK, resD, resA, AOp.ex, St.ev, Option.map_some, Option.bind_some, St.get, lk, reduceIte, Nat.reduceEqDiff, Option.getD_some, oneD, List.getElem?_cons_zero, List.getElem?_cons_succ, List.drop_zero, List.drop_succ_cons, List.take_succ_cons, List.take_zero, List.length_cons, List.length_nil, Nat.zero_add, Nat.reduceAdd, Nat.le_refl, Nat.reduceLeDiff, D.pub, D.pubs, ret_z97]
    refine ⟨_, rfl, rfl, ?_⟩
    rw [found, h1]; rfl
  · rw [h2, Nat.zero_add]
    have hn : ((j : Int) < 0) = False := eq_false (by omega)
    simp only [go_sem, contS_seq, simprocAttr, hn, rows_get h3]
    simp only [retK, fullK, iterK, resD, resA, AOp.ex, St.ev, Option.map_some, Option.bind_some, St.get, lk, reduceIte, Nat.reduceEqDiff, Option.getD_some, oneD, List.getElem?_cons_zero, List.getElem?_cons_succ, List.drop_zero, List.drop_succ_cons, List.take_succ_cons, List.take_zero, List.length_cons, List.length_nil, Nat.zero_add, Nat.reduceAdd, Nat.le_refl, Nat.reduceLeDiff, D.pub, D.pubs, ret_z97]
    refine ⟨_, rfl, rfl, ?_⟩
    rw [found, h1]; rfl


def badKind : ByteArray := ⟨#[73, 110, 118, 97, 108, 105, 100, 75, 105, 110, 100]⟩
def notLet : ByteArray := ⟨#[82, 101, 102, 78, 111, 116, 80, 101, 114, 109, 105, 116, 116, 101, 100]⟩

set_option maxRecDepth 100000 in
theorem wrong_nil (r : AObj) (b : ABackend) (t : ARef) (ht : near b.ref r.ref.space = t) (h : t.kind ≠ 3 ∨ r.ref.space ≠ t.space) :
    Pure Tryz.prog 37 [.pd (.slice []), r.d, b.d] (fun d => d = str (if t.kind = 3 then notLet else badKind)) := by
  refine pure_of_run follows an_z153 Tryz.func37 rfl ok_z153 dst_z153 (by simp [Tryz.ntmps37]) ?_
  rw [run_start]
  simp only [ac_z153, go_sem, contS_seq, simprocAttr]
  refine (grant_Near b.ref r.ref.space).callW (enters_of Tryz.func27 rfl rfl) _ rfl rfl ?_
  rintro d rfl
  rw [ht]
  simp only [go_sem, contS_seq, simprocAttr]
  refine ⟨fun h3 => ?_, fun h3 => ?_⟩
  · have hs : r.ref.space ≠ t.space := by
      rcases h with h | h
      · exact absurd h3 h
      · exact h
    refine (grant_Permits (fun _ => false) [] 6 r.ref.space t (by simp) (by simp)).callW (enters_of Tryz.func17 rfl rfl) _ rfl rfl ?_
    rintro d rfl
    simp only [go_sem, contS_seq, simprocAttr, hs]
    simp only [retK, fullK, iterK, resD, resA, AOp.ex, St.ev, Option.map_some, Option.bind_some, St.get, lk, reduceIte, Nat.reduceEqDiff, Option.getD_some, oneD, List.getElem?_cons_zero, List.getElem?_cons_succ, List.drop_zero, List.drop_succ_cons, List.take_succ_cons, List.take_zero, List.length_cons, List.length_nil, Nat.zero_add, Nat.reduceAdd, Nat.le_refl, Nat.reduceLeDiff, D.pub, D.pubs, Tryz.results37, h3]
    exact ⟨_, rfl, rfl, rfl⟩
  · simp only [retK, fullK, iterK, resD, resA, AOp.ex, St.ev, Option.map_some, Option.bind_some, St.get, lk, reduceIte, Nat.reduceEqDiff, Option.getD_some, oneD, List.getElem?_cons_zero, List.getElem?_cons_succ, List.drop_zero, List.drop_succ_cons, List.take_succ_cons, List.take_zero, List.length_cons, List.length_nil, Nat.zero_add, Nat.reduceAdd, Nat.le_refl, Nat.reduceLeDiff, D.pub, D.pubs, Tryz.results37, h3]
    exact ⟨_, rfl, rfl, rfl⟩


def noBackend : ByteArray := ⟨#[66, 97, 99, 107, 101, 110, 100, 78, 111, 116, 70, 111, 117, 110, 100]⟩

/-- Is it there, may it be, with that port? -/
def thereIs (os : List AObj) (t : ARef) (port : Int) : Bool := match found os t with
  | some s => objMay s && hasInt s.ports port
  | none => false

/-- Why a backend does not go. -/
def wrongAt (os : List AObj) (space : ByteArray) (t : ARef) (port : Int) : ByteArray :=
  if t.kind ≠ 3 then badKind else if permits os 6 space t = false then notLet else if thereIs os t port = false then noBackend else ⟨#[]⟩

def wrong (os : List AObj) (r : AObj) (b : ABackend) : ByteArray := wrongAt os r.ref.space (near b.ref r.ref.space) b.port

theorem found_mem {os : List AObj} {t : ARef} {s : AObj} (h : found os t = some s) : s ∈ os := List.mem_of_find?_eq_some h

theorem back_Wrong (os : List AObj) (hos : os.length ≤ 1000000) (h : ∀ o ∈ os, o.ok) (r : AObj) (b : ABackend) : Pure Tryz.prog 37 [.pd (.slice (rows AObj.pd os)), r.d, b.d] (fun d => d = str (wrong os r b)) := by
  refine pure_of_run follows an_z153 Tryz.func37 rfl ok_z153 dst_z153 (by simp [Tryz.ntmps37]) ?_
  rw [run_start]
  simp only [ac_z153, go_sem, contS_seq, simprocAttr]
  refine (grant_Near b.ref r.ref.space).callW (enters_of Tryz.func27 rfl rfl) _ rfl rfl ?_
  rintro d rfl
  obtain ⟨t, ht⟩ : ∃ t, near b.ref r.ref.space = t := ⟨_, rfl⟩
  have hwr : wrong os r b = wrongAt os r.ref.space t b.port := by rw [wrong, ht]
  rw [ht]
  simp only [go_sem, contS_seq, simprocAttr]
  refine GifP.mk (fun h3 => ?_) (fun h3 => ?_)
  · refine (grant_Permits' os hos h 6 r.ref.space t).callW (enters_of Tryz.func17 rfl rfl) _ rfl rfl ?_
    rintro d rfl
    simp only [go_sem, contS_seq, simprocAttr]
    refine Gif.mk (fun hp => ?_) (fun hp => ?_)
    · refine (grant_Find os hos t).callW (enters_of Tryz.func25 rfl rfl) _ rfl rfl ?_
      rintro d rfl
      cases hf : found os t with
      | none =>
        simp only [foundD, go_sem, contS_seq, simprocAttr]
        simp only [retK, fullK, iterK, resD, resA, AOp.ex, St.ev, Option.map_some, Option.bind_some, St.get, lk, reduceIte, Nat.reduceEqDiff, Option.getD_some, oneD, List.getElem?_cons_zero, List.getElem?_cons_succ, List.drop_zero, List.drop_succ_cons, List.take_succ_cons, List.take_zero, List.length_cons, List.length_nil, Nat.zero_add, Nat.reduceAdd, Nat.le_refl, Nat.reduceLeDiff, D.pub, D.pubs, Tryz.results37]
        exact ⟨_, rfl, rfl, by rw [hwr]; simp [wrongAt, h3, hp, thereIs, hf, D.pub, noBackend]⟩
      | some s =>
        simp only [foundD, go_sem, contS_seq, simprocAttr]
        refine (object_May s (h s (found_mem hf))).callW (enters_of Tryz.func52 rfl rfl) _ rfl rfl ?_
        rintro d rfl
        simp only [go_sem, contS_seq, simprocAttr]
        refine Gif.mk (fun hm => ?_) (fun hm => ?_)
        · refine (slices_Contains_int s.ports (h s (found_mem hf)).po b.port).callW (enters_of Tryz.func76 rfl rfl) _ rfl rfl ?_
          rintro d rfl
          simp only [go_sem, contS_seq, simprocAttr]
          refine Gif.mk (fun hc => ?_) (fun hc => ?_)
          all_goals
            simp only [retK, fullK, iterK, resD, resA, AOp.ex, St.ev, Option.map_some, Option.bind_some, St.get, lk, reduceIte, Nat.reduceEqDiff, Option.getD_some, oneD, List.getElem?_cons_zero, List.getElem?_cons_succ, List.drop_zero, List.drop_succ_cons, List.take_succ_cons, List.take_zero, List.length_cons, List.length_nil, Nat.zero_add, Nat.reduceAdd, Nat.le_refl, Nat.reduceLeDiff, D.pub, D.pubs, Tryz.results37]
            exact ⟨_, rfl, rfl, by rw [hwr]; simp [wrongAt, h3, hp, thereIs, hf, hm, hc, D.pub, noBackend]⟩
        · simp only [retK, fullK, iterK, resD, resA, AOp.ex, St.ev, Option.map_some, Option.bind_some, St.get, lk, reduceIte, Nat.reduceEqDiff, Option.getD_some, oneD, List.getElem?_cons_zero, List.getElem?_cons_succ, List.drop_zero, List.drop_succ_cons, List.take_succ_cons, List.take_zero, List.length_cons, List.length_nil, Nat.zero_add, Nat.reduceAdd, Nat.le_refl, Nat.reduceLeDiff, D.pub, D.pubs, Tryz.results37]
          exact ⟨_, rfl, rfl, by rw [hwr]; simp [wrongAt, h3, hp, thereIs, hf, hm, D.pub, noBackend]⟩
    · simp only [retK, fullK, iterK, resD, resA, AOp.ex, St.ev, Option.map_some, Option.bind_some, St.get, lk, reduceIte, Nat.reduceEqDiff, Option.getD_some, oneD, List.getElem?_cons_zero, List.getElem?_cons_succ, List.drop_zero, List.drop_succ_cons, List.take_succ_cons, List.take_zero, List.length_cons, List.length_nil, Nat.zero_add, Nat.reduceAdd, Nat.le_refl, Nat.reduceLeDiff, D.pub, D.pubs, Tryz.results37]
      exact ⟨_, rfl, rfl, by rw [hwr]; simp [wrongAt, h3, hp, D.pub, notLet]⟩
  · simp only [retK, fullK, iterK, resD, resA, AOp.ex, St.ev, Option.map_some, Option.bind_some, St.get, lk, reduceIte, Nat.reduceEqDiff, Option.getD_some, oneD, List.getElem?_cons_zero, List.getElem?_cons_succ, List.drop_zero, List.drop_succ_cons, List.take_succ_cons, List.take_zero, List.length_cons, List.length_nil, Nat.zero_add, Nat.reduceAdd, Nat.le_refl, Nat.reduceLeDiff, D.pub, D.pubs, Tryz.results37]
    exact ⟨_, rfl, rfl, by rw [hwr]; simp [wrongAt, h3, D.pub, badKind]⟩

def isRoute (r : AObj) : Bool := decide (r.ref.kind = 6) && objMay r

theorem back_route (r : AObj) (h : r.ok) : Pure Tryz.prog 77 [r.d] (fun d => d = bln (isRoute r)) := by
  refine pure_of_run follows an_z163 Tryz.func77 rfl ok_z163 dst_z163 (by simp [Tryz.ntmps77]) ?_
  rw [run_start]
  simp only [ac_z163, go_sem, contS_seq, simprocAttr]
  (repeat' (first | (refine GifP.mk (fun _ => ?_) (fun _ => ?_)) | (refine Gif.mk (fun _ => ?_) (fun _ => ?_)) | (refine (object_May r h).callW (enters_of Tryz.func52 rfl rfl) _ rfl rfl ?_; rintro _ rfl; try simp only [go_sem, contS_seq, simprocAttr]))) <;> (simp only [retK, fullK, iterK, resD, resA, AOp.ex, St.ev, Option.map_some, Option.bind_some, St.get, lk, reduceIte, Nat.reduceEqDiff, Option.getD_some, oneD, List.getElem?_cons_zero, List.getElem?_cons_succ, List.drop_zero, List.drop_succ_cons, List.take_succ_cons, List.take_zero, List.length_cons, List.length_nil, Nat.zero_add, Nat.reduceAdd, Nat.le_refl, Nat.reduceLeDiff, D.pub, D.pubs, Tryz.results77]; exact ⟨_, rfl, rfl, congrArg bln (by first | rfl | (rw [Bool.eq_iff_iff]; simp only [isRoute]; simp; done) | (rw [Bool.eq_iff_iff]; simp only [isRoute]; simp; omega) | (rw [Bool.eq_iff_iff]; simp only [isRoute]; simp [*]; done) | (rw [Bool.eq_iff_iff]; simp only [isRoute]; simp [*]; omega) | (simp_all [isRoute]; done) | (exfalso; omega))⟩)

/-- The first reason among a rule's backends. -/
def firstWrong (os : List AObj) (r : AObj) : List ABackend → Option ByteArray
  | [] => none
  | b :: l => if wrong os r b = ⟨#[]⟩ then firstWrong os r l else some (wrong os r b)

def firstRule (os : List AObj) (r : AObj) : List ARule → ByteArray
  | [] => ⟨#[]⟩
  | x :: l => match firstWrong os r x.backends with
    | some w => w
    | none => firstRule os r l

def routeWhy (os : List AObj) (r : AObj) : ByteArray := if isRoute r = true then firstRule os r r.rules else ⟨#[]⟩

set_option maxHeartbeats 1000000 in
theorem back_Route (os : List AObj) (hos : os.length ≤ 1000000) (h : ∀ o ∈ os, o.ok) (r : AObj) (hr : r.ok) : Pure Tryz.prog 39 [.pd (.slice (rows AObj.pd os)), r.d] (fun d => d = str (routeWhy os r)) := by
  refine pure_of_run follows an_z164 Tryz.func39 rfl ok_z164 dst_z164 (by simp [Tryz.ntmps39]) ?_
  rw [run_start]
  simp only [ac_z164, go_sem, contS_seq, simprocAttr]
  refine (back_route r hr).callW (enters_of Tryz.func77 rfl rfl) _ rfl rfl ?_
  rintro d rfl
  simp only [go_sem, contS_seq, simprocAttr]
  refine Gif.mk (fun h1 => ?_) (fun h1 => ?_)
  rotate_left
  · simp only [retK, fullK, iterK, resD, resA, AOp.ex, St.ev, Option.map_some, Option.bind_some, St.get, lk, reduceIte, Nat.reduceEqDiff, Option.getD_some, oneD, List.getElem?_cons_zero, List.getElem?_cons_succ, List.drop_zero, List.drop_succ_cons, List.take_succ_cons, List.take_zero, List.length_cons, List.length_nil, Nat.zero_add, Nat.reduceAdd, Nat.le_refl, Nat.reduceLeDiff, D.pub, D.pubs, Tryz.results39]
    exact ⟨_, rfl, rfl, by simp [routeWhy, h1, D.pub]⟩
  simp only [rows_len]
  refine loopS (fun k st => ∃ i : Nat, k = r.rules.length - i ∧ i ≤ r.rules.length ∧ firstRule os r (r.rules.drop i) = firstRule os r r.rules ∧
    st = ⟨[(0, .pd (.slice (rows AObj.pd os))), (3, .ptr 3 0), (14, .pd (.slice (rows ARule.pd r.rules))), (15, int r.rules.length), (16, int i)], [(3, r.ds)], [], .no⟩) r.rules.length _ ?_ ⟨0, rfl, Nat.zero_le _, rfl, rfl⟩ ?_
  · exact Weak.less (by simp [lessL, lk]) (by simp [lessL, lk]) (by simp [lessL, lk]) rfl
  rintro k st ⟨i, rfl, hi, hrr, rfl⟩
  by_cases hlt : i < r.rules.length
  · obtain ⟨x, hx⟩ := at_lt hlt
    have hlt' : ((i : Int) < (r.rules.length : Int)) = True := eq_true (by omega)
    have hw := i64_succ (show i < 1000000000 by have := hr.ru; omega)
    have hxb := (hr.rus x (List.mem_of_getElem? hx)).bl
    rw [drop_at hx, firstRule] at hrr
    simp only [go_sem, contS_seq, simprocAttr, hlt', rows_get hx, rows_len]
    refine loopS (fun k st => ∃ j : Nat, k = x.backends.length - j ∧ j ≤ x.backends.length ∧ firstWrong os r (x.backends.drop j) = firstWrong os r x.backends ∧
      st = ⟨[(0, .pd (.slice (rows AObj.pd os))), (3, .ptr 3 0), (14, .pd (.slice (rows ARule.pd r.rules))), (15, int r.rules.length), (16, int i), (21, .pd (.slice (rows ABackend.pd x.backends))), (22, int x.backends.length), (23, int j)], [(3, r.ds)], [], .no⟩) x.backends.length _ ?_ ⟨0, rfl, Nat.zero_le _, rfl, rfl⟩ ?_
    · exact Weak.less (by simp [lessL, lk]) (by simp [lessL, lk]) (by simp [lessL, lk]) rfl
    rintro k st ⟨j, rfl, hj, hfw, rfl⟩
    by_cases hjl : j < x.backends.length
    · obtain ⟨b, hb⟩ := at_lt hjl
      have hjl' : ((j : Int) < (x.backends.length : Int)) = True := eq_true (by omega)
      have hwj := i64_succ (show j < 1000000000 by omega)
      rw [drop_at hb, firstWrong] at hfw
      simp only [go_sem, contS_seq, simprocAttr, hjl', rows_get hb]
      refine (back_Wrong os hos h r b).callW (enters_of Tryz.func37 rfl rfl) _ rfl rfl ?_
      rintro d rfl
      simp only [go_sem, contS_seq, simprocAttr, hwj]
      refine GifP.mk (fun hwr => ?_) (fun hwr => ?_)
      · rw [if_pos hwr] at hfw
        refine ⟨x.backends.length - (j + 1), _, ?_, ?_, j + 1, rfl, ?_, hfw, rfl⟩
        · omega
        · exact Weak.less (by simp [lessL, lk]) (by simp [lessL, lk]) (by simp [lessL, lk]) rfl
        · omega
      · rw [if_neg hwr] at hfw
        rw [← hfw] at hrr
        simp only [retK, fullK, iterK, resD, resA, AOp.ex, St.ev, Option.map_some, Option.bind_some, St.get, lk, reduceIte, Nat.reduceEqDiff, Option.getD_some, oneD, List.getElem?_cons_zero, List.getElem?_cons_succ, List.drop_zero, List.drop_succ_cons, List.take_succ_cons, List.take_zero, List.length_cons, List.length_nil, Nat.zero_add, Nat.reduceAdd, Nat.le_refl, Nat.reduceLeDiff, D.pub, D.pubs, Tryz.results39]
        refine ⟨_, rfl, rfl, ?_⟩
        rw [routeWhy, if_pos h1, ← hrr]; rfl
    · have hjl' : ((j : Int) < (x.backends.length : Int)) = False := eq_false (by omega)
      rw [List.drop_eq_nil_of_le (by omega), firstWrong] at hfw
      rw [← hfw] at hrr
      simp only [go_sem, contS_seq, simprocAttr, hjl', hw]
      refine ⟨r.rules.length - (i + 1), _, ?_, ?_, i + 1, rfl, ?_, hrr, rfl⟩
      · omega
      · exact Weak.less (by simp [lessL, lk]) (by simp [lessL, lk]) (by simp [lessL, lk]) rfl
      · omega
  · have hlt' : ((i : Int) < (r.rules.length : Int)) = False := eq_false (by omega)
    rw [List.drop_eq_nil_of_le (by omega), firstRule] at hrr
    simp only [go_sem, contS_seq, simprocAttr, hlt']
    simp only [retK, fullK, iterK, resD, resA, AOp.ex, St.ev, Option.map_some, Option.bind_some, St.get, lk, reduceIte, Nat.reduceEqDiff, Option.getD_some, oneD, List.getElem?_cons_zero, List.getElem?_cons_succ, List.drop_zero, List.drop_succ_cons, List.take_succ_cons, List.take_zero, List.length_cons, List.length_nil, Nat.zero_add, Nat.reduceAdd, Nat.le_refl, Nat.reduceLeDiff, D.pub, D.pubs, Tryz.results39]
    refine ⟨_, rfl, rfl, ?_⟩
    rw [routeWhy, if_pos h1, ← hrr]; rfl


def fewObjs (l : List AObj) : List AObj := (l.take 24).map fewObj

theorem take_map_mem {α β : Type} {g : α → β} {l : List α} {n : Nat} {y : β} (h : y ∈ (l.take n).map g) : ∃ x, x ∈ l ∧ g x = y := by
  obtain ⟨x, hx, rfl⟩ := List.mem_map.1 h
  exact ⟨x, List.mem_of_mem_take hx, rfl⟩

theorem fewPairs_ok {l : List APair} : ∀ p ∈ fewPairs l, p.ok := fun p hp => by
  obtain ⟨x, _, rfl⟩ := take_map_mem hp
  exact fewPair_ok x

theorem fewPairs_len (l : List APair) : (fewPairs l).length ≤ 1000000 := by simp [fewPairs]; omega

theorem fewMatch_ok (m : AMatch) : (fewMatch m).ok := ⟨fewPairs_len _, fewPairs_len _, fewPairs_ok, fewPairs_ok⟩

theorem fewFilter_ok (f : AFilter) : (fewFilter f).ok := ⟨by have := few_size f.name; simp [fewFilter]; omega, by have := few_size f.val; simp [fewFilter]; omega⟩

theorem fewNeed_ok (n : ANeed) : (fewNeed n).ok := by simp [ANeed.ok, fewNeed]; omega

theorem fewListener_ok (l : AListener) : (fewListener l).ok := ⟨by simp [fewListener, fewNeeds]; omega, fun x hx => by
  obtain ⟨y, _, rfl⟩ := take_map_mem hx
  exact fewNeed_ok y⟩

theorem fewRule_ok (r : ARule) : (fewRule r).ok := ⟨by simp [fewRule]; omega, by simp [fewRule, fewFilters]; omega, by simp [fewRule]; omega, fun x hx => by
  obtain ⟨y, _, rfl⟩ := take_map_mem hx
  exact fewMatch_ok y, fun x hx => by
  obtain ⟨y, _, rfl⟩ := take_map_mem hx
  exact fewFilter_ok y⟩

theorem fewObj_ok (o : AObj) : (fewObj o).ok where
  la := fewPairs_len _
  po := by simp [fewObj]; omega
  li := by simp [fewObj]; omega
  pa := by simp [fewObj]; omega
  ho := by simp [fewObj]; omega
  ru := by simp [fewObj]; omega
  fr := by simp [fewObj, fewSides]; omega
  to := by simp [fewObj, fewSides]; omega
  lis := fun x hx => by
    obtain ⟨y, _, rfl⟩ := take_map_mem hx
    exact fewListener_ok y
  rus := fun x hx => by
    obtain ⟨y, _, rfl⟩ := take_map_mem hx
    exact fewRule_ok y

theorem fewObjs_ok {l : List AObj} : ∀ o ∈ fewObjs l, o.ok := fun o ho => by
  obtain ⟨x, _, rfl⟩ := take_map_mem ho
  exact fewObj_ok x

theorem fewObjs_len (l : List AObj) : (fewObjs l).length ≤ 24 := by simp [fewObjs]; omega

theorem law11_Some (l : List AObj) : Pure Tryz.prog 16 [.pd (.slice (rows AObj.pd l))] (fun d => d = .pd (.slice (rows AObj.pd (fewObjs l)))) := by
  refine pure_of_run follows an_z173 Tryz.func16 rfl ok_z173 dst_z173 (by simp [Tryz.ntmps16]) ?_
  rw [run_start]
  simp only [ac_z173, go_sem, contS_seq, simprocAttr, rows_len]
  refine loopS (fun k st => ∃ i : Nat, k = 24 - i ∧ i ≤ 24 ∧ i ≤ l.length ∧
    st = ⟨[(0, .pd (.slice (rows AObj.pd l))), (3, .own 39 13 (rows AObj.pd ((l.take i).map fewObj)) 22), (4, int i)], [], [], .no⟩) 24 _
    ?_ ⟨0, rfl, by omega, by omega, rfl⟩ ?_
  · exact Weak.own1 3 22 39 13 (by kernel_rfl) (by decide) rfl (by simp [lessL, lk, St.purge, St.put, D.purge, rows]) (by simp [lessL, lk, St.purge, D.purges, D.purge]) (by simp [lessL]) rfl
  rintro k st ⟨i, rfl, hi6, hi, rfl⟩
  have hw := i64_succ (show i < 1000000000 by omega)
  by_cases hlt : i < l.length ∧ i < 24
  · obtain ⟨x, hx⟩ := at_lt hlt.1
    have h1 : ((i : Int) < (l.length : Int)) = True := eq_true (by omega)
    have h2 : ((i : Int) < 24) = True := eq_true (by omega)
    simp only [go_sem, contS_seq, simprocAttr, rows_len, rows_get hx, h1, h2]
    refine (law9_Few x).callW (enters_of Tryz.func20 rfl rfl) _ rfl rfl ?_
    rintro d rfl
    have hl' : ((l.take i).map fewObj).length ≤ i := by simp; omega
    have e1 : rows AObj.pd ((l.take i).map fewObj) ++ [AObj.pd (fewObj x)] = rows AObj.pd ((l.take (i + 1)).map fewObj) := few_step hx
    simp only [go_sem, contS_seq, simprocAttr, rows_len, hw]
    rw [e1]
    refine ⟨by simp, by unfold maxLen; omega, by omega, 24 - (i + 1), _, by omega, ?_, i + 1, rfl, by omega, by omega, rfl⟩
    exact Weak.less (by simp [lessL, lk]) (by simp [lessL, lk]) (by simp [lessL, lk]) rfl
  · have h3 := few_end (g := fewObj) hi6 hi hlt
    rw [h3]
    by_cases h1 : i < l.length
    · have h1' : ((i : Int) < (l.length : Int)) = True := eq_true (by omega)
      have h2 : ((i : Int) < 24) = False := eq_false (by omega)
      simp only [go_sem, contS_seq, simprocAttr, rows_len, h1', h2]
      simp only [retK, fullK, iterK, resD, resA, AOp.ex, St.ev, Option.map_some, Option.bind_some, St.get, lk, reduceIte, Nat.reduceEqDiff, Option.getD_some, oneD, List.getElem?_cons_zero, List.getElem?_cons_succ, List.drop_zero, List.drop_succ_cons, List.take_succ_cons, List.take_zero, List.length_cons, List.length_nil, Nat.zero_add, Nat.reduceAdd, Nat.le_refl, Nat.reduceLeDiff, D.pub, D.pubs, Tryz.results16]
      exact ⟨_, rfl, rfl, rfl⟩
    · have h1' : ((i : Int) < (l.length : Int)) = False := eq_false (by omega)
      simp only [go_sem, contS_seq, simprocAttr, rows_len, h1']
      simp only [retK, fullK, iterK, resD, resA, AOp.ex, St.ev, Option.map_some, Option.bind_some, St.get, lk, reduceIte, Nat.reduceEqDiff, Option.getD_some, oneD, List.getElem?_cons_zero, List.getElem?_cons_succ, List.drop_zero, List.drop_succ_cons, List.take_succ_cons, List.take_zero, List.length_cons, List.length_nil, Nat.zero_add, Nat.reduceAdd, Nat.le_refl, Nat.reduceLeDiff, D.pub, D.pubs, Tryz.results16]
      exact ⟨_, rfl, rfl, rfl⟩

/-! A rule's goals. -/

def goalOf (os : List AObj) (r : AObj) (b : ABackend) : AGoal := ⟨near b.ref r.ref.space, b.port, b.weight, !decide (wrong os r b = ⟨#[]⟩)⟩

def goals (os : List AObj) (r : AObj) (i : Int) : List AGoal := if isRoute r = true ∧ 0 ≤ i ∧ i < r.rules.length then match r.rules[i.toNat]? with
    | some x => x.backends.map (goalOf os r)
    | none => []
  else []

set_option maxHeartbeats 1000000 in
theorem back_Goals (os : List AObj) (hos : os.length ≤ 1000000) (h : ∀ o ∈ os, o.ok) (r : AObj) (hr : r.ok) (i : Int) : Pure Tryz.prog 42 [.pd (.slice (rows AObj.pd os)), r.d, int i] (fun d => d = .pd (.slice (rows AGoal.pd (goals os r i)))) := by
  refine pure_of_run follows an_z165 Tryz.func42 rfl ok_z165 dst_z165 (by simp [Tryz.ntmps42]) ?_
  rw [run_start]
  simp only [ac_z165, go_sem, contS_seq, simprocAttr, rows_len]
  refine (back_route r hr).callW (enters_of Tryz.func77 rfl rfl) _ rfl rfl ?_
  rintro d rfl
  simp only [go_sem, contS_seq, simprocAttr, rows_len]
  by_cases hg : isRoute r = true ∧ 0 ≤ i ∧ i < r.rules.length
  · have h1 : isRoute r = true := hg.1
    have h2 : (i < 0) = False := eq_false (by omega)
    have h3 : ((r.rules.length : Int) ≤ i) = False := eq_false (by omega)
    obtain ⟨n, rfl⟩ := Int.eq_ofNat_of_zero_le hg.2.1
    obtain ⟨x, hx⟩ := at_lt (show n < r.rules.length by omega)
    have hgo : goals os r n = x.backends.map (goalOf os r) := by simp only [goals, if_pos hg, Int.toNat_natCast, hx]
    have hxb := (hr.rus x (List.mem_of_getElem? hx)).bl
    simp only [go_sem, contS_seq, simprocAttr, rows_len, h1, h2, h3, rows_get hx]
    refine loopS (fun k st => ∃ j : Nat, k = x.backends.length - j ∧ j ≤ x.backends.length ∧
      st = ⟨[(0, .pd (.slice (rows AObj.pd os))), (4, .ptr 4 0), (7, .own 64 6 (rows AGoal.pd ((x.backends.take j).map (goalOf os r))) 53), (29, .pd (.slice (rows ABackend.pd x.backends))), (30, int x.backends.length), (31, int j)], [(4, r.ds)], [], .no⟩) x.backends.length _
      ?_ ⟨0, rfl, by omega, rfl⟩ ?_
    · exact Weak.own1 7 53 64 6 (by kernel_rfl) (by decide) rfl (by simp [lessL, lk, St.purge, St.put, D.purge, rows]) (by simp [lessL, lk, St.purge, D.purges, D.purge]) (by simp [lessL]) rfl
    rintro k st ⟨j, rfl, hj, rfl⟩
    by_cases hlt : j < x.backends.length
    · obtain ⟨b, hb⟩ := at_lt hlt
      have h1' : ((j : Int) < (x.backends.length : Int)) = True := eq_true (by omega)
      have hw := i64_succ (show j < 1000000000 by omega)
      simp only [go_sem, contS_seq, simprocAttr, rows_len, rows_get hb, h1']
      refine (grant_Near b.ref r.ref.space).callX (enters_of Tryz.func27 rfl rfl) _ rfl rfl ?_
      rintro _ rfl
      simp only [go_sem, contS_seq, simprocAttr]
      refine (back_Wrong os hos h r b).callX (enters_of Tryz.func37 rfl rfl) _ rfl rfl ?_
      rintro _ rfl
      have hl' : ((x.backends.take j).map (goalOf os r)).length ≤ j := by simp; omega
      have e1 : rows AGoal.pd ((x.backends.take j).map (goalOf os r)) ++ [[PD.raw (Value.int IntKind.i64 (near b.ref r.ref.space).kind), PD.raw (Value.string (near b.ref r.ref.space).space), PD.raw (Value.string (near b.ref r.ref.space).name), PD.raw (Value.int IntKind.i64 b.port), PD.raw (Value.int IntKind.i64 b.weight), PD.raw (Value.bool !decide (wrong os r b = ⟨#[]⟩))]] = rows AGoal.pd ((x.backends.take (j + 1)).map (goalOf os r)) := few_step (f := AGoal.pd) (g := goalOf os r) hb
      simp only [go_sem, contS_seq, simprocAttr, rows_len, hw]
      rw [e1]
      refine ⟨by simp, by unfold maxLen; omega, by omega, x.backends.length - (j + 1), _, by omega, ?_, j + 1, rfl, by omega, rfl⟩
      exact Weak.less (by simp [lessL, lk]) (by simp [lessL, lk]) (by simp [lessL, lk]) rfl
    · have h1' : ((j : Int) < (x.backends.length : Int)) = False := eq_false (by omega)
      simp only [go_sem, contS_seq, simprocAttr, rows_len, h1']
      simp only [retK, fullK, iterK, resD, resA, AOp.ex, St.ev, Option.map_some, Option.bind_some, St.get, lk, reduceIte, Nat.reduceEqDiff, Option.getD_some, oneD, List.getElem?_cons_zero, List.getElem?_cons_succ, List.drop_zero, List.drop_succ_cons, List.take_succ_cons, List.take_zero, List.length_cons, List.length_nil, Nat.zero_add, Nat.reduceAdd, Nat.le_refl, Nat.reduceLeDiff, D.pub, D.pubs, Tryz.results42]
      exact ⟨_, rfl, rfl, by rw [hgo, List.take_of_length_le (by omega)]; rfl⟩
  · have hgo : goals os r i = [] := by simp only [goals, if_neg hg]
    refine Gif.mk (fun h1 => ?_) (fun h1 => ?_)
    · refine GifP.mk (fun h2 => ?_) (fun h2 => ?_)
      · simp only [retK, fullK, iterK, resD, resA, AOp.ex, St.ev, Option.map_some, Option.bind_some, St.get, lk, reduceIte, Nat.reduceEqDiff, Option.getD_some, oneD, List.getElem?_cons_zero, List.getElem?_cons_succ, List.drop_zero, List.drop_succ_cons, List.take_succ_cons, List.take_zero, List.length_cons, List.length_nil, Nat.zero_add, Nat.reduceAdd, Nat.le_refl, Nat.reduceLeDiff, D.pub, D.pubs, Tryz.results42]
        exact ⟨_, rfl, rfl, by rw [hgo]; rfl⟩
      refine GifP.mk (fun h3 => ?_) (fun h3 => ?_)
      · simp only [retK, fullK, iterK, resD, resA, AOp.ex, St.ev, Option.map_some, Option.bind_some, St.get, lk, reduceIte, Nat.reduceEqDiff, Option.getD_some, oneD, List.getElem?_cons_zero, List.getElem?_cons_succ, List.drop_zero, List.drop_succ_cons, List.take_succ_cons, List.take_zero, List.length_cons, List.length_nil, Nat.zero_add, Nat.reduceAdd, Nat.le_refl, Nat.reduceLeDiff, D.pub, D.pubs, Tryz.results42]
        exact ⟨_, rfl, rfl, by rw [hgo]; rfl⟩
      · exact absurd ⟨h1, by omega, by omega⟩ hg
    · simp only [retK, fullK, iterK, resD, resA, AOp.ex, St.ev, Option.map_some, Option.bind_some, St.get, lk, reduceIte, Nat.reduceEqDiff, Option.getD_some, oneD, List.getElem?_cons_zero, List.getElem?_cons_succ, List.drop_zero, List.drop_succ_cons, List.take_succ_cons, List.take_zero, List.length_cons, List.length_nil, Nat.zero_add, Nat.reduceAdd, Nat.le_refl, Nat.reduceLeDiff, D.pub, D.pubs, Tryz.results42]
      exact ⟨_, rfl, rfl, by rw [hgo]; rfl⟩

theorem filter_step {α : Type} {p : α → Bool} {l : List α} {i : Nat} {x : α} (h : l[i]? = some x) : (l.take (i + 1)).filter p = (l.take i).filter p ++ (if p x = true then [x] else []) := by
  rw [take_at h, List.filter_append]
  congr 1
  by_cases hp : p x = true <;> simp [hp]

end Go.Proofs.YtjhomppadppfnaaGreatDoor

namespace Go.Proofs.YtjhomppadppfnaaGreatDoor
open Go

/-- toll/tolllaw11.GrantMore -/
def an_z174 : Ann := ⟨[(0, [1, 2]), (1, [1, 2]), (2, [1, 2]), (3, [1, 2, 5]), (4, [1, 2, 5, 6]), (5, [2, 54]), (6, [4]), (7, [2, 7]), (8, [2, 7, 8]), (9, [2, 7, 8, 59]), (10, [2, 7, 8]), (11, [2, 7, 8, 74]), (12, [2, 7, 8]), (13, [4])], [(4, ([0, 0, 2, 7, 0, 31, 0, 64, 0, 256, 0, 1024, 4095, 8191], .take 1 (.take 2 (.take 4 (.take 6 (.take 7 (.take 8 (.take 9 (.take 10 (.take 11 (.alts (.cons 0 false (.alts (.cons 3 false (.alts (.cons 5 false (.alts (.cons 12 true (.take 13 (.done)) (.nil))) (.nil))) (.nil))) (.nil))))))))))))), (11, ([0, 1, 0, 7, 15, 0, 32, 0, 128, 0, 512, 2047, 4095], .take 0 (.take 1 (.take 2 (.take 3 (.take 4 (.take 5 (.take 6 (.take 7 (.take 8 (.take 9 (.take 10 (.alts (.cons 11 true (.take 12 (.done)) (.nil))))))))))))))), (13, ([0, 0, 2, 0, 8, 0, 32, 127, 0, 256, 0, 1024, 3072, 7936, 16383, 32767, 65535, 131071, 65535, 327679, 851967, 65535, 2162687, 8388607, 16777215, 33554431, 67108863, 134217727, 268435455], .take 0 (.take 1 (.take 2 (.take 3 (.take 4 (.take 5 (.take 6 (.take 8 (.take 9 (.take 10 (.take 11 (.take 12 (.take 13 (.alts (.cons 7 false (.take 14 (.take 15 (.take 16 (.take 17 (.take 18 (.take 19 (.take 20 (.take 21 (.take 22 (.alts (.cons 23 true (.take 24 (.take 25 (.alts (.cons 26 true (.take 27 (.take 28 (.done))) (.nil))))) (.nil)))))))))))) (.nil)))))))))))))))))], []⟩
def ac_z174 : AC := (.seq (.region [.mk none (some 2) (.box 26 (.tmp 0)), .mk none (some 4) (.mv (.const (.bool false)))] (some [1, 2])) (.seq (.region [.mk none (some 9) (.load (some 6) (.tmp 2)), .mk none (some 10) (.call 15 [.tmp 9]), .mk none none (.store 6 (.tmp 2) (.tmp 10))] (some [1, 2])) (.seq (.region [.mk none (some 11) (.mv (.tmp 1)), .mk none (some 12) (.call 16 [.tmp 11]), .mk none (some 1) (.mv (.tmp 12))] (some [1, 2])) (.seq (.region [.mk none (some 13) (.fieldA 0 (.tmp 2)), .mk none (some 14) (.load none (.tmp 13)), .mk none (some 15) (.fieldA 1 (.tmp 2)), .mk none (some 16) (.load none (.tmp 15)), .mk none (some 17) (.fieldA 2 (.tmp 2)), .mk none (some 18) (.load none (.tmp 17)), .mk none (some 19) (.fieldA 3 (.tmp 2)), .mk none (some 20) (.load (some 3) (.tmp 19)), .mk none (some 21) (.call 17 [.tmp 14, .tmp 16, .tmp 18, .tmp 20]), .mk none (some 5) (.mv (.tmp 21))] (some [1, 2, 5])) (.seq (.draw [.mk none (some 22) (.bslice 39 13 []), .mk none (some 23) (.fieldA 0 (.tmp 2)), .mk none (some 24) (.load none (.tmp 23)), .mk none (some 25) (.append 39 13 256 (.tmp 22) (.tmp 24)), .mk none (some 26) (.mv (.tmp 1)), .mk none (some 27) (.append 39 13 256 (.tmp 25) (.tmp 26)), .mk none (some 28) (.fieldA 1 (.tmp 2)), .mk none (some 29) (.load none (.tmp 28)), .mk none (some 30) (.fieldA 2 (.tmp 2)), .mk none (some 31) (.load none (.tmp 30)), .mk none (some 32) (.fieldA 3 (.tmp 2)), .mk none (some 33) (.load (some 3) (.tmp 32)), .mk none (some 34) (.call 17 [.tmp 27, .tmp 29, .tmp 31, .tmp 33]), .mk none (some 6) (.mv (.tmp 34))] [0, 0, 2, 7, 0, 31, 0, 64, 0, 256, 0, 1024, 4095, 8191] (.take 1 (.take 2 (.take 4 (.take 6 (.take 7 (.take 8 (.take 9 (.take 10 (.take 11 (.alts (.cons 0 false (.alts (.cons 3 false (.alts (.cons 5 false (.alts (.cons 12 true (.take 13 .done) .nil)) .nil)) .nil)) .nil))))))))))) (some [1, 2, 5, 6])) (.seq (.seq (.region [.mk none (some 35) (.mv (.tmp 5)), .mk none (some 36) (.mv (.tmp 35)), .mk (some (36, true)) (some 37) (.mv (.tmp 6)), .mk (some (36, true)) (some 38) (.un .not (.tmp 37)), .mk none (some 39) (.pick (.tmp 36) (.tmp 38) (.const (.bool false))), .mk none (some 40) (.mv (.tmp 39)), .mk (some (40, false)) (some 41) (.mv (.tmp 6)), .mk (some (40, false)) (some 42) (.mv (.tmp 5)), .mk (some (40, false)) (some 43) (.mv (.tmp 42)), .mk (some (43, false)) (some 44) (.mv (.tmp 1)), .mk (some (43, false)) (some 45) (.fieldA 1 (.tmp 2)), .mk (some (43, false)) (some 46) (.load none (.tmp 45)), .mk (some (43, false)) (some 47) (.fieldA 2 (.tmp 2)), .mk (some (43, false)) (some 48) (.load none (.tmp 47)), .mk (some (43, false)) (some 49) (.fieldA 3 (.tmp 2)), .mk (some (43, false)) (some 50) (.load (some 3) (.tmp 49)), .mk (some (43, false)) (some 51) (.call 17 [.tmp 44, .tmp 46, .tmp 48, .tmp 50]), .mk (some (40, false)) (some 52) (.pick (.tmp 43) (.const (.bool true)) (.tmp 51)), .mk (some (40, false)) (some 53) (.binB true (.tmp 41) (.tmp 52)), .mk none (some 54) (.pick (.tmp 40) (.const (.bool true)) (.tmp 53))] (some [2, 54])) (.cond (.tmp 54) (.seq (.region [.mk none (some 4) (.mv (.const (.bool false)))] (some [4])) .ret) .skip)) (.seq (.region [.mk none (some 7) (.mv (.const (.slice none 0 0)))] (some [2, 7])) (.seq (.seq (.region [.mk none (some 8) (.mv (.const (.int .i64 0)))] (some [2, 7, 8])) (.block 0 (.loop (.seq (.seq (.region [.mk none (some 55) (.mv (.tmp 8)), .mk none (some 56) (.fieldA 0 (.tmp 2)), .mk none (some 57) (.load none (.tmp 56)), .mk none (some 58) (.len (.tmp 57) false), .mk none (some 59) (.bin .lss (.tmp 55) (.tmp 58))] (some [2, 7, 8, 59])) (.cond (.tmp 59) .skip (.exit 0))) (.seq (.block 1 (.seq (.draw [.mk none (some 62) (.fieldA 0 (.tmp 2)), .mk none (some 63) (.load none (.tmp 62)), .mk none (some 64) (.mv (.tmp 8)), .mk none (some 65) (.idxA 13 (.tmp 63) (.tmp 64)), .mk none (some 66) (.load (some 13) (.tmp 65)), .mk none (some 67) (.fieldA 1 (.tmp 2)), .mk none (some 68) (.load none (.tmp 67)), .mk none (some 69) (.fieldA 2 (.tmp 2)), .mk none (some 70) (.load none (.tmp 69)), .mk none (some 71) (.fieldA 3 (.tmp 2)), .mk none (some 72) (.load (some 3) (.tmp 71)), .mk none (some 73) (.call 18 [.tmp 66, .tmp 68, .tmp 70, .tmp 72]), .mk none (some 74) (.un .not (.tmp 73))] [0, 1, 0, 7, 15, 0, 32, 0, 128, 0, 512, 2047, 4095] (.take 0 (.take 1 (.take 2 (.take 3 (.take 4 (.take 5 (.take 6 (.take 7 (.take 8 (.take 9 (.take 10 (.alts (.cons 11 true (.take 12 .done) .nil))))))))))))) (some [2, 7, 8, 74])) (.cond (.tmp 74) (.region [.mk none (some 75) (.mv (.tmp 7)), .mk none (some 76) (.fieldA 0 (.tmp 2)), .mk none (some 77) (.load none (.tmp 76)), .mk none (some 78) (.mv (.tmp 8)), .mk none (some 79) (.idxA 13 (.tmp 77) (.tmp 78)), .mk none (some 80) (.load (some 13) (.tmp 79)), .mk none (some 81) (.bslice 39 13 [.tmp 80]), .mk none (some 82) (.append 39 13 256 (.tmp 75) (.tmp 81)), .mk none (some 7) (.mv (.tmp 82))] (some [2, 7, 8])) .skip))) (.region [.mk none (some 60) (.mv (.tmp 8)), .mk none (some 61) (.bin .add (.tmp 60) (.const (.int .i64 1))), .mk none (some 8) (.mv (.tmp 61))] (some [2, 7, 8]))))))) (.seq (.draw [.mk none (some 83) (.mv (.tmp 7)), .mk none (some 84) (.fieldA 1 (.tmp 2)), .mk none (some 85) (.load none (.tmp 84)), .mk none (some 86) (.fieldA 2 (.tmp 2)), .mk none (some 87) (.load none (.tmp 86)), .mk none (some 88) (.fieldA 3 (.tmp 2)), .mk none (some 89) (.load (some 3) (.tmp 88)), .mk none (some 90) (.call 17 [.tmp 83, .tmp 85, .tmp 87, .tmp 89]), .mk none (some 91) (.fieldA 2 (.tmp 2)), .mk none (some 92) (.load none (.tmp 91)), .mk none (some 93) (.fieldA 3 (.tmp 2)), .mk none (some 94) (.fieldA 1 (.tmp 93)), .mk none (some 95) (.load none (.tmp 94)), .mk none (some 96) (.bin .eql (.tmp 92) (.tmp 95)), .mk none (some 97) (.binB false (.tmp 90) (.tmp 96)), .mk none (some 98) (.mv (.tmp 97)), .mk (some (98, true)) (some 99) (.fieldA 1 (.tmp 2)), .mk (some (98, true)) (some 100) (.load none (.tmp 99)), .mk (some (98, true)) (some 101) (.fieldA 3 (.tmp 2)), .mk (some (98, true)) (some 102) (.fieldA 1 (.tmp 101)), .mk (some (98, true)) (some 103) (.load none (.tmp 102)), .mk (some (98, true)) (some 104) (.fieldA 3 (.tmp 2)), .mk (some (98, true)) (some 105) (.load (some 3) (.tmp 104)), .mk (some (98, true)) (some 106) (.call 17 [.const (.slice none 0 0), .tmp 100, .tmp 103, .tmp 105]), .mk none (some 107) (.pick (.tmp 98) (.tmp 106) (.const (.bool false))), .mk none (some 108) (.mv (.tmp 107)), .mk (some (108, true)) (some 109) (.call 19 []), .mk none (some 110) (.pick (.tmp 108) (.tmp 109) (.const (.bool false))), .mk none (some 4) (.mv (.tmp 110))] [0, 0, 2, 0, 8, 0, 32, 127, 0, 256, 0, 1024, 3072, 7936, 16383, 32767, 65535, 131071, 65535, 327679, 851967, 65535, 2162687, 8388607, 16777215, 33554431, 67108863, 134217727, 268435455] (.take 0 (.take 1 (.take 2 (.take 3 (.take 4 (.take 5 (.take 6 (.take 8 (.take 9 (.take 10 (.take 11 (.take 12 (.take 13 (.alts (.cons 7 false (.take 14 (.take 15 (.take 16 (.take 17 (.take 18 (.take 19 (.take 20 (.take 21 (.take 22 (.alts (.cons 23 true (.take 24 (.take 25 (.alts (.cons 26 true (.take 27 (.take 28 .done)) .nil)))) .nil))))))))))) .nil))))))))))))))) (some [4])) .ret)))))))))
theorem ok_z174 : compC Tryz.prog an_z174 (Tryz.f3.body.getD .skip) = some ac_z174 := by kernel_rfl
theorem dst_z174 : ac_z174.dstOK Tryz.f3.ntmps (fun i => decide (i < Tryz.f3.ntmps)) = true := by kernel_rfl

/-- toll/tolllaw11.cut -/
def an_z180 : Ann := ⟨[(0, [1, 2]), (1, [2])], [(1, ([0, 1, 3, 0, 8, 0, 32, 103, 0, 256, 999, 2047, 4095], .take 0 (.take 1 (.take 3 (.take 4 (.take 5 (.take 6 (.take 8 (.take 9 (.alts (.cons 2 false (.alts (.cons 7 false (.alts (.cons 10 false (.take 11 (.alts (.cons 12 true (.done) (.nil)))) (.nil))) (.nil))) (.nil))))))))))))], []⟩
def ac_z180 : AC := (.seq (.region [.mk none (some 1) (.box 26 (.tmp 0)), .mk none (some 2) (.alloc 26 [.nils, .pd (.raw (.int .i64 0)), .pd (.raw (.string ⟨#[]⟩)), .pd (.raw (.int .i64 0)), .pd (.raw (.string ⟨#[]⟩)), .pd (.raw (.string ⟨#[]⟩))])] (some [1, 2])) (.seq (.draw [.mk none (some 3) (.fieldA 0 (.tmp 1)), .mk none (some 4) (.load none (.tmp 3)), .mk none (some 5) (.call 16 [.tmp 4]), .mk none (some 6) (.fieldA 1 (.tmp 1)), .mk none (some 7) (.load none (.tmp 6)), .mk none (some 8) (.fieldA 2 (.tmp 1)), .mk none (some 9) (.load none (.tmp 8)), .mk none (some 10) (.call 22 [.tmp 9]), .mk none (some 11) (.fieldA 3 (.tmp 1)), .mk none (some 12) (.load (some 3) (.tmp 11)), .mk none (some 13) (.call 21 [.tmp 12]), .mk none (some 14) (.build [.nils, .pd (.raw (.int .i64 0)), .pd (.raw (.string ⟨#[]⟩)), .pd (.raw (.int .i64 0)), .pd (.raw (.string ⟨#[]⟩)), .pd (.raw (.string ⟨#[]⟩))] [(0, 1, .tmp 5), (1, 1, .tmp 7), (2, 1, .tmp 10), (3, 3, .tmp 13)]), .mk none none (.store 6 (.tmp 2) (.tmp 14))] [0, 1, 3, 0, 8, 0, 32, 103, 0, 256, 999, 2047, 4095] (.take 0 (.take 1 (.take 3 (.take 4 (.take 5 (.take 6 (.take 8 (.take 9 (.alts (.cons 2 false (.alts (.cons 7 false (.alts (.cons 10 false (.take 11 (.alts (.cons 12 true .done .nil))) .nil)) .nil)) .nil)))))))))) (some [2])) .ret))
theorem ok_z180 : compC Tryz.prog an_z180 (Tryz.f15.body.getD .skip) = some ac_z180 := by kernel_rfl
theorem ret_z180 (st : St) : resD Tryz.prog st Tryz.f15.results.toList = resA st [.cell 2 (some 6)] := resD_of (by kernel_rfl)
theorem dst_z180 : ac_z180.dstOK Tryz.f15.ntmps (fun i => decide (i < Tryz.f15.ntmps)) = true := by kernel_rfl

/-- toll/tolllaw11.awake -/
def an_z181 : Ann := ⟨[(0, []), (1, [1]), (2, [0])], [], []⟩
def ac_z181 : AC := (.seq (.region [.mk none (some 0) (.mv (.const (.bool false)))] (some [])) (.seq (.region [.mk none (some 2) (.build [.pd (.raw (.int .i64 0)), .pd (.raw (.string ⟨#[]⟩)), .pd (.raw (.string ⟨#[]⟩))] [(0, 1, .const (.int .i64 7)), (1, 1, .const (.string ⟨#[97, 112, 112]⟩)), (2, 1, .const (.string ⟨#[103]⟩))]), .mk none (some 3) (.build [.pd (.raw (.int .i64 0)), .pd (.raw (.string ⟨#[]⟩)), .pd (.raw (.string ⟨#[]⟩))] [(0, 1, .const (.int .i64 6)), (1, 1, .const (.string ⟨#[119, 101, 98]⟩))]), .mk none (some 4) (.bslice 45 3 [.tmp 3]), .mk none (some 5) (.build [.pd (.raw (.int .i64 0)), .pd (.raw (.string ⟨#[]⟩)), .pd (.raw (.string ⟨#[]⟩))] [(0, 1, .const (.int .i64 3)), (2, 1, .const (.string ⟨#[97, 112, 105]⟩))]), .mk none (some 6) (.bslice 45 3 [.tmp 5]), .mk none (some 7) (.build [.pd (.raw (.int .i64 0)), .pd (.raw (.string ⟨#[]⟩)), .pd (.raw (.string ⟨#[]⟩)), .pd (.raw (.bool false)), .nils, .nils, .pd (.raw (.string ⟨#[]⟩)), .nils, .nils, .nils, .nils, .nils, .nils] [(0, 3, .tmp 2), (11, 1, .tmp 4), (12, 1, .tmp 6)]), .mk none (some 8) (.bslice 39 13 [.tmp 7]), .mk none (some 1) (.mv (.tmp 8))] (some [1])) (.seq (.region [.mk none (some 9) (.mv (.tmp 1)), .mk none (some 10) (.call 54 [.const (.string ⟨#[97, 112, 112]⟩), .const (.string ⟨#[97, 112, 105]⟩)]), .mk none (some 11) (.call 17 [.tmp 9, .const (.int .i64 6), .const (.string ⟨#[119, 101, 98]⟩), .tmp 10]), .mk none (some 12) (.mv (.tmp 11)), .mk (some (12, true)) (some 13) (.mv (.tmp 1)), .mk (some (12, true)) (some 14) (.call 54 [.const (.string ⟨#[97, 112, 112]⟩), .const (.string ⟨#[100, 98]⟩)]), .mk (some (12, true)) (some 15) (.call 17 [.tmp 13, .const (.int .i64 6), .const (.string ⟨#[119, 101, 98]⟩), .tmp 14]), .mk (some (12, true)) (some 16) (.un .not (.tmp 15)), .mk none (some 17) (.pick (.tmp 12) (.tmp 16) (.const (.bool false))), .mk none (some 18) (.mv (.tmp 17)), .mk (some (18, true)) (some 19) (.mv (.tmp 1)), .mk (some (18, true)) (some 20) (.call 54 [.const (.string ⟨#[97, 112, 112]⟩), .const (.string ⟨#[97, 112, 105]⟩)]), .mk (some (18, true)) (some 21) (.call 17 [.tmp 19, .const (.int .i64 6), .const (.string ⟨#[111, 112, 115]⟩), .tmp 20]), .mk (some (18, true)) (some 22) (.un .not (.tmp 21)), .mk none (some 23) (.pick (.tmp 18) (.tmp 22) (.const (.bool false))), .mk none (some 0) (.mv (.tmp 23))] (some [0])) .ret)))
theorem ok_z181 : compC Tryz.prog an_z181 (Tryz.f19.body.getD .skip) = some ac_z181 := by kernel_rfl
theorem dst_z181 : ac_z181.dstOK Tryz.f19.ntmps (fun i => decide (i < Tryz.f19.ntmps)) = true := by kernel_rfl

/-- toll/tolllaw11.service -/
def an_z182 : Ann := ⟨[(0, [0, 1, 4]), (1, [4])], [], []⟩
def ac_z182 : AC := (.seq (.region [.mk none (some 4) (.alloc 24 [.pd (.raw (.int .i64 0)), .pd (.raw (.string ⟨#[]⟩)), .pd (.raw (.string ⟨#[]⟩))])] (some [0, 1, 4])) (.seq (.region [.mk none (some 5) (.mv (.tmp 0)), .mk none (some 6) (.mv (.tmp 1)), .mk none (some 7) (.build [.pd (.raw (.int .i64 0)), .pd (.raw (.string ⟨#[]⟩)), .pd (.raw (.string ⟨#[]⟩))] [(0, 1, .const (.int .i64 3)), (1, 1, .tmp 5), (2, 1, .tmp 6)]), .mk none none (.store 3 (.tmp 4) (.tmp 7))] (some [4])) .ret))
theorem ok_z182 : compC Tryz.prog an_z182 (Tryz.f54.body.getD .skip) = some ac_z182 := by kernel_rfl
theorem ret_z182 (st : St) : resD Tryz.prog st Tryz.f54.results.toList = resA st [.cell 4 (some 3)] := resD_of (by kernel_rfl)
theorem dst_z182 : ac_z182.dstOK Tryz.f54.ntmps (fun i => decide (i < Tryz.f54.ntmps)) = true := by kernel_rfl


end Go.Proofs.YtjhomppadppfnaaGreatDoor

namespace Go.Proofs.YtjhomppadppfnaaGreatDoor
open Go Go.RowKit
set_option linter.unusedSimpArgs false
set_option linter.unusedVariables false
set_option maxRecDepth 100000

theorem beq_tt (b : Bool) : (b == b) = true := by cases b <;> rfl

structure AAsk where
  os : List AObj
  kind : Int
  space : ByteArray
  to : ARef

abbrev AAsk.pd (q : AAsk) : List PD := [.slice (rows AObj.pd q.os), pInt q.kind, pStr q.space, pInt q.to.kind, pStr q.to.space, pStr q.to.name]
abbrev AAsk.ds (q : AAsk) : List D := [.pd (.slice (rows AObj.pd q.os)), int q.kind, str q.space, int q.to.kind, str q.to.space, str q.to.name]
abbrev AAsk.d (q : AAsk) : D := .agg [.pd (.slice (rows AObj.pd q.os)), int q.kind, str q.space, int q.to.kind, str q.to.space, str q.to.name]

def cutAsk (q : AAsk) : AAsk := ⟨fewObjs q.os, q.kind, few q.space, fewRef q.to⟩

theorem law11_cut (q : AAsk) : Pure Tryz.prog 15 [q.d] (fun d => d = (cutAsk q).d) := by
  refine pure_of_run follows an_z180 Tryz.func15 rfl ok_z180 dst_z180 (by simp [Tryz.ntmps15]) ?_
  rw [run_start]
  simp only [ac_z180, go_sem, contS_seq, simprocAttr]
  repeat' (first | (refine (law11_Some q.os).callX (enters_of Tryz.func16 rfl rfl) _ rfl rfl ?_; rintro _ rfl; simp only [go_sem, contS_seq, simprocAttr]) | (refine (law1_Few q.space).callX (enters_of Tryz.func22 rfl rfl) _ rfl rfl ?_; rintro _ rfl; simp only [go_sem, contS_seq, simprocAttr]) | (refine (law9_FewRef q.to).callX (enters_of Tryz.func21 rfl rfl) _ rfl rfl ?_; rintro _ rfl; simp only [go_sem, contS_seq, simprocAttr]) | refine And.intro ?_ ?_)
  all_goals
    simp only [retK, fullK, iterK, resD, resA, AOp.ex, St.ev, Option.map_some, Option.bind_some, St.get, lk, reduceIte, Nat.reduceEqDiff, Option.getD_some, oneD, List.getElem?_cons_zero, List.getElem?_cons_succ, List.drop_zero, List.drop_succ_cons, List.take_succ_cons, List.take_zero, List.length_cons, List.length_nil, Nat.zero_add, Nat.reduceAdd, Nat.le_refl, Nat.reduceLeDiff, D.pub, D.pubs, ret_z180]
    exact ⟨_, rfl, rfl, rfl⟩

theorem law11_service (a b : ByteArray) : Pure Tryz.prog 54 [str a, str b] (fun d => d = (ARef.mk 3 a b).d) := by
  refine pure_of_run follows an_z182 Tryz.func54 rfl ok_z182 dst_z182 (by simp [Tryz.ntmps54]) ?_
  rw [run_start]
  simp only [ac_z182, go_sem, contS_seq, simprocAttr]
  simp only [retK, fullK, iterK, resD, resA, AOp.ex, St.ev, Option.map_some, Option.bind_some, St.get, lk, reduceIte, Nat.reduceEqDiff, Option.getD_some, oneD, List.getElem?_cons_zero, List.getElem?_cons_succ, List.drop_zero, List.drop_succ_cons, List.take_succ_cons, List.take_zero, List.length_cons, List.length_nil, Nat.zero_add, Nat.reduceAdd, Nat.le_refl, Nat.reduceLeDiff, D.pub, D.pubs, ret_z182]
  exact ⟨_, rfl, rfl, rfl⟩

def aGrant : AObj := ⟨⟨7, ⟨#[97, 112, 112]⟩, ⟨#[103]⟩⟩, false, [], [], ⟨#[]⟩, [], [], [], [], [⟨6, ⟨#[119, 101, 98]⟩, ⟨#[]⟩⟩], [⟨3, ⟨#[]⟩, ⟨#[97, 112, 105]⟩⟩]⟩

theorem aGrant_ok : aGrant.ok := by constructor <;> simp [aGrant]

theorem permits_grant (kind : Int) (space : ByteArray) (t : ARef) : Pure Tryz.prog 17 [.pd (.slice (rows AObj.pd [aGrant])), int kind, str space, t.d] (fun d => d = bln (permits [aGrant] kind space t)) :=
  grant_Permits' [aGrant] (by simp) (fun o h => by rw [List.mem_singleton.1 h]; exact aGrant_ok) kind space t

theorem awake11 : Pure Tryz.prog 19 [] (fun d => d = bln true) := by
  refine pure_of_run follows an_z181 Tryz.func19 rfl ok_z181 dst_z181 (by simp [Tryz.ntmps19]) ?_
  rw [run_start]
  simp only [ac_z181, go_sem, contS_seq, simprocAttr]
  refine (law11_service ⟨#[97, 112, 112]⟩ ⟨#[97, 112, 105]⟩).callW (enters_of Tryz.func54 rfl rfl) _ rfl rfl ?_
  rintro _ rfl
  simp only [go_sem, contS_seq, simprocAttr]
  refine (permits_grant 6 ⟨#[119, 101, 98]⟩ ⟨3, ⟨#[97, 112, 112]⟩, ⟨#[97, 112, 105]⟩⟩).callW (enters_of Tryz.func17 rfl rfl) _ rfl rfl ?_
  rintro _ rfl
  rw [show permits [aGrant] 6 ⟨#[119, 101, 98]⟩ ⟨3, ⟨#[97, 112, 112]⟩, ⟨#[97, 112, 105]⟩⟩ = true by decide +kernel]
  simp only [go_sem, contS_seq, simprocAttr]
  refine (law11_service ⟨#[97, 112, 112]⟩ ⟨#[100, 98]⟩).callW (enters_of Tryz.func54 rfl rfl) _ rfl rfl ?_
  rintro _ rfl
  simp only [go_sem, contS_seq, simprocAttr]
  refine (permits_grant 6 ⟨#[119, 101, 98]⟩ ⟨3, ⟨#[97, 112, 112]⟩, ⟨#[100, 98]⟩⟩).callW (enters_of Tryz.func17 rfl rfl) _ rfl rfl ?_
  rintro _ rfl
  rw [show permits [aGrant] 6 ⟨#[119, 101, 98]⟩ ⟨3, ⟨#[97, 112, 112]⟩, ⟨#[100, 98]⟩⟩ = false by decide +kernel]
  simp only [go_sem, contS_seq, simprocAttr]
  refine (law11_service ⟨#[97, 112, 112]⟩ ⟨#[97, 112, 105]⟩).callW (enters_of Tryz.func54 rfl rfl) _ rfl rfl ?_
  rintro _ rfl
  simp only [go_sem, contS_seq, simprocAttr]
  refine (permits_grant 6 ⟨#[111, 112, 115]⟩ ⟨3, ⟨#[97, 112, 112]⟩, ⟨#[97, 112, 105]⟩⟩).callW (enters_of Tryz.func17 rfl rfl) _ rfl rfl ?_
  rintro _ rfl
  rw [show permits [aGrant] 6 ⟨#[111, 112, 115]⟩ ⟨3, ⟨#[97, 112, 112]⟩, ⟨#[97, 112, 105]⟩⟩ = false by decide +kernel]
  simp only [go_sem, contS_seq, simprocAttr]
  simp only [retK, fullK, iterK, resD, resA, AOp.ex, St.ev, Option.map_some, Option.bind_some, St.get, lk, reduceIte, Nat.reduceEqDiff, Option.getD_some, oneD, List.getElem?_cons_zero, List.getElem?_cons_succ, List.drop_zero, List.drop_succ_cons, List.take_succ_cons, List.take_zero, List.length_cons, List.length_nil, Nat.zero_add, Nat.reduceAdd, Nat.le_refl, Nat.reduceLeDiff, D.pub, D.pubs, Tryz.results19]
  exact ⟨_, rfl, rfl, rfl⟩

end Go.Proofs.YtjhomppadppfnaaGreatDoor

namespace Go.Proofs.YtjhomppadppfnaaGreatDoor
open Go Go.RowKit Go.ChangeShapes Go.WideShapes Go.ChangeAt Go.WideMaps Go.WideElems
set_option linter.unusedSimpArgs false
set_option linter.unusedVariables false
set_option maxRecDepth 100000

abbrev refShs : List Sh := [.int .i64, .str, .str]

theorem ref_row {r : List PD} (h : HasShs refShs r) : ∃ a, r = ARef.pd a := by
  cases h with
  | cons _ d1 _ _ a1 h1 =>
  cases h1 with
  | cons _ d2 _ _ a2 h2 =>
  cases h2 with
  | cons _ d3 _ _ a3 h3 =>
  cases h3
  cases a1 with
  | int _ x1 _ =>
  cases a2 with
  | str x2 _ =>
  cases a3 with
  | str x3 _ =>
  exact ⟨⟨x1, x2, x3⟩, rfl⟩

abbrev askShs : List Sh := [.slice objShs, .int .i64, .str, .int .i64, .str, .str]

theorem ask_row {r : List PD} (h : HasShs askShs r) : ∃ a, r = AAsk.pd a := by
  cases h with
  | cons _ d1 _ _ a1 h1 =>
  cases h1 with
  | cons _ d2 _ _ a2 h2 =>
  cases h2 with
  | cons _ d3 _ _ a3 h3 =>
  cases h3 with
  | cons _ d4 _ _ a4 h4 =>
  cases h4 with
  | cons _ d5 _ _ a5 h5 =>
  cases h5 with
  | cons _ d6 _ _ a6 h6 =>
  cases h6
  cases a1 with
  | slice _ els1 _ k1 =>
  obtain ⟨x1, rfl⟩ := rows_of obj_row k1
  cases a2 with
  | int _ x2 _ =>
  cases a3 with
  | str x3 _ =>
  cases a4 with
  | int _ x4 _ =>
  cases a5 with
  | str x5 _ =>
  cases a6 with
  | str x6 _ =>
  exact ⟨⟨x1, x2, x3, ⟨x4, x5, x6⟩⟩, rfl⟩

section
variable {H : Type} {enc : TypeId × Value → H} {P : Program} {W : World} {base : Nat} {spare : Nat → Bool} {held : Bool}

theorem arg_ref {t : TypeId} {fs : Array Field} {v : Value} {d : DataW H} {ps : List MemPlace} {n : Nat} (hu : P.underlying t = some (.struct fs)) (hv : Value.okWide P W .any base t v) (h : DataW.Trod enc P W 0 spare held t v d ps)
    (hs : shp P n t = some refShs) : ∃ o : ARef, Rep (gh0 (allFz W)) W o.d v := by
  obtain ⟨ds, h1, h2⟩ := arg_struct hu hv h hs
  obtain ⟨o, rfl⟩ := ref_row h2
  exact ⟨o, h1⟩

theorem arg_ask {t : TypeId} {fs : Array Field} {v : Value} {d : DataW H} {ps : List MemPlace} {n : Nat} (hu : P.underlying t = some (.struct fs)) (hv : Value.okWide P W .any base t v) (h : DataW.Trod enc P W 0 spare held t v d ps)
    (hs : shp P n t = some askShs) : ∃ o : AAsk, Rep (gh0 (allFz W)) W o.d v := by
  obtain ⟨ds, h1, h2⟩ := arg_struct hu hv h hs
  obtain ⟨o, rfl⟩ := ask_row h2
  exact ⟨o, h1⟩
end

end Go.Proofs.YtjhomppadppfnaaGreatDoor

namespace Go.Proofs.YtjhomppadppfnaaGreatDoor
open Go Go.RowKit
set_option linter.unusedSimpArgs false
set_option linter.unusedVariables false
set_option maxRecDepth 100000

theorem permits_append (l m : List AObj) (k : Int) (s : ByteArray) (t : ARef) : permits (l ++ m) k s t = (permits l k s t || permits m k s t) := by
  unfold permits
  rw [List.any_append]
  cases l.any (lets k s t) <;> cases m.any (lets k s t) <;> cases decide (s = t.space) <;> rfl

theorem permits_less (l : List AObj) (k : Int) (s : ByteArray) (t : ARef) : permits (l.filter fun o => !lets k s t o) k s t = decide (s = t.space) := by
  unfold permits
  rw [show (l.filter fun o => !lets k s t o).any (lets k s t) = false by
    rw [List.any_eq_false]
    intro o h
    have := (List.mem_filter.1 h).2
    simpa using this]
  rfl

theorem permits_own (k : Int) (t : ARef) : permits [] k t.space t = true := by simp [permits]

set_option maxHeartbeats 2000000 in
theorem law_GrantMore (q : AAsk) (more : List AObj) : Pure Tryz.prog 3 [q.d, .pd (.slice (rows AObj.pd more))] (fun d => d = bln true) := by
  refine pure_of_run follows an_z174 Tryz.func3 rfl ok_z174 dst_z174 (by simp [Tryz.ntmps3]) ?_
  rw [run_start]
  simp only [ac_z174, go_sem, contS_seq, simprocAttr]
  refine (law11_cut q).callW (enters_of Tryz.func15 rfl rfl) _ rfl rfl ?_
  rintro _ rfl
  have hos : (cutAsk q).os.length ≤ 1000 := Nat.le_trans (fewObjs_len q.os) (by omega)
  have ho : ∀ o ∈ (cutAsk q).os, o.ok := fewObjs_ok (l := q.os)
  generalize cutAsk q = q at hos ho ⊢
  simp only [go_sem, contS_seq, simprocAttr]
  refine (law11_Some more).callW (enters_of Tryz.func16 rfl rfl) _ rfl rfl ?_
  rintro _ rfl
  have hms : (fewObjs more).length ≤ 1000 := Nat.le_trans (fewObjs_len more) (by omega)
  have hm := fewObjs_ok (l := more)
  generalize fewObjs more = ms at hms hm ⊢
  simp only [go_sem, contS_seq, simprocAttr]
  refine (grant_Permits' q.os (by omega) ho q.kind q.space q.to).callW (enters_of Tryz.func17 rfl rfl) _ rfl rfl ?_
  rintro _ rfl
  simp only [go_sem, contS_seq, simprocAttr, rows_len, rows_append]
  refine ⟨rows_row (f := AObj.pd) (n := 13) (fun _ => rfl) _, by unfold maxLen; omega, by omega, rows_row (f := AObj.pd) (n := 13) (fun _ => rfl) _, by unfold maxLen; omega, by omega, ?_⟩
  refine (grant_Permits' (q.os ++ ms) (by simp; omega) (fun o h => by rcases List.mem_append.1 h with h | h; exact ho o h; exact hm o h) q.kind q.space q.to).callX (enters_of Tryz.func17 rfl rfl) _ rfl rfl ?_
  rintro _ rfl
  rw [permits_append]
  obtain ⟨p1, hp1⟩ : ∃ p1, permits q.os q.kind q.space q.to = p1 := ⟨_, rfl⟩
  obtain ⟨p2, hp2⟩ : ∃ p2, permits ms q.kind q.space q.to = p2 := ⟨_, rfl⟩
  have c2 := grant_Permits' ms (by omega) hm q.kind q.space q.to
  rw [hp2] at c2
  rw [hp1, hp2]
  cases p1
  case' false =>
    rw [Bool.false_or]
    simp only [go_sem, contS_seq, simprocAttr]
    refine c2.callW (enters_of Tryz.func17 rfl rfl) _ rfl rfl ?_
    rintro _ rfl
    cases p2
  case' true => rw [Bool.true_or]
  all_goals
    simp only [go_sem, contS_seq, simprocAttr, beq_tt]
    refine loopS (fun k st => ∃ i : Nat, k = q.os.length - i ∧ i ≤ q.os.length ∧
      st = ⟨[(2, .ptr 2 0), (7, .own 39 13 (rows AObj.pd ((q.os.take i).filter fun o => !lets q.kind q.space q.to o)) 82), (8, int i)], [(2, q.ds)], [], .no⟩) q.os.length _ ?_ ⟨0, rfl, by omega, rfl⟩ ?_
    · exact Weak.own1 7 82 39 13 (by kernel_rfl) (by decide) rfl (by simp [lessL, lk, St.purge, St.put, D.purge, rows]) (by simp [lessL, lk, St.purge, D.purges, D.purge]) (by simp [lessL]) rfl
    rintro k st ⟨i, rfl, hi, rfl⟩
    by_cases hlt : i < q.os.length
    · obtain ⟨x, hx⟩ := at_lt hlt
      have h1 : ((i : Int) < (q.os.length : Int)) = True := eq_true (by omega)
      have hw := i64_succ (show i < 1000000000 by omega)
      have hf := filter_step (p := fun o => !lets q.kind q.space q.to o) hx
      have hl' : ((q.os.take i).filter fun o => !lets q.kind q.space q.to o).length ≤ i := Nat.le_trans (List.length_filter_le _ _) (by simp; omega)
      have c3 := grant_Lets x (ho x (List.mem_of_getElem? hx)) q.kind q.space q.to
      obtain ⟨b, hb⟩ : ∃ b, lets q.kind q.space q.to x = b := ⟨_, rfl⟩
      rw [hb] at c3
      simp only [hb] at hf
      simp only [go_sem, contS_seq, simprocAttr, rows_len, rows_get hx, h1, hw]
      refine c3.callX (enters_of Tryz.func18 rfl rfl) _ rfl rfl ?_
      rintro _ rfl
      cases b
      · simp only [Bool.not_false, if_true] at hf
        simp only [go_sem, contS_seq, simprocAttr, rows_len, rows_get hx, h1, hw]
        rw [rows_one _ x, ← hf]
        refine ⟨by simp, by unfold maxLen; omega, by omega, q.os.length - (i + 1), _, by omega, ?_, i + 1, rfl, by omega, rfl⟩
        exact Weak.less (by simp [lessL, lk]) (by simp [lessL, lk]) (by simp [lessL, lk]) rfl
      · simp only [Bool.not_true, Bool.false_eq_true, if_false, List.append_nil] at hf
        simp only [go_sem, contS_seq, simprocAttr, hw]
        rw [← hf]
        refine ⟨q.os.length - (i + 1), _, by omega, ?_, i + 1, rfl, by omega, rfl⟩
        exact Weak.less (by simp [lessL, lk]) (by simp [lessL, lk]) (by simp [lessL, lk]) rfl
    · have h1 : ((i : Int) < (q.os.length : Int)) = False := eq_false (by omega)
      rw [List.take_of_length_le (by omega)]
      simp only [go_sem, contS_seq, simprocAttr, rows_len, h1]
      refine (grant_Permits' (q.os.filter fun o => !lets q.kind q.space q.to o) (Nat.le_trans (List.length_filter_le _ _) (by omega)) (fun o h => ho o ((List.mem_filter.1 h).1)) q.kind q.space q.to).callX (enters_of Tryz.func17 rfl rfl) _ rfl rfl ?_
      rintro _ rfl
      rw [permits_less]
      simp only [go_sem, contS_seq, simprocAttr, beq_tt]
      refine (grant_Permits' [] (by simp) (fun o h => by cases h) q.kind q.to.space q.to).callX (enters_of Tryz.func17 rfl rfl) _ rfl rfl ?_
      rintro _ rfl
      rw [permits_own]
      simp only [go_sem, contS_seq, simprocAttr]
      refine awake11.callX (enters_of Tryz.func19 rfl rfl) _ rfl rfl ?_
      rintro _ rfl
      simp only [go_sem, contS_seq, simprocAttr]
      simp only [retK, fullK, iterK, resD, resA, AOp.ex, St.ev, Option.map_some, Option.bind_some, St.get, lk, reduceIte, Nat.reduceEqDiff, Option.getD_some, oneD, List.getElem?_cons_zero, List.getElem?_cons_succ, List.drop_zero, List.drop_succ_cons, List.take_succ_cons, List.take_zero, List.length_cons, List.length_nil, Nat.zero_add, Nat.reduceAdd, Nat.le_refl, Nat.reduceLeDiff, D.pub, D.pubs, Tryz.results3]
      exact ⟨_, rfl, rfl, rfl⟩

end Go.Proofs.YtjhomppadppfnaaGreatDoor
