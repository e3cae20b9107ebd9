/- Texts of the prover's, joined: FH E4 FD E5 FE FI D9 H1 R4 I0 DA I1 I2 I3 I4 I5. -/
import Derived.Test.YtjhomppadppfnaaGreatDoorK7
import Derived.Test.YtjhomppadppfnaaGreatDoorProg
import Derived.KernelRfl
import Derived.ChangeMaps5

namespace Go.Proofs.YtjhomppadppfnaaGreatDoor
open Go Go.RowKit
set_option linter.unusedSimpArgs false
set_option linter.unusedVariables false
set_option maxRecDepth 100000

theorem run_cutJ {P : Program} {x y : AC} {st : St} {S : List Fr} {K : Exit → St → Prop} (J : St → Prop) (h1 : ∀ K' : Exit → St → Prop, (∀ s, J s → K' .normal s) → run P x st (contS P [] K')) (h2 : ∀ s, J s → run P y s (contS P S K)) : run P (.seq x y) st (contS P S K) := by
  rw [run_seq]; exact h1 (contS P (.seq y :: S) K) h2

def fewListener (l : AListener) : AListener := ⟨few l.name, l.port, l.tls, few l.host, fewRef l.cert, l.from_, fewNeeds l.needs⟩
def fewParent (p : AParent) : AParent := ⟨few p.space, few p.name, few p.section_, p.port⟩
def fewBackend (b : ABackend) : ABackend := ⟨fewRef b.ref, b.port, b.weight⟩
def fewRule (r : ARule) : ARule := ⟨(r.matches_.take 5).map fewMatch, fewFilters r.filters, (r.backends.take 5).map fewBackend⟩
def fewObj (o : AObj) : AObj := ⟨fewRef o.ref, o.good, fewPairs o.labels, o.ports.take 9, few o.cls, (o.listeners.take 9).map fewListener, (o.parents.take 5).map fewParent, (o.hosts.take 5).map few, (o.rules.take 7).map fewRule, fewSides o.from_, fewSides o.to_⟩

set_option maxHeartbeats 4000000 in
theorem law9_Few (o : AObj) : Pure Tryz.prog 20 [o.d] (fun d => d = (fewObj o).d) := by
  refine pure_of_run follows an_z8s55 Tryz.func20 rfl ok_z8s55 dst_z8s55 (by simp [Tryz.ntmps20]) ?_
  rw [run_start]
  simp only [ac_z8s55]
  apply run_cut
  · intro K' hK
    simp only [go_sem, contS_seq, simprocAttr]
    exact hK
  apply run_cut
  · intro K' hK
    simp only [go_sem, contS_seq, simprocAttr]
    repeat' (first | exact hK | (refine (law9_FewRef o.ref).callX (enters_of Tryz.func21 rfl rfl) _ rfl rfl ?_; rintro _ rfl; simp only [go_sem, contS_seq, simprocAttr]) | (refine (law5_Few o.labels).callX (enters_of Tryz.func55 rfl rfl) _ rfl rfl ?_; rintro _ rfl; simp only [go_sem, contS_seq, simprocAttr]) | (refine (law1_Few o.cls).callX (enters_of Tryz.func22 rfl rfl) _ rfl rfl ?_; rintro _ rfl; simp only [go_sem, contS_seq, simprocAttr]) | (refine (law9_sides o.from_).callX (enters_of Tryz.func56 rfl rfl) _ rfl rfl ?_; rintro _ rfl; simp only [go_sem, contS_seq, simprocAttr]) | (refine (law9_sides o.to_).callX (enters_of Tryz.func56 rfl rfl) _ rfl rfl ?_; rintro _ rfl; simp only [go_sem, contS_seq, simprocAttr]) | refine And.intro ?_ ?_)
  refine run_cutJ (fun s => ∃ i : Nat, s = ⟨[(41, bln false), (1, .ptr 1 0), (2, .ptr 2 0), (3, .ptr 3 0), (4, int i), (41, bln false)], [(1, [int o.ref.kind, str o.ref.space, str o.ref.name, bln o.good, .pd (.slice (rows APair.pd o.labels)), .pd (.slice (ints o.ports)), str o.cls, .pd (.slice (rows AListener.pd o.listeners)), .pd (.slice (rows AParent.pd o.parents)), .pd (.slice (strs o.hosts)), .pd (.slice (rows ARule.pd o.rules)), .pd (.slice (rows ASide.pd o.from_)), .pd (.slice (rows ASide.pd o.to_))]), (2, [int 0, str ⟨#[]⟩, str ⟨#[]⟩, bln false, .nils, .nils, str ⟨#[]⟩, .nils, .nils, .nils, .nils, .nils, .nils]), (3, [int (fewRef o.ref).kind, str (fewRef o.ref).space, str (fewRef o.ref).name, bln o.good, .pd (.slice (rows APair.pd (fewPairs o.labels))), .own 3 1 (rows cInt ((o.ports.take 9).map id)) 52, str (few o.cls), .nils, .nils, .nils, .nils, .pd (.slice (rows ASide.pd (fewSides o.from_))), .pd (.slice (rows ASide.pd (fewSides o.to_)))])], [], .no⟩) ?_ ?_
  · intro K' hK
    simp only [go_sem, contS_seq, simprocAttr, rows_len]
    refine loopS (fun k st => ∃ i : Nat, k = 9 - i ∧ i ≤ 9 ∧ i ≤ o.ports.length ∧
      st = ⟨[(1, .ptr 1 0), (2, .ptr 2 0), (3, .ptr 3 0), (4, int i)], [(1, [int o.ref.kind, str o.ref.space, str o.ref.name, bln o.good, .pd (.slice (rows APair.pd o.labels)), .pd (.slice (ints o.ports)), str o.cls, .pd (.slice (rows AListener.pd o.listeners)), .pd (.slice (rows AParent.pd o.parents)), .pd (.slice (strs o.hosts)), .pd (.slice (rows ARule.pd o.rules)), .pd (.slice (rows ASide.pd o.from_)), .pd (.slice (rows ASide.pd o.to_))]), (2, [int 0, str ⟨#[]⟩, str ⟨#[]⟩, bln false, .nils, .nils, str ⟨#[]⟩, .nils, .nils, .nils, .nils, .nils, .nils]), (3, [int (fewRef o.ref).kind, str (fewRef o.ref).space, str (fewRef o.ref).name, bln o.good, .pd (.slice (rows APair.pd (fewPairs o.labels))), .own 3 1 (rows cInt ((o.ports.take i).map id)) 52, str (few o.cls), .nils, .nils, .nils, .nils, .pd (.slice (rows ASide.pd (fewSides o.from_))), .pd (.slice (rows ASide.pd (fewSides o.to_)))])], [], .no⟩) 9 _
      ?_ ⟨0, rfl, by omega, by omega, rfl⟩ ?_
    · exact Weak.ownB 3 5 52 3 1 (by kernel_rfl) (by decide) rfl rfl (by simp [lessL, lk, St.purge, D.purge, rows]) (by simp [lessL, lk, St.purge, D.purges, D.purge, rows]) (by simp [lessL]) rfl
    rintro k st ⟨i, rfl, hi6, hi, rfl⟩
    have hw := i64_succ (show i < 1000000000 by omega)
    by_cases hlt : i < o.ports.length ∧ i < 9
    · obtain ⟨x, hx⟩ := at_lt hlt.1
      have h1 : ((i : Int) < (o.ports.length : Int)) = True := eq_true (by omega)
      have h2 : ((i : Int) < 9) = True := eq_true (by omega)
      have hl' : ((o.ports.take i).map id).length ≤ i := by simp; omega
      have e1 : rows cInt ((o.ports.take i).map id) ++ [[PD.raw (Value.int IntKind.i64 x)]] = rows cInt ((o.ports.take (i + 1)).map id) := few_step hx
      simp only [go_sem, contS_seq, simprocAttr, rows_len, rows_get hx, h1, h2]
      simp only [go_sem, contS_seq, simprocAttr, hw, e1]
      refine ⟨by simp, by unfold maxLen; omega, by omega, 9 - (i + 1), _, by omega, ?_, i + 1, rfl, by omega, by omega, rfl⟩
      exact Weak.less (by simp [lessL, lk]) (by simp [lessL, lk]) (by simp [lessL, lk]) rfl
    · have h3 := few_end (g := id) hi6 hi hlt
      rw [h3]
      by_cases h1 : i < o.ports.length
      · have h1' : ((i : Int) < (o.ports.length : Int)) = True := eq_true (by omega)
        have h2 : ((i : Int) < 9) = False := eq_false (by omega)
        simp only [go_sem, contS_seq, simprocAttr, rows_len, h1', h2]
        exact hK _ ⟨i, rfl⟩
      · have h1' : ((i : Int) < (o.ports.length : Int)) = False := eq_false (by omega)
        simp only [go_sem, contS_seq, simprocAttr, rows_len, h1']
        exact hK _ ⟨i, rfl⟩
  rintro s ⟨_, rfl⟩
  refine run_cutJ (fun s => ∃ i : Nat, s = ⟨[(62, bln false), (1, .ptr 1 0), (2, .ptr 2 0), (3, .ptr 3 0), (5, int i), (62, bln false)], [(1, [int o.ref.kind, str o.ref.space, str o.ref.name, bln o.good, .pd (.slice (rows APair.pd o.labels)), .pd (.slice (ints o.ports)), str o.cls, .pd (.slice (rows AListener.pd o.listeners)), .pd (.slice (rows AParent.pd o.parents)), .pd (.slice (strs o.hosts)), .pd (.slice (rows ARule.pd o.rules)), .pd (.slice (rows ASide.pd o.from_)), .pd (.slice (rows ASide.pd o.to_))]), (2, [int 0, str ⟨#[]⟩, str ⟨#[]⟩, bln false, .nils, .nils, str ⟨#[]⟩, .nils, .nils, .nils, .nils, .nils, .nils]), (3, [int (fewRef o.ref).kind, str (fewRef o.ref).space, str (fewRef o.ref).name, bln o.good, .pd (.slice (rows APair.pd (fewPairs o.labels))), .own 3 1 (rows cInt ((o.ports.take 9).map id)) 52, str (few o.cls), .own 82 9 (rows AListener.pd ((o.listeners.take 9).map fewListener)) 92, .nils, .nils, .nils, .pd (.slice (rows ASide.pd (fewSides o.from_))), .pd (.slice (rows ASide.pd (fewSides o.to_)))])], [], .no⟩) ?_ ?_
  · intro K' hK
    simp only [go_sem, contS_seq, simprocAttr, rows_len]
    refine loopS (fun k st => ∃ i : Nat, k = 9 - i ∧ i ≤ 9 ∧ i ≤ o.listeners.length ∧
      st = ⟨[(1, .ptr 1 0), (2, .ptr 2 0), (3, .ptr 3 0), (5, int i)], [(1, [int o.ref.kind, str o.ref.space, str o.ref.name, bln o.good, .pd (.slice (rows APair.pd o.labels)), .pd (.slice (ints o.ports)), str o.cls, .pd (.slice (rows AListener.pd o.listeners)), .pd (.slice (rows AParent.pd o.parents)), .pd (.slice (strs o.hosts)), .pd (.slice (rows ARule.pd o.rules)), .pd (.slice (rows ASide.pd o.from_)), .pd (.slice (rows ASide.pd o.to_))]), (2, [int 0, str ⟨#[]⟩, str ⟨#[]⟩, bln false, .nils, .nils, str ⟨#[]⟩, .nils, .nils, .nils, .nils, .nils, .nils]), (3, [int (fewRef o.ref).kind, str (fewRef o.ref).space, str (fewRef o.ref).name, bln o.good, .pd (.slice (rows APair.pd (fewPairs o.labels))), .own 3 1 (rows cInt ((o.ports.take 9).map id)) 52, str (few o.cls), .own 82 9 (rows AListener.pd ((o.listeners.take i).map fewListener)) 92, .nils, .nils, .nils, .pd (.slice (rows ASide.pd (fewSides o.from_))), .pd (.slice (rows ASide.pd (fewSides o.to_)))])], [], .no⟩) 9 _
      ?_ ⟨0, rfl, by omega, by omega, rfl⟩ ?_
    · exact Weak.ownB 3 7 92 82 9 (by kernel_rfl) (by decide) rfl rfl (by simp [lessL, lk, St.purge, D.purge, rows]) (by simp [lessL, lk, St.purge, D.purges, D.purge, rows]) (by simp [lessL]) rfl
    rintro k st ⟨i, rfl, hi6, hi, rfl⟩
    have hw := i64_succ (show i < 1000000000 by omega)
    by_cases hlt : i < o.listeners.length ∧ i < 9
    · obtain ⟨x, hx⟩ := at_lt hlt.1
      have h1 : ((i : Int) < (o.listeners.length : Int)) = True := eq_true (by omega)
      have h2 : ((i : Int) < 9) = True := eq_true (by omega)
      have hl' : ((o.listeners.take i).map fewListener).length ≤ i := by simp; omega
      have e1 : rows AListener.pd ((o.listeners.take i).map fewListener) ++ [[PD.raw (Value.string (few x.name)), PD.raw (Value.int IntKind.i64 x.port), PD.raw (Value.bool x.tls), PD.raw (Value.string (few x.host)), PD.raw (Value.int IntKind.i64 (fewRef x.cert).kind), PD.raw (Value.string ((fewRef x.cert).space)), PD.raw (Value.string ((fewRef x.cert).name)), PD.raw (Value.int IntKind.i64 x.from_), PD.slice (rows ANeed.pd (fewNeeds x.needs))]] = rows AListener.pd ((o.listeners.take (i + 1)).map fewListener) := few_step hx
      simp only [go_sem, contS_seq, simprocAttr, rows_len, rows_get hx, h1, h2]
      repeat' (first | (refine (law1_Few x.name).callX (enters_of Tryz.func22 rfl rfl) _ rfl rfl ?_; rintro _ rfl; simp only [go_sem, contS_seq, simprocAttr, rows_len, rows_get hx]) | (refine (law1_Few x.host).callX (enters_of Tryz.func22 rfl rfl) _ rfl rfl ?_; rintro _ rfl; simp only [go_sem, contS_seq, simprocAttr, rows_len, rows_get hx]) | (refine (law9_FewRef x.cert).callX (enters_of Tryz.func21 rfl rfl) _ rfl rfl ?_; rintro _ rfl; simp only [go_sem, contS_seq, simprocAttr, rows_len, rows_get hx]) | (refine (law8_Few x.needs).callX (enters_of Tryz.func57 rfl rfl) _ rfl rfl ?_; rintro _ rfl; simp only [go_sem, contS_seq, simprocAttr, rows_len, rows_get hx]))
      simp only [go_sem, contS_seq, simprocAttr, hw, e1]
      refine ⟨by simp, by unfold maxLen; omega, by omega, 9 - (i + 1), _, by omega, ?_, i + 1, rfl, by omega, by omega, rfl⟩
      exact Weak.less (by simp [lessL, lk]) (by simp [lessL, lk]) (by simp [lessL, lk]) rfl
    · have h3 := few_end (g := fewListener) hi6 hi hlt
      rw [h3]
      by_cases h1 : i < o.listeners.length
      · have h1' : ((i : Int) < (o.listeners.length : Int)) = True := eq_true (by omega)
        have h2 : ((i : Int) < 9) = False := eq_false (by omega)
        simp only [go_sem, contS_seq, simprocAttr, rows_len, h1', h2]
        exact hK _ ⟨i, rfl⟩
      · have h1' : ((i : Int) < (o.listeners.length : Int)) = False := eq_false (by omega)
        simp only [go_sem, contS_seq, simprocAttr, rows_len, h1']
        exact hK _ ⟨i, rfl⟩
  rintro s ⟨_, rfl⟩
  refine run_cutJ (fun s => ∃ i : Nat, s = ⟨[(102, bln false), (1, .ptr 1 0), (2, .ptr 2 0), (3, .ptr 3 0), (7, int i), (102, bln false)], [(1, [int o.ref.kind, str o.ref.space, str o.ref.name, bln o.good, .pd (.slice (rows APair.pd o.labels)), .pd (.slice (ints o.ports)), str o.cls, .pd (.slice (rows AListener.pd o.listeners)), .pd (.slice (rows AParent.pd o.parents)), .pd (.slice (strs o.hosts)), .pd (.slice (rows ARule.pd o.rules)), .pd (.slice (rows ASide.pd o.from_)), .pd (.slice (rows ASide.pd o.to_))]), (2, [int 0, str ⟨#[]⟩, str ⟨#[]⟩, bln false, .nils, .nils, str ⟨#[]⟩, .nils, .nils, .nils, .nils, .nils, .nils]), (3, [int (fewRef o.ref).kind, str (fewRef o.ref).space, str (fewRef o.ref).name, bln o.good, .pd (.slice (rows APair.pd (fewPairs o.labels))), .own 3 1 (rows cInt ((o.ports.take 9).map id)) 52, str (few o.cls), .own 82 9 (rows AListener.pd ((o.listeners.take 9).map fewListener)) 92, .own 96 4 (rows AParent.pd ((o.parents.take 5).map fewParent)) 125, .nils, .nils, .pd (.slice (rows ASide.pd (fewSides o.from_))), .pd (.slice (rows ASide.pd (fewSides o.to_)))])], [], .no⟩) ?_ ?_
  · intro K' hK
    simp only [go_sem, contS_seq, simprocAttr, rows_len]
    refine loopS (fun k st => ∃ i : Nat, k = 5 - i ∧ i ≤ 5 ∧ i ≤ o.parents.length ∧
      st = ⟨[(1, .ptr 1 0), (2, .ptr 2 0), (3, .ptr 3 0), (7, int i)], [(1, [int o.ref.kind, str o.ref.space, str o.ref.name, bln o.good, .pd (.slice (rows APair.pd o.labels)), .pd (.slice (ints o.ports)), str o.cls, .pd (.slice (rows AListener.pd o.listeners)), .pd (.slice (rows AParent.pd o.parents)), .pd (.slice (strs o.hosts)), .pd (.slice (rows ARule.pd o.rules)), .pd (.slice (rows ASide.pd o.from_)), .pd (.slice (rows ASide.pd o.to_))]), (2, [int 0, str ⟨#[]⟩, str ⟨#[]⟩, bln false, .nils, .nils, str ⟨#[]⟩, .nils, .nils, .nils, .nils, .nils, .nils]), (3, [int (fewRef o.ref).kind, str (fewRef o.ref).space, str (fewRef o.ref).name, bln o.good, .pd (.slice (rows APair.pd (fewPairs o.labels))), .own 3 1 (rows cInt ((o.ports.take 9).map id)) 52, str (few o.cls), .own 82 9 (rows AListener.pd ((o.listeners.take 9).map fewListener)) 92, .own 96 4 (rows AParent.pd ((o.parents.take i).map fewParent)) 125, .nils, .nils, .pd (.slice (rows ASide.pd (fewSides o.from_))), .pd (.slice (rows ASide.pd (fewSides o.to_)))])], [], .no⟩) 5 _
      ?_ ⟨0, rfl, by omega, by omega, rfl⟩ ?_
    · exact Weak.ownB 3 8 125 96 4 (by kernel_rfl) (by decide) rfl rfl (by simp [lessL, lk, St.purge, D.purge, rows]) (by simp [lessL, lk, St.purge, D.purges, D.purge, rows]) (by simp [lessL]) rfl
    rintro k st ⟨i, rfl, hi6, hi, rfl⟩
    have hw := i64_succ (show i < 1000000000 by omega)
    by_cases hlt : i < o.parents.length ∧ i < 5
    · obtain ⟨x, hx⟩ := at_lt hlt.1
      have h1 : ((i : Int) < (o.parents.length : Int)) = True := eq_true (by omega)
      have h2 : ((i : Int) < 5) = True := eq_true (by omega)
      have hl' : ((o.parents.take i).map fewParent).length ≤ i := by simp; omega
      have e1 : rows AParent.pd ((o.parents.take i).map fewParent) ++ [[PD.raw (Value.string (few x.space)), PD.raw (Value.string (few x.name)), PD.raw (Value.string (few x.section_)), PD.raw (Value.int IntKind.i64 x.port)]] = rows AParent.pd ((o.parents.take (i + 1)).map fewParent) := few_step hx
      simp only [go_sem, contS_seq, simprocAttr, rows_len, rows_get hx, h1, h2]
      repeat' (first | (refine (law1_Few x.space).callX (enters_of Tryz.func22 rfl rfl) _ rfl rfl ?_; rintro _ rfl; simp only [go_sem, contS_seq, simprocAttr, rows_len, rows_get hx]) | (refine (law1_Few x.name).callX (enters_of Tryz.func22 rfl rfl) _ rfl rfl ?_; rintro _ rfl; simp only [go_sem, contS_seq, simprocAttr, rows_len, rows_get hx]) | (refine (law1_Few x.section_).callX (enters_of Tryz.func22 rfl rfl) _ rfl rfl ?_; rintro _ rfl; simp only [go_sem, contS_seq, simprocAttr, rows_len, rows_get hx]))
      simp only [go_sem, contS_seq, simprocAttr, hw, e1]
      refine ⟨by simp, by unfold maxLen; omega, by omega, 5 - (i + 1), _, by omega, ?_, i + 1, rfl, by omega, by omega, rfl⟩
      exact Weak.less (by simp [lessL, lk]) (by simp [lessL, lk]) (by simp [lessL, lk]) rfl
    · have h3 := few_end (g := fewParent) hi6 hi hlt
      rw [h3]
      by_cases h1 : i < o.parents.length
      · have h1' : ((i : Int) < (o.parents.length : Int)) = True := eq_true (by omega)
        have h2 : ((i : Int) < 5) = False := eq_false (by omega)
        simp only [go_sem, contS_seq, simprocAttr, rows_len, h1', h2]
        exact hK _ ⟨i, rfl⟩
      · have h1' : ((i : Int) < (o.parents.length : Int)) = False := eq_false (by omega)
        simp only [go_sem, contS_seq, simprocAttr, rows_len, h1']
        exact hK _ ⟨i, rfl⟩
  rintro s ⟨_, rfl⟩
  refine run_cutJ (fun s => ∃ i : Nat, s = ⟨[(135, bln false), (1, .ptr 1 0), (2, .ptr 2 0), (3, .ptr 3 0), (9, int i), (135, bln false)], [(1, [int o.ref.kind, str o.ref.space, str o.ref.name, bln o.good, .pd (.slice (rows APair.pd o.labels)), .pd (.slice (ints o.ports)), str o.cls, .pd (.slice (rows AListener.pd o.listeners)), .pd (.slice (rows AParent.pd o.parents)), .pd (.slice (strs o.hosts)), .pd (.slice (rows ARule.pd o.rules)), .pd (.slice (rows ASide.pd o.from_)), .pd (.slice (rows ASide.pd o.to_))]), (2, [int 0, str ⟨#[]⟩, str ⟨#[]⟩, bln false, .nils, .nils, str ⟨#[]⟩, .nils, .nils, .nils, .nils, .nils, .nils]), (3, [int (fewRef o.ref).kind, str (fewRef o.ref).space, str (fewRef o.ref).name, bln o.good, .pd (.slice (rows APair.pd (fewPairs o.labels))), .own 3 1 (rows cInt ((o.ports.take 9).map id)) 52, str (few o.cls), .own 82 9 (rows AListener.pd ((o.listeners.take 9).map fewListener)) 92, .own 96 4 (rows AParent.pd ((o.parents.take 5).map fewParent)) 125, .own 9 1 (rows cStr ((o.hosts.take 5).map few)) 147, .nils, .pd (.slice (rows ASide.pd (fewSides o.from_))), .pd (.slice (rows ASide.pd (fewSides o.to_)))])], [], .no⟩) ?_ ?_
  · intro K' hK
    simp only [go_sem, contS_seq, simprocAttr, rows_len]
    refine loopS (fun k st => ∃ i : Nat, k = 5 - i ∧ i ≤ 5 ∧ i ≤ o.hosts.length ∧
      st = ⟨[(1, .ptr 1 0), (2, .ptr 2 0), (3, .ptr 3 0), (9, int i)], [(1, [int o.ref.kind, str o.ref.space, str o.ref.name, bln o.good, .pd (.slice (rows APair.pd o.labels)), .pd (.slice (ints o.ports)), str o.cls, .pd (.slice (rows AListener.pd o.listeners)), .pd (.slice (rows AParent.pd o.parents)), .pd (.slice (strs o.hosts)), .pd (.slice (rows ARule.pd o.rules)), .pd (.slice (rows ASide.pd o.from_)), .pd (.slice (rows ASide.pd o.to_))]), (2, [int 0, str ⟨#[]⟩, str ⟨#[]⟩, bln false, .nils, .nils, str ⟨#[]⟩, .nils, .nils, .nils, .nils, .nils, .nils]), (3, [int (fewRef o.ref).kind, str (fewRef o.ref).space, str (fewRef o.ref).name, bln o.good, .pd (.slice (rows APair.pd (fewPairs o.labels))), .own 3 1 (rows cInt ((o.ports.take 9).map id)) 52, str (few o.cls), .own 82 9 (rows AListener.pd ((o.listeners.take 9).map fewListener)) 92, .own 96 4 (rows AParent.pd ((o.parents.take 5).map fewParent)) 125, .own 9 1 (rows cStr ((o.hosts.take i).map few)) 147, .nils, .pd (.slice (rows ASide.pd (fewSides o.from_))), .pd (.slice (rows ASide.pd (fewSides o.to_)))])], [], .no⟩) 5 _
      ?_ ⟨0, rfl, by omega, by omega, rfl⟩ ?_
    · exact Weak.ownB 3 9 147 9 1 (by kernel_rfl) (by decide) rfl rfl (by simp [lessL, lk, St.purge, D.purge, rows]) (by simp [lessL, lk, St.purge, D.purges, D.purge, rows]) (by simp [lessL]) rfl
    rintro k st ⟨i, rfl, hi6, hi, rfl⟩
    have hw := i64_succ (show i < 1000000000 by omega)
    by_cases hlt : i < o.hosts.length ∧ i < 5
    · obtain ⟨x, hx⟩ := at_lt hlt.1
      have h1 : ((i : Int) < (o.hosts.length : Int)) = True := eq_true (by omega)
      have h2 : ((i : Int) < 5) = True := eq_true (by omega)
      have hl' : ((o.hosts.take i).map few).length ≤ i := by simp; omega
      have e1 : rows cStr ((o.hosts.take i).map few) ++ [[PD.raw (Value.string (few x))]] = rows cStr ((o.hosts.take (i + 1)).map few) := few_step hx
      simp only [go_sem, contS_seq, simprocAttr, rows_len, rows_get hx, h1, h2]
      repeat' (first | (refine (law1_Few x).callX (enters_of Tryz.func22 rfl rfl) _ rfl rfl ?_; rintro _ rfl; simp only [go_sem, contS_seq, simprocAttr, rows_len, rows_get hx]))
      simp only [go_sem, contS_seq, simprocAttr, hw, e1]
      refine ⟨by simp, by unfold maxLen; omega, by omega, 5 - (i + 1), _, by omega, ?_, i + 1, rfl, by omega, by omega, rfl⟩
      exact Weak.less (by simp [lessL, lk]) (by simp [lessL, lk]) (by simp [lessL, lk]) rfl
    · have h3 := few_end (g := few) hi6 hi hlt
      rw [h3]
      by_cases h1 : i < o.hosts.length
      · have h1' : ((i : Int) < (o.hosts.length : Int)) = True := eq_true (by omega)
        have h2 : ((i : Int) < 5) = False := eq_false (by omega)
        simp only [go_sem, contS_seq, simprocAttr, rows_len, h1', h2]
        exact hK _ ⟨i, rfl⟩
      · have h1' : ((i : Int) < (o.hosts.length : Int)) = False := eq_false (by omega)
        simp only [go_sem, contS_seq, simprocAttr, rows_len, h1']
        exact hK _ ⟨i, rfl⟩
  rintro s ⟨_, rfl⟩
  refine run_cutJ (fun s => ∃ i : Nat, s = ⟨[(157, bln false), (1, .ptr 1 0), (2, .ptr 2 0), (3, .ptr 3 0), (10, int i), (157, bln false)], [(1, [int o.ref.kind, str o.ref.space, str o.ref.name, bln o.good, .pd (.slice (rows APair.pd o.labels)), .pd (.slice (ints o.ports)), str o.cls, .pd (.slice (rows AListener.pd o.listeners)), .pd (.slice (rows AParent.pd o.parents)), .pd (.slice (strs o.hosts)), .pd (.slice (rows ARule.pd o.rules)), .pd (.slice (rows ASide.pd o.from_)), .pd (.slice (rows ASide.pd o.to_))]), (2, [int 0, str ⟨#[]⟩, str ⟨#[]⟩, bln false, .nils, .nils, str ⟨#[]⟩, .nils, .nils, .nils, .nils, .nils, .nils]), (3, [int (fewRef o.ref).kind, str (fewRef o.ref).space, str (fewRef o.ref).name, bln o.good, .pd (.slice (rows APair.pd (fewPairs o.labels))), .own 3 1 (rows cInt ((o.ports.take 9).map id)) 52, str (few o.cls), .own 82 9 (rows AListener.pd ((o.listeners.take 9).map fewListener)) 92, .own 96 4 (rows AParent.pd ((o.parents.take 5).map fewParent)) 125, .own 9 1 (rows cStr ((o.hosts.take 5).map few)) 147, .own 72 3 (rows ARule.pd ((o.rules.take 7).map fewRule)) 239, .pd (.slice (rows ASide.pd (fewSides o.from_))), .pd (.slice (rows ASide.pd (fewSides o.to_)))])], [], .no⟩) ?_ ?_
  · intro K' hK
    simp only [go_sem, contS_seq, simprocAttr, rows_len]
    refine loopS (fun k st => ∃ i : Nat, k = 7 - i ∧ i ≤ 7 ∧ i ≤ o.rules.length ∧
      st = ⟨[(1, .ptr 1 0), (2, .ptr 2 0), (3, .ptr 3 0), (10, int i)], [(1, [int o.ref.kind, str o.ref.space, str o.ref.name, bln o.good, .pd (.slice (rows APair.pd o.labels)), .pd (.slice (ints o.ports)), str o.cls, .pd (.slice (rows AListener.pd o.listeners)), .pd (.slice (rows AParent.pd o.parents)), .pd (.slice (strs o.hosts)), .pd (.slice (rows ARule.pd o.rules)), .pd (.slice (rows ASide.pd o.from_)), .pd (.slice (rows ASide.pd o.to_))]), (2, [int 0, str ⟨#[]⟩, str ⟨#[]⟩, bln false, .nils, .nils, str ⟨#[]⟩, .nils, .nils, .nils, .nils, .nils, .nils]), (3, [int (fewRef o.ref).kind, str (fewRef o.ref).space, str (fewRef o.ref).name, bln o.good, .pd (.slice (rows APair.pd (fewPairs o.labels))), .own 3 1 (rows cInt ((o.ports.take 9).map id)) 52, str (few o.cls), .own 82 9 (rows AListener.pd ((o.listeners.take 9).map fewListener)) 92, .own 96 4 (rows AParent.pd ((o.parents.take 5).map fewParent)) 125, .own 9 1 (rows cStr ((o.hosts.take 5).map few)) 147, .own 72 3 (rows ARule.pd ((o.rules.take i).map fewRule)) 239, .pd (.slice (rows ASide.pd (fewSides o.from_))), .pd (.slice (rows ASide.pd (fewSides o.to_)))])], [], .no⟩) 7 _
      ?_ ⟨0, rfl, by omega, by omega, rfl⟩ ?_
    · exact Weak.ownB 3 10 239 72 3 (by kernel_rfl) (by decide) rfl rfl (by simp [lessL, lk, St.purge, D.purge, rows]) (by simp [lessL, lk, St.purge, D.purges, D.purge, rows]) (by simp [lessL]) rfl
    rintro k st ⟨i, rfl, hi6, hi, rfl⟩
    have hw := i64_succ (show i < 1000000000 by omega)
    by_cases hlt : i < o.rules.length ∧ i < 7
    · obtain ⟨x, hx⟩ := at_lt hlt.1
      have h1 : ((i : Int) < (o.rules.length : Int)) = True := eq_true (by omega)
      have h2 : ((i : Int) < 7) = True := eq_true (by omega)
      have hl' : ((o.rules.take i).map fewRule).length ≤ i := by simp; omega
      have e1 : rows ARule.pd ((o.rules.take i).map fewRule) ++ [[PD.slice (rows AMatch.pd ((x.matches_.take 5).map fewMatch)), PD.slice (rows AFilter.pd (fewFilters x.filters)), PD.slice (rows ABackend.pd ((x.backends.take 5).map fewBackend))]] = rows ARule.pd ((o.rules.take (i + 1)).map fewRule) := few_step hx
      apply run_cut
      · intro K' hK
        simp only [go_sem, contS_seq, simprocAttr, rows_len, h1, h2]
        exact hK
      apply run_cut
      · intro K' hK
        rw [run_block]
        apply run_cut
        · intro K' hK
          simp only [go_sem, contS_seq, simprocAttr, rows_len, rows_get hx]
          refine (law7_Few x.filters).callW (enters_of Tryz.func58 rfl rfl) _ rfl rfl ?_
          rintro _ rfl
          simp only [go_sem, contS_seq, simprocAttr]
          exact hK
        refine run_cutJ (fun s => ∃ j : Nat, s = ⟨[(180, bln false), (1, .ptr 1 0), (2, .ptr 2 0), (3, .ptr 3 0), (10, int i), (11, .ptr 11 0), (12, int j), (180, bln false)], [(1, [int o.ref.kind, str o.ref.space, str o.ref.name, bln o.good, .pd (.slice (rows APair.pd o.labels)), .pd (.slice (ints o.ports)), str o.cls, .pd (.slice (rows AListener.pd o.listeners)), .pd (.slice (rows AParent.pd o.parents)), .pd (.slice (strs o.hosts)), .pd (.slice (rows ARule.pd o.rules)), .pd (.slice (rows ASide.pd o.from_)), .pd (.slice (rows ASide.pd o.to_))]), (2, [int 0, str ⟨#[]⟩, str ⟨#[]⟩, bln false, .nils, .nils, str ⟨#[]⟩, .nils, .nils, .nils, .nils, .nils, .nils]), (3, [int (fewRef o.ref).kind, str (fewRef o.ref).space, str (fewRef o.ref).name, bln o.good, .pd (.slice (rows APair.pd (fewPairs o.labels))), .own 3 1 (rows cInt ((o.ports.take 9).map id)) 52, str (few o.cls), .own 82 9 (rows AListener.pd ((o.listeners.take 9).map fewListener)) 92, .own 96 4 (rows AParent.pd ((o.parents.take 5).map fewParent)) 125, .own 9 1 (rows cStr ((o.hosts.take 5).map few)) 147, .own 72 3 (rows ARule.pd ((o.rules.take i).map fewRule)) 239, .pd (.slice (rows ASide.pd (fewSides o.from_))), .pd (.slice (rows ASide.pd (fewSides o.to_)))]), (11, [.own 101 5 (rows AMatch.pd ((x.matches_.take 5).map fewMatch)) 196, .pd (.slice (rows AFilter.pd (fewFilters x.filters))), .nils])], [], .no⟩) ?_ ?_
        · intro K' hK
          simp only [go_sem, contS_seq, simprocAttr, rows_len, rows_get hx]
          refine loopS (fun k st => ∃ j : Nat, k = 5 - j ∧ j ≤ 5 ∧ j ≤ x.matches_.length ∧
            st = ⟨[(1, .ptr 1 0), (2, .ptr 2 0), (3, .ptr 3 0), (10, int i), (11, .ptr 11 0), (12, int j)], [(1, [int o.ref.kind, str o.ref.space, str o.ref.name, bln o.good, .pd (.slice (rows APair.pd o.labels)), .pd (.slice (ints o.ports)), str o.cls, .pd (.slice (rows AListener.pd o.listeners)), .pd (.slice (rows AParent.pd o.parents)), .pd (.slice (strs o.hosts)), .pd (.slice (rows ARule.pd o.rules)), .pd (.slice (rows ASide.pd o.from_)), .pd (.slice (rows ASide.pd o.to_))]), (2, [int 0, str ⟨#[]⟩, str ⟨#[]⟩, bln false, .nils, .nils, str ⟨#[]⟩, .nils, .nils, .nils, .nils, .nils, .nils]), (3, [int (fewRef o.ref).kind, str (fewRef o.ref).space, str (fewRef o.ref).name, bln o.good, .pd (.slice (rows APair.pd (fewPairs o.labels))), .own 3 1 (rows cInt ((o.ports.take 9).map id)) 52, str (few o.cls), .own 82 9 (rows AListener.pd ((o.listeners.take 9).map fewListener)) 92, .own 96 4 (rows AParent.pd ((o.parents.take 5).map fewParent)) 125, .own 9 1 (rows cStr ((o.hosts.take 5).map few)) 147, .own 72 3 (rows ARule.pd ((o.rules.take i).map fewRule)) 239, .pd (.slice (rows ASide.pd (fewSides o.from_))), .pd (.slice (rows ASide.pd (fewSides o.to_)))]), (11, [.own 101 5 (rows AMatch.pd ((x.matches_.take j).map fewMatch)) 196, .pd (.slice (rows AFilter.pd (fewFilters x.filters))), .nils])], [], .no⟩) 5 _
            ?_ ⟨0, rfl, by omega, by omega, rfl⟩ ?_
          · exact Weak.ownB 11 0 196 101 5 (by kernel_rfl) (by decide) rfl rfl (by simp [lessL, lk, St.purge, D.purge, rows]) (by simp [lessL, lk, St.purge, D.purges, D.purge, rows]) (by simp [lessL]) rfl
          rintro k st ⟨j, rfl, hj6, hj, rfl⟩
          have hwj := i64_succ (show j < 1000000000 by omega)
          by_cases hltj : j < x.matches_.length ∧ j < 5
          · obtain ⟨y, hy⟩ := at_lt hltj.1
            have h1' : ((j : Int) < (x.matches_.length : Int)) = True := eq_true (by omega)
            have h2' : ((j : Int) < 5) = True := eq_true (by omega)
            have hlj : ((x.matches_.take j).map fewMatch).length ≤ j := by simp; omega
            have e2 : rows AMatch.pd ((x.matches_.take j).map fewMatch) ++ [[PD.raw (Value.int IntKind.i64 (fewMatch y).pkind), PD.raw (Value.string (fewMatch y).pval), PD.raw (Value.string (fewMatch y).method), PD.slice (rows APair.pd (fewMatch y).head), PD.slice (rows APair.pd (fewMatch y).query)]] = rows AMatch.pd ((x.matches_.take (j + 1)).map fewMatch) := few_step hy
            simp only [go_sem, contS_seq, simprocAttr, rows_len, rows_get hx, rows_get hy, h1', h2']
            repeat' (first | (refine (law6_Few y).callX (enters_of Tryz.func59 rfl rfl) _ rfl rfl ?_; rintro _ rfl; simp only [go_sem, contS_seq, simprocAttr, rows_len, rows_get hx, rows_get hy]))
            simp only [go_sem, contS_seq, simprocAttr, hwj, e2]
            refine ⟨by simp, by unfold maxLen; omega, by omega, 5 - (j + 1), _, by omega, ?_, j + 1, rfl, by omega, by omega, rfl⟩
            exact Weak.less (by simp [lessL, lk]) (by simp [lessL, lk]) (by simp [lessL, lk]) rfl
          · have h3 := few_end (g := fewMatch) hj6 hj hltj
            rw [h3]
            by_cases h1 : j < x.matches_.length
            · have h1' : ((j : Int) < (x.matches_.length : Int)) = True := eq_true (by omega)
              have h2 : ((j : Int) < 5) = False := eq_false (by omega)
              simp only [go_sem, contS_seq, simprocAttr, rows_len, rows_get hx, h1', h2]
              exact hK _ ⟨j, rfl⟩
            · have h1' : ((j : Int) < (x.matches_.length : Int)) = False := eq_false (by omega)
              simp only [go_sem, contS_seq, simprocAttr, rows_len, rows_get hx, h1']
              exact hK _ ⟨j, rfl⟩
        rintro s ⟨_, rfl⟩
        refine run_cutJ (fun s => ∃ j : Nat, s = ⟨[(210, bln false), (1, .ptr 1 0), (2, .ptr 2 0), (3, .ptr 3 0), (10, int i), (11, .ptr 11 0), (13, int j), (210, bln false)], [(1, [int o.ref.kind, str o.ref.space, str o.ref.name, bln o.good, .pd (.slice (rows APair.pd o.labels)), .pd (.slice (ints o.ports)), str o.cls, .pd (.slice (rows AListener.pd o.listeners)), .pd (.slice (rows AParent.pd o.parents)), .pd (.slice (strs o.hosts)), .pd (.slice (rows ARule.pd o.rules)), .pd (.slice (rows ASide.pd o.from_)), .pd (.slice (rows ASide.pd o.to_))]), (2, [int 0, str ⟨#[]⟩, str ⟨#[]⟩, bln false, .nils, .nils, str ⟨#[]⟩, .nils, .nils, .nils, .nils, .nils, .nils]), (3, [int (fewRef o.ref).kind, str (fewRef o.ref).space, str (fewRef o.ref).name, bln o.good, .pd (.slice (rows APair.pd (fewPairs o.labels))), .own 3 1 (rows cInt ((o.ports.take 9).map id)) 52, str (few o.cls), .own 82 9 (rows AListener.pd ((o.listeners.take 9).map fewListener)) 92, .own 96 4 (rows AParent.pd ((o.parents.take 5).map fewParent)) 125, .own 9 1 (rows cStr ((o.hosts.take 5).map few)) 147, .own 72 3 (rows ARule.pd ((o.rules.take i).map fewRule)) 239, .pd (.slice (rows ASide.pd (fewSides o.from_))), .pd (.slice (rows ASide.pd (fewSides o.to_)))]), (11, [.own 101 5 (rows AMatch.pd ((x.matches_.take 5).map fewMatch)) 196, .pd (.slice (rows AFilter.pd (fewFilters x.filters))), .own 74 5 (rows ABackend.pd ((x.backends.take 5).map fewBackend)) 233])], [], .no⟩) ?_ ?_
        · intro K' hK
          simp only [go_sem, contS_seq, simprocAttr, rows_len, rows_get hx]
          refine loopS (fun k st => ∃ j : Nat, k = 5 - j ∧ j ≤ 5 ∧ j ≤ x.backends.length ∧
            st = ⟨[(1, .ptr 1 0), (2, .ptr 2 0), (3, .ptr 3 0), (10, int i), (11, .ptr 11 0), (13, int j)], [(1, [int o.ref.kind, str o.ref.space, str o.ref.name, bln o.good, .pd (.slice (rows APair.pd o.labels)), .pd (.slice (ints o.ports)), str o.cls, .pd (.slice (rows AListener.pd o.listeners)), .pd (.slice (rows AParent.pd o.parents)), .pd (.slice (strs o.hosts)), .pd (.slice (rows ARule.pd o.rules)), .pd (.slice (rows ASide.pd o.from_)), .pd (.slice (rows ASide.pd o.to_))]), (2, [int 0, str ⟨#[]⟩, str ⟨#[]⟩, bln false, .nils, .nils, str ⟨#[]⟩, .nils, .nils, .nils, .nils, .nils, .nils]), (3, [int (fewRef o.ref).kind, str (fewRef o.ref).space, str (fewRef o.ref).name, bln o.good, .pd (.slice (rows APair.pd (fewPairs o.labels))), .own 3 1 (rows cInt ((o.ports.take 9).map id)) 52, str (few o.cls), .own 82 9 (rows AListener.pd ((o.listeners.take 9).map fewListener)) 92, .own 96 4 (rows AParent.pd ((o.parents.take 5).map fewParent)) 125, .own 9 1 (rows cStr ((o.hosts.take 5).map few)) 147, .own 72 3 (rows ARule.pd ((o.rules.take i).map fewRule)) 239, .pd (.slice (rows ASide.pd (fewSides o.from_))), .pd (.slice (rows ASide.pd (fewSides o.to_)))]), (11, [.own 101 5 (rows AMatch.pd ((x.matches_.take 5).map fewMatch)) 196, .pd (.slice (rows AFilter.pd (fewFilters x.filters))), .own 74 5 (rows ABackend.pd ((x.backends.take j).map fewBackend)) 233])], [], .no⟩) 5 _
            ?_ ⟨0, rfl, by omega, by omega, rfl⟩ ?_
          · exact Weak.ownB 11 2 233 74 5 (by kernel_rfl) (by decide) rfl rfl (by simp [lessL, lk, St.purge, D.purge, rows]) (by simp [lessL, lk, St.purge, D.purges, D.purge, rows]) (by simp [lessL]) rfl
          rintro k st ⟨j, rfl, hj6, hj, rfl⟩
          have hwj := i64_succ (show j < 1000000000 by omega)
          by_cases hltj : j < x.backends.length ∧ j < 5
          · obtain ⟨y, hy⟩ := at_lt hltj.1
            have h1' : ((j : Int) < (x.backends.length : Int)) = True := eq_true (by omega)
            have h2' : ((j : Int) < 5) = True := eq_true (by omega)
            have hlj : ((x.backends.take j).map fewBackend).length ≤ j := by simp; omega
            have e2 : rows ABackend.pd ((x.backends.take j).map fewBackend) ++ [[PD.raw (Value.int IntKind.i64 (fewRef y.ref).kind), PD.raw (Value.string (fewRef y.ref).space), PD.raw (Value.string (fewRef y.ref).name), PD.raw (Value.int IntKind.i64 y.port), PD.raw (Value.int IntKind.i64 y.weight)]] = rows ABackend.pd ((x.backends.take (j + 1)).map fewBackend) := few_step hy
            simp only [go_sem, contS_seq, simprocAttr, rows_len, rows_get hx, rows_get hy, h1', h2']
            repeat' (first | (refine (law9_FewRef y.ref).callX (enters_of Tryz.func21 rfl rfl) _ rfl rfl ?_; rintro _ rfl; simp only [go_sem, contS_seq, simprocAttr, rows_len, rows_get hx, rows_get hy]))
            simp only [go_sem, contS_seq, simprocAttr, hwj, e2]
            refine ⟨by simp, by unfold maxLen; omega, by omega, 5 - (j + 1), _, by omega, ?_, j + 1, rfl, by omega, by omega, rfl⟩
            exact Weak.less (by simp [lessL, lk]) (by simp [lessL, lk]) (by simp [lessL, lk]) rfl
          · have h3 := few_end (g := fewBackend) hj6 hj hltj
            rw [h3]
            by_cases h1 : j < x.backends.length
            · have h1' : ((j : Int) < (x.backends.length : Int)) = True := eq_true (by omega)
              have h2 : ((j : Int) < 5) = False := eq_false (by omega)
              simp only [go_sem, contS_seq, simprocAttr, rows_len, rows_get hx, h1', h2]
              exact hK _ ⟨j, rfl⟩
            · have h1' : ((j : Int) < (x.backends.length : Int)) = False := eq_false (by omega)
              simp only [go_sem, contS_seq, simprocAttr, rows_len, rows_get hx, h1']
              exact hK _ ⟨j, rfl⟩
        rintro s ⟨_, rfl⟩
        simp only [go_sem, contS_seq, simprocAttr, rows_len, e1]
        refine ⟨by simp, by unfold maxLen; omega, by omega, ?_⟩
        exact hK
      simp only [go_sem, contS_seq, simprocAttr, hw]
      refine ⟨7 - (i + 1), _, by omega, ?_, i + 1, rfl, by omega, by omega, rfl⟩
      exact Weak.less (by simp [lessL, lk]) (by simp [lessL, lk]) (by simp [lessL, lk]) rfl
    · have h3 := few_end (g := fewRule) hi6 hi hlt
      rw [h3]
      by_cases h1 : i < o.rules.length
      · have h1' : ((i : Int) < (o.rules.length : Int)) = True := eq_true (by omega)
        have h2 : ((i : Int) < 7) = False := eq_false (by omega)
        simp only [go_sem, contS_seq, simprocAttr, rows_len, h1', h2]
        exact hK _ ⟨i, rfl⟩
      · have h1' : ((i : Int) < (o.rules.length : Int)) = False := eq_false (by omega)
        simp only [go_sem, contS_seq, simprocAttr, rows_len, h1']
        exact hK _ ⟨i, rfl⟩
  rintro s ⟨_, rfl⟩
  simp only [go_sem, contS_seq, simprocAttr]
  simp only [retK, fullK, iterK, resD, resA, AOp.ex, St.ev, Option.map_some, Option.bind_some, St.get, lk, reduceIte, Nat.reduceEqDiff, Option.getD_some, oneD, List.getElem?_cons_zero, List.getElem?_cons_succ, List.drop_zero, List.drop_succ_cons, List.take_succ_cons, List.take_zero, List.length_cons, List.length_nil, Nat.zero_add, Nat.reduceAdd, Nat.le_refl, Nat.reduceLeDiff, D.pub, D.pubs, ret_z8s55, List.map_id]
  exact ⟨_, rfl, rfl, rfl⟩


def near (r : ARef) (s : ByteArray) : ARef := if r.space = ⟨#[]⟩ ∧ r.kind ≠ 1 ∧ r.kind ≠ 2 then { r with space := s } else r

set_option maxRecDepth 100000 in
theorem grant_Near (r : ARef) (s : ByteArray) : Pure Tryz.prog 27 [r.d, str s] (fun d => d = (near r s).d) := by
  refine pure_of_run follows an_zrkgf Tryz.func27 rfl ok_zrkgf dst_zrkgf (by simp [Tryz.ntmps27]) ?_
  rw [run_start]
  simp only [ac_zrkgf, go_sem, contS_seq, simprocAttr]
  simp only [retK, fullK, iterK, resD, resA, AOp.ex, St.ev, Option.map_some, Option.bind_some, St.get, lk, reduceIte, Nat.reduceEqDiff, Option.getD_some, oneD, List.getElem?_cons_zero, List.getElem?_cons_succ, List.drop_zero, List.drop_succ_cons, List.take_succ_cons, List.take_zero, List.length_cons, List.length_nil, Nat.zero_add, Nat.reduceAdd, Nat.le_refl, Nat.reduceLeDiff, D.pub, D.pubs, ret_zrkgf]
  refine ⟨fun h1 => ⟨fun h2 => ?_, fun h2 => ⟨fun h3 => ?_, fun h3 => ?_⟩⟩, fun h1 => ?_⟩
  · exact ⟨_, rfl, rfl, by simp [near, h1, h2, oneD, D.pub, D.pubs]⟩
  · exact ⟨_, rfl, rfl, by simp [near, h1, h3, oneD, D.pub, D.pubs]⟩
  · exact ⟨_, rfl, rfl, by simp [near, h1, h2, h3, oneD, D.pub, D.pubs]⟩
  · exact ⟨_, rfl, rfl, by simp [near, h1, oneD, D.pub, D.pubs]⟩

abbrev refVal (r : ARef) : Value := .agg #[.int .i64 r.kind, .string r.space, .string r.name]

theorem by_iter (p : AObj → Bool) (os : List AObj) (kind : Int) (space : ByteArray) (to_ : ARef) (hos : os.length ≤ 1000000)
    (hp : ∀ o ∈ os, Pure Tryz.prog 18 [o.d, int kind, str space, to_.d] (fun d => d = bln (p o))) :
    IterB Tryz.prog 83 [(500001, 0), (500002, 0), (500003, 0), (500004, 0)]
      [(500001, [.pd (.slice (rows AObj.pd os))]), (500002, [int kind]), (500003, [str space]), (500004, [int to_.kind, str to_.space, str to_.name])] ((os.filter p).map fun o => refVal o.ref) := by
  refine iter_of_run follows an_zvbe Tryz.func83 rfl ok_zvbe dst_zvbe (by simp [Tryz.ntmps83]) rfl ?_
  intro l
  rw [run_start]
  simp only [ac_zvbe, go_sem, contS_seq, simprocAttr, rows_len]
  have hb := hos
  refine loopS (fun k st => ∃ i : Nat, k = os.length - i ∧ i ≤ os.length ∧
    st = ⟨[(0, yieldD l), (2, .ptr 500002 0), (3, .ptr 500003 0), (4, .ptr 500004 0), (8, .pd (.slice (rows AObj.pd os))), (9, int os.length), (10, int i)],
      [(500001, [.pd (.slice (rows AObj.pd os))]), (500002, [int kind]), (500003, [str space]), (500004, [int to_.kind, str to_.space, str to_.name])], [], .it l (((os.filter p).map fun o => refVal o.ref).map ([·])) ((os.take i).filter p).length false⟩) os.length _
    (Weak.refl _ _) ⟨0, rfl, Nat.zero_le _, rfl⟩ ?_
  rintro k st ⟨i, rfl, hi, rfl⟩
  by_cases hlt : i < os.length
  · obtain ⟨o, ho⟩ := at_lt hlt
    have hlt' : (i : Int) < (os.length : Int) := by omega
    simp only [go_sem, contS_seq, simprocAttr, hlt', decide_true, rows_get ho]
    refine (hp o (List.mem_of_getElem? ho)).callW (enters_of Tryz.func18 rfl rfl) _ rfl rfl ?_
    rintro d rfl
    have hw : IntKind.i64.wrap ((i : Int) + 1) = ((i + 1 : Nat) : Int) := by rw [IntWalk.i64_in _ (by omega)]; omega
    cases hpo : p o with
    | true =>
      have hx : (((os.filter p).map fun o => refVal o.ref).map ([·]))[((os.take i).filter p).length]? = some [refVal o.ref] := by
        simp [List.getElem?_map, filter_at ho hpo]
      simp only [go_sem, contS_seq, simprocAttr, hx, hw]
      refine ⟨⟨_, _, ?_, ?_, i + 1, rfl, ?_, rfl⟩, ?_⟩
      · omega
      · rw [filter_yes ho hpo]; exact Weak.less (by simp [lessL, lk]) (by simp [lessL, lk]) (by simp [lessL, lk]) rfl
      · omega
      · exact ⟨[], _, _, rfl, rfl, fun h => by cases h⟩
    | false =>
      simp only [go_sem, contS_seq, simprocAttr, hw]
      refine ⟨_, _, ?_, ?_, i + 1, rfl, ?_, rfl⟩
      · omega
      · rw [filter_no ho hpo]; exact Weak.less (by simp [lessL, lk]) (by simp [lessL, lk]) (by simp [lessL, lk]) rfl
      · omega
  · have hlt' : ¬ (i : Int) < (os.length : Int) := by omega
    simp only [go_sem, contS_seq, simprocAttr, hlt', decide_false]
    exact ⟨[], _, _, rfl, rfl, fun _ => by rw [List.take_of_length_le (by omega)]; simp⟩

theorem grant_by (os : List AObj) (kind : Int) (space : ByteArray) (to_ : ARef) :
    Full Tryz.prog 49 [.pd (.slice (rows AObj.pd os)), int kind, str space, to_.d] [] true
      (fun d bs => d = .fn 83 [(4, 0), (5, 0), (6, 0), (7, 0)] ∧ bs = [(4, [.pd (.slice (rows AObj.pd os))]), (5, [int kind]), (6, [str space]), (7, [int to_.kind, str to_.space, str to_.name])]) := by
  refine full_of_run follows an_zfsgx Tryz.func49 rfl ok_zfsgx dst_zfsgx (by simp [Tryz.ntmps49]) (by simp [Tryz.ntmps49]) (.inl rfl) ?_
  rw [run_start]
  simp only [ac_zfsgx, go_sem, contS_seq, simprocAttr]
  simp only [retK, fullK, iterK, resD, resA, AOp.ex, St.ev, Option.map_some, Option.bind_some, St.get, lk, reduceIte, Nat.reduceEqDiff, Option.getD_some, oneD, List.getElem?_cons_zero, List.getElem?_cons_succ, List.drop_zero, List.drop_succ_cons, List.take_succ_cons, List.take_zero, List.length_cons, List.length_nil, Nat.zero_add, Nat.reduceAdd, Nat.le_refl, Nat.reduceLeDiff, D.pub, D.pubs, Tryz.results49]
  exact ⟨_, _, rfl, by simp [lessL, lk], rfl, rfl⟩

theorem grant_Permits (p : AObj → Bool) (os : List AObj) (kind : Int) (space : ByteArray) (to_ : ARef) (hos : os.length ≤ 1000000)
    (hp : ∀ o ∈ os, Pure Tryz.prog 18 [o.d, int kind, str space, to_.d] (fun d => d = bln (p o))) :
    Pure Tryz.prog 17 [.pd (.slice (rows AObj.pd os)), int kind, str space, to_.d] (fun d => d = bln (os.any p || decide (space = to_.space))) := by
  refine pure_of_run follows an_zj2qb Tryz.func17 rfl ok_zj2qb dst_zj2qb (by simp [Tryz.ntmps17]) ?_
  rw [run_start]
  simp only [ac_zj2qb, go_sem, contS_seq, simprocAttr]
  refine (grant_by os kind space to_).callW (enters_of Tryz.func49 rfl rfl) _ false [] [] [(4, 200001), (5, 200002), (6, 200003), (7, 200004)] [] rfl rfl rfl ?_
  rintro d bs ⟨rfl, rfl⟩
  simp only [go_sem, contS_seq, simprocAttr]
  refine rangeS ((os.filter p).map fun o => refVal o.ref) (fun i bs => i = 0 ∧ bs = [(7, [int to_.kind, str to_.space, str to_.name]), (8, [bln false])]) rfl rfl rfl
    ((by_iter p os kind space to_ hos hp).iterW (enters_of Tryz.func83 rfl rfl) false [(200001, 500001), (200002, 500002), (200003, 500003), (200004, 500004)] rfl rfl rfl) ⟨rfl, rfl⟩ ?_ ?_
  · rintro i v bs hv ⟨rfl, rfl⟩
    simp only [go_sem, contS_seq, simprocAttr]
    simp only [retK, fullK, iterK, resD, resA, AOp.ex, St.ev, Option.map_some, Option.bind_some, St.get, lk, reduceIte, Nat.reduceEqDiff, Option.getD_some, oneD, List.getElem?_cons_zero, List.getElem?_cons_succ, List.drop_zero, List.drop_succ_cons, List.take_succ_cons, List.take_zero, List.length_cons, List.length_nil, Nat.zero_add, Nat.reduceAdd, Nat.le_refl, Nat.reduceLeDiff, D.pub, D.pubs, ret_zj2qb]
    have hany : os.any p = true := by
      rw [List.getElem?_map] at hv
      obtain ⟨o, ho, _⟩ := Option.map_eq_some_iff.1 hv
      have := List.mem_filter.1 (List.mem_of_getElem? ho)
      exact List.any_eq_true.2 ⟨o, this.1, this.2⟩
    exact ⟨_, rfl, rfl, by simp [hany, oneD, D.pub]⟩
  · rintro bs ⟨hl, rfl⟩
    simp only [go_sem, contS_seq, simprocAttr]
    simp only [retK, fullK, iterK, resD, resA, AOp.ex, St.ev, Option.map_some, Option.bind_some, St.get, lk, reduceIte, Nat.reduceEqDiff, Option.getD_some, oneD, List.getElem?_cons_zero, List.getElem?_cons_succ, List.drop_zero, List.drop_succ_cons, List.take_succ_cons, List.take_zero, List.length_cons, List.length_nil, Nat.zero_add, Nat.reduceAdd, Nat.le_refl, Nat.reduceLeDiff, D.pub, D.pubs, ret_zj2qb]
    have hany : os.any p = false := by
      rw [List.length_map, List.length_eq_zero_iff, List.filter_eq_nil_iff] at hl
      exact List.any_eq_false.2 hl
    exact ⟨_, rfl, rfl, by simp [hany, oneD, D.pub]⟩


def sideIs (kind : Int) (space : ByteArray) (s : ASide) : Bool := decide (s.kind = kind) && decide (s.space = space)
def sideAt (t : ARef) (s : ASide) : Bool := decide (s.kind = t.kind) && (decide (s.name = ⟨#[]⟩) || decide (s.name = t.name))

theorem Lets_1 (kind : Int) (space : ByteArray) (s : ASide) : PureB Tryz.prog 50 [s.d, .ptr 1000001 0, .ptr 1000002 0] [(1000001, [int kind]), (1000002, [str space])] (fun d => d = bln (sideIs kind space s)) := by
  refine pureB_of_run follows an_z4wyn Tryz.func50 rfl ok_z4wyn dst_z4wyn (by simp [Tryz.ntmps50]) ?_
  rw [run_start]
  simp only [ac_z4wyn, go_sem, contS_seq, simprocAttr]
  (repeat' (first | (refine GifP.mk (fun _ => ?_) (fun _ => ?_)) | (refine Gif.mk (fun _ => ?_) (fun _ => ?_)))) <;> (simp only [retK, fullK, iterK, resD, resA, AOp.ex, St.ev, Option.map_some, Option.bind_some, St.get, lk, reduceIte, Nat.reduceEqDiff, Option.getD_some, oneD, List.getElem?_cons_zero, List.getElem?_cons_succ, List.drop_zero, List.drop_succ_cons, List.take_succ_cons, List.take_zero, List.length_cons, List.length_nil, Nat.zero_add, Nat.reduceAdd, Nat.le_refl, Nat.reduceLeDiff, D.pub, D.pubs, Tryz.results50]; exact ⟨_, rfl, rfl, congrArg bln (by first | rfl | (rw [Bool.eq_iff_iff]; simp only [sideIs]; simp; done) | (rw [Bool.eq_iff_iff]; simp only [sideIs]; simp; omega) | (rw [Bool.eq_iff_iff]; simp only [sideIs]; simp [*]; done) | (rw [Bool.eq_iff_iff]; simp only [sideIs]; simp [*]; omega) | (simp_all [sideIs]; done) | (exfalso; omega))⟩)

theorem Lets_2 (t : ARef) (s : ASide) : PureB Tryz.prog 51 [s.d, .ptr 1000001 0] [(1000001, [int t.kind, str t.space, str t.name])] (fun d => d = bln (sideAt t s)) := by
  refine pureB_of_run follows an_z3e5h Tryz.func51 rfl ok_z3e5h dst_z3e5h (by simp [Tryz.ntmps51]) ?_
  rw [run_start]
  simp only [ac_z3e5h, go_sem, contS_seq, simprocAttr]
  (repeat' (first | (refine GifP.mk (fun _ => ?_) (fun _ => ?_)) | (refine Gif.mk (fun _ => ?_) (fun _ => ?_)))) <;> (simp only [retK, fullK, iterK, resD, resA, AOp.ex, St.ev, Option.map_some, Option.bind_some, St.get, lk, reduceIte, Nat.reduceEqDiff, Option.getD_some, oneD, List.getElem?_cons_zero, List.getElem?_cons_succ, List.drop_zero, List.drop_succ_cons, List.take_succ_cons, List.take_zero, List.length_cons, List.length_nil, Nat.zero_add, Nat.reduceAdd, Nat.le_refl, Nat.reduceLeDiff, D.pub, D.pubs, Tryz.results51]; exact ⟨_, rfl, rfl, congrArg bln (by first | rfl | (rw [Bool.eq_iff_iff]; simp only [sideAt]; simp; done) | (rw [Bool.eq_iff_iff]; simp only [sideAt]; simp; omega) | (rw [Bool.eq_iff_iff]; simp only [sideAt]; simp [*]; done) | (rw [Bool.eq_iff_iff]; simp only [sideAt]; simp [*]; omega) | (simp_all [sideAt]; done) | (exfalso; omega))⟩)

def lets (kind : Int) (space : ByteArray) (t : ARef) (o : AObj) : Bool :=
  decide (o.ref.kind = 7) && decide (o.ref.space = t.space) && objMay o && o.from_.any (sideIs kind space) && o.to_.any (sideAt t)

theorem grant_Lets (o : AObj) (h : o.ok) (kind : Int) (space : ByteArray) (t : ARef) : Pure Tryz.prog 18 [o.d, int kind, str space, t.d] (fun d => d = bln (lets kind space t o)) := by
  refine pure_of_run follows an_zs3t2 Tryz.func18 rfl ok_zs3t2 dst_zs3t2 (by simp [Tryz.ntmps18]) ?_
  rw [run_start]
  simp only [ac_zs3t2, go_sem, contS_seq, simprocAttr]
  (repeat' (first | (refine GifP.mk (fun _ => ?_) (fun _ => ?_)) | (refine Gif.mk (fun _ => ?_) (fun _ => ?_)) | ((first | refine (object_May o h).callW (enters_of Tryz.func52 rfl rfl) _ rfl rfl ?_ | refine (ContainsFunc_Side (sideIs kind space) 50 (enters_of Tryz.func50 rfl rfl) [(1000001, 0), (1000002, 0)] [(1000001, [int kind]), (1000002, [str space])] (Cl.of rfl rfl rfl rfl rfl) o.from_ h.fr (fun s _ => Lets_1 kind space s)).callW (enters_of Tryz.func53 rfl rfl) _ [(5, 1000001), (6, 1000002)] rfl rfl rfl ?_ | refine (ContainsFunc_Side (sideAt t) 51 (enters_of Tryz.func51 rfl rfl) [(1000001, 0)] [(1000001, [int t.kind, str t.space, str t.name])] (Cl.of rfl rfl rfl rfl rfl) o.to_ h.to (fun s _ => Lets_2 t s)).callW (enters_of Tryz.func53 rfl rfl) _ [(7, 1000001)] rfl rfl rfl ?_); rintro _ rfl; try simp only [go_sem, contS_seq, simprocAttr]))) <;> (simp only [retK, fullK, iterK, resD, resA, AOp.ex, St.ev, Option.map_some, Option.bind_some, St.get, lk, reduceIte, Nat.reduceEqDiff, Option.getD_some, oneD, List.getElem?_cons_zero, List.getElem?_cons_succ, List.drop_zero, List.drop_succ_cons, List.take_succ_cons, List.take_zero, List.length_cons, List.length_nil, Nat.zero_add, Nat.reduceAdd, Nat.le_refl, Nat.reduceLeDiff, D.pub, D.pubs, Tryz.results18]; exact ⟨_, rfl, rfl, congrArg bln (by first | rfl | (rw [Bool.eq_iff_iff]; simp only [lets]; simp; done) | (rw [Bool.eq_iff_iff]; simp only [lets]; simp; omega) | (rw [Bool.eq_iff_iff]; simp only [lets]; simp [*]; done) | (rw [Bool.eq_iff_iff]; simp only [lets]; simp [*]; omega) | (simp_all [lets]; done) | (exfalso; omega))⟩)

def permits (os : List AObj) (kind : Int) (space : ByteArray) (t : ARef) : Bool := os.any (lets kind space t) || decide (space = t.space)

theorem grant_Permits' (os : List AObj) (hos : os.length ≤ 1000000) (h : ∀ o ∈ os, o.ok) (kind : Int) (space : ByteArray) (t : ARef) :
    Pure Tryz.prog 17 [.pd (.slice (rows AObj.pd os)), int kind, str space, t.d] (fun d => d = bln (permits os kind space t)) :=
  grant_Permits (lets kind space t) os kind space t hos (fun o ho => grant_Lets o (h o ho) kind space t)

def isRef (r : ARef) (o : AObj) : Bool := decide (o.ref = r)

theorem Find_1 (r : ARef) (o : AObj) : PureB Tryz.prog 68 [o.d, .ptr 1000001 0] [(1000001, [int r.kind, str r.space, str r.name])] (fun d => d = bln (isRef r o)) := by
  refine pureB_of_run follows an_zl31y Tryz.func68 rfl ok_zl31y dst_zl31y (by simp [Tryz.ntmps68]) ?_
  rw [run_start]
  simp only [ac_zl31y, go_sem, contS_seq, simprocAttr, eqVs, eqV, eq_Ref]
  simp only [retK, fullK, iterK, resD, resA, AOp.ex, St.ev, Option.map_some, Option.bind_some, St.get, lk, reduceIte, Nat.reduceEqDiff, Option.getD_some, oneD, List.getElem?_cons_zero, List.getElem?_cons_succ, List.drop_zero, List.drop_succ_cons, List.take_succ_cons, List.take_zero, List.length_cons, List.length_nil, Nat.zero_add, Nat.reduceAdd, Nat.le_refl, Nat.reduceLeDiff, D.pub, D.pubs, Tryz.results68]
  exact ⟨_, rfl, rfl, rfl⟩

theorem lidx_find {α : Type} (p : α → Bool) : ∀ (l : List α) (k : Nat), (l.find? p = none ∧ lidx p l k = -1) ∨ ∃ x j, l.find? p = some x ∧ lidx p l k = ((k + j : Nat) : Int) ∧ l[j]? = some x
  | [], k => .inl ⟨rfl, rfl⟩
  | x :: l, k => by
    rw [List.find?_cons, lidx]
    by_cases h : p x = true
    · rw [if_pos h, h]; exact .inr ⟨x, 0, rfl, by simp, by simp⟩
    · rw [if_neg h]
      have h' : p x = false := by simpa using h
      rw [h']
      rcases lidx_find p l (k + 1) with h1 | ⟨y, j, h1, h2, h3⟩
      · exact .inl h1
      · exact .inr ⟨y, j + 1, h1, by rw [h2]; omega, by simpa using h3⟩

def ref0 : ARef := ⟨0, ⟨#[]⟩, ⟨#[]⟩⟩

def found (os : List AObj) (r : ARef) : Option AObj := os.find? (isRef r)

def foundD : Option AObj → D
  | some o => .tup [o.d, bln true]
  | none => .tup [(AObj.zero ref0).d, bln false]

theorem grant_Find (os : List AObj) (hos : os.length ≤ 1000000) (r : ARef) : Pure Tryz.prog 25 [.pd (.slice (rows AObj.pd os)), r.d] (fun d => d = foundD (found os r)) := by
  refine pure_of_run follows an_z88d6 Tryz.func25 rfl ok_z88d6 dst_z88d6 (by simp [Tryz.ntmps25]) ?_
  rw [run_start]
  simp only [ac_z88d6, go_sem, contS_seq, simprocAttr]
  refine (IndexFunc_Object (isRef r) 68 (enters_of Tryz.func68 rfl rfl) [(1000001, 0)] [(1000001, [int r.kind, str r.space, str r.name])] (Cl.of rfl rfl rfl rfl rfl) os hos (fun o _ => Find_1 r o)).callW (enters_of Tryz.func67 rfl rfl) _ [(3, 1000001)] rfl rfl rfl ?_
  rintro d rfl
  rcases lidx_find (isRef r) os 0 with ⟨h1, h2⟩ | ⟨x, j, h1, h2, h3⟩
  · rw [h2]
    simp only [go_sem, contS_seq, simprocAttr]
    simp only [retK, fullK, iterK, resD, resA, AOp.ex, St.ev, Option.map_some, Option.bind_some, St.get, lk, reduceIte, Nat.reduceEqDiff, Option.getD_some, oneD, List.getElem?_cons_zero, List.getElem?_cons_succ, List.drop_zero, List.drop_succ_cons, List.take_succ_cons, List.take_zero, List.length_cons, List.length_nil, Nat.zero_add, Nat.reduceAdd, Nat.le_refl, Nat.reduceLeDiff, D.pub, D.pubs, ret_z88d6]
    refine ⟨_, rfl, rfl, ?_⟩
    rw [found, h1]; rfl
  · rw [h2, Nat.zero_add]
    have hn : ((j : Int) < 0) = False := eq_false (by omega)
    simp only [go_sem, contS_seq, simprocAttr, hn, rows_get h3]
    simp only [retK, fullK, iterK, resD, resA, AOp.ex, St.ev, Option.map_some, Option.bind_some, St.get, lk, reduceIte, Nat.reduceEqDiff, Option.getD_some, oneD, List.getElem?_cons_zero, List.getElem?_cons_succ, List.drop_zero, List.drop_succ_cons, List.take_succ_cons, List.take_zero, List.length_cons, List.length_nil, Nat.zero_add, Nat.reduceAdd, Nat.le_refl, Nat.reduceLeDiff, D.pub, D.pubs, ret_z88d6]
    refine ⟨_, rfl, rfl, ?_⟩
    rw [found, h1]; rfl


def badKind : ByteArray := ⟨#[73, 110, 118, 97, 108, 105, 100, 75, 105, 110, 100]⟩
def notLet : ByteArray := ⟨#[82, 101, 102, 78, 111, 116, 80, 101, 114, 109, 105, 116, 116, 101, 100]⟩

set_option maxRecDepth 100000 in
theorem wrong_nil (r : AObj) (b : ABackend) (t : ARef) (ht : near b.ref r.ref.space = t) (h : t.kind ≠ 3 ∨ r.ref.space ≠ t.space) :
    Pure Tryz.prog 37 [.pd (.slice []), r.d, b.d] (fun d => d = str (if t.kind = 3 then notLet else badKind)) := by
  refine pure_of_run follows an_zcgje Tryz.func37 rfl ok_zcgje dst_zcgje (by simp [Tryz.ntmps37]) ?_
  rw [run_start]
  simp only [ac_zcgje, go_sem, contS_seq, simprocAttr]
  refine (grant_Near b.ref r.ref.space).callW (enters_of Tryz.func27 rfl rfl) _ rfl rfl ?_
  rintro d rfl
  rw [ht]
  simp only [go_sem, contS_seq, simprocAttr]
  refine ⟨fun h3 => ?_, fun h3 => ?_⟩
  · have hs : r.ref.space ≠ t.space := by
      rcases h with h | h
      · exact absurd h3 h
      · exact h
    refine (grant_Permits (fun _ => false) [] 6 r.ref.space t (by simp) (by simp)).callW (enters_of Tryz.func17 rfl rfl) _ rfl rfl ?_
    rintro d rfl
    simp only [go_sem, contS_seq, simprocAttr, hs]
    simp only [retK, fullK, iterK, resD, resA, AOp.ex, St.ev, Option.map_some, Option.bind_some, St.get, lk, reduceIte, Nat.reduceEqDiff, Option.getD_some, oneD, List.getElem?_cons_zero, List.getElem?_cons_succ, List.drop_zero, List.drop_succ_cons, List.take_succ_cons, List.take_zero, List.length_cons, List.length_nil, Nat.zero_add, Nat.reduceAdd, Nat.le_refl, Nat.reduceLeDiff, D.pub, D.pubs, Tryz.results37, h3]
    exact ⟨_, rfl, rfl, rfl⟩
  · simp only [retK, fullK, iterK, resD, resA, AOp.ex, St.ev, Option.map_some, Option.bind_some, St.get, lk, reduceIte, Nat.reduceEqDiff, Option.getD_some, oneD, List.getElem?_cons_zero, List.getElem?_cons_succ, List.drop_zero, List.drop_succ_cons, List.take_succ_cons, List.take_zero, List.length_cons, List.length_nil, Nat.zero_add, Nat.reduceAdd, Nat.le_refl, Nat.reduceLeDiff, D.pub, D.pubs, Tryz.results37, h3]
    exact ⟨_, rfl, rfl, rfl⟩


def noBackend : ByteArray := ⟨#[66, 97, 99, 107, 101, 110, 100, 78, 111, 116, 70, 111, 117, 110, 100]⟩

def thereIs (os : List AObj) (t : ARef) (port : Int) : Bool := match found os t with
  | some s => objMay s && hasInt s.ports port
  | none => false

def wrongAt (os : List AObj) (space : ByteArray) (t : ARef) (port : Int) : ByteArray :=
  if t.kind ≠ 3 then badKind else if permits os 6 space t = false then notLet else if thereIs os t port = false then noBackend else ⟨#[]⟩

def wrong (os : List AObj) (r : AObj) (b : ABackend) : ByteArray := wrongAt os r.ref.space (near b.ref r.ref.space) b.port

theorem found_mem {os : List AObj} {t : ARef} {s : AObj} (h : found os t = some s) : s ∈ os := List.mem_of_find?_eq_some h

theorem back_Wrong (os : List AObj) (hos : os.length ≤ 1000000) (h : ∀ o ∈ os, o.ok) (r : AObj) (b : ABackend) : Pure Tryz.prog 37 [.pd (.slice (rows AObj.pd os)), r.d, b.d] (fun d => d = str (wrong os r b)) := by
  refine pure_of_run follows an_zcgje Tryz.func37 rfl ok_zcgje dst_zcgje (by simp [Tryz.ntmps37]) ?_
  rw [run_start]
  simp only [ac_zcgje, go_sem, contS_seq, simprocAttr]
  refine (grant_Near b.ref r.ref.space).callW (enters_of Tryz.func27 rfl rfl) _ rfl rfl ?_
  rintro d rfl
  obtain ⟨t, ht⟩ : ∃ t, near b.ref r.ref.space = t := ⟨_, rfl⟩
  have hwr : wrong os r b = wrongAt os r.ref.space t b.port := by rw [wrong, ht]
  rw [ht]
  simp only [go_sem, contS_seq, simprocAttr]
  refine GifP.mk (fun h3 => ?_) (fun h3 => ?_)
  · refine (grant_Permits' os hos h 6 r.ref.space t).callW (enters_of Tryz.func17 rfl rfl) _ rfl rfl ?_
    rintro d rfl
    simp only [go_sem, contS_seq, simprocAttr]
    refine Gif.mk (fun hp => ?_) (fun hp => ?_)
    · refine (grant_Find os hos t).callW (enters_of Tryz.func25 rfl rfl) _ rfl rfl ?_
      rintro d rfl
      cases hf : found os t with
      | none =>
        simp only [foundD, go_sem, contS_seq, simprocAttr]
        simp only [retK, fullK, iterK, resD, resA, AOp.ex, St.ev, Option.map_some, Option.bind_some, St.get, lk, reduceIte, Nat.reduceEqDiff, Option.getD_some, oneD, List.getElem?_cons_zero, List.getElem?_cons_succ, List.drop_zero, List.drop_succ_cons, List.take_succ_cons, List.take_zero, List.length_cons, List.length_nil, Nat.zero_add, Nat.reduceAdd, Nat.le_refl, Nat.reduceLeDiff, D.pub, D.pubs, Tryz.results37]
        exact ⟨_, rfl, rfl, by rw [hwr]; simp [wrongAt, h3, hp, thereIs, hf, D.pub, noBackend]⟩
      | some s =>
        simp only [foundD, go_sem, contS_seq, simprocAttr]
        refine (object_May s (h s (found_mem hf))).callW (enters_of Tryz.func52 rfl rfl) _ rfl rfl ?_
        rintro d rfl
        simp only [go_sem, contS_seq, simprocAttr]
        refine Gif.mk (fun hm => ?_) (fun hm => ?_)
        · refine (slices_Contains_int s.ports (h s (found_mem hf)).po b.port).callW (enters_of Tryz.func76 rfl rfl) _ rfl rfl ?_
          rintro d rfl
          simp only [go_sem, contS_seq, simprocAttr]
          refine Gif.mk (fun hc => ?_) (fun hc => ?_)
          all_goals
            simp only [retK, fullK, iterK, resD, resA, AOp.ex, St.ev, Option.map_some, Option.bind_some, St.get, lk, reduceIte, Nat.reduceEqDiff, Option.getD_some, oneD, List.getElem?_cons_zero, List.getElem?_cons_succ, List.drop_zero, List.drop_succ_cons, List.take_succ_cons, List.take_zero, List.length_cons, List.length_nil, Nat.zero_add, Nat.reduceAdd, Nat.le_refl, Nat.reduceLeDiff, D.pub, D.pubs, Tryz.results37]
            exact ⟨_, rfl, rfl, by rw [hwr]; simp [wrongAt, h3, hp, thereIs, hf, hm, hc, D.pub, noBackend]⟩
        · simp only [retK, fullK, iterK, resD, resA, AOp.ex, St.ev, Option.map_some, Option.bind_some, St.get, lk, reduceIte, Nat.reduceEqDiff, Option.getD_some, oneD, List.getElem?_cons_zero, List.getElem?_cons_succ, List.drop_zero, List.drop_succ_cons, List.take_succ_cons, List.take_zero, List.length_cons, List.length_nil, Nat.zero_add, Nat.reduceAdd, Nat.le_refl, Nat.reduceLeDiff, D.pub, D.pubs, Tryz.results37]
          exact ⟨_, rfl, rfl, by rw [hwr]; simp [wrongAt, h3, hp, thereIs, hf, hm, D.pub, noBackend]⟩
    · simp only [retK, fullK, iterK, resD, resA, AOp.ex, St.ev, Option.map_some, Option.bind_some, St.get, lk, reduceIte, Nat.reduceEqDiff, Option.getD_some, oneD, List.getElem?_cons_zero, List.getElem?_cons_succ, List.drop_zero, List.drop_succ_cons, List.take_succ_cons, List.take_zero, List.length_cons, List.length_nil, Nat.zero_add, Nat.reduceAdd, Nat.le_refl, Nat.reduceLeDiff, D.pub, D.pubs, Tryz.results37]
      exact ⟨_, rfl, rfl, by rw [hwr]; simp [wrongAt, h3, hp, D.pub, notLet]⟩
  · simp only [retK, fullK, iterK, resD, resA, AOp.ex, St.ev, Option.map_some, Option.bind_some, St.get, lk, reduceIte, Nat.reduceEqDiff, Option.getD_some, oneD, List.getElem?_cons_zero, List.getElem?_cons_succ, List.drop_zero, List.drop_succ_cons, List.take_succ_cons, List.take_zero, List.length_cons, List.length_nil, Nat.zero_add, Nat.reduceAdd, Nat.le_refl, Nat.reduceLeDiff, D.pub, D.pubs, Tryz.results37]
    exact ⟨_, rfl, rfl, by rw [hwr]; simp [wrongAt, h3, D.pub, badKind]⟩

def isRoute (r : AObj) : Bool := decide (r.ref.kind = 6) && objMay r

theorem back_route (r : AObj) (h : r.ok) : Pure Tryz.prog 77 [r.d] (fun d => d = bln (isRoute r)) := by
  refine pure_of_run follows an_zjzrx Tryz.func77 rfl ok_zjzrx dst_zjzrx (by simp [Tryz.ntmps77]) ?_
  rw [run_start]
  simp only [ac_zjzrx, go_sem, contS_seq, simprocAttr]
  (repeat' (first | (refine GifP.mk (fun _ => ?_) (fun _ => ?_)) | (refine Gif.mk (fun _ => ?_) (fun _ => ?_)) | (refine (object_May r h).callW (enters_of Tryz.func52 rfl rfl) _ rfl rfl ?_; rintro _ rfl; try simp only [go_sem, contS_seq, simprocAttr]))) <;> (simp only [retK, fullK, iterK, resD, resA, AOp.ex, St.ev, Option.map_some, Option.bind_some, St.get, lk, reduceIte, Nat.reduceEqDiff, Option.getD_some, oneD, List.getElem?_cons_zero, List.getElem?_cons_succ, List.drop_zero, List.drop_succ_cons, List.take_succ_cons, List.take_zero, List.length_cons, List.length_nil, Nat.zero_add, Nat.reduceAdd, Nat.le_refl, Nat.reduceLeDiff, D.pub, D.pubs, Tryz.results77]; exact ⟨_, rfl, rfl, congrArg bln (by first | rfl | (rw [Bool.eq_iff_iff]; simp only [isRoute]; simp; done) | (rw [Bool.eq_iff_iff]; simp only [isRoute]; simp; omega) | (rw [Bool.eq_iff_iff]; simp only [isRoute]; simp [*]; done) | (rw [Bool.eq_iff_iff]; simp only [isRoute]; simp [*]; omega) | (simp_all [isRoute]; done) | (exfalso; omega))⟩)

def firstWrong (os : List AObj) (r : AObj) : List ABackend → Option ByteArray
  | [] => none
  | b :: l => if wrong os r b = ⟨#[]⟩ then firstWrong os r l else some (wrong os r b)

def firstRule (os : List AObj) (r : AObj) : List ARule → ByteArray
  | [] => ⟨#[]⟩
  | x :: l => match firstWrong os r x.backends with
    | some w => w
    | none => firstRule os r l

def routeWhy (os : List AObj) (r : AObj) : ByteArray := if isRoute r = true then firstRule os r r.rules else ⟨#[]⟩

set_option maxHeartbeats 1000000 in
theorem back_Route (os : List AObj) (hos : os.length ≤ 1000000) (h : ∀ o ∈ os, o.ok) (r : AObj) (hr : r.ok) : Pure Tryz.prog 39 [.pd (.slice (rows AObj.pd os)), r.d] (fun d => d = str (routeWhy os r)) := by
  refine pure_of_run follows an_zqnyx Tryz.func39 rfl ok_zqnyx dst_zqnyx (by simp [Tryz.ntmps39]) ?_
  rw [run_start]
  simp only [ac_zqnyx, go_sem, contS_seq, simprocAttr]
  refine (back_route r hr).callW (enters_of Tryz.func77 rfl rfl) _ rfl rfl ?_
  rintro d rfl
  simp only [go_sem, contS_seq, simprocAttr]
  refine Gif.mk (fun h1 => ?_) (fun h1 => ?_)
  rotate_left
  · simp only [retK, fullK, iterK, resD, resA, AOp.ex, St.ev, Option.map_some, Option.bind_some, St.get, lk, reduceIte, Nat.reduceEqDiff, Option.getD_some, oneD, List.getElem?_cons_zero, List.getElem?_cons_succ, List.drop_zero, List.drop_succ_cons, List.take_succ_cons, List.take_zero, List.length_cons, List.length_nil, Nat.zero_add, Nat.reduceAdd, Nat.le_refl, Nat.reduceLeDiff, D.pub, D.pubs, Tryz.results39]
    exact ⟨_, rfl, rfl, by simp [routeWhy, h1, D.pub]⟩
  simp only [rows_len]
  refine loopS (fun k st => ∃ i : Nat, k = r.rules.length - i ∧ i ≤ r.rules.length ∧ firstRule os r (r.rules.drop i) = firstRule os r r.rules ∧
    st = ⟨[(0, .pd (.slice (rows AObj.pd os))), (3, .ptr 3 0), (14, .pd (.slice (rows ARule.pd r.rules))), (15, int r.rules.length), (16, int i)], [(3, r.ds)], [], .no⟩) r.rules.length _ ?_ ⟨0, rfl, Nat.zero_le _, rfl, rfl⟩ ?_
  · exact Weak.less (by simp [lessL, lk]) (by simp [lessL, lk]) (by simp [lessL, lk]) rfl
  rintro k st ⟨i, rfl, hi, hrr, rfl⟩
  by_cases hlt : i < r.rules.length
  · obtain ⟨x, hx⟩ := at_lt hlt
    have hlt' : ((i : Int) < (r.rules.length : Int)) = True := eq_true (by omega)
    have hw := i64_succ (show i < 1000000000 by have := hr.ru; omega)
    have hxb := (hr.rus x (List.mem_of_getElem? hx)).bl
    rw [drop_at hx, firstRule] at hrr
    simp only [go_sem, contS_seq, simprocAttr, hlt', rows_get hx, rows_len]
    refine loopS (fun k st => ∃ j : Nat, k = x.backends.length - j ∧ j ≤ x.backends.length ∧ firstWrong os r (x.backends.drop j) = firstWrong os r x.backends ∧
      st = ⟨[(0, .pd (.slice (rows AObj.pd os))), (3, .ptr 3 0), (14, .pd (.slice (rows ARule.pd r.rules))), (15, int r.rules.length), (16, int i), (21, .pd (.slice (rows ABackend.pd x.backends))), (22, int x.backends.length), (23, int j)], [(3, r.ds)], [], .no⟩) x.backends.length _ ?_ ⟨0, rfl, Nat.zero_le _, rfl, rfl⟩ ?_
    · exact Weak.less (by simp [lessL, lk]) (by simp [lessL, lk]) (by simp [lessL, lk]) rfl
    rintro k st ⟨j, rfl, hj, hfw, rfl⟩
    by_cases hjl : j < x.backends.length
    · obtain ⟨b, hb⟩ := at_lt hjl
      have hjl' : ((j : Int) < (x.backends.length : Int)) = True := eq_true (by omega)
      have hwj := i64_succ (show j < 1000000000 by omega)
      rw [drop_at hb, firstWrong] at hfw
      simp only [go_sem, contS_seq, simprocAttr, hjl', rows_get hb]
      refine (back_Wrong os hos h r b).callW (enters_of Tryz.func37 rfl rfl) _ rfl rfl ?_
      rintro d rfl
      simp only [go_sem, contS_seq, simprocAttr, hwj]
      refine GifP.mk (fun hwr => ?_) (fun hwr => ?_)
      · rw [if_pos hwr] at hfw
        refine ⟨x.backends.length - (j + 1), _, ?_, ?_, j + 1, rfl, ?_, hfw, rfl⟩
        · omega
        · exact Weak.less (by simp [lessL, lk]) (by simp [lessL, lk]) (by simp [lessL, lk]) rfl
        · omega
      · rw [if_neg hwr] at hfw
        rw [← hfw] at hrr
        simp only [retK, fullK, iterK, resD, resA, AOp.ex, St.ev, Option.map_some, Option.bind_some, St.get, lk, reduceIte, Nat.reduceEqDiff, Option.getD_some, oneD, List.getElem?_cons_zero, List.getElem?_cons_succ, List.drop_zero, List.drop_succ_cons, List.take_succ_cons, List.take_zero, List.length_cons, List.length_nil, Nat.zero_add, Nat.reduceAdd, Nat.le_refl, Nat.reduceLeDiff, D.pub, D.pubs, Tryz.results39]
        refine ⟨_, rfl, rfl, ?_⟩
        rw [routeWhy, if_pos h1, ← hrr]; rfl
    · have hjl' : ((j : Int) < (x.backends.length : Int)) = False := eq_false (by omega)
      rw [List.drop_eq_nil_of_le (by omega), firstWrong] at hfw
      rw [← hfw] at hrr
      simp only [go_sem, contS_seq, simprocAttr, hjl', hw]
      refine ⟨r.rules.length - (i + 1), _, ?_, ?_, i + 1, rfl, ?_, hrr, rfl⟩
      · omega
      · exact Weak.less (by simp [lessL, lk]) (by simp [lessL, lk]) (by simp [lessL, lk]) rfl
      · omega
  · have hlt' : ((i : Int) < (r.rules.length : Int)) = False := eq_false (by omega)
    rw [List.drop_eq_nil_of_le (by omega), firstRule] at hrr
    simp only [go_sem, contS_seq, simprocAttr, hlt']
    simp only [retK, fullK, iterK, resD, resA, AOp.ex, St.ev, Option.map_some, Option.bind_some, St.get, lk, reduceIte, Nat.reduceEqDiff, Option.getD_some, oneD, List.getElem?_cons_zero, List.getElem?_cons_succ, List.drop_zero, List.drop_succ_cons, List.take_succ_cons, List.take_zero, List.length_cons, List.length_nil, Nat.zero_add, Nat.reduceAdd, Nat.le_refl, Nat.reduceLeDiff, D.pub, D.pubs, Tryz.results39]
    refine ⟨_, rfl, rfl, ?_⟩
    rw [routeWhy, if_pos h1, ← hrr]; rfl


def fewObjs (l : List AObj) : List AObj := (l.take 24).map fewObj

theorem take_map_mem {α β : Type} {g : α → β} {l : List α} {n : Nat} {y : β} (h : y ∈ (l.take n).map g) : ∃ x, x ∈ l ∧ g x = y := by
  obtain ⟨x, hx, rfl⟩ := List.mem_map.1 h
  exact ⟨x, List.mem_of_mem_take hx, rfl⟩

theorem fewPairs_ok {l : List APair} : ∀ p ∈ fewPairs l, p.ok := fun p hp => by
  obtain ⟨x, _, rfl⟩ := take_map_mem hp
  exact fewPair_ok x

theorem fewPairs_len (l : List APair) : (fewPairs l).length ≤ 1000000 := by simp [fewPairs]; omega

theorem fewMatch_ok (m : AMatch) : (fewMatch m).ok := ⟨fewPairs_len _, fewPairs_len _, fewPairs_ok, fewPairs_ok⟩

theorem fewFilter_ok (f : AFilter) : (fewFilter f).ok := ⟨by have := few_size f.name; simp [fewFilter]; omega, by have := few_size f.val; simp [fewFilter]; omega⟩

theorem fewNeed_ok (n : ANeed) : (fewNeed n).ok := by simp [ANeed.ok, fewNeed]; omega

theorem fewListener_ok (l : AListener) : (fewListener l).ok := ⟨by simp [fewListener, fewNeeds]; omega, fun x hx => by
  obtain ⟨y, _, rfl⟩ := take_map_mem hx
  exact fewNeed_ok y⟩

theorem fewRule_ok (r : ARule) : (fewRule r).ok := ⟨by simp [fewRule]; omega, by simp [fewRule, fewFilters]; omega, by simp [fewRule]; omega, fun x hx => by
  obtain ⟨y, _, rfl⟩ := take_map_mem hx
  exact fewMatch_ok y, fun x hx => by
  obtain ⟨y, _, rfl⟩ := take_map_mem hx
  exact fewFilter_ok y⟩

theorem fewObj_ok (o : AObj) : (fewObj o).ok where
  la := fewPairs_len _
  po := by simp [fewObj]; omega
  li := by simp [fewObj]; omega
  pa := by simp [fewObj]; omega
  ho := by simp [fewObj]; omega
  ru := by simp [fewObj]; omega
  fr := by simp [fewObj, fewSides]; omega
  to := by simp [fewObj, fewSides]; omega
  lis := fun x hx => by
    obtain ⟨y, _, rfl⟩ := take_map_mem hx
    exact fewListener_ok y
  rus := fun x hx => by
    obtain ⟨y, _, rfl⟩ := take_map_mem hx
    exact fewRule_ok y

theorem fewObjs_ok {l : List AObj} : ∀ o ∈ fewObjs l, o.ok := fun o ho => by
  obtain ⟨x, _, rfl⟩ := take_map_mem ho
  exact fewObj_ok x

theorem fewObjs_len (l : List AObj) : (fewObjs l).length ≤ 24 := by simp [fewObjs]; omega

theorem law11_Some (l : List AObj) : Pure Tryz.prog 16 [.pd (.slice (rows AObj.pd l))] (fun d => d = .pd (.slice (rows AObj.pd (fewObjs l)))) := by
  refine pure_of_run follows an_zh218 Tryz.func16 rfl ok_zh218 dst_zh218 (by simp [Tryz.ntmps16]) ?_
  rw [run_start]
  simp only [ac_zh218, go_sem, contS_seq, simprocAttr, rows_len]
  refine loopS (fun k st => ∃ i : Nat, k = 24 - i ∧ i ≤ 24 ∧ i ≤ l.length ∧
    st = ⟨[(0, .pd (.slice (rows AObj.pd l))), (3, .own 39 13 (rows AObj.pd ((l.take i).map fewObj)) 22), (4, int i)], [], [], .no⟩) 24 _
    ?_ ⟨0, rfl, by omega, by omega, rfl⟩ ?_
  · exact Weak.own1 3 22 39 13 (by kernel_rfl) (by decide) rfl (by simp [lessL, lk, St.purge, St.put, D.purge, rows]) (by simp [lessL, lk, St.purge, D.purges, D.purge]) (by simp [lessL]) rfl
  rintro k st ⟨i, rfl, hi6, hi, rfl⟩
  have hw := i64_succ (show i < 1000000000 by omega)
  by_cases hlt : i < l.length ∧ i < 24
  · obtain ⟨x, hx⟩ := at_lt hlt.1
    have h1 : ((i : Int) < (l.length : Int)) = True := eq_true (by omega)
    have h2 : ((i : Int) < 24) = True := eq_true (by omega)
    simp only [go_sem, contS_seq, simprocAttr, rows_len, rows_get hx, h1, h2]
    refine (law9_Few x).callW (enters_of Tryz.func20 rfl rfl) _ rfl rfl ?_
    rintro d rfl
    have hl' : ((l.take i).map fewObj).length ≤ i := by simp; omega
    have e1 : rows AObj.pd ((l.take i).map fewObj) ++ [AObj.pd (fewObj x)] = rows AObj.pd ((l.take (i + 1)).map fewObj) := few_step hx
    simp only [go_sem, contS_seq, simprocAttr, rows_len, hw]
    rw [e1]
    refine ⟨by simp, by unfold maxLen; omega, by omega, 24 - (i + 1), _, by omega, ?_, i + 1, rfl, by omega, by omega, rfl⟩
    exact Weak.less (by simp [lessL, lk]) (by simp [lessL, lk]) (by simp [lessL, lk]) rfl
  · have h3 := few_end (g := fewObj) hi6 hi hlt
    rw [h3]
    by_cases h1 : i < l.length
    · have h1' : ((i : Int) < (l.length : Int)) = True := eq_true (by omega)
      have h2 : ((i : Int) < 24) = False := eq_false (by omega)
      simp only [go_sem, contS_seq, simprocAttr, rows_len, h1', h2]
      simp only [retK, fullK, iterK, resD, resA, AOp.ex, St.ev, Option.map_some, Option.bind_some, St.get, lk, reduceIte, Nat.reduceEqDiff, Option.getD_some, oneD, List.getElem?_cons_zero, List.getElem?_cons_succ, List.drop_zero, List.drop_succ_cons, List.take_succ_cons, List.take_zero, List.length_cons, List.length_nil, Nat.zero_add, Nat.reduceAdd, Nat.le_refl, Nat.reduceLeDiff, D.pub, D.pubs, Tryz.results16]
      exact ⟨_, rfl, rfl, rfl⟩
    · have h1' : ((i : Int) < (l.length : Int)) = False := eq_false (by omega)
      simp only [go_sem, contS_seq, simprocAttr, rows_len, h1']
      simp only [retK, fullK, iterK, resD, resA, AOp.ex, St.ev, Option.map_some, Option.bind_some, St.get, lk, reduceIte, Nat.reduceEqDiff, Option.getD_some, oneD, List.getElem?_cons_zero, List.getElem?_cons_succ, List.drop_zero, List.drop_succ_cons, List.take_succ_cons, List.take_zero, List.length_cons, List.length_nil, Nat.zero_add, Nat.reduceAdd, Nat.le_refl, Nat.reduceLeDiff, D.pub, D.pubs, Tryz.results16]
      exact ⟨_, rfl, rfl, rfl⟩

def goalOf (os : List AObj) (r : AObj) (b : ABackend) : AGoal := ⟨near b.ref r.ref.space, b.port, b.weight, !decide (wrong os r b = ⟨#[]⟩)⟩

def goals (os : List AObj) (r : AObj) (i : Int) : List AGoal := if isRoute r = true ∧ 0 ≤ i ∧ i < r.rules.length then match r.rules[i.toNat]? with
    | some x => x.backends.map (goalOf os r)
    | none => []
  else []

set_option maxHeartbeats 1000000 in
theorem back_Goals (os : List AObj) (hos : os.length ≤ 1000000) (h : ∀ o ∈ os, o.ok) (r : AObj) (hr : r.ok) (i : Int) : Pure Tryz.prog 42 [.pd (.slice (rows AObj.pd os)), r.d, int i] (fun d => d = .pd (.slice (rows AGoal.pd (goals os r i)))) := by
  refine pure_of_run follows an_z7x5b Tryz.func42 rfl ok_z7x5b dst_z7x5b (by simp [Tryz.ntmps42]) ?_
  rw [run_start]
  simp only [ac_z7x5b, go_sem, contS_seq, simprocAttr, rows_len]
  refine (back_route r hr).callW (enters_of Tryz.func77 rfl rfl) _ rfl rfl ?_
  rintro d rfl
  simp only [go_sem, contS_seq, simprocAttr, rows_len]
  by_cases hg : isRoute r = true ∧ 0 ≤ i ∧ i < r.rules.length
  · have h1 : isRoute r = true := hg.1
    have h2 : (i < 0) = False := eq_false (by omega)
    have h3 : ((r.rules.length : Int) ≤ i) = False := eq_false (by omega)
    obtain ⟨n, rfl⟩ := Int.eq_ofNat_of_zero_le hg.2.1
    obtain ⟨x, hx⟩ := at_lt (show n < r.rules.length by omega)
    have hgo : goals os r n = x.backends.map (goalOf os r) := by simp only [goals, if_pos hg, Int.toNat_natCast, hx]
    have hxb := (hr.rus x (List.mem_of_getElem? hx)).bl
    simp only [go_sem, contS_seq, simprocAttr, rows_len, h1, h2, h3, rows_get hx]
    refine loopS (fun k st => ∃ j : Nat, k = x.backends.length - j ∧ j ≤ x.backends.length ∧
      st = ⟨[(0, .pd (.slice (rows AObj.pd os))), (4, .ptr 4 0), (7, .own 64 6 (rows AGoal.pd ((x.backends.take j).map (goalOf os r))) 53), (29, .pd (.slice (rows ABackend.pd x.backends))), (30, int x.backends.length), (31, int j)], [(4, r.ds)], [], .no⟩) x.backends.length _
      ?_ ⟨0, rfl, by omega, rfl⟩ ?_
    · exact Weak.own1 7 53 64 6 (by kernel_rfl) (by decide) rfl (by simp [lessL, lk, St.purge, St.put, D.purge, rows]) (by simp [lessL, lk, St.purge, D.purges, D.purge]) (by simp [lessL]) rfl
    rintro k st ⟨j, rfl, hj, rfl⟩
    by_cases hlt : j < x.backends.length
    · obtain ⟨b, hb⟩ := at_lt hlt
      have h1' : ((j : Int) < (x.backends.length : Int)) = True := eq_true (by omega)
      have hw := i64_succ (show j < 1000000000 by omega)
      simp only [go_sem, contS_seq, simprocAttr, rows_len, rows_get hb, h1']
      refine (grant_Near b.ref r.ref.space).callX (enters_of Tryz.func27 rfl rfl) _ rfl rfl ?_
      rintro _ rfl
      simp only [go_sem, contS_seq, simprocAttr]
      refine (back_Wrong os hos h r b).callX (enters_of Tryz.func37 rfl rfl) _ rfl rfl ?_
      rintro _ rfl
      have hl' : ((x.backends.take j).map (goalOf os r)).length ≤ j := by simp; omega
      have e1 : rows AGoal.pd ((x.backends.take j).map (goalOf os r)) ++ [[PD.raw (Value.int IntKind.i64 (near b.ref r.ref.space).kind), PD.raw (Value.string (near b.ref r.ref.space).space), PD.raw (Value.string (near b.ref r.ref.space).name), PD.raw (Value.int IntKind.i64 b.port), PD.raw (Value.int IntKind.i64 b.weight), PD.raw (Value.bool !decide (wrong os r b = ⟨#[]⟩))]] = rows AGoal.pd ((x.backends.take (j + 1)).map (goalOf os r)) := few_step (f := AGoal.pd) (g := goalOf os r) hb
      simp only [go_sem, contS_seq, simprocAttr, rows_len, hw]
      rw [e1]
      refine ⟨by simp, by unfold maxLen; omega, by omega, x.backends.length - (j + 1), _, by omega, ?_, j + 1, rfl, by omega, rfl⟩
      exact Weak.less (by simp [lessL, lk]) (by simp [lessL, lk]) (by simp [lessL, lk]) rfl
    · have h1' : ((j : Int) < (x.backends.length : Int)) = False := eq_false (by omega)
      simp only [go_sem, contS_seq, simprocAttr, rows_len, h1']
      simp only [retK, fullK, iterK, resD, resA, AOp.ex, St.ev, Option.map_some, Option.bind_some, St.get, lk, reduceIte, Nat.reduceEqDiff, Option.getD_some, oneD, List.getElem?_cons_zero, List.getElem?_cons_succ, List.drop_zero, List.drop_succ_cons, List.take_succ_cons, List.take_zero, List.length_cons, List.length_nil, Nat.zero_add, Nat.reduceAdd, Nat.le_refl, Nat.reduceLeDiff, D.pub, D.pubs, Tryz.results42]
      exact ⟨_, rfl, rfl, by rw [hgo, List.take_of_length_le (by omega)]; rfl⟩
  · have hgo : goals os r i = [] := by simp only [goals, if_neg hg]
    refine Gif.mk (fun h1 => ?_) (fun h1 => ?_)
    · refine GifP.mk (fun h2 => ?_) (fun h2 => ?_)
      · simp only [retK, fullK, iterK, resD, resA, AOp.ex, St.ev, Option.map_some, Option.bind_some, St.get, lk, reduceIte, Nat.reduceEqDiff, Option.getD_some, oneD, List.getElem?_cons_zero, List.getElem?_cons_succ, List.drop_zero, List.drop_succ_cons, List.take_succ_cons, List.take_zero, List.length_cons, List.length_nil, Nat.zero_add, Nat.reduceAdd, Nat.le_refl, Nat.reduceLeDiff, D.pub, D.pubs, Tryz.results42]
        exact ⟨_, rfl, rfl, by rw [hgo]; rfl⟩
      refine GifP.mk (fun h3 => ?_) (fun h3 => ?_)
      · simp only [retK, fullK, iterK, resD, resA, AOp.ex, St.ev, Option.map_some, Option.bind_some, St.get, lk, reduceIte, Nat.reduceEqDiff, Option.getD_some, oneD, List.getElem?_cons_zero, List.getElem?_cons_succ, List.drop_zero, List.drop_succ_cons, List.take_succ_cons, List.take_zero, List.length_cons, List.length_nil, Nat.zero_add, Nat.reduceAdd, Nat.le_refl, Nat.reduceLeDiff, D.pub, D.pubs, Tryz.results42]
        exact ⟨_, rfl, rfl, by rw [hgo]; rfl⟩
      · exact absurd ⟨h1, by omega, by omega⟩ hg
    · simp only [retK, fullK, iterK, resD, resA, AOp.ex, St.ev, Option.map_some, Option.bind_some, St.get, lk, reduceIte, Nat.reduceEqDiff, Option.getD_some, oneD, List.getElem?_cons_zero, List.getElem?_cons_succ, List.drop_zero, List.drop_succ_cons, List.take_succ_cons, List.take_zero, List.length_cons, List.length_nil, Nat.zero_add, Nat.reduceAdd, Nat.le_refl, Nat.reduceLeDiff, D.pub, D.pubs, Tryz.results42]
      exact ⟨_, rfl, rfl, by rw [hgo]; rfl⟩

theorem filter_step {α : Type} {p : α → Bool} {l : List α} {i : Nat} {x : α} (h : l[i]? = some x) : (l.take (i + 1)).filter p = (l.take i).filter p ++ (if p x = true then [x] else []) := by
  rw [take_at h, List.filter_append]
  congr 1
  by_cases hp : p x = true <;> simp [hp]

end Go.Proofs.YtjhomppadppfnaaGreatDoor

namespace Go.Proofs.YtjhomppadppfnaaGreatDoor
open Go

def an_zaoe5 : Ann := ⟨[(0, [1, 2]), (1, [2])], [(1, ([0, 1, 3, 0, 8, 0, 32, 103, 0, 256, 999, 2047, 4095], .take 0 (.take 1 (.take 3 (.take 4 (.take 5 (.take 6 (.take 8 (.take 9 (.alts (.cons 2 false (.alts (.cons 7 false (.alts (.cons 10 false (.take 11 (.alts (.cons 12 true (.done) (.nil)))) (.nil))) (.nil))) (.nil))))))))))))], []⟩
def ac_zaoe5 : AC := (.seq (.region [.mk none (some 1) (.box 26 (.tmp 0)), .mk none (some 2) (.alloc 26 [.nils, .pd (.raw (.int .i64 0)), .pd (.raw (.string ⟨#[]⟩)), .pd (.raw (.int .i64 0)), .pd (.raw (.string ⟨#[]⟩)), .pd (.raw (.string ⟨#[]⟩))])] (some [1, 2])) (.seq (.draw [.mk none (some 3) (.fieldA 0 (.tmp 1)), .mk none (some 4) (.load none (.tmp 3)), .mk none (some 5) (.call 16 [.tmp 4]), .mk none (some 6) (.fieldA 1 (.tmp 1)), .mk none (some 7) (.load none (.tmp 6)), .mk none (some 8) (.fieldA 2 (.tmp 1)), .mk none (some 9) (.load none (.tmp 8)), .mk none (some 10) (.call 22 [.tmp 9]), .mk none (some 11) (.fieldA 3 (.tmp 1)), .mk none (some 12) (.load (some 3) (.tmp 11)), .mk none (some 13) (.call 21 [.tmp 12]), .mk none (some 14) (.build [.nils, .pd (.raw (.int .i64 0)), .pd (.raw (.string ⟨#[]⟩)), .pd (.raw (.int .i64 0)), .pd (.raw (.string ⟨#[]⟩)), .pd (.raw (.string ⟨#[]⟩))] [(0, 1, .tmp 5), (1, 1, .tmp 7), (2, 1, .tmp 10), (3, 3, .tmp 13)]), .mk none none (.store 6 (.tmp 2) (.tmp 14))] [0, 1, 3, 0, 8, 0, 32, 103, 0, 256, 999, 2047, 4095] (.take 0 (.take 1 (.take 3 (.take 4 (.take 5 (.take 6 (.take 8 (.take 9 (.alts (.cons 2 false (.alts (.cons 7 false (.alts (.cons 10 false (.take 11 (.alts (.cons 12 true .done .nil))) .nil)) .nil)) .nil)))))))))) (some [2])) .ret))
theorem ok_zaoe5 : compC Tryz.prog an_zaoe5 (Tryz.f15.body.getD .skip) = some ac_zaoe5 := by kernel_rfl
theorem ret_zaoe5 (st : St) : resD Tryz.prog st Tryz.f15.results.toList = resA st [.cell 2 (some 6)] := resD_of (by kernel_rfl)
theorem dst_zaoe5 : ac_zaoe5.dstOK Tryz.f15.ntmps (fun i => decide (i < Tryz.f15.ntmps)) = true := by kernel_rfl

def an_zz6t : Ann := ⟨[(0, []), (1, [1]), (2, [0])], [], []⟩
def ac_zz6t : AC := (.seq (.region [.mk none (some 0) (.mv (.const (.bool false)))] (some [])) (.seq (.region [.mk none (some 2) (.build [.pd (.raw (.int .i64 0)), .pd (.raw (.string ⟨#[]⟩)), .pd (.raw (.string ⟨#[]⟩))] [(0, 1, .const (.int .i64 7)), (1, 1, .const (.string ⟨#[97, 112, 112]⟩)), (2, 1, .const (.string ⟨#[103]⟩))]), .mk none (some 3) (.build [.pd (.raw (.int .i64 0)), .pd (.raw (.string ⟨#[]⟩)), .pd (.raw (.string ⟨#[]⟩))] [(0, 1, .const (.int .i64 6)), (1, 1, .const (.string ⟨#[119, 101, 98]⟩))]), .mk none (some 4) (.bslice 45 3 [.tmp 3]), .mk none (some 5) (.build [.pd (.raw (.int .i64 0)), .pd (.raw (.string ⟨#[]⟩)), .pd (.raw (.string ⟨#[]⟩))] [(0, 1, .const (.int .i64 3)), (2, 1, .const (.string ⟨#[97, 112, 105]⟩))]), .mk none (some 6) (.bslice 45 3 [.tmp 5]), .mk none (some 7) (.build [.pd (.raw (.int .i64 0)), .pd (.raw (.string ⟨#[]⟩)), .pd (.raw (.string ⟨#[]⟩)), .pd (.raw (.bool false)), .nils, .nils, .pd (.raw (.string ⟨#[]⟩)), .nils, .nils, .nils, .nils, .nils, .nils] [(0, 3, .tmp 2), (11, 1, .tmp 4), (12, 1, .tmp 6)]), .mk none (some 8) (.bslice 39 13 [.tmp 7]), .mk none (some 1) (.mv (.tmp 8))] (some [1])) (.seq (.region [.mk none (some 9) (.mv (.tmp 1)), .mk none (some 10) (.call 54 [.const (.string ⟨#[97, 112, 112]⟩), .const (.string ⟨#[97, 112, 105]⟩)]), .mk none (some 11) (.call 17 [.tmp 9, .const (.int .i64 6), .const (.string ⟨#[119, 101, 98]⟩), .tmp 10]), .mk none (some 12) (.mv (.tmp 11)), .mk (some (12, true)) (some 13) (.mv (.tmp 1)), .mk (some (12, true)) (some 14) (.call 54 [.const (.string ⟨#[97, 112, 112]⟩), .const (.string ⟨#[100, 98]⟩)]), .mk (some (12, true)) (some 15) (.call 17 [.tmp 13, .const (.int .i64 6), .const (.string ⟨#[119, 101, 98]⟩), .tmp 14]), .mk (some (12, true)) (some 16) (.un .not (.tmp 15)), .mk none (some 17) (.pick (.tmp 12) (.tmp 16) (.const (.bool false))), .mk none (some 18) (.mv (.tmp 17)), .mk (some (18, true)) (some 19) (.mv (.tmp 1)), .mk (some (18, true)) (some 20) (.call 54 [.const (.string ⟨#[97, 112, 112]⟩), .const (.string ⟨#[97, 112, 105]⟩)]), .mk (some (18, true)) (some 21) (.call 17 [.tmp 19, .const (.int .i64 6), .const (.string ⟨#[111, 112, 115]⟩), .tmp 20]), .mk (some (18, true)) (some 22) (.un .not (.tmp 21)), .mk none (some 23) (.pick (.tmp 18) (.tmp 22) (.const (.bool false))), .mk none (some 0) (.mv (.tmp 23))] (some [0])) .ret)))
theorem ok_zz6t : compC Tryz.prog an_zz6t (Tryz.f19.body.getD .skip) = some ac_zz6t := by kernel_rfl
theorem dst_zz6t : ac_zz6t.dstOK Tryz.f19.ntmps (fun i => decide (i < Tryz.f19.ntmps)) = true := by kernel_rfl

def an_zkdi4 : Ann := ⟨[(0, [0, 1, 4]), (1, [4])], [], []⟩
def ac_zkdi4 : AC := (.seq (.region [.mk none (some 4) (.alloc 24 [.pd (.raw (.int .i64 0)), .pd (.raw (.string ⟨#[]⟩)), .pd (.raw (.string ⟨#[]⟩))])] (some [0, 1, 4])) (.seq (.region [.mk none (some 5) (.mv (.tmp 0)), .mk none (some 6) (.mv (.tmp 1)), .mk none (some 7) (.build [.pd (.raw (.int .i64 0)), .pd (.raw (.string ⟨#[]⟩)), .pd (.raw (.string ⟨#[]⟩))] [(0, 1, .const (.int .i64 3)), (1, 1, .tmp 5), (2, 1, .tmp 6)]), .mk none none (.store 3 (.tmp 4) (.tmp 7))] (some [4])) .ret))
theorem ok_zkdi4 : compC Tryz.prog an_zkdi4 (Tryz.f54.body.getD .skip) = some ac_zkdi4 := by kernel_rfl
theorem ret_zkdi4 (st : St) : resD Tryz.prog st Tryz.f54.results.toList = resA st [.cell 4 (some 3)] := resD_of (by kernel_rfl)
theorem dst_zkdi4 : ac_zkdi4.dstOK Tryz.f54.ntmps (fun i => decide (i < Tryz.f54.ntmps)) = true := by kernel_rfl

end Go.Proofs.YtjhomppadppfnaaGreatDoor

namespace Go.Proofs.YtjhomppadppfnaaGreatDoor
open Go Go.RowKit
set_option linter.unusedSimpArgs false
set_option linter.unusedVariables false
set_option maxRecDepth 100000

theorem beq_tt (b : Bool) : (b == b) = true := by cases b <;> rfl

structure AAsk where
  os : List AObj
  kind : Int
  space : ByteArray
  to : ARef

abbrev AAsk.pd (q : AAsk) : List PD := [.slice (rows AObj.pd q.os), pInt q.kind, pStr q.space, pInt q.to.kind, pStr q.to.space, pStr q.to.name]
abbrev AAsk.ds (q : AAsk) : List D := [.pd (.slice (rows AObj.pd q.os)), int q.kind, str q.space, int q.to.kind, str q.to.space, str q.to.name]
abbrev AAsk.d (q : AAsk) : D := .agg [.pd (.slice (rows AObj.pd q.os)), int q.kind, str q.space, int q.to.kind, str q.to.space, str q.to.name]

def cutAsk (q : AAsk) : AAsk := ⟨fewObjs q.os, q.kind, few q.space, fewRef q.to⟩

theorem law11_cut (q : AAsk) : Pure Tryz.prog 15 [q.d] (fun d => d = (cutAsk q).d) := by
  refine pure_of_run follows an_zaoe5 Tryz.func15 rfl ok_zaoe5 dst_zaoe5 (by simp [Tryz.ntmps15]) ?_
  rw [run_start]
  simp only [ac_zaoe5, go_sem, contS_seq, simprocAttr]
  repeat' (first | (refine (law11_Some q.os).callX (enters_of Tryz.func16 rfl rfl) _ rfl rfl ?_; rintro _ rfl; simp only [go_sem, contS_seq, simprocAttr]) | (refine (law1_Few q.space).callX (enters_of Tryz.func22 rfl rfl) _ rfl rfl ?_; rintro _ rfl; simp only [go_sem, contS_seq, simprocAttr]) | (refine (law9_FewRef q.to).callX (enters_of Tryz.func21 rfl rfl) _ rfl rfl ?_; rintro _ rfl; simp only [go_sem, contS_seq, simprocAttr]) | refine And.intro ?_ ?_)
  all_goals
    simp only [retK, fullK, iterK, resD, resA, AOp.ex, St.ev, Option.map_some, Option.bind_some, St.get, lk, reduceIte, Nat.reduceEqDiff, Option.getD_some, oneD, List.getElem?_cons_zero, List.getElem?_cons_succ, List.drop_zero, List.drop_succ_cons, List.take_succ_cons, List.take_zero, List.length_cons, List.length_nil, Nat.zero_add, Nat.reduceAdd, Nat.le_refl, Nat.reduceLeDiff, D.pub, D.pubs, ret_zaoe5]
    exact ⟨_, rfl, rfl, rfl⟩

theorem law11_service (a b : ByteArray) : Pure Tryz.prog 54 [str a, str b] (fun d => d = (ARef.mk 3 a b).d) := by
  refine pure_of_run follows an_zkdi4 Tryz.func54 rfl ok_zkdi4 dst_zkdi4 (by simp [Tryz.ntmps54]) ?_
  rw [run_start]
  simp only [ac_zkdi4, go_sem, contS_seq, simprocAttr]
  simp only [retK, fullK, iterK, resD, resA, AOp.ex, St.ev, Option.map_some, Option.bind_some, St.get, lk, reduceIte, Nat.reduceEqDiff, Option.getD_some, oneD, List.getElem?_cons_zero, List.getElem?_cons_succ, List.drop_zero, List.drop_succ_cons, List.take_succ_cons, List.take_zero, List.length_cons, List.length_nil, Nat.zero_add, Nat.reduceAdd, Nat.le_refl, Nat.reduceLeDiff, D.pub, D.pubs, ret_zkdi4]
  exact ⟨_, rfl, rfl, rfl⟩

def aGrant : AObj := ⟨⟨7, ⟨#[97, 112, 112]⟩, ⟨#[103]⟩⟩, false, [], [], ⟨#[]⟩, [], [], [], [], [⟨6, ⟨#[119, 101, 98]⟩, ⟨#[]⟩⟩], [⟨3, ⟨#[]⟩, ⟨#[97, 112, 105]⟩⟩]⟩

theorem aGrant_ok : aGrant.ok := by constructor <;> simp [aGrant]

theorem permits_grant (kind : Int) (space : ByteArray) (t : ARef) : Pure Tryz.prog 17 [.pd (.slice (rows AObj.pd [aGrant])), int kind, str space, t.d] (fun d => d = bln (permits [aGrant] kind space t)) :=
  grant_Permits' [aGrant] (by simp) (fun o h => by rw [List.mem_singleton.1 h]; exact aGrant_ok) kind space t

theorem awake11 : Pure Tryz.prog 19 [] (fun d => d = bln true) := by
  refine pure_of_run follows an_zz6t Tryz.func19 rfl ok_zz6t dst_zz6t (by simp [Tryz.ntmps19]) ?_
  rw [run_start]
  simp only [ac_zz6t, go_sem, contS_seq, simprocAttr]
  refine (law11_service ⟨#[97, 112, 112]⟩ ⟨#[97, 112, 105]⟩).callW (enters_of Tryz.func54 rfl rfl) _ rfl rfl ?_
  rintro _ rfl
  simp only [go_sem, contS_seq, simprocAttr]
  refine (permits_grant 6 ⟨#[119, 101, 98]⟩ ⟨3, ⟨#[97, 112, 112]⟩, ⟨#[97, 112, 105]⟩⟩).callW (enters_of Tryz.func17 rfl rfl) _ rfl rfl ?_
  rintro _ rfl
  rw [show permits [aGrant] 6 ⟨#[119, 101, 98]⟩ ⟨3, ⟨#[97, 112, 112]⟩, ⟨#[97, 112, 105]⟩⟩ = true by decide +kernel]
  simp only [go_sem, contS_seq, simprocAttr]
  refine (law11_service ⟨#[97, 112, 112]⟩ ⟨#[100, 98]⟩).callW (enters_of Tryz.func54 rfl rfl) _ rfl rfl ?_
  rintro _ rfl
  simp only [go_sem, contS_seq, simprocAttr]
  refine (permits_grant 6 ⟨#[119, 101, 98]⟩ ⟨3, ⟨#[97, 112, 112]⟩, ⟨#[100, 98]⟩⟩).callW (enters_of Tryz.func17 rfl rfl) _ rfl rfl ?_
  rintro _ rfl
  rw [show permits [aGrant] 6 ⟨#[119, 101, 98]⟩ ⟨3, ⟨#[97, 112, 112]⟩, ⟨#[100, 98]⟩⟩ = false by decide +kernel]
  simp only [go_sem, contS_seq, simprocAttr]
  refine (law11_service ⟨#[97, 112, 112]⟩ ⟨#[97, 112, 105]⟩).callW (enters_of Tryz.func54 rfl rfl) _ rfl rfl ?_
  rintro _ rfl
  simp only [go_sem, contS_seq, simprocAttr]
  refine (permits_grant 6 ⟨#[111, 112, 115]⟩ ⟨3, ⟨#[97, 112, 112]⟩, ⟨#[97, 112, 105]⟩⟩).callW (enters_of Tryz.func17 rfl rfl) _ rfl rfl ?_
  rintro _ rfl
  rw [show permits [aGrant] 6 ⟨#[111, 112, 115]⟩ ⟨3, ⟨#[97, 112, 112]⟩, ⟨#[97, 112, 105]⟩⟩ = false by decide +kernel]
  simp only [go_sem, contS_seq, simprocAttr]
  simp only [retK, fullK, iterK, resD, resA, AOp.ex, St.ev, Option.map_some, Option.bind_some, St.get, lk, reduceIte, Nat.reduceEqDiff, Option.getD_some, oneD, List.getElem?_cons_zero, List.getElem?_cons_succ, List.drop_zero, List.drop_succ_cons, List.take_succ_cons, List.take_zero, List.length_cons, List.length_nil, Nat.zero_add, Nat.reduceAdd, Nat.le_refl, Nat.reduceLeDiff, D.pub, D.pubs, Tryz.results19]
  exact ⟨_, rfl, rfl, rfl⟩

end Go.Proofs.YtjhomppadppfnaaGreatDoor

namespace Go.Proofs.YtjhomppadppfnaaGreatDoor
open Go Go.RowKit Go.ChangeShapes Go.WideShapes Go.ChangeAt Go.WideMaps Go.WideElems
set_option linter.unusedSimpArgs false
set_option linter.unusedVariables false
set_option maxRecDepth 100000

abbrev refShs : List Sh := [.int .i64, .str, .str]

theorem ref_row {r : List PD} (h : HasShs refShs r) : ∃ a, r = ARef.pd a := by
  cases h with
  | cons _ d1 _ _ a1 h1 =>
  cases h1 with
  | cons _ d2 _ _ a2 h2 =>
  cases h2 with
  | cons _ d3 _ _ a3 h3 =>
  cases h3
  cases a1 with
  | int _ x1 _ =>
  cases a2 with
  | str x2 _ =>
  cases a3 with
  | str x3 _ =>
  exact ⟨⟨x1, x2, x3⟩, rfl⟩

abbrev askShs : List Sh := [.slice objShs, .int .i64, .str, .int .i64, .str, .str]

theorem ask_row {r : List PD} (h : HasShs askShs r) : ∃ a, r = AAsk.pd a := by
  cases h with
  | cons _ d1 _ _ a1 h1 =>
  cases h1 with
  | cons _ d2 _ _ a2 h2 =>
  cases h2 with
  | cons _ d3 _ _ a3 h3 =>
  cases h3 with
  | cons _ d4 _ _ a4 h4 =>
  cases h4 with
  | cons _ d5 _ _ a5 h5 =>
  cases h5 with
  | cons _ d6 _ _ a6 h6 =>
  cases h6
  cases a1 with
  | slice _ els1 _ k1 =>
  obtain ⟨x1, rfl⟩ := rows_of obj_row k1
  cases a2 with
  | int _ x2 _ =>
  cases a3 with
  | str x3 _ =>
  cases a4 with
  | int _ x4 _ =>
  cases a5 with
  | str x5 _ =>
  cases a6 with
  | str x6 _ =>
  exact ⟨⟨x1, x2, x3, ⟨x4, x5, x6⟩⟩, rfl⟩

section
variable {H : Type} {enc : TypeId × Value → H} {P : Program} {W : World} {base : Nat} {spare : Nat → Bool} {held : Bool}

theorem arg_ref {t : TypeId} {fs : Array Field} {v : Value} {d : DataW H} {ps : List MemPlace} {n : Nat} (hu : P.underlying t = some (.struct fs)) (hv : Value.okWide P W .any base t v) (h : DataW.Trod enc P W 0 spare held t v d ps)
    (hs : shp P n t = some refShs) : ∃ o : ARef, Rep (gh0 (allFz W)) W o.d v := by
  obtain ⟨ds, h1, h2⟩ := arg_struct hu hv h hs
  obtain ⟨o, rfl⟩ := ref_row h2
  exact ⟨o, h1⟩

theorem arg_ask {t : TypeId} {fs : Array Field} {v : Value} {d : DataW H} {ps : List MemPlace} {n : Nat} (hu : P.underlying t = some (.struct fs)) (hv : Value.okWide P W .any base t v) (h : DataW.Trod enc P W 0 spare held t v d ps)
    (hs : shp P n t = some askShs) : ∃ o : AAsk, Rep (gh0 (allFz W)) W o.d v := by
  obtain ⟨ds, h1, h2⟩ := arg_struct hu hv h hs
  obtain ⟨o, rfl⟩ := ask_row h2
  exact ⟨o, h1⟩
end

end Go.Proofs.YtjhomppadppfnaaGreatDoor

namespace Go.Proofs.YtjhomppadppfnaaGreatDoor
open Go Go.RowKit
set_option linter.unusedSimpArgs false
set_option linter.unusedVariables false
set_option maxRecDepth 100000

section
variable {α : Type} [DecidableEq α]

def atG (k : α) : List (α × Int) → Nat → Option (Nat × Int)
  | [], _ => none
  | (a, v) :: r, i => if k = a then some (i, v) else atG k r (i + 1)

def lookG (k : α) (l : List (α × Int)) : Int := match atG k l 0 with
  | some p => p.2
  | none => 0

def bumpG (k : α) (l : List (α × Int)) : List (α × Int) := match atG k l 0 with
  | some p => l.set p.1 (k, p.2 + 1)
  | none => l ++ [(k, 1)]

theorem atG_from (k : α) : ∀ (l : List (α × Int)) (i : Nat), atG k l (i + 1) = (atG k l i).map fun p => (p.1 + 1, p.2)
  | [], _ => rfl
  | (a, v) :: r, i => by
    simp only [atG]
    split
    · rfl
    · exact atG_from k r (i + 1)

theorem lookG_cons (k a : α) (v : Int) (r : List (α × Int)) : lookG k ((a, v) :: r) = if k = a then v else lookG k r := by
  unfold lookG
  simp only [atG]
  by_cases h : k = a
  · simp only [if_pos h]
  · simp only [if_neg h, atG_from]
    cases atG k r 0 <;> rfl

theorem bumpG_cons (k a : α) (v : Int) (r : List (α × Int)) : bumpG k ((a, v) :: r) = if k = a then (k, v + 1) :: r else (a, v) :: bumpG k r := by
  unfold bumpG
  simp only [atG]
  by_cases h : k = a
  · simp only [if_pos h, List.set_cons_zero]
  · simp only [if_neg h, atG_from]
    cases atG k r 0 <;> rfl

theorem lookG_bumpG (k j : α) : ∀ l : List (α × Int), lookG j (bumpG k l) = lookG j l + if j = k then 1 else 0
  | [] => by
    show lookG j ([] ++ [(k, 1)]) = _
    rw [List.nil_append, lookG_cons]
    split <;> rfl
  | (a, v) :: r => by
    rw [bumpG_cons, lookG_cons]
    by_cases h : k = a
    · rw [if_pos h, lookG_cons]
      subst h
      by_cases hj : j = k <;> simp [hj]
    · rw [if_neg h, lookG_cons, lookG_bumpG k j r]
      by_cases hj : j = a
      · subst hj
        simp [show ¬ j = k from fun e => h e.symm]
      · simp [hj]

def entG (f : α → List Value) (l : List (α × Int)) : List (Value × Value) := l.map fun p => (.agg (f p.1).toArray, .int .i64 p.2)

theorem findS_ent {ks : List LK} {f : α → List Value} (hf : ∀ a b, eqVs ks (f a) (f b) = some (decide (a = b))) (k : α) : ∀ (l : List (α × Int)) (i : Nat), findS ks (f k) (entG f l) i = some ((atG k l i).map fun p => (p.1, Value.int .i64 p.2))
  | [], _ => rfl
  | (a, v) :: r, i => by
    have ih := findS_ent hf k r (i + 1)
    simp only [entG, List.map_cons] at ih ⊢
    simp only [findS, atG, hf]
    by_cases h : k = a
    · simp only [h, decide_true, if_true, Option.map_some]
    · simp only [h, decide_false, if_false]
      exact ih

theorem cd_look (k : α) (l : List (α × Int)) (r : Option (Nat × Value)) (hr : r = (atG k l 0).map fun p => (p.1, Value.int .i64 p.2)) : cD0 ((Option.map (fun p => p.2) r).getD (.int .i64 0)) = int (lookG k l) := by
  subst hr
  unfold lookG
  cases atG k l 0 <;> rfl

theorem atG_at (k : α) : ∀ (l : List (α × Int)) (i : Nat) (p : Nat × Int), atG k l i = some p → i ≤ p.1 ∧ p.1 - i < l.length
  | [], _, _, h => by simp [atG] at h
  | (a, v) :: r, i, p, h => by
    simp only [atG] at h
    split at h
    · cases h; simp
    · have := atG_at k r (i + 1) p h
      simp only [List.length_cons]
      omega

theorem setAt_nat (es : List (Value × Value)) (p : Nat) (u : Value) : setAt es (p : Int) u = (es[p]?).map fun e => es.set p (e.1, u) := by
  unfold setAt
  rw [if_pos (Int.natCast_nonneg _), Int.toNat_natCast]

def touchG (k : α) (l : List (α × Int)) : List (α × Int) := match atG k l 0 with
  | some _ => l
  | none => l ++ [(k, 0)]

theorem atG_app (k : α) (m : List (α × Int)) : ∀ (l : List (α × Int)) (i : Nat), atG k l i = none → atG k (l ++ m) i = atG k m (i + l.length)
  | [], i, _ => by simp
  | (a, v) :: r, i, h => by
    simp only [atG] at h
    split at h
    · cases h
    · rename_i hk
      simp only [List.cons_append, atG, if_neg hk, List.length_cons]
      rw [atG_app k m r (i + 1) h, show i + 1 + r.length = i + (r.length + 1) by omega]

theorem look_touch (k : α) (l : List (α × Int)) : lookG k (touchG k l) = lookG k l := by
  unfold touchG
  cases h : atG k l 0 with
  | some p => rfl
  | none =>
    simp only
    unfold lookG
    rw [atG_app k _ l 0 h, h]
    simp [atG]

theorem getElem_at (k : α) : ∀ (l : List (α × Int)) (i : Nat) (p : Nat × Int), atG k l i = some p → l[p.1 - i]? = some (k, p.2)
  | [], _, _, h => by simp [atG] at h
  | (a, v) :: r, i, p, h => by
    have hb := atG_at k ((a, v) :: r) i p h
    simp only [atG] at h
    split at h
    · rename_i hk
      cases h
      simp [hk]
    · have h1 := getElem_at k r (i + 1) p h
      have h2 := atG_at k r (i + 1) p h
      rw [show p.1 - i = (p.1 - (i + 1)) + 1 by omega, List.getElem?_cons_succ]
      exact h1

theorem touch_put (f : α → List Value) (k : α) (l : List (α × Int)) (r : Option (Nat × Value)) (hr : r = (atG k l 0).map fun p => (p.1, Value.int .i64 p.2)) :
    putM (.agg (f k).toArray) ((Option.map (fun p => p.2) r).getD (.int .i64 0)) r (entG f l) = entG f (touchG k l) := by
  subst hr
  unfold touchG
  cases h : atG k l 0 with
  | none => simp [putM, entG]
  | some p =>
    simp only [Option.map_some, Option.getD_some, putM]
    have h1 := getElem_at k l 0 p h
    rw [Nat.sub_zero] at h1
    refine List.ext_getElem? fun m => ?_
    rw [List.getElem?_set]
    by_cases hm : p.1 = m
    · subst hm
      have := (List.getElem?_eq_some_iff.1 h1).1
      simp [entG, h1, this, (List.getElem?_eq_some_iff.1 h1).2]
    · simp [hm]

theorem set_bump (f : α → List Value) (k : α) (l : List (α × Int)) (r : Option (Nat × Value)) (hr : r = (atG k l 0).map fun p => (p.1, Value.int .i64 p.2)) :
    setAt (putM (.agg (f k).toArray) ((Option.map (fun p => p.2) r).getD (.int .i64 0)) r (entG f l)) (stampM r (entG f l)) (.int .i64 (lookG k l + 1)) = some (entG f (bumpG k l)) := by
  subst hr
  unfold lookG bumpG
  cases h : atG k l 0 with
  | none =>
    show setAt (entG f l ++ [(Value.agg (f k).toArray, Value.int .i64 0)]) ((entG f l).length : Nat) (.int .i64 (0 + 1)) = _
    rw [setAt_nat]
    simp [entG]
  | some p =>
    have := atG_at k l 0 p h
    have hl : p.1 < l.length := by omega
    show setAt ((entG f l).set p.1 (Value.agg (f k).toArray, Value.int .i64 p.2)) (p.1 : Nat) (.int .i64 (p.2 + 1)) = _
    rw [setAt_nat]
    simp [entG, List.map_set, hl]

theorem count_step {β : Type} {f : β → α} {l : List β} {i : Nat} {x : β} (h : l[i]? = some x) {es : List (α × Int)} (hes : ∀ k, lookG k es = ((l.take i).countP fun y => decide (f y = k) : Nat)) (k : α) :
    lookG k (bumpG (f x) es) = ((l.take (i + 1)).countP fun y => decide (f y = k) : Nat) := by
  rw [lookG_bumpG, hes, take_at h, List.countP_append]
  by_cases hk : k = f x
  · subst hk; simp
  · simp [hk, show ¬ f x = k from fun e => hk e.symm]
end

end Go.Proofs.YtjhomppadppfnaaGreatDoor

namespace Go.Proofs.YtjhomppadppfnaaGreatDoor
open Go

def an_zqssv : Ann := ⟨[(0, [0, 3]), (1, [0, 3]), (2, [0, 3, 5]), (3, [0, 3, 5, 18]), (4, [0, 3, 5]), (5, [0, 3, 5, 6]), (6, [0, 3, 5, 6, 7]), (7, [0, 3, 5, 6, 7, 28]), (8, [0, 3, 5, 6, 7]), (9, [0, 3, 5, 6, 7, 8]), (10, [0, 3, 5, 6, 7, 9]), (11, [0, 3, 5, 6, 7, 9, 67]), (12, [4]), (13, [0, 3, 5, 6, 7, 79]), (14, [4]), (15, [4])], [(1, ([0, 1, 0, 7, 15, 31], .take 0 (.take 2 (.alts (.cons 1 false (.alts (.cons 3 true (.take 4 (.alts (.cons 5 true (.done) (.nil)))) (.nil))) (.nil)))))), (13, ([0, 1, 3, 3, 15, 31, 3, 3, 223, 479, 1023, 2047], .take 0 (.take 1 (.take 2 (.take 3 (.take 6 (.take 7 (.alts (.cons 4 false (.take 5 (.alts (.cons 8 false (.take 9 (.take 10 (.take 11 (.done)))) (.nil)))) (.nil))))))))))], []⟩
def ac_zqssv : AC := (.seq (.region [.mk none (some 3) (.box 39 (.tmp 1)), .mk none (some 4) (.mv (.const (.bool false)))] (some [0, 3])) (.seq (.draw [.mk none (some 10) (.mv (.tmp 0)), .mk none (some 11) (.call 16 [.tmp 10]), .mk none (some 12) (.load (some 13) (.tmp 3)), .mk none (some 13) (.call 20 [.tmp 12]), .mk none (some 0) (.mv (.tmp 11)), .mk none none (.store 13 (.tmp 3) (.tmp 13))] [0, 1, 0, 7, 15, 31] (.take 0 (.take 2 (.alts (.cons 1 false (.alts (.cons 3 true (.take 4 (.alts (.cons 5 true .done .nil))) .nil)) .nil)))) (some [0, 3])) (.seq (.seq (.region [.mk none (some 5) (.mv (.const (.int .i64 0)))] (some [0, 3, 5])) (.block 0 (.loop (.seq (.seq (.region [.mk none (some 14) (.mv (.tmp 5)), .mk none (some 15) (.fieldA 7 (.tmp 3)), .mk none (some 16) (.load none (.tmp 15)), .mk none (some 17) (.len (.tmp 16) false), .mk none (some 18) (.bin .lss (.tmp 14) (.tmp 17))] (some [0, 3, 5, 18])) (.cond (.tmp 18) .skip (.exit 0))) (.seq (.block 1 (.seq (.region [.mk none (some 21) (.fieldA 7 (.tmp 3)), .mk none (some 22) (.load none (.tmp 21)), .mk none (some 23) (.mv (.tmp 5)), .mk none (some 24) (.idxA 9 (.tmp 22) (.tmp 23)), .mk none (some 25) (.load (some 9) (.tmp 24)), .mk none (some 6) (.alloc 82 [.pd (.raw (.string ⟨#[]⟩)), .pd (.raw (.int .i64 0)), .pd (.raw (.bool false)), .pd (.raw (.string ⟨#[]⟩)), .pd (.raw (.int .i64 0)), .pd (.raw (.string ⟨#[]⟩)), .pd (.raw (.string ⟨#[]⟩)), .pd (.raw (.int .i64 0)), .nils]), .mk none none (.store 9 (.tmp 6) (.tmp 25))] (some [0, 3, 5, 6])) (.seq (.region [.mk none (some 7) (.mv (.const (.int .i64 0)))] (some [0, 3, 5, 6, 7])) (.block 2 (.loop (.seq (.seq (.region [.mk none (some 26) (.mv (.tmp 7)), .mk none (some 27) (.mv (.tmp 5)), .mk none (some 28) (.bin .lss (.tmp 26) (.tmp 27))] (some [0, 3, 5, 6, 7, 28])) (.cond (.tmp 28) .skip (.exit 2))) (.seq (.block 3 (.seq (.region [.mk none (some 31) (.fieldA 7 (.tmp 3)), .mk none (some 32) (.load none (.tmp 31)), .mk none (some 33) (.mv (.tmp 7)), .mk none (some 34) (.idxA 9 (.tmp 32) (.tmp 33)), .mk none (some 35) (.load (some 9) (.tmp 34)), .mk none (some 8) (.alloc 82 [.pd (.raw (.string ⟨#[]⟩)), .pd (.raw (.int .i64 0)), .pd (.raw (.bool false)), .pd (.raw (.string ⟨#[]⟩)), .pd (.raw (.int .i64 0)), .pd (.raw (.string ⟨#[]⟩)), .pd (.raw (.string ⟨#[]⟩)), .pd (.raw (.int .i64 0)), .nils]), .mk none none (.store 9 (.tmp 8) (.tmp 35))] (some [0, 3, 5, 6, 7, 8])) (.seq (.region [.mk none (some 36) (.fieldA 1 (.tmp 6)), .mk none (some 37) (.load none (.tmp 36)), .mk none (some 38) (.fieldA 1 (.tmp 8)), .mk none (some 39) (.load none (.tmp 38)), .mk none (some 40) (.bin .eql (.tmp 37) (.tmp 39)), .mk none (some 41) (.mv (.tmp 40)), .mk (some (41, true)) (some 42) (.fieldA 2 (.tmp 6)), .mk (some (41, true)) (some 43) (.load none (.tmp 42)), .mk (some (41, true)) (some 44) (.fieldA 2 (.tmp 8)), .mk (some (41, true)) (some 45) (.load none (.tmp 44)), .mk (some (41, true)) (some 46) (.binB true (.tmp 43) (.tmp 45)), .mk (some (41, true)) (some 47) (.mv (.tmp 46)), .mk (some (47, false)) (some 48) (.fieldA 3 (.tmp 6)), .mk (some (47, false)) (some 49) (.load none (.tmp 48)), .mk (some (47, false)) (some 50) (.fieldA 3 (.tmp 8)), .mk (some (47, false)) (some 51) (.load none (.tmp 50)), .mk (some (47, false)) (some 52) (.bin .eql (.tmp 49) (.tmp 51)), .mk (some (41, true)) (some 53) (.pick (.tmp 47) (.const (.bool true)) (.tmp 52)), .mk none (some 54) (.pick (.tmp 41) (.tmp 53) (.const (.bool false))), .mk none (some 9) (.mv (.tmp 54))] (some [0, 3, 5, 6, 7, 9])) (.seq (.seq (.region [.mk none (some 55) (.mv (.tmp 9)), .mk none (some 56) (.mv (.tmp 55)), .mk (some (56, true)) (some 57) (.mv (.tmp 0)), .mk (some (56, true)) (some 58) (.load (some 13) (.tmp 3)), .mk (some (56, true)) (some 59) (.mv (.tmp 5)), .mk (some (56, true)) (some 60) (.call 44 [.tmp 57, .tmp 58, .tmp 59]), .mk (some (56, true)) (some 61) (.mv (.tmp 60)), .mk (some (61, false)) (some 62) (.mv (.tmp 0)), .mk (some (61, false)) (some 63) (.load (some 13) (.tmp 3)), .mk (some (61, false)) (some 64) (.mv (.tmp 7)), .mk (some (61, false)) (some 65) (.call 44 [.tmp 62, .tmp 63, .tmp 64]), .mk (some (56, true)) (some 66) (.pick (.tmp 61) (.const (.bool true)) (.tmp 65)), .mk none (some 67) (.pick (.tmp 56) (.tmp 66) (.const (.bool false)))] (some [0, 3, 5, 6, 7, 9, 67])) (.cond (.tmp 67) (.seq (.region [.mk none (some 4) (.mv (.const (.bool false)))] (some [4])) .ret) .skip)) (.seq (.draw [.mk none (some 68) (.mv (.tmp 9)), .mk none (some 69) (.mv (.tmp 68)), .mk (some (69, true)) (some 70) (.load (some 13) (.tmp 3)), .mk (some (69, true)) (some 71) (.mv (.tmp 5)), .mk (some (69, true)) (some 72) (.call 45 [.tmp 70, .tmp 71]), .mk (some (69, true)) (some 73) (.bin .eql (.tmp 72) (.const (.string ⟨#[]⟩))), .mk (some (69, true)) (some 74) (.load (some 13) (.tmp 3)), .mk (some (69, true)) (some 75) (.mv (.tmp 7)), .mk (some (69, true)) (some 76) (.call 45 [.tmp 74, .tmp 75]), .mk (some (69, true)) (some 77) (.bin .eql (.tmp 76) (.const (.string ⟨#[]⟩))), .mk (some (69, true)) (some 78) (.binB true (.tmp 73) (.tmp 77)), .mk none (some 79) (.pick (.tmp 69) (.tmp 78) (.const (.bool false)))] [0, 1, 3, 3, 15, 31, 3, 3, 223, 479, 1023, 2047] (.take 0 (.take 1 (.take 2 (.take 3 (.take 6 (.take 7 (.alts (.cons 4 false (.take 5 (.alts (.cons 8 false (.take 9 (.take 10 (.take 11 .done))) .nil))) .nil)))))))) (some [0, 3, 5, 6, 7, 79])) (.cond (.tmp 79) (.seq (.region [.mk none (some 4) (.mv (.const (.bool false)))] (some [4])) .ret) .skip)))))) (.region [.mk none (some 29) (.mv (.tmp 7)), .mk none (some 30) (.bin .add (.tmp 29) (.const (.int .i64 1))), .mk none (some 7) (.mv (.tmp 30))] (some [0, 3, 5, 6, 7]))))))))) (.region [.mk none (some 19) (.mv (.tmp 5)), .mk none (some 20) (.bin .add (.tmp 19) (.const (.int .i64 1))), .mk none (some 5) (.mv (.tmp 20))] (some [0, 3, 5]))))))) (.seq (.region [.mk none (some 80) (.call 46 []), .mk none (some 4) (.mv (.tmp 80))] (some [4])) .ret))))
theorem ok_zqssv : compC Tryz.prog an_zqssv (Tryz.f11.body.getD .skip) = some ac_zqssv := by kernel_rfl
theorem dst_zqssv : ac_zqssv.dstOK Tryz.f11.ntmps (fun i => decide (i < Tryz.f11.ntmps)) = true := by kernel_rfl

def an_z1u3e : Ann := ⟨[(0, [0, 2, 4]), (1, [0, 2, 4]), (2, [0, 2, 4, 7, 8]), (3, [0, 2, 4, 7, 8, 9]), (4, [0, 2, 4, 7, 8, 9, 19]), (5, [0, 2, 4, 7, 8, 9]), (6, [0, 2, 4, 7, 8, 9, 10]), (7, [0, 2, 4, 7, 8, 9, 10, 41]), (8, [0, 2, 4, 7, 8, 9, 10]), (9, [0, 2, 4, 7, 8, 9, 50]), (10, [0, 2, 4, 7, 8, 9]), (11, [0, 2, 4, 8, 77]), (12, [6]), (13, [0, 2, 4, 8, 11]), (14, [6])], [(1, ([0, 1, 0, 7, 15, 31], .take 0 (.take 2 (.alts (.cons 1 false (.alts (.cons 3 true (.take 4 (.alts (.cons 5 true (.done) (.nil)))) (.nil))) (.nil)))))), (11, ([0, 0, 0, 7, 0, 0, 0, 127, 255, 511, 1023, 1023, 1023, 8191, 1023, 1023, 1023, 131071, 262143, 524287], .take 0 (.take 1 (.take 2 (.take 4 (.take 5 (.take 6 (.alts (.cons 3 false (.alts (.cons 7 true (.take 8 (.take 9 (.take 10 (.take 11 (.take 12 (.take 14 (.take 15 (.take 16 (.alts (.cons 13 false (.alts (.cons 17 true (.take 18 (.take 19 (.done))) (.nil))) (.nil))))))))))) (.nil))) (.nil)))))))))), (14, ([0, 1, 3, 7, 7, 7, 63, 7, 7, 7, 1023, 2047, 4095, 8191, 16383, 32767, 65535], .take 0 (.take 1 (.take 2 (.take 3 (.take 4 (.take 5 (.take 7 (.take 8 (.take 9 (.alts (.cons 6 false (.alts (.cons 10 true (.take 11 (.take 12 (.take 13 (.alts (.cons 14 true (.take 15 (.take 16 (.done))) (.nil)))))) (.nil))) (.nil)))))))))))))], []⟩
def ac_z1u3e : AC := (.seq (.region [.mk none (some 4) (.box 39 (.tmp 1)), .mk none (some 6) (.mv (.const (.bool false)))] (some [0, 2, 4])) (.seq (.draw [.mk none (some 12) (.mv (.tmp 0)), .mk none (some 13) (.call 16 [.tmp 12]), .mk none (some 14) (.load (some 13) (.tmp 4)), .mk none (some 15) (.call 20 [.tmp 14]), .mk none (some 0) (.mv (.tmp 13)), .mk none none (.store 13 (.tmp 4) (.tmp 15))] [0, 1, 0, 7, 15, 31] (.take 0 (.take 2 (.alts (.cons 1 false (.alts (.cons 3 true (.take 4 (.alts (.cons 5 true .done .nil))) .nil)) .nil)))) (some [0, 2, 4])) (.seq (.region [.mk none (some 7) (.mv (.const (.slice none 0 0))), .mk none (some 8) (.mv (.const (.slice none 0 0)))] (some [0, 2, 4, 7, 8])) (.seq (.seq (.region [.mk none (some 9) (.mv (.const (.int .i64 0)))] (some [0, 2, 4, 7, 8, 9])) (.block 0 (.loop (.seq (.seq (.region [.mk none (some 16) (.mv (.tmp 9)), .mk none (some 17) (.mv (.tmp 0)), .mk none (some 18) (.len (.tmp 17) false), .mk none (some 19) (.bin .lss (.tmp 16) (.tmp 18))] (some [0, 2, 4, 7, 8, 9, 19])) (.cond (.tmp 19) .skip (.exit 0))) (.seq (.block 1 (.seq (.region [.mk none (some 22) (.mv (.tmp 0)), .mk none (some 23) (.mv (.tmp 9)), .mk none (some 24) (.idxA 13 (.tmp 22) (.tmp 23)), .mk none (some 25) (.fieldA 0 (.tmp 24)), .mk none (some 26) (.fieldA 0 (.tmp 25)), .mk none (some 27) (.load none (.tmp 26)), .mk none (some 10) (.mv (.tmp 27))] (some [0, 2, 4, 7, 8, 9, 10])) (.seq (.seq (.region [.mk none (some 28) (.mv (.tmp 10)), .mk none (some 29) (.bin .neq (.tmp 28) (.const (.int .i64 6))), .mk none (some 30) (.mv (.tmp 29)), .mk (some (30, true)) (some 31) (.mv (.tmp 10)), .mk (some (30, true)) (some 32) (.bin .neq (.tmp 31) (.const (.int .i64 5))), .mk none (some 33) (.pick (.tmp 30) (.tmp 32) (.const (.bool false))), .mk none (some 34) (.mv (.tmp 33)), .mk (some (34, true)) (some 35) (.mv (.tmp 10)), .mk (some (34, true)) (some 36) (.bin .neq (.tmp 35) (.const (.int .i64 3))), .mk none (some 37) (.pick (.tmp 34) (.tmp 36) (.const (.bool false))), .mk none (some 38) (.mv (.tmp 37)), .mk (some (38, true)) (some 39) (.mv (.tmp 10)), .mk (some (38, true)) (some 40) (.bin .neq (.tmp 39) (.const (.int .i64 2))), .mk none (some 41) (.pick (.tmp 38) (.tmp 40) (.const (.bool false)))] (some [0, 2, 4, 7, 8, 9, 10, 41])) (.cond (.tmp 41) (.region [.mk none (some 42) (.mv (.tmp 7)), .mk none (some 43) (.mv (.tmp 0)), .mk none (some 44) (.mv (.tmp 9)), .mk none (some 45) (.idxA 13 (.tmp 43) (.tmp 44)), .mk none (some 46) (.load (some 13) (.tmp 45)), .mk none (some 47) (.bslice 39 13 [.tmp 46]), .mk none (some 48) (.append 39 13 256 (.tmp 42) (.tmp 47)), .mk none (some 7) (.mv (.tmp 48))] (some [0, 2, 4, 7, 8, 9, 10])) .skip)) (.seq (.region [.mk none (some 49) (.mv (.tmp 10)), .mk none (some 50) (.bin .eql (.tmp 49) (.const (.int .i64 1)))] (some [0, 2, 4, 7, 8, 9, 50])) (.cond (.tmp 50) (.region [.mk none (some 51) (.mv (.tmp 8)), .mk none (some 52) (.mv (.tmp 0)), .mk none (some 53) (.mv (.tmp 9)), .mk none (some 54) (.idxA 13 (.tmp 52) (.tmp 53)), .mk none (some 55) (.load (some 13) (.tmp 54)), .mk none (some 56) (.bslice 39 13 [.tmp 55]), .mk none (some 57) (.append 39 13 256 (.tmp 51) (.tmp 56)), .mk none (some 8) (.mv (.tmp 57))] (some [0, 2, 4, 7, 8, 9])) .skip))))) (.region [.mk none (some 20) (.mv (.tmp 9)), .mk none (some 21) (.bin .add (.tmp 20) (.const (.int .i64 1))), .mk none (some 9) (.mv (.tmp 21))] (some [0, 2, 4, 7, 8, 9]))))))) (.seq (.seq (.draw [.mk none (some 58) (.mv (.tmp 7)), .mk none (some 59) (.load (some 13) (.tmp 4)), .mk none (some 60) (.mv (.tmp 2)), .mk none (some 61) (.call 44 [.tmp 58, .tmp 59, .tmp 60]), .mk none (some 62) (.mv (.tmp 0)), .mk none (some 63) (.load (some 13) (.tmp 4)), .mk none (some 64) (.mv (.tmp 2)), .mk none (some 65) (.call 44 [.tmp 62, .tmp 63, .tmp 64]), .mk none (some 66) (.binB true (.tmp 61) (.tmp 65)), .mk none (some 67) (.mv (.tmp 66)), .mk (some (67, false)) (some 68) (.mv (.tmp 7)), .mk (some (67, false)) (some 69) (.load (some 13) (.tmp 4)), .mk (some (67, false)) (some 70) (.mv (.tmp 2)), .mk (some (67, false)) (some 71) (.call 47 [.tmp 68, .tmp 69, .tmp 70]), .mk (some (67, false)) (some 72) (.mv (.tmp 0)), .mk (some (67, false)) (some 73) (.load (some 13) (.tmp 4)), .mk (some (67, false)) (some 74) (.mv (.tmp 2)), .mk (some (67, false)) (some 75) (.call 47 [.tmp 72, .tmp 73, .tmp 74]), .mk (some (67, false)) (some 76) (.bin .neq (.tmp 71) (.tmp 75)), .mk none (some 77) (.pick (.tmp 67) (.const (.bool true)) (.tmp 76))] [0, 0, 0, 7, 0, 0, 0, 127, 255, 511, 1023, 1023, 1023, 8191, 1023, 1023, 1023, 131071, 262143, 524287] (.take 0 (.take 1 (.take 2 (.take 4 (.take 5 (.take 6 (.alts (.cons 3 false (.alts (.cons 7 true (.take 8 (.take 9 (.take 10 (.take 11 (.take 12 (.take 14 (.take 15 (.take 16 (.alts (.cons 13 false (.alts (.cons 17 true (.take 18 (.take 19 .done)) .nil)) .nil)))))))))) .nil)) .nil)))))))) (some [0, 2, 4, 8, 77])) (.cond (.tmp 77) (.seq (.region [.mk none (some 6) (.mv (.const (.bool false)))] (some [6])) .ret) .skip)) (.seq (.region [.mk none (some 78) (.mv (.tmp 2)), .mk none (some 79) (.bin .geq (.tmp 78) (.const (.int .i64 0))), .mk none (some 80) (.mv (.tmp 79)), .mk (some (80, true)) (some 81) (.mv (.tmp 2)), .mk (some (80, true)) (some 82) (.fieldA 7 (.tmp 4)), .mk (some (80, true)) (some 83) (.load none (.tmp 82)), .mk (some (80, true)) (some 84) (.len (.tmp 83) false), .mk (some (80, true)) (some 85) (.bin .lss (.tmp 81) (.tmp 84)), .mk none (some 86) (.pick (.tmp 80) (.tmp 85) (.const (.bool false))), .mk none (some 87) (.mv (.tmp 86)), .mk (some (87, true)) (some 88) (.fieldA 7 (.tmp 4)), .mk (some (87, true)) (some 89) (.load none (.tmp 88)), .mk (some (87, true)) (some 90) (.mv (.tmp 2)), .mk (some (87, true)) (some 91) (.idxA 9 (.tmp 89) (.tmp 90)), .mk (some (87, true)) (some 92) (.fieldA 2 (.tmp 91)), .mk (some (87, true)) (some 93) (.load none (.tmp 92)), .mk (some (87, true)) (some 94) (.un .not (.tmp 93)), .mk none (some 95) (.pick (.tmp 87) (.tmp 94) (.const (.bool false))), .mk none (some 11) (.mv (.tmp 95))] (some [0, 2, 4, 8, 11])) (.seq (.draw [.mk none (some 96) (.mv (.tmp 11)), .mk none (some 97) (.un .not (.tmp 96)), .mk none (some 98) (.mv (.tmp 97)), .mk (some (98, false)) (some 99) (.mv (.tmp 8)), .mk (some (98, false)) (some 100) (.load (some 13) (.tmp 4)), .mk (some (98, false)) (some 101) (.mv (.tmp 2)), .mk (some (98, false)) (some 102) (.call 44 [.tmp 99, .tmp 100, .tmp 101]), .mk (some (98, false)) (some 103) (.mv (.tmp 0)), .mk (some (98, false)) (some 104) (.load (some 13) (.tmp 4)), .mk (some (98, false)) (some 105) (.mv (.tmp 2)), .mk (some (98, false)) (some 106) (.call 44 [.tmp 103, .tmp 104, .tmp 105]), .mk (some (98, false)) (some 107) (.binB false (.tmp 102) (.tmp 106)), .mk none (some 108) (.pick (.tmp 98) (.const (.bool true)) (.tmp 107)), .mk none (some 109) (.mv (.tmp 108)), .mk (some (109, true)) (some 110) (.call 46 []), .mk none (some 111) (.pick (.tmp 109) (.tmp 110) (.const (.bool false))), .mk none (some 6) (.mv (.tmp 111))] [0, 1, 3, 7, 7, 7, 63, 7, 7, 7, 1023, 2047, 4095, 8191, 16383, 32767, 65535] (.take 0 (.take 1 (.take 2 (.take 3 (.take 4 (.take 5 (.take 7 (.take 8 (.take 9 (.alts (.cons 6 false (.alts (.cons 10 true (.take 11 (.take 12 (.take 13 (.alts (.cons 14 true (.take 15 (.take 16 .done)) .nil))))) .nil)) .nil))))))))))) (some [6])) .ret)))))))
theorem ok_z1u3e : compC Tryz.prog an_z1u3e (Tryz.f12.body.getD .skip) = some ac_z1u3e := by kernel_rfl
theorem dst_z1u3e : ac_z1u3e.dstOK Tryz.f12.ntmps (fun i => decide (i < Tryz.f12.ntmps)) = true := by kernel_rfl

def an_zxmey : Ann := ⟨[(0, [0, 2, 4]), (1, [0, 2, 4]), (2, [0, 2, 4, 33]), (3, [6]), (4, [0, 2, 4, 7]), (5, [0, 2, 4, 7, 8]), (6, [0, 2, 4, 7, 8, 9]), (7, [0, 2, 4, 7, 8, 9, 40]), (8, [0, 2, 4, 7, 8, 9]), (9, [0, 2, 4, 7, 8, 9, 60]), (10, [6]), (11, [0, 4, 7]), (12, [0, 4, 7, 10]), (13, [0, 4, 7, 10, 11]), (14, [0, 4, 7, 10, 11, 77]), (15, [0, 4, 7, 10, 11]), (16, [0, 4, 7, 10, 11, 97]), (17, [6]), (18, [6])], [(1, ([0, 1, 0, 7, 15, 31], .take 0 (.take 2 (.alts (.cons 1 false (.alts (.cons 3 true (.take 4 (.alts (.cons 5 true (.done) (.nil)))) (.nil))) (.nil)))))), (16, ([0, 0, 0, 7, 0, 0, 0, 127, 255, 511, 1023, 1023, 4095, 1023, 1023, 32767, 65535, 131071], .take 0 (.take 1 (.take 2 (.take 4 (.take 5 (.take 6 (.alts (.cons 3 false (.alts (.cons 7 true (.take 8 (.take 9 (.take 10 (.take 11 (.take 13 (.take 14 (.alts (.cons 12 false (.alts (.cons 15 true (.take 16 (.take 17 (.done))) (.nil))) (.nil))))))))) (.nil))) (.nil))))))))))], []⟩
def ac_zxmey : AC := (.seq (.region [.mk none (some 4) (.box 39 (.tmp 1)), .mk none (some 6) (.mv (.const (.bool false)))] (some [0, 2, 4])) (.seq (.draw [.mk none (some 12) (.mv (.tmp 0)), .mk none (some 13) (.call 16 [.tmp 12]), .mk none (some 14) (.load (some 13) (.tmp 4)), .mk none (some 15) (.call 20 [.tmp 14]), .mk none (some 0) (.mv (.tmp 13)), .mk none none (.store 13 (.tmp 4) (.tmp 15))] [0, 1, 0, 7, 15, 31] (.take 0 (.take 2 (.alts (.cons 1 false (.alts (.cons 3 true (.take 4 (.alts (.cons 5 true .done .nil))) .nil)) .nil)))) (some [0, 2, 4])) (.seq (.seq (.region [.mk none (some 16) (.mv (.tmp 0)), .mk none (some 17) (.load (some 13) (.tmp 4)), .mk none (some 18) (.call 48 [.tmp 16, .tmp 17]), .mk none (some 19) (.un .not (.tmp 18)), .mk none (some 20) (.mv (.tmp 19)), .mk (some (20, false)) (some 21) (.fieldA 7 (.tmp 4)), .mk (some (20, false)) (some 22) (.load none (.tmp 21)), .mk (some (20, false)) (some 23) (.len (.tmp 22) false), .mk (some (20, false)) (some 24) (.bin .gtr (.tmp 23) (.const (.int .i64 7))), .mk none (some 25) (.pick (.tmp 20) (.const (.bool true)) (.tmp 24)), .mk none (some 26) (.mv (.tmp 25)), .mk (some (26, false)) (some 27) (.mv (.tmp 2)), .mk (some (26, false)) (some 28) (.bin .lss (.tmp 27) (.const (.int .i64 1))), .mk none (some 29) (.pick (.tmp 26) (.const (.bool true)) (.tmp 28)), .mk none (some 30) (.mv (.tmp 29)), .mk (some (30, false)) (some 31) (.mv (.tmp 2)), .mk (some (30, false)) (some 32) (.bin .gtr (.tmp 31) (.const (.int .i64 65535))), .mk none (some 33) (.pick (.tmp 30) (.const (.bool true)) (.tmp 32))] (some [0, 2, 4, 33])) (.cond (.tmp 33) (.seq (.region [.mk none (some 34) (.call 46 []), .mk none (some 6) (.mv (.tmp 34))] (some [6])) .ret) .skip)) (.seq (.region [.mk none (some 35) (.load (some 13) (.tmp 4)), .mk none (some 7) (.alloc 39 [.pd (.raw (.int .i64 0)), .pd (.raw (.string ⟨#[]⟩)), .pd (.raw (.string ⟨#[]⟩)), .pd (.raw (.bool false)), .nils, .nils, .pd (.raw (.string ⟨#[]⟩)), .nils, .nils, .nils, .nils, .nils, .nils]), .mk none none (.store 13 (.tmp 7) (.tmp 35))] (some [0, 2, 4, 7])) (.seq (.region [.mk none (some 8) (.mv (.const (.string ⟨#[122, 57]⟩)))] (some [0, 2, 4, 7, 8])) (.seq (.seq (.region [.mk none (some 9) (.mv (.const (.int .i64 0)))] (some [0, 2, 4, 7, 8, 9])) (.block 0 (.loop (.seq (.seq (.region [.mk none (some 36) (.mv (.tmp 9)), .mk none (some 37) (.fieldA 7 (.tmp 4)), .mk none (some 38) (.load none (.tmp 37)), .mk none (some 39) (.len (.tmp 38) false), .mk none (some 40) (.bin .lss (.tmp 36) (.tmp 39))] (some [0, 2, 4, 7, 8, 9, 40])) (.cond (.tmp 40) .skip (.exit 0))) (.seq (.block 1 (.seq (.region [.mk none (some 43) (.fieldA 7 (.tmp 4)), .mk none (some 44) (.load none (.tmp 43)), .mk none (some 45) (.mv (.tmp 9)), .mk none (some 46) (.idxA 9 (.tmp 44) (.tmp 45)), .mk none (some 47) (.fieldA 1 (.tmp 46)), .mk none (some 48) (.load none (.tmp 47)), .mk none (some 49) (.mv (.tmp 2)), .mk none (some 50) (.bin .eql (.tmp 48) (.tmp 49)), .mk none (some 51) (.mv (.tmp 50)), .mk (some (51, false)) (some 52) (.fieldA 7 (.tmp 4)), .mk (some (51, false)) (some 53) (.load none (.tmp 52)), .mk (some (51, false)) (some 54) (.mv (.tmp 9)), .mk (some (51, false)) (some 55) (.idxA 9 (.tmp 53) (.tmp 54)), .mk (some (51, false)) (some 56) (.fieldA 0 (.tmp 55)), .mk (some (51, false)) (some 57) (.load none (.tmp 56)), .mk (some (51, false)) (some 58) (.mv (.tmp 8)), .mk (some (51, false)) (some 59) (.bin .eql (.tmp 57) (.tmp 58)), .mk none (some 60) (.pick (.tmp 51) (.const (.bool true)) (.tmp 59))] (some [0, 2, 4, 7, 8, 9, 60])) (.cond (.tmp 60) (.seq (.region [.mk none (some 61) (.call 46 []), .mk none (some 6) (.mv (.tmp 61))] (some [6])) .ret) .skip))) (.region [.mk none (some 41) (.mv (.tmp 9)), .mk none (some 42) (.bin .add (.tmp 41) (.const (.int .i64 1))), .mk none (some 9) (.mv (.tmp 42))] (some [0, 2, 4, 7, 8, 9]))))))) (.seq (.region [.mk none (some 62) (.bslice 82 9 []), .mk none (some 63) (.fieldA 7 (.tmp 4)), .mk none (some 64) (.load none (.tmp 63)), .mk none (some 65) (.append 82 9 120 (.tmp 62) (.tmp 64)), .mk none (some 66) (.mv (.tmp 8)), .mk none (some 67) (.mv (.tmp 2)), .mk none (some 68) (.build [.pd (.raw (.string ⟨#[]⟩)), .pd (.raw (.int .i64 0)), .pd (.raw (.bool false)), .pd (.raw (.string ⟨#[]⟩)), .pd (.raw (.int .i64 0)), .pd (.raw (.string ⟨#[]⟩)), .pd (.raw (.string ⟨#[]⟩)), .pd (.raw (.int .i64 0)), .nils] [(0, 1, .tmp 66), (1, 1, .tmp 67)]), .mk none (some 69) (.bslice 82 9 [.tmp 68]), .mk none (some 70) (.append 82 9 120 (.tmp 65) (.tmp 69)), .mk none (some 71) (.fieldA 7 (.tmp 7)), .mk none none (.store 1 (.tmp 71) (.tmp 70))] (some [0, 4, 7])) (.seq (.region [.mk none (some 72) (.fieldA 7 (.tmp 4)), .mk none (some 73) (.load none (.tmp 72)), .mk none (some 74) (.len (.tmp 73) false), .mk none (some 10) (.mv (.tmp 74))] (some [0, 4, 7, 10])) (.seq (.seq (.region [.mk none (some 11) (.mv (.const (.int .i64 0)))] (some [0, 4, 7, 10, 11])) (.block 2 (.loop (.seq (.seq (.region [.mk none (some 75) (.mv (.tmp 11)), .mk none (some 76) (.mv (.tmp 10)), .mk none (some 77) (.bin .lss (.tmp 75) (.tmp 76))] (some [0, 4, 7, 10, 11, 77])) (.cond (.tmp 77) .skip (.exit 2))) (.seq (.block 3 (.seq (.draw [.mk none (some 80) (.mv (.tmp 0)), .mk none (some 81) (.load (some 13) (.tmp 7)), .mk none (some 82) (.mv (.tmp 11)), .mk none (some 83) (.call 44 [.tmp 80, .tmp 81, .tmp 82]), .mk none (some 84) (.mv (.tmp 0)), .mk none (some 85) (.load (some 13) (.tmp 4)), .mk none (some 86) (.mv (.tmp 11)), .mk none (some 87) (.call 44 [.tmp 84, .tmp 85, .tmp 86]), .mk none (some 88) (.binB true (.tmp 83) (.tmp 87)), .mk none (some 89) (.mv (.tmp 88)), .mk (some (89, false)) (some 90) (.load (some 13) (.tmp 7)), .mk (some (89, false)) (some 91) (.mv (.tmp 11)), .mk (some (89, false)) (some 92) (.call 45 [.tmp 90, .tmp 91]), .mk (some (89, false)) (some 93) (.load (some 13) (.tmp 4)), .mk (some (89, false)) (some 94) (.mv (.tmp 11)), .mk (some (89, false)) (some 95) (.call 45 [.tmp 93, .tmp 94]), .mk (some (89, false)) (some 96) (.bin .neq (.tmp 92) (.tmp 95)), .mk none (some 97) (.pick (.tmp 89) (.const (.bool true)) (.tmp 96))] [0, 0, 0, 7, 0, 0, 0, 127, 255, 511, 1023, 1023, 4095, 1023, 1023, 32767, 65535, 131071] (.take 0 (.take 1 (.take 2 (.take 4 (.take 5 (.take 6 (.alts (.cons 3 false (.alts (.cons 7 true (.take 8 (.take 9 (.take 10 (.take 11 (.take 13 (.take 14 (.alts (.cons 12 false (.alts (.cons 15 true (.take 16 (.take 17 .done)) .nil)) .nil)))))))) .nil)) .nil)))))))) (some [0, 4, 7, 10, 11, 97])) (.cond (.tmp 97) (.seq (.region [.mk none (some 6) (.mv (.const (.bool false)))] (some [6])) .ret) .skip))) (.region [.mk none (some 78) (.mv (.tmp 11)), .mk none (some 79) (.bin .add (.tmp 78) (.const (.int .i64 1))), .mk none (some 11) (.mv (.tmp 79))] (some [0, 4, 7, 10, 11]))))))) (.seq (.region [.mk none (some 98) (.mv (.tmp 0)), .mk none (some 99) (.load (some 13) (.tmp 7)), .mk none (some 100) (.mv (.tmp 10)), .mk none (some 101) (.call 44 [.tmp 98, .tmp 99, .tmp 100]), .mk none (some 102) (.mv (.tmp 101)), .mk (some (102, true)) (some 103) (.load (some 13) (.tmp 7)), .mk (some (102, true)) (some 104) (.mv (.tmp 10)), .mk (some (102, true)) (some 105) (.call 45 [.tmp 103, .tmp 104]), .mk (some (102, true)) (some 106) (.bin .eql (.tmp 105) (.const (.string ⟨#[]⟩))), .mk none (some 107) (.pick (.tmp 102) (.tmp 106) (.const (.bool false))), .mk none (some 108) (.mv (.tmp 107)), .mk (some (108, true)) (some 109) (.call 46 []), .mk none (some 110) (.pick (.tmp 108) (.tmp 109) (.const (.bool false))), .mk none (some 6) (.mv (.tmp 110))] (some [6])) .ret))))))))))
theorem ok_zxmey : compC Tryz.prog an_zxmey (Tryz.f14.body.getD .skip) = some ac_zxmey := by kernel_rfl
theorem dst_zxmey : ac_zxmey.dstOK Tryz.f14.ntmps (fun i => decide (i < Tryz.f14.ntmps)) = true := by kernel_rfl

def an_zwyow : Ann := ⟨[(0, [0, 2, 4]), (1, [0, 2, 4, 8]), (2, [6])], [], []⟩
def ac_zwyow : AC := (.seq (.region [.mk none (some 4) (.box 39 (.tmp 1)), .mk none (some 6) (.mv (.const (.bool false)))] (some [0, 2, 4])) (.seq (.region [.mk none (some 10) (.load (some 13) (.tmp 4)), .mk none (some 11) (.mv (.tmp 2)), .mk none (some 12) (.call 78 [.tmp 10, .tmp 11]), .mk none (some 9) (.mv (.tmp 12)), .mk none (some 13) (.extract (.tmp 9) 0), .mk none (some 14) (.extract (.tmp 9) 1), .mk none (some 7) (.alloc 82 [.pd (.raw (.string ⟨#[]⟩)), .pd (.raw (.int .i64 0)), .pd (.raw (.bool false)), .pd (.raw (.string ⟨#[]⟩)), .pd (.raw (.int .i64 0)), .pd (.raw (.string ⟨#[]⟩)), .pd (.raw (.string ⟨#[]⟩)), .pd (.raw (.int .i64 0)), .nils]), .mk none none (.store 9 (.tmp 7) (.tmp 13)), .mk none (some 8) (.mv (.tmp 14))] (some [0, 2, 4, 8])) (.seq (.region [.mk none (some 15) (.mv (.tmp 8)), .mk none (some 16) (.mv (.tmp 15)), .mk (some (16, true)) (some 17) (.mv (.tmp 0)), .mk (some (16, true)) (some 18) (.load (some 13) (.tmp 4)), .mk (some (16, true)) (some 19) (.call 48 [.tmp 17, .tmp 18]), .mk none (some 20) (.pick (.tmp 16) (.tmp 19) (.const (.bool false))), .mk none (some 21) (.mv (.tmp 20)), .mk (some (21, true)) (some 22) (.load (some 13) (.tmp 4)), .mk (some (21, true)) (some 23) (.mv (.tmp 2)), .mk (some (21, true)) (some 24) (.call 45 [.tmp 22, .tmp 23]), .mk (some (21, true)) (some 25) (.bin .eql (.tmp 24) (.const (.string ⟨#[]⟩))), .mk none (some 26) (.pick (.tmp 21) (.tmp 25) (.const (.bool false))), .mk none (some 27) (.mv (.tmp 26)), .mk (some (27, true)) (some 28) (.mv (.tmp 0)), .mk (some (27, true)) (some 29) (.load (some 13) (.tmp 4)), .mk (some (27, true)) (some 30) (.mv (.tmp 2)), .mk (some (27, true)) (some 31) (.call 47 [.tmp 28, .tmp 29, .tmp 30]), .mk (some (27, true)) (some 32) (.bin .eql (.tmp 31) (.const (.string ⟨#[]⟩))), .mk none (some 33) (.pick (.tmp 27) (.tmp 32) (.const (.bool false))), .mk none (some 6) (.mv (.tmp 33))] (some [6])) .ret)))
theorem ok_zwyow : compC Tryz.prog an_zwyow (Tryz.f44.body.getD .skip) = some ac_zwyow := by kernel_rfl
theorem dst_zwyow : ac_zwyow.dstOK Tryz.f44.ntmps (fun i => decide (i < Tryz.f44.ntmps)) = true := by kernel_rfl

def an_zn9vq : Ann := ⟨[(0, [1, 2]), (1, [2, 5, 6]), (2, [2, 5, 18]), (3, [4]), (4, [2, 5, 7, 8]), (5, [5, 7, 8, 22, 23, 24]), (6, [5, 7, 8, 22, 23, 24, 25]), (7, [5, 7, 8, 10, 22, 23, 24]), (8, [5, 7, 8, 10, 22, 23, 24]), (9, [5, 7, 8, 22, 23, 24]), (10, [5, 7, 8, 22, 23, 24]), (11, [5, 8, 44]), (12, [4]), (13, [54]), (14, [4]), (15, [4])], [(8, ([0, 0, 2, 6, 15, 31, 15, 79, 255], .take 0 (.take 1 (.alts (.cons 2 false (.take 3 (.alts (.cons 4 true (.take 5 (.alts (.cons 6 false (.take 7 (.alts (.cons 8 true (.done) (.nil)))) (.nil)))) (.cons 6 true (.take 4 (.take 5 (.take 7 (.alts (.cons 8 true (.done) (.nil)))))) (.nil))))) (.nil)))))), (9, ([0, 0, 2, 7, 15, 7, 39, 127], .take 0 (.take 1 (.alts (.cons 2 false (.alts (.cons 3 true (.take 4 (.alts (.cons 5 false (.take 6 (.alts (.cons 7 true (.done) (.nil)))) (.nil)))) (.cons 5 true (.take 3 (.take 4 (.take 6 (.alts (.cons 7 true (.done) (.nil)))))) (.nil)))) (.nil))))))], []⟩
def ac_zn9vq : AC := (.seq (.region [.mk none (some 2) (.box 39 (.tmp 0)), .mk none (some 4) (.mv (.const (.string ⟨#[]⟩)))] (some [1, 2])) (.seq (.region [.mk none (some 12) (.load (some 13) (.tmp 2)), .mk none (some 13) (.mv (.tmp 1)), .mk none (some 14) (.call 78 [.tmp 12, .tmp 13]), .mk none (some 11) (.mv (.tmp 14)), .mk none (some 15) (.extract (.tmp 11) 0), .mk none (some 16) (.extract (.tmp 11) 1), .mk none (some 5) (.alloc 82 [.pd (.raw (.string ⟨#[]⟩)), .pd (.raw (.int .i64 0)), .pd (.raw (.bool false)), .pd (.raw (.string ⟨#[]⟩)), .pd (.raw (.int .i64 0)), .pd (.raw (.string ⟨#[]⟩)), .pd (.raw (.string ⟨#[]⟩)), .pd (.raw (.int .i64 0)), .nils]), .mk none none (.store 9 (.tmp 5) (.tmp 15)), .mk none (some 6) (.mv (.tmp 16))] (some [2, 5, 6])) (.seq (.seq (.region [.mk none (some 17) (.mv (.tmp 6)), .mk none (some 18) (.un .not (.tmp 17))] (some [2, 5, 18])) (.cond (.tmp 18) (.seq (.region [.mk none (some 4) (.mv (.const (.string ⟨#[]⟩)))] (some [4])) .ret) .skip)) (.seq (.region [.mk none (some 19) .mkmap, .mk none (some 20) .mkmap, .mk none (some 7) (.mv (.tmp 19)), .mk none (some 8) (.mv (.tmp 20))] (some [2, 5, 7, 8])) (.seq (.seq (.region [.mk none (some 21) (.fieldA 7 (.tmp 2)), .mk none (some 22) (.load none (.tmp 21)), .mk none (some 23) (.len (.tmp 22) false), .mk none (some 24) (.mv (.const (.int .i64 0)))] (some [5, 7, 8, 22, 23, 24])) (.block 0 (.loop (.seq (.region [.mk none (some 25) (.bin .lss (.tmp 24) (.tmp 23))] (some [5, 7, 8, 22, 23, 24, 25])) (.seq (.cond (.tmp 25) .skip (.exit 0)) (.seq (.block 1 (.seq (.region [.mk none (some 26) (.idxA 9 (.tmp 22) (.tmp 24)), .mk none (some 27) (.load (some 9) (.tmp 26)), .mk none (some 10) (.alloc 82 [.pd (.raw (.string ⟨#[]⟩)), .pd (.raw (.int .i64 0)), .pd (.raw (.bool false)), .pd (.raw (.string ⟨#[]⟩)), .pd (.raw (.int .i64 0)), .pd (.raw (.string ⟨#[]⟩)), .pd (.raw (.string ⟨#[]⟩)), .pd (.raw (.int .i64 0)), .nils]), .mk none none (.store 9 (.tmp 10) (.tmp 27))] (some [5, 7, 8, 10, 22, 23, 24])) (.seq (.draw [.mk none (some 28) (.mv (.tmp 7)), .mk none (some 29) (.load (some 9) (.tmp 10)), .mk none (some 30) (.call 79 [.tmp 29]), .mk none (some 31) (.field 0 (some 2) (.tmp 30)), .mk none (some 32) (.mget [.int, .bool] (.int .i64 0) (.tmp 28) (.tmp 31)), .mk none (some 33) (.bin .add (.tmp 32) (.const (.int .i64 1))), .mk none (some 34) (.mentry [.int, .bool] (.int .i64 0) (.tmp 28) (.tmp 31)), .mk none (some 35) (.extract (.tmp 34) 1), .mk none none (.mstore (.tmp 28) (.tmp 35) (.tmp 33))] [0, 0, 2, 6, 15, 31, 15, 79, 255] (.take 0 (.take 1 (.alts (.cons 2 false (.take 3 (.alts (.cons 4 true (.take 5 (.alts (.cons 6 false (.take 7 (.alts (.cons 8 true .done .nil))) .nil))) (.cons 6 true (.take 4 (.take 5 (.take 7 (.alts (.cons 8 true .done .nil))))) .nil)))) .nil)))) (some [5, 7, 8, 10, 22, 23, 24])) (.draw [.mk none (some 36) (.mv (.tmp 8)), .mk none (some 37) (.load (some 9) (.tmp 10)), .mk none (some 38) (.call 79 [.tmp 37]), .mk none (some 39) (.mget [.int, .bool, .str] (.int .i64 0) (.tmp 36) (.tmp 38)), .mk none (some 40) (.bin .add (.tmp 39) (.const (.int .i64 1))), .mk none (some 41) (.mentry [.int, .bool, .str] (.int .i64 0) (.tmp 36) (.tmp 38)), .mk none (some 42) (.extract (.tmp 41) 1), .mk none none (.mstore (.tmp 36) (.tmp 42) (.tmp 40))] [0, 0, 2, 7, 15, 7, 39, 127] (.take 0 (.take 1 (.alts (.cons 2 false (.alts (.cons 3 true (.take 4 (.alts (.cons 5 false (.take 6 (.alts (.cons 7 true .done .nil))) .nil))) (.cons 5 true (.take 3 (.take 4 (.take 6 (.alts (.cons 7 true .done .nil))))) .nil))) .nil)))) (some [5, 7, 8, 22, 23, 24]))))) (.region [.mk none (some 43) (.bin .add (.tmp 24) (.const (.int .i64 1))), .mk none (some 24) (.mv (.tmp 43))] (some [5, 7, 8, 22, 23, 24])))))))) (.seq (.block 2 (.seq (.region [.mk none (some 45) (.mv (.tmp 7)), .mk none (some 46) (.fieldA 1 (.tmp 5)), .mk none (some 47) (.load none (.tmp 46)), .mk none (some 48) (.fieldA 2 (.tmp 5)), .mk none (some 49) (.load none (.tmp 48)), .mk none (some 50) (.un .not (.tmp 49)), .mk none (some 51) (.build [.pd (.raw (.int .i64 0)), .pd (.raw (.bool false))] [(0, 1, .tmp 47), (1, 1, .tmp 50)]), .mk none (some 52) (.mget [.int, .bool] (.int .i64 0) (.tmp 45) (.tmp 51)), .mk none (some 53) (.bin .gtr (.tmp 52) (.const (.int .i64 0))), .mk none (some 44) (.mv (.tmp 53))] (some [5, 8, 44])) (.cond (.tmp 44) (.seq (.region [.mk none (some 4) (.mv (.const (.string ⟨#[80, 114, 111, 116, 111, 99, 111, 108, 67, 111, 110, 102, 108, 105, 99, 116]⟩)))] (some [4])) .ret) (.seq (.region [.mk none (some 55) (.mv (.tmp 8)), .mk none (some 56) (.load (some 9) (.tmp 5)), .mk none (some 57) (.call 79 [.tmp 56]), .mk none (some 58) (.mget [.int, .bool, .str] (.int .i64 0) (.tmp 55) (.tmp 57)), .mk none (some 59) (.bin .gtr (.tmp 58) (.const (.int .i64 1))), .mk none (some 54) (.mv (.tmp 59))] (some [54])) (.cond (.tmp 54) (.seq (.region [.mk none (some 4) (.mv (.const (.string ⟨#[72, 111, 115, 116, 110, 97, 109, 101, 67, 111, 110, 102, 108, 105, 99, 116]⟩)))] (some [4])) .ret) .skip))))) (.seq (.region [.mk none (some 4) (.mv (.const (.string ⟨#[]⟩)))] (some [4])) .ret)))))))
theorem ok_zn9vq : compC Tryz.prog an_zn9vq (Tryz.f45.body.getD .skip) = some ac_zn9vq := by kernel_rfl
theorem dst_zn9vq : ac_zn9vq.dstOK Tryz.f45.ntmps (fun i => decide (i < Tryz.f45.ntmps)) = true := by kernel_rfl

def an_zwa7s : Ann := ⟨[(0, []), (1, [1]), (2, [0])], [], []⟩
def ac_zwa7s : AC := (.seq (.region [.mk none (some 0) (.mv (.const (.bool false)))] (some [])) (.seq (.region [.mk none (some 2) (.build [.pd (.raw (.int .i64 0)), .pd (.raw (.string ⟨#[]⟩)), .pd (.raw (.string ⟨#[]⟩))] [(0, 1, .const (.int .i64 1)), (2, 1, .const (.string ⟨#[99]⟩))]), .mk none (some 3) (.build [.pd (.raw (.int .i64 0)), .pd (.raw (.string ⟨#[]⟩)), .pd (.raw (.string ⟨#[]⟩)), .pd (.raw (.bool false)), .nils, .nils, .pd (.raw (.string ⟨#[]⟩)), .nils, .nils, .nils, .nils, .nils, .nils] [(0, 3, .tmp 2), (3, 1, .const (.bool true))]), .mk none (some 4) (.bslice 39 13 [.tmp 3]), .mk none (some 1) (.mv (.tmp 4))] (some [1])) (.seq (.region [.mk none (some 5) (.call 80 []), .mk none (some 6) (.call 45 [.tmp 5, .const (.int .i64 0)]), .mk none (some 7) (.bin .eql (.tmp 6) (.const (.string ⟨#[72, 111, 115, 116, 110, 97, 109, 101, 67, 111, 110, 102, 108, 105, 99, 116]⟩))), .mk none (some 8) (.mv (.tmp 7)), .mk (some (8, true)) (some 9) (.call 80 []), .mk (some (8, true)) (some 10) (.call 45 [.tmp 9, .const (.int .i64 2)]), .mk (some (8, true)) (some 11) (.bin .eql (.tmp 10) (.const (.string ⟨#[]⟩))), .mk none (some 12) (.pick (.tmp 8) (.tmp 11) (.const (.bool false))), .mk none (some 13) (.mv (.tmp 12)), .mk (some (13, true)) (some 14) (.mv (.tmp 1)), .mk (some (13, true)) (some 15) (.call 80 []), .mk (some (13, true)) (some 16) (.call 47 [.tmp 14, .tmp 15, .const (.int .i64 3)]), .mk (some (13, true)) (some 17) (.bin .eql (.tmp 16) (.const (.string ⟨#[73, 110, 118, 97, 108, 105, 100, 67, 101, 114, 116, 105, 102, 105, 99, 97, 116, 101, 82, 101, 102]⟩))), .mk none (some 18) (.pick (.tmp 13) (.tmp 17) (.const (.bool false))), .mk none (some 19) (.mv (.tmp 18)), .mk (some (19, true)) (some 20) (.mv (.tmp 1)), .mk (some (19, true)) (some 21) (.call 80 []), .mk (some (19, true)) (some 22) (.call 44 [.tmp 20, .tmp 21, .const (.int .i64 2)]), .mk none (some 23) (.pick (.tmp 19) (.tmp 22) (.const (.bool false))), .mk none (some 24) (.mv (.tmp 23)), .mk (some (24, true)) (some 25) (.mv (.tmp 1)), .mk (some (24, true)) (some 26) (.call 80 []), .mk (some (24, true)) (some 27) (.call 48 [.tmp 25, .tmp 26]), .mk none (some 28) (.pick (.tmp 24) (.tmp 27) (.const (.bool false))), .mk none (some 29) (.mv (.tmp 28)), .mk none (some 30) (.pick (.tmp 29) (.const (.bool true)) (.const (.bool false))), .mk none (some 31) (.mv (.tmp 30)), .mk none (some 32) (.pick (.tmp 31) (.const (.bool true)) (.const (.bool false))), .mk none (some 0) (.mv (.tmp 32))] (some [0])) .ret)))
theorem ok_zwa7s : compC Tryz.prog an_zwa7s (Tryz.f46.body.getD .skip) = some ac_zwa7s := by kernel_rfl
theorem dst_zwa7s : ac_zwa7s.dstOK Tryz.f46.ntmps (fun i => decide (i < Tryz.f46.ntmps)) = true := by kernel_rfl

def an_zeup4 : Ann := ⟨[(0, [0, 2, 4]), (1, [0, 4, 7, 8]), (2, [0, 4, 7, 8, 9]), (3, [0, 4, 9, 22]), (4, [6]), (5, [0, 9, 30]), (6, [6]), (7, [38]), (8, [6]), (9, [6])], [], []⟩
def ac_zeup4 : AC := (.seq (.region [.mk none (some 4) (.box 39 (.tmp 1)), .mk none (some 6) (.mv (.const (.string ⟨#[]⟩)))] (some [0, 2, 4])) (.seq (.region [.mk none (some 11) (.load (some 13) (.tmp 4)), .mk none (some 12) (.mv (.tmp 2)), .mk none (some 13) (.call 78 [.tmp 11, .tmp 12]), .mk none (some 10) (.mv (.tmp 13)), .mk none (some 14) (.extract (.tmp 10) 0), .mk none (some 15) (.extract (.tmp 10) 1), .mk none (some 7) (.alloc 82 [.pd (.raw (.string ⟨#[]⟩)), .pd (.raw (.int .i64 0)), .pd (.raw (.bool false)), .pd (.raw (.string ⟨#[]⟩)), .pd (.raw (.int .i64 0)), .pd (.raw (.string ⟨#[]⟩)), .pd (.raw (.string ⟨#[]⟩)), .pd (.raw (.int .i64 0)), .nils]), .mk none none (.store 9 (.tmp 7) (.tmp 14)), .mk none (some 8) (.mv (.tmp 15))] (some [0, 4, 7, 8])) (.seq (.region [.mk none (some 16) (.fieldA 4 (.tmp 7)), .mk none (some 17) (.load (some 3) (.tmp 16)), .mk none (some 18) (.fieldA 0 (.tmp 4)), .mk none (some 19) (.fieldA 1 (.tmp 18)), .mk none (some 20) (.load none (.tmp 19)), .mk none (some 21) (.call 27 [.tmp 17, .tmp 20]), .mk none (some 9) (.alloc 24 [.pd (.raw (.int .i64 0)), .pd (.raw (.string ⟨#[]⟩)), .pd (.raw (.string ⟨#[]⟩))]), .mk none none (.store 3 (.tmp 9) (.tmp 21))] (some [0, 4, 7, 8, 9])) (.seq (.block 0 (.seq (.region [.mk none (some 23) (.mv (.tmp 8)), .mk none (some 24) (.un .not (.tmp 23)), .mk none (some 25) (.mv (.tmp 24)), .mk (some (25, false)) (some 26) (.fieldA 2 (.tmp 7)), .mk (some (25, false)) (some 27) (.load none (.tmp 26)), .mk (some (25, false)) (some 28) (.un .not (.tmp 27)), .mk none (some 29) (.pick (.tmp 25) (.const (.bool true)) (.tmp 28)), .mk none (some 22) (.mv (.tmp 29))] (some [0, 4, 9, 22])) (.cond (.tmp 22) (.seq (.region [.mk none (some 6) (.mv (.const (.string ⟨#[]⟩)))] (some [6])) .ret) (.seq (.region [.mk none (some 31) (.mv (.tmp 0)), .mk none (some 32) (.fieldA 0 (.tmp 4)), .mk none (some 33) (.fieldA 1 (.tmp 32)), .mk none (some 34) (.load none (.tmp 33)), .mk none (some 35) (.load (some 3) (.tmp 9)), .mk none (some 36) (.call 17 [.tmp 31, .const (.int .i64 5), .tmp 34, .tmp 35]), .mk none (some 37) (.un .not (.tmp 36)), .mk none (some 30) (.mv (.tmp 37))] (some [0, 9, 30])) (.cond (.tmp 30) (.seq (.region [.mk none (some 6) (.mv (.const (.string ⟨#[82, 101, 102, 78, 111, 116, 80, 101, 114, 109, 105, 116, 116, 101, 100]⟩)))] (some [6])) .ret) (.seq (.region [.mk none (some 39) (.mv (.tmp 0)), .mk none (some 40) (.load (some 3) (.tmp 9)), .mk none (some 41) (.call 81 [.tmp 39, .tmp 40]), .mk none (some 42) (.un .not (.tmp 41)), .mk none (some 38) (.mv (.tmp 42))] (some [38])) (.cond (.tmp 38) (.seq (.region [.mk none (some 6) (.mv (.const (.string ⟨#[73, 110, 118, 97, 108, 105, 100, 67, 101, 114, 116, 105, 102, 105, 99, 97, 116, 101, 82, 101, 102]⟩)))] (some [6])) .ret) .skip))))))) (.seq (.region [.mk none (some 6) (.mv (.const (.string ⟨#[]⟩)))] (some [6])) .ret)))))
theorem ok_zeup4 : compC Tryz.prog an_zeup4 (Tryz.f47.body.getD .skip) = some ac_zeup4 := by kernel_rfl
theorem dst_zeup4 : ac_zeup4.dstOK Tryz.f47.ntmps (fun i => decide (i < Tryz.f47.ntmps)) = true := by kernel_rfl

def an_zws5f : Ann := ⟨[(0, [0, 3]), (1, [4])], [], []⟩
def ac_zws5f : AC := (.seq (.region [.mk none (some 3) (.box 39 (.tmp 1)), .mk none (some 4) (.mv (.const (.bool false)))] (some [0, 3])) (.seq (.region [.mk none (some 5) (.load (some 13) (.tmp 3)), .mk none (some 6) (.call 82 [.tmp 5]), .mk none (some 7) (.mv (.tmp 6)), .mk (some (7, true)) (some 8) (.mv (.tmp 0)), .mk (some (7, true)) (some 9) (.fieldA 6 (.tmp 3)), .mk (some (7, true)) (some 10) (.load none (.tmp 9)), .mk (some (7, true)) (some 11) (.build [.pd (.raw (.int .i64 0)), .pd (.raw (.string ⟨#[]⟩)), .pd (.raw (.string ⟨#[]⟩))] [(0, 1, .const (.int .i64 1)), (2, 1, .tmp 10)]), .mk (some (7, true)) (some 12) (.call 81 [.tmp 8, .tmp 11]), .mk none (some 13) (.pick (.tmp 7) (.tmp 12) (.const (.bool false))), .mk none (some 4) (.mv (.tmp 13))] (some [4])) .ret))
theorem ok_zws5f : compC Tryz.prog an_zws5f (Tryz.f48.body.getD .skip) = some ac_zws5f := by kernel_rfl
theorem dst_zws5f : ac_zws5f.dstOK Tryz.f48.ntmps (fun i => decide (i < Tryz.f48.ntmps)) = true := by kernel_rfl

def an_z7tm4 : Ann := ⟨[(0, [1, 2, 4]), (1, [1, 2, 4, 19]), (2, [4, 5]), (3, [4, 5])], [], []⟩
def ac_z7tm4 : AC := (.seq (.region [.mk none (some 2) (.box 39 (.tmp 0)), .mk none (some 4) (.alloc 82 [.pd (.raw (.string ⟨#[]⟩)), .pd (.raw (.int .i64 0)), .pd (.raw (.bool false)), .pd (.raw (.string ⟨#[]⟩)), .pd (.raw (.int .i64 0)), .pd (.raw (.string ⟨#[]⟩)), .pd (.raw (.string ⟨#[]⟩)), .pd (.raw (.int .i64 0)), .nils]), .mk none (some 5) (.mv (.const (.bool false)))] (some [1, 2, 4])) (.seq (.seq (.region [.mk none (some 6) (.load (some 13) (.tmp 2)), .mk none (some 7) (.call 82 [.tmp 6]), .mk none (some 8) (.un .not (.tmp 7)), .mk none (some 9) (.mv (.tmp 8)), .mk (some (9, false)) (some 10) (.mv (.tmp 1)), .mk (some (9, false)) (some 11) (.bin .lss (.tmp 10) (.const (.int .i64 0))), .mk none (some 12) (.pick (.tmp 9) (.const (.bool true)) (.tmp 11)), .mk none (some 13) (.mv (.tmp 12)), .mk (some (13, false)) (some 14) (.mv (.tmp 1)), .mk (some (13, false)) (some 15) (.fieldA 7 (.tmp 2)), .mk (some (13, false)) (some 16) (.load none (.tmp 15)), .mk (some (13, false)) (some 17) (.len (.tmp 16) false), .mk (some (13, false)) (some 18) (.bin .geq (.tmp 14) (.tmp 17)), .mk none (some 19) (.pick (.tmp 13) (.const (.bool true)) (.tmp 18))] (some [1, 2, 4, 19])) (.cond (.tmp 19) (.seq (.region [.mk none (some 20) (.build [.pd (.raw (.string ⟨#[]⟩)), .pd (.raw (.int .i64 0)), .pd (.raw (.bool false)), .pd (.raw (.string ⟨#[]⟩)), .pd (.raw (.int .i64 0)), .pd (.raw (.string ⟨#[]⟩)), .pd (.raw (.string ⟨#[]⟩)), .pd (.raw (.int .i64 0)), .nils] []), .mk none none (.store 9 (.tmp 4) (.tmp 20)), .mk none (some 5) (.mv (.const (.bool false)))] (some [4, 5])) .ret) .skip)) (.seq (.region [.mk none (some 21) (.fieldA 7 (.tmp 2)), .mk none (some 22) (.load none (.tmp 21)), .mk none (some 23) (.mv (.tmp 1)), .mk none (some 24) (.idxA 9 (.tmp 22) (.tmp 23)), .mk none (some 25) (.load (some 9) (.tmp 24)), .mk none none (.store 9 (.tmp 4) (.tmp 25)), .mk none (some 5) (.mv (.const (.bool true)))] (some [4, 5])) .ret)))
theorem ok_z7tm4 : compC Tryz.prog an_z7tm4 (Tryz.f78.body.getD .skip) = some ac_z7tm4 := by kernel_rfl
theorem ret_z7tm4 (st : St) : resD Tryz.prog st Tryz.f78.results.toList = resA st [.cell 4 (some 9), .tmp 5] := resD_of (by kernel_rfl)
theorem dst_z7tm4 : ac_z7tm4.dstOK Tryz.f78.ntmps (fun i => decide (i < Tryz.f78.ntmps)) = true := by kernel_rfl

def an_ztilm : Ann := ⟨[(0, [1, 2]), (1, [2])], [], []⟩
def ac_ztilm : AC := (.seq (.region [.mk none (some 1) (.box 82 (.tmp 0)), .mk none (some 2) (.alloc 124 [.pd (.raw (.int .i64 0)), .pd (.raw (.bool false)), .pd (.raw (.string ⟨#[]⟩))])] (some [1, 2])) (.seq (.region [.mk none (some 3) (.fieldA 1 (.tmp 1)), .mk none (some 4) (.load none (.tmp 3)), .mk none (some 5) (.fieldA 2 (.tmp 1)), .mk none (some 6) (.load none (.tmp 5)), .mk none (some 7) (.build [.pd (.raw (.int .i64 0)), .pd (.raw (.bool false))] [(0, 1, .tmp 4), (1, 1, .tmp 6)]), .mk none (some 8) (.fieldA 3 (.tmp 1)), .mk none (some 9) (.load none (.tmp 8)), .mk none (some 10) (.build [.pd (.raw (.int .i64 0)), .pd (.raw (.bool false)), .pd (.raw (.string ⟨#[]⟩))] [(0, 2, .tmp 7), (2, 1, .tmp 9)]), .mk none none (.store 3 (.tmp 2) (.tmp 10))] (some [2])) .ret))
theorem ok_ztilm : compC Tryz.prog an_ztilm (Tryz.f79.body.getD .skip) = some ac_ztilm := by kernel_rfl
theorem ret_ztilm (st : St) : resD Tryz.prog st Tryz.f79.results.toList = resA st [.cell 2 (some 3)] := resD_of (by kernel_rfl)
theorem dst_ztilm : ac_ztilm.dstOK Tryz.f79.ntmps (fun i => decide (i < Tryz.f79.ntmps)) = true := by kernel_rfl

def an_zbi27 : Ann := ⟨[(0, [0]), (1, [0])], [], []⟩
def ac_zbi27 : AC := (.seq (.region [.mk none (some 0) (.alloc 39 [.pd (.raw (.int .i64 0)), .pd (.raw (.string ⟨#[]⟩)), .pd (.raw (.string ⟨#[]⟩)), .pd (.raw (.bool false)), .nils, .nils, .pd (.raw (.string ⟨#[]⟩)), .nils, .nils, .nils, .nils, .nils, .nils])] (some [0])) (.seq (.region [.mk none (some 1) (.build [.pd (.raw (.int .i64 0)), .pd (.raw (.string ⟨#[]⟩)), .pd (.raw (.string ⟨#[]⟩))] [(0, 1, .const (.int .i64 5)), (1, 1, .const (.string ⟨#[119, 101, 98]⟩)), (2, 1, .const (.string ⟨#[103, 119]⟩))]), .mk none (some 2) (.build [.pd (.raw (.string ⟨#[]⟩)), .pd (.raw (.int .i64 0)), .pd (.raw (.bool false)), .pd (.raw (.string ⟨#[]⟩)), .pd (.raw (.int .i64 0)), .pd (.raw (.string ⟨#[]⟩)), .pd (.raw (.string ⟨#[]⟩)), .pd (.raw (.int .i64 0)), .nils] [(0, 1, .const (.string ⟨#[97]⟩)), (1, 1, .const (.int .i64 80)), (3, 1, .const (.string ⟨#[97, 46, 116, 101, 115, 116]⟩))]), .mk none (some 3) (.build [.pd (.raw (.string ⟨#[]⟩)), .pd (.raw (.int .i64 0)), .pd (.raw (.bool false)), .pd (.raw (.string ⟨#[]⟩)), .pd (.raw (.int .i64 0)), .pd (.raw (.string ⟨#[]⟩)), .pd (.raw (.string ⟨#[]⟩)), .pd (.raw (.int .i64 0)), .nils] [(0, 1, .const (.string ⟨#[98]⟩)), (1, 1, .const (.int .i64 80)), (3, 1, .const (.string ⟨#[97, 46, 116, 101, 115, 116]⟩))]), .mk none (some 4) (.build [.pd (.raw (.string ⟨#[]⟩)), .pd (.raw (.int .i64 0)), .pd (.raw (.bool false)), .pd (.raw (.string ⟨#[]⟩)), .pd (.raw (.int .i64 0)), .pd (.raw (.string ⟨#[]⟩)), .pd (.raw (.string ⟨#[]⟩)), .pd (.raw (.int .i64 0)), .nils] [(0, 1, .const (.string ⟨#[99]⟩)), (1, 1, .const (.int .i64 80)), (3, 1, .const (.string ⟨#[98, 46, 116, 101, 115, 116]⟩))]), .mk none (some 5) (.build [.pd (.raw (.int .i64 0)), .pd (.raw (.string ⟨#[]⟩)), .pd (.raw (.string ⟨#[]⟩))] [(0, 1, .const (.int .i64 4)), (2, 1, .const (.string ⟨#[115]⟩))]), .mk none (some 6) (.build [.pd (.raw (.string ⟨#[]⟩)), .pd (.raw (.int .i64 0)), .pd (.raw (.bool false)), .pd (.raw (.string ⟨#[]⟩)), .pd (.raw (.int .i64 0)), .pd (.raw (.string ⟨#[]⟩)), .pd (.raw (.string ⟨#[]⟩)), .pd (.raw (.int .i64 0)), .nils] [(0, 1, .const (.string ⟨#[100]⟩)), (1, 1, .const (.int .i64 443)), (2, 1, .const (.bool true)), (4, 3, .tmp 5)]), .mk none (some 7) (.bslice 82 9 [.tmp 2, .tmp 3, .tmp 4, .tmp 6]), .mk none (some 8) (.build [.pd (.raw (.int .i64 0)), .pd (.raw (.string ⟨#[]⟩)), .pd (.raw (.string ⟨#[]⟩)), .pd (.raw (.bool false)), .nils, .nils, .pd (.raw (.string ⟨#[]⟩)), .nils, .nils, .nils, .nils, .nils, .nils] [(0, 3, .tmp 1), (6, 1, .const (.string ⟨#[99]⟩)), (7, 1, .tmp 7)]), .mk none none (.store 13 (.tmp 0) (.tmp 8))] (some [0])) .ret))
theorem ok_zbi27 : compC Tryz.prog an_zbi27 (Tryz.f80.body.getD .skip) = some ac_zbi27 := by kernel_rfl
theorem ret_zbi27 (st : St) : resD Tryz.prog st Tryz.f80.results.toList = resA st [.cell 0 (some 13)] := resD_of (by kernel_rfl)
theorem dst_zbi27 : ac_zbi27.dstOK Tryz.f80.ntmps (fun i => decide (i < Tryz.f80.ntmps)) = true := by kernel_rfl

def an_zb5tb : Ann := ⟨[(0, [0, 3]), (1, [5, 6]), (2, [4])], [], []⟩
def ac_zb5tb : AC := (.seq (.region [.mk none (some 3) (.box 24 (.tmp 1)), .mk none (some 4) (.mv (.const (.bool false)))] (some [0, 3])) (.seq (.region [.mk none (some 8) (.mv (.tmp 0)), .mk none (some 9) (.load (some 3) (.tmp 3)), .mk none (some 10) (.call 25 [.tmp 8, .tmp 9]), .mk none (some 7) (.mv (.tmp 10)), .mk none (some 11) (.extract (.tmp 7) 0), .mk none (some 12) (.extract (.tmp 7) 1), .mk none (some 5) (.alloc 39 [.pd (.raw (.int .i64 0)), .pd (.raw (.string ⟨#[]⟩)), .pd (.raw (.string ⟨#[]⟩)), .pd (.raw (.bool false)), .nils, .nils, .pd (.raw (.string ⟨#[]⟩)), .nils, .nils, .nils, .nils, .nils, .nils]), .mk none none (.store 13 (.tmp 5) (.tmp 11)), .mk none (some 6) (.mv (.tmp 12))] (some [5, 6])) (.seq (.region [.mk none (some 13) (.mv (.tmp 6)), .mk none (some 14) (.mv (.tmp 13)), .mk (some (14, true)) (some 15) (.load (some 13) (.tmp 5)), .mk (some (14, true)) (some 16) (.call 52 [.tmp 15]), .mk none (some 17) (.pick (.tmp 14) (.tmp 16) (.const (.bool false))), .mk none (some 18) (.mv (.tmp 17)), .mk (some (18, true)) (some 19) (.fieldA 3 (.tmp 5)), .mk (some (18, true)) (some 20) (.load none (.tmp 19)), .mk none (some 21) (.pick (.tmp 18) (.tmp 20) (.const (.bool false))), .mk none (some 4) (.mv (.tmp 21))] (some [4])) .ret)))
theorem ok_zb5tb : compC Tryz.prog an_zb5tb (Tryz.f81.body.getD .skip) = some ac_zb5tb := by kernel_rfl
theorem dst_zb5tb : ac_zb5tb.dstOK Tryz.f81.ntmps (fun i => decide (i < Tryz.f81.ntmps)) = true := by kernel_rfl

def an_zjbl5 : Ann := ⟨[(0, [1]), (1, [2])], [], []⟩
def ac_zjbl5 : AC := (.seq (.region [.mk none (some 1) (.box 39 (.tmp 0)), .mk none (some 2) (.mv (.const (.bool false)))] (some [1])) (.seq (.region [.mk none (some 3) (.fieldA 0 (.tmp 1)), .mk none (some 4) (.fieldA 0 (.tmp 3)), .mk none (some 5) (.load none (.tmp 4)), .mk none (some 6) (.bin .eql (.tmp 5) (.const (.int .i64 5))), .mk none (some 7) (.mv (.tmp 6)), .mk (some (7, true)) (some 8) (.load (some 13) (.tmp 1)), .mk (some (7, true)) (some 9) (.call 52 [.tmp 8]), .mk none (some 10) (.pick (.tmp 7) (.tmp 9) (.const (.bool false))), .mk none (some 2) (.mv (.tmp 10))] (some [2])) .ret))
theorem ok_zjbl5 : compC Tryz.prog an_zjbl5 (Tryz.f82.body.getD .skip) = some ac_zjbl5 := by kernel_rfl
theorem dst_zjbl5 : ac_zjbl5.dstOK Tryz.f82.ntmps (fun i => decide (i < Tryz.f82.ntmps)) = true := by kernel_rfl

end Go.Proofs.YtjhomppadppfnaaGreatDoor

namespace Go.Proofs.YtjhomppadppfnaaGreatDoor
open Go Go.RowKit
set_option linter.unusedSimpArgs false
set_option linter.unusedVariables false
set_option maxRecDepth 100000

def goodAt (os : List AObj) (r : ARef) : Bool := match found os r with
  | some o => objMay o && o.good
  | none => false

theorem listen_good (os : List AObj) (hos : os.length ≤ 1000000) (h : ∀ o ∈ os, o.ok) (r : ARef) : Pure Tryz.prog 81 [.pd (.slice (rows AObj.pd os)), r.d] (fun d => d = bln (goodAt os r)) := by
  refine pure_of_run follows an_zb5tb Tryz.func81 rfl ok_zb5tb dst_zb5tb (by simp [Tryz.ntmps81]) ?_
  rw [run_start]
  simp only [ac_zb5tb, go_sem, contS_seq, simprocAttr]
  refine (grant_Find os hos r).callW (enters_of Tryz.func25 rfl rfl) _ rfl rfl ?_
  rintro _ rfl
  unfold goodAt
  rcases hf : found os r with _ | o
  · simp only [foundD, go_sem, contS_seq, simprocAttr]
    simp only [retK, fullK, iterK, resD, resA, AOp.ex, St.ev, Option.map_some, Option.bind_some, St.get, lk, reduceIte, Nat.reduceEqDiff, Option.getD_some, oneD, List.getElem?_cons_zero, List.getElem?_cons_succ, List.drop_zero, List.drop_succ_cons, List.take_succ_cons, List.take_zero, List.length_cons, List.length_nil, Nat.zero_add, Nat.reduceAdd, Nat.le_refl, Nat.reduceLeDiff, D.pub, D.pubs, Tryz.results81]
    exact ⟨_, rfl, rfl, rfl⟩
  · simp only [foundD, go_sem, contS_seq, simprocAttr]
    refine (object_May o (h o (List.mem_of_find?_eq_some hf))).callW (enters_of Tryz.func52 rfl rfl) _ rfl rfl ?_
    rintro _ rfl
    simp only [go_sem, contS_seq, simprocAttr]
    cases objMay o
    all_goals
      simp only [go_sem, contS_seq, simprocAttr]
      simp only [retK, fullK, iterK, resD, resA, AOp.ex, St.ev, Option.map_some, Option.bind_some, St.get, lk, reduceIte, Nat.reduceEqDiff, Option.getD_some, oneD, List.getElem?_cons_zero, List.getElem?_cons_succ, List.drop_zero, List.drop_succ_cons, List.take_succ_cons, List.take_zero, List.length_cons, List.length_nil, Nat.zero_add, Nat.reduceAdd, Nat.le_refl, Nat.reduceLeDiff, D.pub, D.pubs, Tryz.results81]
      exact ⟨_, rfl, rfl, rfl⟩

def gwOk (g : AObj) : Bool := decide (g.ref.kind = 5) && objMay g

theorem listen_gateway (g : AObj) (h : g.ok) : Pure Tryz.prog 82 [g.d] (fun d => d = bln (gwOk g)) := by
  refine pure_of_run follows an_zjbl5 Tryz.func82 rfl ok_zjbl5 dst_zjbl5 (by simp [Tryz.ntmps82]) ?_
  rw [run_start]
  simp only [ac_zjbl5, go_sem, contS_seq, simprocAttr]
  (repeat' (first | (refine GifP.mk (fun _ => ?_) (fun _ => ?_)) | (refine Gif.mk (fun _ => ?_) (fun _ => ?_)) | (refine (object_May g h).callW (enters_of Tryz.func52 rfl rfl) _ rfl rfl ?_; rintro _ rfl; try simp only [go_sem, contS_seq, simprocAttr]))) <;> (simp only [retK, fullK, iterK, resD, resA, AOp.ex, St.ev, Option.map_some, Option.bind_some, St.get, lk, reduceIte, Nat.reduceEqDiff, Option.getD_some, oneD, List.getElem?_cons_zero, List.getElem?_cons_succ, List.drop_zero, List.drop_succ_cons, List.take_succ_cons, List.take_zero, List.length_cons, List.length_nil, Nat.zero_add, Nat.reduceAdd, Nat.le_refl, Nat.reduceLeDiff, D.pub, D.pubs, Tryz.results82]; exact ⟨_, rfl, rfl, congrArg bln (by first | rfl | (rw [Bool.eq_iff_iff]; simp only [gwOk]; simp; done) | (rw [Bool.eq_iff_iff]; simp only [gwOk]; simp; omega) | (rw [Bool.eq_iff_iff]; simp only [gwOk]; simp [*]; done) | (rw [Bool.eq_iff_iff]; simp only [gwOk]; simp [*]; omega) | (simp_all [gwOk]; done) | (exfalso; omega))⟩)

def ours (os : List AObj) (g : AObj) : Bool := gwOk g && goodAt os ⟨1, ⟨#[]⟩, g.cls⟩

theorem listen_Ours (os : List AObj) (hos : os.length ≤ 1000000) (h : ∀ o ∈ os, o.ok) (g : AObj) (hg : g.ok) : Pure Tryz.prog 48 [.pd (.slice (rows AObj.pd os)), g.d] (fun d => d = bln (ours os g)) := by
  refine pure_of_run follows an_zws5f Tryz.func48 rfl ok_zws5f dst_zws5f (by simp [Tryz.ntmps48]) ?_
  rw [run_start]
  simp only [ac_zws5f, go_sem, contS_seq, simprocAttr]
  (repeat' (first | (refine GifP.mk (fun _ => ?_) (fun _ => ?_)) | (refine Gif.mk (fun _ => ?_) (fun _ => ?_)) | ((first | refine (listen_gateway g hg).callW (enters_of Tryz.func82 rfl rfl) _ rfl rfl ?_ | refine (listen_good os hos h ⟨1, ⟨#[]⟩, g.cls⟩).callW (enters_of Tryz.func81 rfl rfl) _ rfl rfl ?_); rintro _ rfl; try simp only [go_sem, contS_seq, simprocAttr]))) <;> (simp only [retK, fullK, iterK, resD, resA, AOp.ex, St.ev, Option.map_some, Option.bind_some, St.get, lk, reduceIte, Nat.reduceEqDiff, Option.getD_some, oneD, List.getElem?_cons_zero, List.getElem?_cons_succ, List.drop_zero, List.drop_succ_cons, List.take_succ_cons, List.take_zero, List.length_cons, List.length_nil, Nat.zero_add, Nat.reduceAdd, Nat.le_refl, Nat.reduceLeDiff, D.pub, D.pubs, Tryz.results48]; exact ⟨_, rfl, rfl, congrArg bln (by first | rfl | (rw [Bool.eq_iff_iff]; simp only [ours]; simp; done) | (rw [Bool.eq_iff_iff]; simp only [ours]; simp; omega) | (rw [Bool.eq_iff_iff]; simp only [ours]; simp [*]; done) | (rw [Bool.eq_iff_iff]; simp only [ours]; simp [*]; omega) | (simp_all [ours]; done) | (exfalso; omega))⟩)

abbrev listener0 : AListener := ⟨⟨#[]⟩, 0, false, ⟨#[]⟩, ⟨0, ⟨#[]⟩, ⟨#[]⟩⟩, 0, []⟩

def atL (g : AObj) (i : Int) : Option AListener := if gwOk g = true then (if i < 0 then none else g.listeners[i.toNat]?) else none

def atD : Option AListener → D
  | some x => .tup [x.d, bln true]
  | none => .tup [listener0.d, bln false]

theorem listen_at (g : AObj) (hg : g.ok) (i : Int) : Pure Tryz.prog 78 [g.d, int i] (fun d => d = atD (atL g i)) := by
  refine pure_of_run follows an_z7tm4 Tryz.func78 rfl ok_z7tm4 dst_z7tm4 (by simp [Tryz.ntmps78]) ?_
  rw [run_start]
  simp only [ac_z7tm4, go_sem, contS_seq, simprocAttr]
  refine (listen_gateway g hg).callW (enters_of Tryz.func82 rfl rfl) _ rfl rfl ?_
  rintro _ rfl
  unfold atL
  cases gwOk g
  · simp only [go_sem, contS_seq, simprocAttr]
    simp only [retK, fullK, iterK, resD, resA, AOp.ex, St.ev, Option.map_some, Option.bind_some, St.get, lk, reduceIte, Nat.reduceEqDiff, Option.getD_some, oneD, List.getElem?_cons_zero, List.getElem?_cons_succ, List.drop_zero, List.drop_succ_cons, List.take_succ_cons, List.take_zero, List.length_cons, List.length_nil, Nat.zero_add, Nat.reduceAdd, Nat.le_refl, Nat.reduceLeDiff, D.pub, D.pubs, ret_z7tm4]
    exact ⟨_, rfl, rfl, rfl⟩
  · simp only [go_sem, contS_seq, simprocAttr, rows_len]
    by_cases hi : i < 0
    · simp only [hi, go_sem, contS_seq, simprocAttr]
      simp only [retK, fullK, iterK, resD, resA, AOp.ex, St.ev, Option.map_some, Option.bind_some, St.get, lk, reduceIte, Nat.reduceEqDiff, Option.getD_some, oneD, List.getElem?_cons_zero, List.getElem?_cons_succ, List.drop_zero, List.drop_succ_cons, List.take_succ_cons, List.take_zero, List.length_cons, List.length_nil, Nat.zero_add, Nat.reduceAdd, Nat.le_refl, Nat.reduceLeDiff, D.pub, D.pubs, ret_z7tm4]
      exact ⟨_, rfl, rfl, rfl⟩
    · obtain ⟨n, rfl⟩ : ∃ n : Nat, i = n := ⟨i.toNat, by omega⟩
      by_cases hl : n < g.listeners.length
      · obtain ⟨x, hx⟩ := at_lt hl
        have h1 : ((g.listeners.length : Int) ≤ (n : Int)) = False := eq_false (by omega)
        simp only [hi, h1, rows_get hx, go_sem, contS_seq, simprocAttr]
        simp only [retK, fullK, iterK, resD, resA, AOp.ex, St.ev, Option.map_some, Option.bind_some, St.get, lk, reduceIte, Nat.reduceEqDiff, Option.getD_some, oneD, List.getElem?_cons_zero, List.getElem?_cons_succ, List.drop_zero, List.drop_succ_cons, List.take_succ_cons, List.take_zero, List.length_cons, List.length_nil, Nat.zero_add, Nat.reduceAdd, Nat.le_refl, Nat.reduceLeDiff, D.pub, D.pubs, ret_z7tm4]
        exact ⟨_, rfl, rfl, by rw [hx]; rfl⟩
      · have h1 : ((g.listeners.length : Int) ≤ (n : Int)) = True := eq_true (by omega)
        simp only [hi, h1, go_sem, contS_seq, simprocAttr]
        simp only [retK, fullK, iterK, resD, resA, AOp.ex, St.ev, Option.map_some, Option.bind_some, St.get, lk, reduceIte, Nat.reduceEqDiff, Option.getD_some, oneD, List.getElem?_cons_zero, List.getElem?_cons_succ, List.drop_zero, List.drop_succ_cons, List.take_succ_cons, List.take_zero, List.length_cons, List.length_nil, Nat.zero_add, Nat.reduceAdd, Nat.le_refl, Nat.reduceLeDiff, D.pub, D.pubs, ret_z7tm4]
        exact ⟨_, rfl, rfl, by rw [List.getElem?_eq_none (by omega)]; rfl⟩

abbrev modeOf (x : AListener) : Int × Bool := (x.port, x.tls)
abbrev placeOf (x : AListener) : Int × Bool × ByteArray := (x.port, x.tls, x.host)
abbrev cMode (m : Int × Bool) : List Value := [.int .i64 m.1, .bool m.2]
abbrev cPlace (m : Int × Bool × ByteArray) : List Value := [.int .i64 m.1, .bool m.2.1, .string m.2.2]

theorem eq_cMode (a b : Int × Bool) : eqVs [.int, .bool] (cMode a) (cMode b) = some (decide (a = b)) := by
  obtain ⟨a1, a2⟩ := a
  obtain ⟨b1, b2⟩ := b
  simp only [eqVs, eqV, if_true, Option.some.injEq]
  rw [Bool.eq_iff_iff]
  simp

theorem eq_cPlace (a b : Int × Bool × ByteArray) : eqVs [.int, .bool, .str] (cPlace a) (cPlace b) = some (decide (a = b)) := by
  obtain ⟨a1, a2, a3⟩ := a
  obtain ⟨b1, b2, b3⟩ := b
  simp only [eqVs, eqV, if_true, Option.some.injEq]
  rw [Bool.eq_iff_iff]
  simp

theorem listen_of (x : AListener) : Pure Tryz.prog 79 [x.d] (fun d => d = .agg [int x.port, bln x.tls, str x.host]) := by
  refine pure_of_run follows an_ztilm Tryz.func79 rfl ok_ztilm dst_ztilm (by simp [Tryz.ntmps79]) ?_
  rw [run_start]
  simp only [ac_ztilm, go_sem, contS_seq, simprocAttr]
  simp only [retK, fullK, iterK, resD, resA, AOp.ex, St.ev, Option.map_some, Option.bind_some, St.get, lk, reduceIte, Nat.reduceEqDiff, Option.getD_some, oneD, List.getElem?_cons_zero, List.getElem?_cons_succ, List.drop_zero, List.drop_succ_cons, List.take_succ_cons, List.take_zero, List.length_cons, List.length_nil, Nat.zero_add, Nat.reduceAdd, Nat.le_refl, Nat.reduceLeDiff, D.pub, D.pubs, ret_ztilm]
  exact ⟨_, rfl, rfl, rfl⟩


def protocols : ByteArray := ⟨#[80, 114, 111, 116, 111, 99, 111, 108, 67, 111, 110, 102, 108, 105, 99, 116]⟩
def hostnames : ByteArray := ⟨#[72, 111, 115, 116, 110, 97, 109, 101, 67, 111, 110, 102, 108, 105, 99, 116]⟩

def nMode (l : List AListener) (k : Int × Bool) : Nat := l.countP fun y => decide (modeOf y = k)
def nPlace (l : List AListener) (k : Int × Bool × ByteArray) : Nat := l.countP fun y => decide (placeOf y = k)

def conflict (g : AObj) (i : Int) : ByteArray := match atL g i with
  | none => ⟨#[]⟩
  | some x => if 0 < (nMode g.listeners (x.port, !x.tls) : Int) then protocols else if 1 < (nPlace g.listeners (placeOf x) : Int) then hostnames else ⟨#[]⟩

abbrev lis0 : List D := [str ⟨#[]⟩, int 0, bln false, str ⟨#[]⟩, int 0, str ⟨#[]⟩, str ⟨#[]⟩, int 0, .nils]
set_option maxHeartbeats 4000000 in
theorem listen_Conflict (g : AObj) (hg : g.ok) (i : Int) : Pure Tryz.prog 45 [g.d, int i] (fun d => d = str (conflict g i)) := by
  refine pure_of_run follows an_zn9vq Tryz.func45 rfl ok_zn9vq dst_zn9vq (by simp [Tryz.ntmps45]) ?_
  rw [run_start]
  simp only [ac_zn9vq, go_sem, contS_seq, simprocAttr]
  refine (listen_at g hg i).callW (enters_of Tryz.func78 rfl rfl) _ rfl rfl ?_
  rintro _ rfl
  unfold conflict
  rcases hat : atL g i with _ | x
  · simp only [atD, go_sem, contS_seq, simprocAttr]
    simp only [retK, fullK, iterK, resD, resA, AOp.ex, St.ev, Option.map_some, Option.bind_some, St.get, lk, reduceIte, Nat.reduceEqDiff, Option.getD_some, oneD, List.getElem?_cons_zero, List.getElem?_cons_succ, List.drop_zero, List.drop_succ_cons, List.take_succ_cons, List.take_zero, List.length_cons, List.length_nil, Nat.zero_add, Nat.reduceAdd, Nat.le_refl, Nat.reduceLeDiff, D.pub, D.pubs, Tryz.results45]
    exact ⟨_, rfl, rfl, rfl⟩
  simp only [atD, go_sem, contS_seq, simprocAttr, rows_len]
  have hli := hg.li
  refine loopS (fun k st => ∃ (n : Nat) (e1 : List ((Int × Bool) × Int)) (e2 : List ((Int × Bool × ByteArray) × Int)), k = g.listeners.length - n ∧ n ≤ g.listeners.length ∧
    (∀ k, lookG k e1 = (nMode (g.listeners.take n) k : Int)) ∧ (∀ k, lookG k e2 = (nPlace (g.listeners.take n) k : Int)) ∧
    st = ⟨[(5, .ptr 5 0), (7, .mp 19), (8, .mp 20), (22, .pd (.slice (rows AListener.pd g.listeners))), (23, int g.listeners.length), (24, int n)], [(5, x.ds)], [(19, .map (entG cMode e1)), (20, .map (entG cPlace e2))], .no⟩) g.listeners.length _ ?_
    ⟨0, [], [], rfl, by omega, fun _ => rfl, fun _ => rfl, rfl⟩ ?_
  · exact Weak.less (by simp [lessL, lk]) (by simp [lessL, lk]) (by simp [lessL, lk, entG]) rfl
  rintro k st ⟨n, e1, e2, rfl, hn, h1, h2, rfl⟩
  by_cases hlt : n < g.listeners.length
  · obtain ⟨y, hy⟩ := at_lt hlt
    have h3 : ((n : Int) < (g.listeners.length : Int)) = True := eq_true (by omega)
    have hw := i64_succ (show n < 1000000000 by omega)
    have b1 : nMode (g.listeners.take n) (modeOf y) ≤ n := Nat.le_trans (List.countP_le_length) (by simp; omega)
    have b2 : nPlace (g.listeners.take n) (placeOf y) ≤ n := Nat.le_trans (List.countP_le_length) (by simp; omega)
    have w1 : IntKind.i64.wrap (lookG (modeOf y) e1 + 1) = lookG (modeOf y) e1 + 1 := IntWalk.i64_in _ (by rw [h1]; omega)
    have w2 : IntKind.i64.wrap (lookG (placeOf y) e2 + 1) = lookG (placeOf y) e2 + 1 := IntWalk.i64_in _ (by rw [h2]; omega)
    obtain ⟨r1, hr1⟩ : ∃ r, r = (atG (modeOf y) e1 0).map fun p => (p.1, Value.int .i64 p.2) := ⟨_, rfl⟩
    obtain ⟨r2, hr2⟩ : ∃ r, r = (atG (placeOf y) e2 0).map fun p => (p.1, Value.int .i64 p.2) := ⟨_, rfl⟩
    have f1 : findS [.int, .bool] [.int .i64 y.port, .bool y.tls] (entG cMode e1) 0 = some r1 := (findS_ent eq_cMode (modeOf y) e1 0).trans (by rw [hr1])
    have f2 : findS [.int, .bool, .str] [.int .i64 y.port, .bool y.tls, .string y.host] (entG cPlace e2) 0 = some r2 := (findS_ent eq_cPlace (placeOf y) e2 0).trans (by rw [hr2])
    have l1 := cd_look (modeOf y) e1 r1 hr1
    have l2 := cd_look (placeOf y) e2 r2 hr2
    have s1 := set_bump cMode (modeOf y) e1 r1 hr1
    have s2 := set_bump cPlace (placeOf y) e2 r2 hr2
    have p1 := touch_put cMode (modeOf y) e1 r1 hr1
    have p2 := touch_put cPlace (placeOf y) e2 r2 hr2
    rw [p1] at s1
    rw [p2] at s2
    obtain ⟨q1, hq1⟩ : ∃ r, r = (atG (modeOf y) (touchG (modeOf y) e1) 0).map fun p => (p.1, Value.int .i64 p.2) := ⟨_, rfl⟩
    obtain ⟨q2, hq2⟩ : ∃ r, r = (atG (placeOf y) (touchG (placeOf y) e2) 0).map fun p => (p.1, Value.int .i64 p.2) := ⟨_, rfl⟩
    have g1 : findS [.int, .bool] [.int .i64 y.port, .bool y.tls] (entG cMode (touchG (modeOf y) e1)) 0 = some q1 := (findS_ent eq_cMode (modeOf y) _ 0).trans (by rw [hq1])
    have g2 : findS [.int, .bool, .str] [.int .i64 y.port, .bool y.tls, .string y.host] (entG cPlace (touchG (placeOf y) e2)) 0 = some q2 := (findS_ent eq_cPlace (placeOf y) _ 0).trans (by rw [hq2])
    have l3 := cd_look (modeOf y) _ q1 hq1
    have l4 := cd_look (placeOf y) _ q2 hq2
    rw [look_touch] at l3 l4
    simp only [cD0] at l1 l2 l3 l4
    simp only [putM] at p1 p2
    simp only [go_sem, contS_seq, simprocAttr, rows_len, rows_get hy, h3]
    refine (listen_of y).callX (enters_of Tryz.func79 rfl rfl) _ rfl rfl ?_
    rintro _ rfl
    simp only [go_sem, contS_seq, simprocAttr, f1, ↓l1, w1, ↓p1, s1, g1, ↓l3]
    repeat' (first | (refine (listen_of y).callX (enters_of Tryz.func79 rfl rfl) _ rfl rfl ?_; rintro _ rfl; simp only [go_sem, contS_seq, simprocAttr, f2, ↓l2, w2, ↓p2, s2, g2, ↓l4, hw]) | refine And.intro ?_ ?_)
    all_goals
      refine ⟨g.listeners.length - (n + 1), _, by omega, ?_, n + 1, bumpG (modeOf y) e1, bumpG (placeOf y) e2, rfl, by omega, count_step (f := modeOf) hy h1, count_step (f := placeOf) hy h2, rfl⟩
      exact Weak.less (by simp [lessL, lk]) (by simp [lessL, lk]) (by simp [lessL, lk]) rfl
  · have h3 : ((n : Int) < (g.listeners.length : Int)) = False := eq_false (by omega)
    rw [List.take_of_length_le (by omega)] at h1 h2
    have k1 := h1 (x.port, !x.tls)
    have k2 := h2 (placeOf x)
    obtain ⟨r1, hr1⟩ : ∃ r, r = (atG (x.port, !x.tls) e1 0).map fun p => (p.1, Value.int .i64 p.2) := ⟨_, rfl⟩
    obtain ⟨r2, hr2⟩ : ∃ r, r = (atG (placeOf x) e2 0).map fun p => (p.1, Value.int .i64 p.2) := ⟨_, rfl⟩
    have f1 : findS [.int, .bool] [.int .i64 x.port, .bool (!x.tls)] (entG cMode e1) 0 = some r1 := (findS_ent eq_cMode (x.port, !x.tls) e1 0).trans (by rw [hr1])
    have f2 : findS [.int, .bool, .str] [.int .i64 x.port, .bool x.tls, .string x.host] (entG cPlace e2) 0 = some r2 := (findS_ent eq_cPlace (placeOf x) e2 0).trans (by rw [hr2])
    have l1 := cd_look (x.port, !x.tls) e1 r1 hr1
    have l2 := cd_look (placeOf x) e2 r2 hr2
    rw [k1] at l1
    rw [k2] at l2
    simp only [cD0] at l1 l2
    simp only [go_sem, contS_seq, simprocAttr, rows_len, h3, f1, ↓l1]
    refine GifP.mk (fun q1 => ?_) (fun q1 => ?_)
    · rw [if_pos q1]
      simp only [retK, fullK, iterK, resD, resA, AOp.ex, St.ev, Option.map_some, Option.bind_some, St.get, lk, reduceIte, Nat.reduceEqDiff, Option.getD_some, oneD, List.getElem?_cons_zero, List.getElem?_cons_succ, List.drop_zero, List.drop_succ_cons, List.take_succ_cons, List.take_zero, List.length_cons, List.length_nil, Nat.zero_add, Nat.reduceAdd, Nat.le_refl, Nat.reduceLeDiff, D.pub, D.pubs, Tryz.results45]
      exact ⟨_, rfl, rfl, rfl⟩
    rw [if_neg q1]
    refine (listen_of x).callW (enters_of Tryz.func79 rfl rfl) _ rfl rfl ?_
    rintro _ rfl
    simp only [go_sem, contS_seq, simprocAttr, f2, ↓l2]
    refine GifP.mk (fun q2 => ?_) (fun q2 => ?_)
    · rw [if_pos q2]
      simp only [retK, fullK, iterK, resD, resA, AOp.ex, St.ev, Option.map_some, Option.bind_some, St.get, lk, reduceIte, Nat.reduceEqDiff, Option.getD_some, oneD, List.getElem?_cons_zero, List.getElem?_cons_succ, List.drop_zero, List.drop_succ_cons, List.take_succ_cons, List.take_zero, List.length_cons, List.length_nil, Nat.zero_add, Nat.reduceAdd, Nat.le_refl, Nat.reduceLeDiff, D.pub, D.pubs, Tryz.results45]
      exact ⟨_, rfl, rfl, rfl⟩
    rw [if_neg q2]
    simp only [retK, fullK, iterK, resD, resA, AOp.ex, St.ev, Option.map_some, Option.bind_some, St.get, lk, reduceIte, Nat.reduceEqDiff, Option.getD_some, oneD, List.getElem?_cons_zero, List.getElem?_cons_succ, List.drop_zero, List.drop_succ_cons, List.take_succ_cons, List.take_zero, List.length_cons, List.length_nil, Nat.zero_add, Nat.reduceAdd, Nat.le_refl, Nat.reduceLeDiff, D.pub, D.pubs, Tryz.results45]
    exact ⟨_, rfl, rfl, rfl⟩


def noLet : ByteArray := ⟨#[82, 101, 102, 78, 111, 116, 80, 101, 114, 109, 105, 116, 116, 101, 100]⟩
def badCert : ByteArray := ⟨#[73, 110, 118, 97, 108, 105, 100, 67, 101, 114, 116, 105, 102, 105, 99, 97, 116, 101, 82, 101, 102]⟩

def certOf (os : List AObj) (space : ByteArray) (r : ARef) : ByteArray :=
  if permits os 5 space r = true then (if goodAt os r = true then ⟨#[]⟩ else badCert) else noLet

def cert (os : List AObj) (g : AObj) (i : Int) : ByteArray := match atL g i with
  | none => ⟨#[]⟩
  | some x => if x.tls = true then certOf os g.ref.space (near x.cert g.ref.space) else ⟨#[]⟩

theorem listen_Cert (os : List AObj) (hos : os.length ≤ 1000000) (h : ∀ o ∈ os, o.ok) (g : AObj) (hg : g.ok) (i : Int) : Pure Tryz.prog 47 [.pd (.slice (rows AObj.pd os)), g.d, int i] (fun d => d = str (cert os g i)) := by
  refine pure_of_run follows an_zeup4 Tryz.func47 rfl ok_zeup4 dst_zeup4 (by simp [Tryz.ntmps47]) ?_
  rw [run_start]
  simp only [ac_zeup4, go_sem, contS_seq, simprocAttr]
  refine (listen_at g hg i).callW (enters_of Tryz.func78 rfl rfl) _ rfl rfl ?_
  rintro _ rfl
  unfold cert
  rcases hat : atL g i with _ | x
  · simp only [atD, go_sem, contS_seq, simprocAttr]
    refine (grant_Near ⟨0, ⟨#[]⟩, ⟨#[]⟩⟩ g.ref.space).callW (enters_of Tryz.func27 rfl rfl) _ rfl rfl ?_
    rintro _ rfl
    simp only [go_sem, contS_seq, simprocAttr]
    simp only [retK, fullK, iterK, resD, resA, AOp.ex, St.ev, Option.map_some, Option.bind_some, St.get, lk, reduceIte, Nat.reduceEqDiff, Option.getD_some, oneD, List.getElem?_cons_zero, List.getElem?_cons_succ, List.drop_zero, List.drop_succ_cons, List.take_succ_cons, List.take_zero, List.length_cons, List.length_nil, Nat.zero_add, Nat.reduceAdd, Nat.le_refl, Nat.reduceLeDiff, D.pub, D.pubs, Tryz.results47]
    exact ⟨_, rfl, rfl, rfl⟩
  simp only [atD, go_sem, contS_seq, simprocAttr]
  refine (grant_Near x.cert g.ref.space).callW (enters_of Tryz.func27 rfl rfl) _ rfl rfl ?_
  rintro _ rfl
  generalize near x.cert g.ref.space = r
  unfold certOf
  cases x.tls
  · simp only [go_sem, contS_seq, simprocAttr]
    simp only [retK, fullK, iterK, resD, resA, AOp.ex, St.ev, Option.map_some, Option.bind_some, St.get, lk, reduceIte, Nat.reduceEqDiff, Option.getD_some, oneD, List.getElem?_cons_zero, List.getElem?_cons_succ, List.drop_zero, List.drop_succ_cons, List.take_succ_cons, List.take_zero, List.length_cons, List.length_nil, Nat.zero_add, Nat.reduceAdd, Nat.le_refl, Nat.reduceLeDiff, D.pub, D.pubs, Tryz.results47]
    exact ⟨_, rfl, rfl, rfl⟩
  simp only [go_sem, contS_seq, simprocAttr]
  refine (grant_Permits' os hos h 5 g.ref.space r).callW (enters_of Tryz.func17 rfl rfl) _ rfl rfl ?_
  rintro _ rfl
  cases permits os 5 g.ref.space r
  · simp only [go_sem, contS_seq, simprocAttr]
    simp only [retK, fullK, iterK, resD, resA, AOp.ex, St.ev, Option.map_some, Option.bind_some, St.get, lk, reduceIte, Nat.reduceEqDiff, Option.getD_some, oneD, List.getElem?_cons_zero, List.getElem?_cons_succ, List.drop_zero, List.drop_succ_cons, List.take_succ_cons, List.take_zero, List.length_cons, List.length_nil, Nat.zero_add, Nat.reduceAdd, Nat.le_refl, Nat.reduceLeDiff, D.pub, D.pubs, Tryz.results47]
    exact ⟨_, rfl, rfl, rfl⟩
  simp only [go_sem, contS_seq, simprocAttr]
  refine (listen_good os hos h r).callW (enters_of Tryz.func81 rfl rfl) _ rfl rfl ?_
  rintro _ rfl
  cases goodAt os r
  all_goals
    simp only [go_sem, contS_seq, simprocAttr]
    simp only [retK, fullK, iterK, resD, resA, AOp.ex, St.ev, Option.map_some, Option.bind_some, St.get, lk, reduceIte, Nat.reduceEqDiff, Option.getD_some, oneD, List.getElem?_cons_zero, List.getElem?_cons_succ, List.drop_zero, List.drop_succ_cons, List.take_succ_cons, List.take_zero, List.length_cons, List.length_nil, Nat.zero_add, Nat.reduceAdd, Nat.le_refl, Nat.reduceLeDiff, D.pub, D.pubs, Tryz.results47]
    exact ⟨_, rfl, rfl, rfl⟩

def served (os : List AObj) (g : AObj) (i : Int) : Bool := (atL g i).isSome && ours os g && decide (conflict g i = ⟨#[]⟩) && decide (cert os g i = ⟨#[]⟩)

theorem listen_Served (os : List AObj) (hos : os.length ≤ 1000000) (h : ∀ o ∈ os, o.ok) (g : AObj) (hg : g.ok) (i : Int) : Pure Tryz.prog 44 [.pd (.slice (rows AObj.pd os)), g.d, int i] (fun d => d = bln (served os g i)) := by
  refine pure_of_run follows an_zwyow Tryz.func44 rfl ok_zwyow dst_zwyow (by simp [Tryz.ntmps44]) ?_
  rw [run_start]
  simp only [ac_zwyow, go_sem, contS_seq, simprocAttr]
  refine (listen_at g hg i).callW (enters_of Tryz.func78 rfl rfl) _ rfl rfl ?_
  rintro _ rfl
  unfold served
  rcases hat : atL g i with _ | x
  · simp only [atD, go_sem, contS_seq, simprocAttr]
    simp only [retK, fullK, iterK, resD, resA, AOp.ex, St.ev, Option.map_some, Option.bind_some, St.get, lk, reduceIte, Nat.reduceEqDiff, Option.getD_some, oneD, List.getElem?_cons_zero, List.getElem?_cons_succ, List.drop_zero, List.drop_succ_cons, List.take_succ_cons, List.take_zero, List.length_cons, List.length_nil, Nat.zero_add, Nat.reduceAdd, Nat.le_refl, Nat.reduceLeDiff, D.pub, D.pubs, Tryz.results44]
    exact ⟨_, rfl, rfl, rfl⟩
  simp only [atD, go_sem, contS_seq, simprocAttr]
  refine (listen_Ours os hos h g hg).callW (enters_of Tryz.func48 rfl rfl) _ rfl rfl ?_
  rintro _ rfl
  generalize ours os g = b1
  generalize hc : cert os g i = b3
  have c3 := listen_Cert os hos h g hg i
  rw [hc] at c3
  cases b1
  · simp only [go_sem, contS_seq, simprocAttr]
    simp only [retK, fullK, iterK, resD, resA, AOp.ex, St.ev, Option.map_some, Option.bind_some, St.get, lk, reduceIte, Nat.reduceEqDiff, Option.getD_some, oneD, List.getElem?_cons_zero, List.getElem?_cons_succ, List.drop_zero, List.drop_succ_cons, List.take_succ_cons, List.take_zero, List.length_cons, List.length_nil, Nat.zero_add, Nat.reduceAdd, Nat.le_refl, Nat.reduceLeDiff, D.pub, D.pubs, Tryz.results44]
    exact ⟨_, rfl, rfl, rfl⟩
  simp only [go_sem, contS_seq, simprocAttr]
  refine (listen_Conflict g hg i).callW (enters_of Tryz.func45 rfl rfl) _ rfl rfl ?_
  rintro _ rfl
  generalize conflict g i = b2
  simp only [go_sem, contS_seq, simprocAttr]
  refine GifP.mk (fun h2 => ?_) (fun h2 => ?_)
  · refine c3.callW (enters_of Tryz.func47 rfl rfl) _ rfl rfl ?_
    rintro _ rfl
    simp only [go_sem, contS_seq, simprocAttr]
    simp only [retK, fullK, iterK, resD, resA, AOp.ex, St.ev, Option.map_some, Option.bind_some, St.get, lk, reduceIte, Nat.reduceEqDiff, Option.getD_some, oneD, List.getElem?_cons_zero, List.getElem?_cons_succ, List.drop_zero, List.drop_succ_cons, List.take_succ_cons, List.take_zero, List.length_cons, List.length_nil, Nat.zero_add, Nat.reduceAdd, Nat.le_refl, Nat.reduceLeDiff, D.pub, D.pubs, Tryz.results44]
    exact ⟨_, rfl, rfl, by rw [decide_eq_true h2]; rfl⟩
  · simp only [retK, fullK, iterK, resD, resA, AOp.ex, St.ev, Option.map_some, Option.bind_some, St.get, lk, reduceIte, Nat.reduceEqDiff, Option.getD_some, oneD, List.getElem?_cons_zero, List.getElem?_cons_succ, List.drop_zero, List.drop_succ_cons, List.take_succ_cons, List.take_zero, List.length_cons, List.length_nil, Nat.zero_add, Nat.reduceAdd, Nat.le_refl, Nat.reduceLeDiff, D.pub, D.pubs, Tryz.results44]
    exact ⟨_, rfl, rfl, by rw [decide_eq_false h2]; rfl⟩

def aFour : AObj := ⟨⟨5, ⟨#[119, 101, 98]⟩, ⟨#[103, 119]⟩⟩, false, [], [], ⟨#[99]⟩, [⟨⟨#[97]⟩, 80, false, ⟨#[97, 46, 116, 101, 115, 116]⟩, ⟨0, ⟨#[]⟩, ⟨#[]⟩⟩, 0, []⟩, ⟨⟨#[98]⟩, 80, false, ⟨#[97, 46, 116, 101, 115, 116]⟩, ⟨0, ⟨#[]⟩, ⟨#[]⟩⟩, 0, []⟩,
  ⟨⟨#[99]⟩, 80, false, ⟨#[98, 46, 116, 101, 115, 116]⟩, ⟨0, ⟨#[]⟩, ⟨#[]⟩⟩, 0, []⟩, ⟨⟨#[100]⟩, 443, true, ⟨#[]⟩, ⟨4, ⟨#[]⟩, ⟨#[115]⟩⟩, 0, []⟩], [], [], [], [], []⟩
def aClass : AObj := ⟨⟨1, ⟨#[]⟩, ⟨#[99]⟩⟩, true, [], [], ⟨#[]⟩, [], [], [], [], [], []⟩

theorem aFour_ok : aFour.ok := by
  constructor <;> simp [aFour]
  refine ⟨?_, ?_, ?_, ?_⟩ <;> exact ⟨by simp, by simp⟩
theorem aClass_ok : aClass.ok := by constructor <;> simp [aClass]
theorem aClass_oks : ∀ o ∈ [aClass], o.ok := fun o h => by rw [List.mem_singleton.1 h]; exact aClass_ok

theorem law12_four : Pure Tryz.prog 80 [] (fun d => d = aFour.d) := by
  refine pure_of_run follows an_zbi27 Tryz.func80 rfl ok_zbi27 dst_zbi27 (by simp [Tryz.ntmps80]) ?_
  rw [run_start]
  simp only [ac_zbi27, go_sem, contS_seq, simprocAttr]
  simp only [retK, fullK, iterK, resD, resA, AOp.ex, St.ev, Option.map_some, Option.bind_some, St.get, lk, reduceIte, Nat.reduceEqDiff, Option.getD_some, oneD, List.getElem?_cons_zero, List.getElem?_cons_succ, List.drop_zero, List.drop_succ_cons, List.take_succ_cons, List.take_zero, List.length_cons, List.length_nil, Nat.zero_add, Nat.reduceAdd, Nat.le_refl, Nat.reduceLeDiff, D.pub, D.pubs, ret_zbi27]
  exact ⟨_, rfl, rfl, rfl⟩

theorem awake12 : Pure Tryz.prog 46 [] (fun d => d = bln true) := by
  have c1 := listen_Conflict aFour aFour_ok 0
  rw [show conflict aFour 0 = hostnames by decide +kernel] at c1
  have c2 := listen_Conflict aFour aFour_ok 2
  rw [show conflict aFour 2 = ⟨#[]⟩ by decide +kernel] at c2
  have c3 := listen_Cert [aClass] (by simp) aClass_oks aFour aFour_ok 3
  rw [show cert [aClass] aFour 3 = badCert by decide +kernel] at c3
  have c4 := listen_Served [aClass] (by simp) aClass_oks aFour aFour_ok 2
  rw [show served [aClass] aFour 2 = true by decide +kernel] at c4
  have c5 := listen_Ours [aClass] (by simp) aClass_oks aFour aFour_ok
  rw [show ours [aClass] aFour = true by decide +kernel] at c5
  refine pure_of_run follows an_zwa7s Tryz.func46 rfl ok_zwa7s dst_zwa7s (by simp [Tryz.ntmps46]) ?_
  rw [run_start]
  simp only [ac_zwa7s, go_sem, contS_seq, simprocAttr]
  refine law12_four.callW (enters_of Tryz.func80 rfl rfl) _ rfl rfl ?_
  rintro _ rfl
  simp only [go_sem, contS_seq, simprocAttr]
  refine c1.callW (enters_of Tryz.func45 rfl rfl) _ rfl rfl ?_
  rintro _ rfl
  simp only [go_sem, contS_seq, simprocAttr, hostnames]
  refine law12_four.callW (enters_of Tryz.func80 rfl rfl) _ rfl rfl ?_
  rintro _ rfl
  simp only [go_sem, contS_seq, simprocAttr]
  refine c2.callW (enters_of Tryz.func45 rfl rfl) _ rfl rfl ?_
  rintro _ rfl
  simp only [go_sem, contS_seq, simprocAttr]
  refine law12_four.callW (enters_of Tryz.func80 rfl rfl) _ rfl rfl ?_
  rintro _ rfl
  simp only [go_sem, contS_seq, simprocAttr]
  refine c3.callW (enters_of Tryz.func47 rfl rfl) _ rfl rfl ?_
  rintro _ rfl
  simp only [go_sem, contS_seq, simprocAttr, badCert]
  refine law12_four.callW (enters_of Tryz.func80 rfl rfl) _ rfl rfl ?_
  rintro _ rfl
  simp only [go_sem, contS_seq, simprocAttr]
  refine c4.callW (enters_of Tryz.func44 rfl rfl) _ rfl rfl ?_
  rintro _ rfl
  simp only [go_sem, contS_seq, simprocAttr]
  refine law12_four.callW (enters_of Tryz.func80 rfl rfl) _ rfl rfl ?_
  rintro _ rfl
  simp only [go_sem, contS_seq, simprocAttr]
  refine c5.callW (enters_of Tryz.func48 rfl rfl) _ rfl rfl ?_
  rintro _ rfl
  simp only [go_sem, contS_seq, simprocAttr]
  simp only [retK, fullK, iterK, resD, resA, AOp.ex, St.ev, Option.map_some, Option.bind_some, St.get, lk, reduceIte, Nat.reduceEqDiff, Option.getD_some, oneD, List.getElem?_cons_zero, List.getElem?_cons_succ, List.drop_zero, List.drop_succ_cons, List.take_succ_cons, List.take_zero, List.length_cons, List.length_nil, Nat.zero_add, Nat.reduceAdd, Nat.le_refl, Nat.reduceLeDiff, D.pub, D.pubs, Tryz.results46]
  exact ⟨_, rfl, rfl, rfl⟩


theorem countP_two {α : Type} {p : α → Bool} {l : List α} {i k : Nat} {x y : α} (hx : l[i]? = some x) (hy : l[k]? = some y) (hki : k < i) (h1 : p x = true) (h2 : p y = true) : 2 ≤ l.countP p := by
  rw [← List.take_append_drop i l, List.countP_append, drop_at hx, List.countP_cons_of_pos h1]
  have : 0 < (l.take i).countP p := List.countP_pos_iff.2 ⟨y, List.mem_of_getElem? (i := k) (by rw [List.getElem?_take, if_pos hki]; exact hy), h2⟩
  omega

def clash (x y : AListener) : Prop := x.port = y.port ∧ (x.tls ≠ y.tls ∨ x.host = y.host)

theorem clash_symm {x y : AListener} (h : clash x y) : clash y x := ⟨h.1.symm, h.2.imp (fun h => h.symm) (fun h => h.symm)⟩

theorem conflict_some {g : AObj} {i : Int} {x y : AListener} (ha : atL g i = some x) (hy : y ∈ g.listeners) (hc : clash x y) (h2 : x.tls = y.tls → 2 ≤ nPlace g.listeners (placeOf x)) : ¬ conflict g i = ⟨#[]⟩ := by
  unfold conflict
  rw [ha]
  simp only
  by_cases ht : x.tls = y.tls
  · have := h2 ht
    split
    · decide +kernel
    · rw [if_pos (by omega)]
      decide +kernel
  · have : 0 < nMode g.listeners (x.port, !x.tls) := List.countP_pos_iff.2 ⟨y, hy, by
      have : y.tls = !x.tls := by cases hx : x.tls <;> cases hz : y.tls <;> simp_all
      simp [modeOf, this, hc.1]⟩
    rw [if_pos (by omega)]
    decide +kernel

theorem atL_some {g : AObj} {i : Nat} {x : AListener} (hg : gwOk g = true) (hx : g.listeners[i]? = some x) : atL g i = some x := by
  unfold atL
  rw [if_pos hg, if_neg (by omega), Int.toNat_natCast, hx]

theorem atL_off {g : AObj} {i : Int} (hg : gwOk g = false) : atL g i = none := by
  unfold atL
  rw [if_neg (by simp [hg])]

theorem apart {os : List AObj} {g : AObj} {i k : Nat} {x y : AListener} (hx : g.listeners[i]? = some x) (hy : g.listeners[k]? = some y) (hki : k < i) (hc : clash x y) :
    served os g i = false ∧ served os g k = false ∧ (conflict g i = ⟨#[]⟩ ↔ conflict g k = ⟨#[]⟩) := by
  cases hg : gwOk g
  · have h1 := atL_off (i := i) hg
    have h2 := atL_off (i := k) hg
    refine ⟨by simp [served, h1], by simp [served, h2], ?_⟩
    simp [conflict, h1, h2]
  · have h1 := atL_some hg hx
    have h2 := atL_some hg hy
    have hp : ∀ (ht : x.tls = y.tls), placeOf x = placeOf y := fun ht => by
      rcases hc.2 with h | h
      · exact absurd ht h
      · simp [placeOf, hc.1, ht, h]
    have n1 := conflict_some h1 (List.mem_of_getElem? hy) hc (fun ht => countP_two hx hy hki (by simp) (by simp [hp ht]))
    have n2 := conflict_some h2 (List.mem_of_getElem? hx) (clash_symm hc) (fun ht => countP_two hx hy hki (by simp [hp ht.symm]) (by simp))
    exact ⟨by simp [served, n1], by simp [served, n2], by simp [n1, n2]⟩


theorem gw_kind {g : AObj} (h : gwOk g = true) : g.ref.kind = 5 ∧ objMay g = true := by simpa [gwOk] using h

theorem gw_may {g : AObj} (h : gwOk g = true) : gatewayMay g.cls g.listeners = true := by
  obtain ⟨h1, h2⟩ := gw_kind h
  simp only [objMay, Bool.and_eq_true] at h2
  have := h2.1.2
  simpa [kindMay, h1] using this

theorem gw_cert {g : AObj} (h : gwOk g = true) {x : AListener} (hx : x ∈ g.listeners) (ht : x.tls = true) : x.cert.kind = 4 := by
  have := gw_may h
  simp only [gatewayMay, every, Bool.and_eq_true, List.all_eq_true] at this
  have h1 := this.1.2.2 x hx
  simp only [listenerMay, ht, if_true, Bool.and_eq_true, decide_eq_true_eq] at h1
  exact h1.1.1.1.1.1.1.1.1.1

theorem atL_mem {g : AObj} {i : Int} {x : AListener} (h : atL g i = some x) : gwOk g = true ∧ x ∈ g.listeners ∧ 0 ≤ i ∧ g.listeners[i.toNat]? = some x := by
  unfold atL at h
  split at h
  · rename_i hg
    split at h
    · cases h
    · exact ⟨hg, List.mem_of_getElem? h, by omega, h⟩
  · cases h

theorem permits_filter (p : AObj → Bool) (hp : ∀ o : AObj, o.ref.kind = 7 → p o = true) (os : List AObj) (k : Int) (s : ByteArray) (t : ARef) : permits (os.filter p) k s t = permits os k s t := by
  unfold permits
  congr 1
  apply Bool.eq_iff_iff.2
  simp only [List.any_eq_true, List.mem_filter]
  constructor
  · rintro ⟨o, ⟨h1, _⟩, h2⟩; exact ⟨o, h1, h2⟩
  · rintro ⟨o, h1, h2⟩
    refine ⟨o, ⟨h1, hp o ?_⟩, h2⟩
    simp only [lets, Bool.and_eq_true, decide_eq_true_eq] at h2
    exact h2.1.1.1.1

theorem found_filter (p : AObj → Bool) (t : ARef) (hp : ∀ o : AObj, o.ref.kind = t.kind → p o = true) : ∀ os : List AObj, found (os.filter p) t = found os t
  | [] => rfl
  | o :: os => by
    have ih := found_filter p t hp os
    unfold found at ih ⊢
    by_cases h : p o = true
    · rw [List.filter_cons_of_pos h, List.find?_cons, List.find?_cons, ih]
    · have : isRef t o = false := by
        simp only [isRef, decide_eq_false_iff_not]
        rintro e
        exact h (hp o (by rw [e]))
      rw [List.filter_cons_of_neg h, List.find?_cons, this, ih]

theorem good_filter (p : AObj → Bool) (t : ARef) (hp : ∀ o : AObj, o.ref.kind = t.kind → p o = true) (os : List AObj) : goodAt (os.filter p) t = goodAt os t := by
  unfold goodAt
  rw [found_filter p t hp]

theorem ours_filter (p : AObj → Bool) (hp : ∀ o : AObj, o.ref.kind = 1 → p o = true) (os : List AObj) (g : AObj) : ours (os.filter p) g = ours os g := by
  unfold ours
  rw [good_filter p _ hp]

theorem cert_filter (p : AObj → Bool) (hp : ∀ o : AObj, o.ref.kind = 4 ∨ o.ref.kind = 7 → p o = true) (os : List AObj) (g : AObj) (i : Int) : cert (os.filter p) g i = cert os g i := by
  unfold cert
  rcases h : atL g i with _ | x
  · rfl
  · simp only
    obtain ⟨hg, hx, _⟩ := atL_mem h
    by_cases ht : x.tls = true
    · rw [if_pos ht, if_pos ht]
      unfold certOf
      have hk : (near x.cert g.ref.space).kind = 4 := by
        rw [← gw_cert hg hx ht]; unfold near; split <;> rfl
      rw [permits_filter p (fun o h => hp o (.inr h)), good_filter p _ (fun o h => hp o (.inl (by rw [h, hk])))]
    · rw [if_neg ht, if_neg ht]

theorem served_filter (p : AObj → Bool) (hp : ∀ o : AObj, o.ref.kind = 1 ∨ o.ref.kind = 4 ∨ o.ref.kind = 7 → p o = true) (os : List AObj) (g : AObj) (i : Int) : served (os.filter p) g i = served os g i := by
  unfold served
  rw [ours_filter p (fun o h => hp o (.inl h)), cert_filter p (fun o h => hp o (.inr h))]

theorem served_plain (p : AObj → Bool) (hp : ∀ o : AObj, o.ref.kind = 1 → p o = true) (os : List AObj) (g : AObj) (i : Int) (ht : ∀ x, atL g i = some x → x.tls = false) : served (os.filter p) g i = served os g i := by
  unfold served
  rw [ours_filter p hp]
  congr 2
  unfold cert
  rcases h : atL g i with _ | x
  · rfl
  · simp only [ht x h, Bool.false_eq_true, if_false]

def fewK (o : AObj) : Bool := decide (o.ref.kind ≠ 6) && decide (o.ref.kind ≠ 5) && decide (o.ref.kind ≠ 3) && decide (o.ref.kind ≠ 2)
def bareK (o : AObj) : Bool := decide (o.ref.kind = 1)

end Go.Proofs.YtjhomppadppfnaaGreatDoor
