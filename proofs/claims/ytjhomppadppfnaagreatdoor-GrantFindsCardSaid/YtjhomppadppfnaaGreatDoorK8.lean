/- Texts of the prover's, joined: FH E4 FD E5 FE FI D9 H1 R4 D8 EF DB J1 H5. -/
import Derived.Test.YtjhomppadppfnaaGreatDoorK7
import Derived.Test.YtjhomppadppfnaaGreatDoorProg
import Derived.KernelRfl
import Derived.ChangeMaps5

namespace Go.Proofs.YtjhomppadppfnaaGreatDoor
open Go Go.RowKit
set_option linter.unusedSimpArgs false
set_option linter.unusedVariables false
set_option maxRecDepth 100000

theorem run_cutJ {P : Program} {x y : AC} {st : St} {S : List Fr} {K : Exit → St → Prop} (J : St → Prop) (h1 : ∀ K' : Exit → St → Prop, (∀ s, J s → K' .normal s) → run P x st (contS P [] K')) (h2 : ∀ s, J s → run P y s (contS P S K)) : run P (.seq x y) st (contS P S K) := by
  rw [run_seq]; exact h1 (contS P (.seq y :: S) K) h2

def fewListener (l : AListener) : AListener := ⟨few l.name, l.port, l.tls, few l.host, fewRef l.cert, l.from_, fewNeeds l.needs⟩
def fewParent (p : AParent) : AParent := ⟨few p.space, few p.name, few p.section_, p.port⟩
def fewBackend (b : ABackend) : ABackend := ⟨fewRef b.ref, b.port, b.weight⟩
def fewRule (r : ARule) : ARule := ⟨(r.matches_.take 5).map fewMatch, fewFilters r.filters, (r.backends.take 5).map fewBackend⟩
def fewObj (o : AObj) : AObj := ⟨fewRef o.ref, o.good, fewPairs o.labels, o.ports.take 9, few o.cls, (o.listeners.take 9).map fewListener, (o.parents.take 5).map fewParent, (o.hosts.take 5).map few, (o.rules.take 7).map fewRule, fewSides o.from_, fewSides o.to_⟩

set_option maxHeartbeats 4000000 in
theorem law9_Few (o : AObj) : Pure Tryz.prog 20 [o.d] (fun d => d = (fewObj o).d) := by
  refine pure_of_run follows an_z8s55 Tryz.func20 rfl ok_z8s55 dst_z8s55 (by simp [Tryz.ntmps20]) ?_
  rw [run_start]
  simp only [ac_z8s55]
  apply run_cut
  · intro K' hK
    simp only [go_sem, contS_seq, simprocAttr]
    exact hK
  apply run_cut
  · intro K' hK
    simp only [go_sem, contS_seq, simprocAttr]
    repeat' (first | exact hK | (refine (law9_FewRef o.ref).callX (enters_of Tryz.func21 rfl rfl) _ rfl rfl ?_; rintro _ rfl; simp only [go_sem, contS_seq, simprocAttr]) | (refine (law5_Few o.labels).callX (enters_of Tryz.func55 rfl rfl) _ rfl rfl ?_; rintro _ rfl; simp only [go_sem, contS_seq, simprocAttr]) | (refine (law1_Few o.cls).callX (enters_of Tryz.func22 rfl rfl) _ rfl rfl ?_; rintro _ rfl; simp only [go_sem, contS_seq, simprocAttr]) | (refine (law9_sides o.from_).callX (enters_of Tryz.func56 rfl rfl) _ rfl rfl ?_; rintro _ rfl; simp only [go_sem, contS_seq, simprocAttr]) | (refine (law9_sides o.to_).callX (enters_of Tryz.func56 rfl rfl) _ rfl rfl ?_; rintro _ rfl; simp only [go_sem, contS_seq, simprocAttr]) | refine And.intro ?_ ?_)
  refine run_cutJ (fun s => ∃ i : Nat, s = ⟨[(41, bln false), (1, .ptr 1 0), (2, .ptr 2 0), (3, .ptr 3 0), (4, int i), (41, bln false)], [(1, [int o.ref.kind, str o.ref.space, str o.ref.name, bln o.good, .pd (.slice (rows APair.pd o.labels)), .pd (.slice (ints o.ports)), str o.cls, .pd (.slice (rows AListener.pd o.listeners)), .pd (.slice (rows AParent.pd o.parents)), .pd (.slice (strs o.hosts)), .pd (.slice (rows ARule.pd o.rules)), .pd (.slice (rows ASide.pd o.from_)), .pd (.slice (rows ASide.pd o.to_))]), (2, [int 0, str ⟨#[]⟩, str ⟨#[]⟩, bln false, .nils, .nils, str ⟨#[]⟩, .nils, .nils, .nils, .nils, .nils, .nils]), (3, [int (fewRef o.ref).kind, str (fewRef o.ref).space, str (fewRef o.ref).name, bln o.good, .pd (.slice (rows APair.pd (fewPairs o.labels))), .own 3 1 (rows cInt ((o.ports.take 9).map id)) 52, str (few o.cls), .nils, .nils, .nils, .nils, .pd (.slice (rows ASide.pd (fewSides o.from_))), .pd (.slice (rows ASide.pd (fewSides o.to_)))])], [], .no⟩) ?_ ?_
  · intro K' hK
    simp only [go_sem, contS_seq, simprocAttr, rows_len]
    refine loopS (fun k st => ∃ i : Nat, k = 9 - i ∧ i ≤ 9 ∧ i ≤ o.ports.length ∧
      st = ⟨[(1, .ptr 1 0), (2, .ptr 2 0), (3, .ptr 3 0), (4, int i)], [(1, [int o.ref.kind, str o.ref.space, str o.ref.name, bln o.good, .pd (.slice (rows APair.pd o.labels)), .pd (.slice (ints o.ports)), str o.cls, .pd (.slice (rows AListener.pd o.listeners)), .pd (.slice (rows AParent.pd o.parents)), .pd (.slice (strs o.hosts)), .pd (.slice (rows ARule.pd o.rules)), .pd (.slice (rows ASide.pd o.from_)), .pd (.slice (rows ASide.pd o.to_))]), (2, [int 0, str ⟨#[]⟩, str ⟨#[]⟩, bln false, .nils, .nils, str ⟨#[]⟩, .nils, .nils, .nils, .nils, .nils, .nils]), (3, [int (fewRef o.ref).kind, str (fewRef o.ref).space, str (fewRef o.ref).name, bln o.good, .pd (.slice (rows APair.pd (fewPairs o.labels))), .own 3 1 (rows cInt ((o.ports.take i).map id)) 52, str (few o.cls), .nils, .nils, .nils, .nils, .pd (.slice (rows ASide.pd (fewSides o.from_))), .pd (.slice (rows ASide.pd (fewSides o.to_)))])], [], .no⟩) 9 _
      ?_ ⟨0, rfl, by omega, by omega, rfl⟩ ?_
    · exact Weak.ownB 3 5 52 3 1 (by kernel_rfl) (by decide) rfl rfl (by simp [lessL, lk, St.purge, D.purge, rows]) (by simp [lessL, lk, St.purge, D.purges, D.purge, rows]) (by simp [lessL]) rfl
    rintro k st ⟨i, rfl, hi6, hi, rfl⟩
    have hw := i64_succ (show i < 1000000000 by omega)
    by_cases hlt : i < o.ports.length ∧ i < 9
    · obtain ⟨x, hx⟩ := at_lt hlt.1
      have h1 : ((i : Int) < (o.ports.length : Int)) = True := eq_true (by omega)
      have h2 : ((i : Int) < 9) = True := eq_true (by omega)
      have hl' : ((o.ports.take i).map id).length ≤ i := by simp; omega
      have e1 : rows cInt ((o.ports.take i).map id) ++ [[PD.raw (Value.int IntKind.i64 x)]] = rows cInt ((o.ports.take (i + 1)).map id) := few_step hx
      simp only [go_sem, contS_seq, simprocAttr, rows_len, rows_get hx, h1, h2]
      simp only [go_sem, contS_seq, simprocAttr, hw, e1]
      refine ⟨by simp, by unfold maxLen; omega, by omega, 9 - (i + 1), _, by omega, ?_, i + 1, rfl, by omega, by omega, rfl⟩
      exact Weak.less (by simp [lessL, lk]) (by simp [lessL, lk]) (by simp [lessL, lk]) rfl
    · have h3 := few_end (g := id) hi6 hi hlt
      rw [h3]
      by_cases h1 : i < o.ports.length
      · have h1' : ((i : Int) < (o.ports.length : Int)) = True := eq_true (by omega)
        have h2 : ((i : Int) < 9) = False := eq_false (by omega)
        simp only [go_sem, contS_seq, simprocAttr, rows_len, h1', h2]
        exact hK _ ⟨i, rfl⟩
      · have h1' : ((i : Int) < (o.ports.length : Int)) = False := eq_false (by omega)
        simp only [go_sem, contS_seq, simprocAttr, rows_len, h1']
        exact hK _ ⟨i, rfl⟩
  rintro s ⟨_, rfl⟩
  refine run_cutJ (fun s => ∃ i : Nat, s = ⟨[(62, bln false), (1, .ptr 1 0), (2, .ptr 2 0), (3, .ptr 3 0), (5, int i), (62, bln false)], [(1, [int o.ref.kind, str o.ref.space, str o.ref.name, bln o.good, .pd (.slice (rows APair.pd o.labels)), .pd (.slice (ints o.ports)), str o.cls, .pd (.slice (rows AListener.pd o.listeners)), .pd (.slice (rows AParent.pd o.parents)), .pd (.slice (strs o.hosts)), .pd (.slice (rows ARule.pd o.rules)), .pd (.slice (rows ASide.pd o.from_)), .pd (.slice (rows ASide.pd o.to_))]), (2, [int 0, str ⟨#[]⟩, str ⟨#[]⟩, bln false, .nils, .nils, str ⟨#[]⟩, .nils, .nils, .nils, .nils, .nils, .nils]), (3, [int (fewRef o.ref).kind, str (fewRef o.ref).space, str (fewRef o.ref).name, bln o.good, .pd (.slice (rows APair.pd (fewPairs o.labels))), .own 3 1 (rows cInt ((o.ports.take 9).map id)) 52, str (few o.cls), .own 82 9 (rows AListener.pd ((o.listeners.take 9).map fewListener)) 92, .nils, .nils, .nils, .pd (.slice (rows ASide.pd (fewSides o.from_))), .pd (.slice (rows ASide.pd (fewSides o.to_)))])], [], .no⟩) ?_ ?_
  · intro K' hK
    simp only [go_sem, contS_seq, simprocAttr, rows_len]
    refine loopS (fun k st => ∃ i : Nat, k = 9 - i ∧ i ≤ 9 ∧ i ≤ o.listeners.length ∧
      st = ⟨[(1, .ptr 1 0), (2, .ptr 2 0), (3, .ptr 3 0), (5, int i)], [(1, [int o.ref.kind, str o.ref.space, str o.ref.name, bln o.good, .pd (.slice (rows APair.pd o.labels)), .pd (.slice (ints o.ports)), str o.cls, .pd (.slice (rows AListener.pd o.listeners)), .pd (.slice (rows AParent.pd o.parents)), .pd (.slice (strs o.hosts)), .pd (.slice (rows ARule.pd o.rules)), .pd (.slice (rows ASide.pd o.from_)), .pd (.slice (rows ASide.pd o.to_))]), (2, [int 0, str ⟨#[]⟩, str ⟨#[]⟩, bln false, .nils, .nils, str ⟨#[]⟩, .nils, .nils, .nils, .nils, .nils, .nils]), (3, [int (fewRef o.ref).kind, str (fewRef o.ref).space, str (fewRef o.ref).name, bln o.good, .pd (.slice (rows APair.pd (fewPairs o.labels))), .own 3 1 (rows cInt ((o.ports.take 9).map id)) 52, str (few o.cls), .own 82 9 (rows AListener.pd ((o.listeners.take i).map fewListener)) 92, .nils, .nils, .nils, .pd (.slice (rows ASide.pd (fewSides o.from_))), .pd (.slice (rows ASide.pd (fewSides o.to_)))])], [], .no⟩) 9 _
      ?_ ⟨0, rfl, by omega, by omega, rfl⟩ ?_
    · exact Weak.ownB 3 7 92 82 9 (by kernel_rfl) (by decide) rfl rfl (by simp [lessL, lk, St.purge, D.purge, rows]) (by simp [lessL, lk, St.purge, D.purges, D.purge, rows]) (by simp [lessL]) rfl
    rintro k st ⟨i, rfl, hi6, hi, rfl⟩
    have hw := i64_succ (show i < 1000000000 by omega)
    by_cases hlt : i < o.listeners.length ∧ i < 9
    · obtain ⟨x, hx⟩ := at_lt hlt.1
      have h1 : ((i : Int) < (o.listeners.length : Int)) = True := eq_true (by omega)
      have h2 : ((i : Int) < 9) = True := eq_true (by omega)
      have hl' : ((o.listeners.take i).map fewListener).length ≤ i := by simp; omega
      have e1 : rows AListener.pd ((o.listeners.take i).map fewListener) ++ [[PD.raw (Value.string (few x.name)), PD.raw (Value.int IntKind.i64 x.port), PD.raw (Value.bool x.tls), PD.raw (Value.string (few x.host)), PD.raw (Value.int IntKind.i64 (fewRef x.cert).kind), PD.raw (Value.string ((fewRef x.cert).space)), PD.raw (Value.string ((fewRef x.cert).name)), PD.raw (Value.int IntKind.i64 x.from_), PD.slice (rows ANeed.pd (fewNeeds x.needs))]] = rows AListener.pd ((o.listeners.take (i + 1)).map fewListener) := few_step hx
      simp only [go_sem, contS_seq, simprocAttr, rows_len, rows_get hx, h1, h2]
      repeat' (first | (refine (law1_Few x.name).callX (enters_of Tryz.func22 rfl rfl) _ rfl rfl ?_; rintro _ rfl; simp only [go_sem, contS_seq, simprocAttr, rows_len, rows_get hx]) | (refine (law1_Few x.host).callX (enters_of Tryz.func22 rfl rfl) _ rfl rfl ?_; rintro _ rfl; simp only [go_sem, contS_seq, simprocAttr, rows_len, rows_get hx]) | (refine (law9_FewRef x.cert).callX (enters_of Tryz.func21 rfl rfl) _ rfl rfl ?_; rintro _ rfl; simp only [go_sem, contS_seq, simprocAttr, rows_len, rows_get hx]) | (refine (law8_Few x.needs).callX (enters_of Tryz.func57 rfl rfl) _ rfl rfl ?_; rintro _ rfl; simp only [go_sem, contS_seq, simprocAttr, rows_len, rows_get hx]))
      simp only [go_sem, contS_seq, simprocAttr, hw, e1]
      refine ⟨by simp, by unfold maxLen; omega, by omega, 9 - (i + 1), _, by omega, ?_, i + 1, rfl, by omega, by omega, rfl⟩
      exact Weak.less (by simp [lessL, lk]) (by simp [lessL, lk]) (by simp [lessL, lk]) rfl
    · have h3 := few_end (g := fewListener) hi6 hi hlt
      rw [h3]
      by_cases h1 : i < o.listeners.length
      · have h1' : ((i : Int) < (o.listeners.length : Int)) = True := eq_true (by omega)
        have h2 : ((i : Int) < 9) = False := eq_false (by omega)
        simp only [go_sem, contS_seq, simprocAttr, rows_len, h1', h2]
        exact hK _ ⟨i, rfl⟩
      · have h1' : ((i : Int) < (o.listeners.length : Int)) = False := eq_false (by omega)
        simp only [go_sem, contS_seq, simprocAttr, rows_len, h1']
        exact hK _ ⟨i, rfl⟩
  rintro s ⟨_, rfl⟩
  refine run_cutJ (fun s => ∃ i : Nat, s = ⟨[(102, bln false), (1, .ptr 1 0), (2, .ptr 2 0), (3, .ptr 3 0), (7, int i), (102, bln false)], [(1, [int o.ref.kind, str o.ref.space, str o.ref.name, bln o.good, .pd (.slice (rows APair.pd o.labels)), .pd (.slice (ints o.ports)), str o.cls, .pd (.slice (rows AListener.pd o.listeners)), .pd (.slice (rows AParent.pd o.parents)), .pd (.slice (strs o.hosts)), .pd (.slice (rows ARule.pd o.rules)), .pd (.slice (rows ASide.pd o.from_)), .pd (.slice (rows ASide.pd o.to_))]), (2, [int 0, str ⟨#[]⟩, str ⟨#[]⟩, bln false, .nils, .nils, str ⟨#[]⟩, .nils, .nils, .nils, .nils, .nils, .nils]), (3, [int (fewRef o.ref).kind, str (fewRef o.ref).space, str (fewRef o.ref).name, bln o.good, .pd (.slice (rows APair.pd (fewPairs o.labels))), .own 3 1 (rows cInt ((o.ports.take 9).map id)) 52, str (few o.cls), .own 82 9 (rows AListener.pd ((o.listeners.take 9).map fewListener)) 92, .own 96 4 (rows AParent.pd ((o.parents.take 5).map fewParent)) 125, .nils, .nils, .pd (.slice (rows ASide.pd (fewSides o.from_))), .pd (.slice (rows ASide.pd (fewSides o.to_)))])], [], .no⟩) ?_ ?_
  · intro K' hK
    simp only [go_sem, contS_seq, simprocAttr, rows_len]
    refine loopS (fun k st => ∃ i : Nat, k = 5 - i ∧ i ≤ 5 ∧ i ≤ o.parents.length ∧
      st = ⟨[(1, .ptr 1 0), (2, .ptr 2 0), (3, .ptr 3 0), (7, int i)], [(1, [int o.ref.kind, str o.ref.space, str o.ref.name, bln o.good, .pd (.slice (rows APair.pd o.labels)), .pd (.slice (ints o.ports)), str o.cls, .pd (.slice (rows AListener.pd o.listeners)), .pd (.slice (rows AParent.pd o.parents)), .pd (.slice (strs o.hosts)), .pd (.slice (rows ARule.pd o.rules)), .pd (.slice (rows ASide.pd o.from_)), .pd (.slice (rows ASide.pd o.to_))]), (2, [int 0, str ⟨#[]⟩, str ⟨#[]⟩, bln false, .nils, .nils, str ⟨#[]⟩, .nils, .nils, .nils, .nils, .nils, .nils]), (3, [int (fewRef o.ref).kind, str (fewRef o.ref).space, str (fewRef o.ref).name, bln o.good, .pd (.slice (rows APair.pd (fewPairs o.labels))), .own 3 1 (rows cInt ((o.ports.take 9).map id)) 52, str (few o.cls), .own 82 9 (rows AListener.pd ((o.listeners.take 9).map fewListener)) 92, .own 96 4 (rows AParent.pd ((o.parents.take i).map fewParent)) 125, .nils, .nils, .pd (.slice (rows ASide.pd (fewSides o.from_))), .pd (.slice (rows ASide.pd (fewSides o.to_)))])], [], .no⟩) 5 _
      ?_ ⟨0, rfl, by omega, by omega, rfl⟩ ?_
    · exact Weak.ownB 3 8 125 96 4 (by kernel_rfl) (by decide) rfl rfl (by simp [lessL, lk, St.purge, D.purge, rows]) (by simp [lessL, lk, St.purge, D.purges, D.purge, rows]) (by simp [lessL]) rfl
    rintro k st ⟨i, rfl, hi6, hi, rfl⟩
    have hw := i64_succ (show i < 1000000000 by omega)
    by_cases hlt : i < o.parents.length ∧ i < 5
    · obtain ⟨x, hx⟩ := at_lt hlt.1
      have h1 : ((i : Int) < (o.parents.length : Int)) = True := eq_true (by omega)
      have h2 : ((i : Int) < 5) = True := eq_true (by omega)
      have hl' : ((o.parents.take i).map fewParent).length ≤ i := by simp; omega
      have e1 : rows AParent.pd ((o.parents.take i).map fewParent) ++ [[PD.raw (Value.string (few x.space)), PD.raw (Value.string (few x.name)), PD.raw (Value.string (few x.section_)), PD.raw (Value.int IntKind.i64 x.port)]] = rows AParent.pd ((o.parents.take (i + 1)).map fewParent) := few_step hx
      simp only [go_sem, contS_seq, simprocAttr, rows_len, rows_get hx, h1, h2]
      repeat' (first | (refine (law1_Few x.space).callX (enters_of Tryz.func22 rfl rfl) _ rfl rfl ?_; rintro _ rfl; simp only [go_sem, contS_seq, simprocAttr, rows_len, rows_get hx]) | (refine (law1_Few x.name).callX (enters_of Tryz.func22 rfl rfl) _ rfl rfl ?_; rintro _ rfl; simp only [go_sem, contS_seq, simprocAttr, rows_len, rows_get hx]) | (refine (law1_Few x.section_).callX (enters_of Tryz.func22 rfl rfl) _ rfl rfl ?_; rintro _ rfl; simp only [go_sem, contS_seq, simprocAttr, rows_len, rows_get hx]))
      simp only [go_sem, contS_seq, simprocAttr, hw, e1]
      refine ⟨by simp, by unfold maxLen; omega, by omega, 5 - (i + 1), _, by omega, ?_, i + 1, rfl, by omega, by omega, rfl⟩
      exact Weak.less (by simp [lessL, lk]) (by simp [lessL, lk]) (by simp [lessL, lk]) rfl
    · have h3 := few_end (g := fewParent) hi6 hi hlt
      rw [h3]
      by_cases h1 : i < o.parents.length
      · have h1' : ((i : Int) < (o.parents.length : Int)) = True := eq_true (by omega)
        have h2 : ((i : Int) < 5) = False := eq_false (by omega)
        simp only [go_sem, contS_seq, simprocAttr, rows_len, h1', h2]
        exact hK _ ⟨i, rfl⟩
      · have h1' : ((i : Int) < (o.parents.length : Int)) = False := eq_false (by omega)
        simp only [go_sem, contS_seq, simprocAttr, rows_len, h1']
        exact hK _ ⟨i, rfl⟩
  rintro s ⟨_, rfl⟩
  refine run_cutJ (fun s => ∃ i : Nat, s = ⟨[(135, bln false), (1, .ptr 1 0), (2, .ptr 2 0), (3, .ptr 3 0), (9, int i), (135, bln false)], [(1, [int o.ref.kind, str o.ref.space, str o.ref.name, bln o.good, .pd (.slice (rows APair.pd o.labels)), .pd (.slice (ints o.ports)), str o.cls, .pd (.slice (rows AListener.pd o.listeners)), .pd (.slice (rows AParent.pd o.parents)), .pd (.slice (strs o.hosts)), .pd (.slice (rows ARule.pd o.rules)), .pd (.slice (rows ASide.pd o.from_)), .pd (.slice (rows ASide.pd o.to_))]), (2, [int 0, str ⟨#[]⟩, str ⟨#[]⟩, bln false, .nils, .nils, str ⟨#[]⟩, .nils, .nils, .nils, .nils, .nils, .nils]), (3, [int (fewRef o.ref).kind, str (fewRef o.ref).space, str (fewRef o.ref).name, bln o.good, .pd (.slice (rows APair.pd (fewPairs o.labels))), .own 3 1 (rows cInt ((o.ports.take 9).map id)) 52, str (few o.cls), .own 82 9 (rows AListener.pd ((o.listeners.take 9).map fewListener)) 92, .own 96 4 (rows AParent.pd ((o.parents.take 5).map fewParent)) 125, .own 9 1 (rows cStr ((o.hosts.take 5).map few)) 147, .nils, .pd (.slice (rows ASide.pd (fewSides o.from_))), .pd (.slice (rows ASide.pd (fewSides o.to_)))])], [], .no⟩) ?_ ?_
  · intro K' hK
    simp only [go_sem, contS_seq, simprocAttr, rows_len]
    refine loopS (fun k st => ∃ i : Nat, k = 5 - i ∧ i ≤ 5 ∧ i ≤ o.hosts.length ∧
      st = ⟨[(1, .ptr 1 0), (2, .ptr 2 0), (3, .ptr 3 0), (9, int i)], [(1, [int o.ref.kind, str o.ref.space, str o.ref.name, bln o.good, .pd (.slice (rows APair.pd o.labels)), .pd (.slice (ints o.ports)), str o.cls, .pd (.slice (rows AListener.pd o.listeners)), .pd (.slice (rows AParent.pd o.parents)), .pd (.slice (strs o.hosts)), .pd (.slice (rows ARule.pd o.rules)), .pd (.slice (rows ASide.pd o.from_)), .pd (.slice (rows ASide.pd o.to_))]), (2, [int 0, str ⟨#[]⟩, str ⟨#[]⟩, bln false, .nils, .nils, str ⟨#[]⟩, .nils, .nils, .nils, .nils, .nils, .nils]), (3, [int (fewRef o.ref).kind, str (fewRef o.ref).space, str (fewRef o.ref).name, bln o.good, .pd (.slice (rows APair.pd (fewPairs o.labels))), .own 3 1 (rows cInt ((o.ports.take 9).map id)) 52, str (few o.cls), .own 82 9 (rows AListener.pd ((o.listeners.take 9).map fewListener)) 92, .own 96 4 (rows AParent.pd ((o.parents.take 5).map fewParent)) 125, .own 9 1 (rows cStr ((o.hosts.take i).map few)) 147, .nils, .pd (.slice (rows ASide.pd (fewSides o.from_))), .pd (.slice (rows ASide.pd (fewSides o.to_)))])], [], .no⟩) 5 _
      ?_ ⟨0, rfl, by omega, by omega, rfl⟩ ?_
    · exact Weak.ownB 3 9 147 9 1 (by kernel_rfl) (by decide) rfl rfl (by simp [lessL, lk, St.purge, D.purge, rows]) (by simp [lessL, lk, St.purge, D.purges, D.purge, rows]) (by simp [lessL]) rfl
    rintro k st ⟨i, rfl, hi6, hi, rfl⟩
    have hw := i64_succ (show i < 1000000000 by omega)
    by_cases hlt : i < o.hosts.length ∧ i < 5
    · obtain ⟨x, hx⟩ := at_lt hlt.1
      have h1 : ((i : Int) < (o.hosts.length : Int)) = True := eq_true (by omega)
      have h2 : ((i : Int) < 5) = True := eq_true (by omega)
      have hl' : ((o.hosts.take i).map few).length ≤ i := by simp; omega
      have e1 : rows cStr ((o.hosts.take i).map few) ++ [[PD.raw (Value.string (few x))]] = rows cStr ((o.hosts.take (i + 1)).map few) := few_step hx
      simp only [go_sem, contS_seq, simprocAttr, rows_len, rows_get hx, h1, h2]
      repeat' (first | (refine (law1_Few x).callX (enters_of Tryz.func22 rfl rfl) _ rfl rfl ?_; rintro _ rfl; simp only [go_sem, contS_seq, simprocAttr, rows_len, rows_get hx]))
      simp only [go_sem, contS_seq, simprocAttr, hw, e1]
      refine ⟨by simp, by unfold maxLen; omega, by omega, 5 - (i + 1), _, by omega, ?_, i + 1, rfl, by omega, by omega, rfl⟩
      exact Weak.less (by simp [lessL, lk]) (by simp [lessL, lk]) (by simp [lessL, lk]) rfl
    · have h3 := few_end (g := few) hi6 hi hlt
      rw [h3]
      by_cases h1 : i < o.hosts.length
      · have h1' : ((i : Int) < (o.hosts.length : Int)) = True := eq_true (by omega)
        have h2 : ((i : Int) < 5) = False := eq_false (by omega)
        simp only [go_sem, contS_seq, simprocAttr, rows_len, h1', h2]
        exact hK _ ⟨i, rfl⟩
      · have h1' : ((i : Int) < (o.hosts.length : Int)) = False := eq_false (by omega)
        simp only [go_sem, contS_seq, simprocAttr, rows_len, h1']
        exact hK _ ⟨i, rfl⟩
  rintro s ⟨_, rfl⟩
  refine run_cutJ (fun s => ∃ i : Nat, s = ⟨[(157, bln false), (1, .ptr 1 0), (2, .ptr 2 0), (3, .ptr 3 0), (10, int i), (157, bln false)], [(1, [int o.ref.kind, str o.ref.space, str o.ref.name, bln o.good, .pd (.slice (rows APair.pd o.labels)), .pd (.slice (ints o.ports)), str o.cls, .pd (.slice (rows AListener.pd o.listeners)), .pd (.slice (rows AParent.pd o.parents)), .pd (.slice (strs o.hosts)), .pd (.slice (rows ARule.pd o.rules)), .pd (.slice (rows ASide.pd o.from_)), .pd (.slice (rows ASide.pd o.to_))]), (2, [int 0, str ⟨#[]⟩, str ⟨#[]⟩, bln false, .nils, .nils, str ⟨#[]⟩, .nils, .nils, .nils, .nils, .nils, .nils]), (3, [int (fewRef o.ref).kind, str (fewRef o.ref).space, str (fewRef o.ref).name, bln o.good, .pd (.slice (rows APair.pd (fewPairs o.labels))), .own 3 1 (rows cInt ((o.ports.take 9).map id)) 52, str (few o.cls), .own 82 9 (rows AListener.pd ((o.listeners.take 9).map fewListener)) 92, .own 96 4 (rows AParent.pd ((o.parents.take 5).map fewParent)) 125, .own 9 1 (rows cStr ((o.hosts.take 5).map few)) 147, .own 72 3 (rows ARule.pd ((o.rules.take 7).map fewRule)) 239, .pd (.slice (rows ASide.pd (fewSides o.from_))), .pd (.slice (rows ASide.pd (fewSides o.to_)))])], [], .no⟩) ?_ ?_
  · intro K' hK
    simp only [go_sem, contS_seq, simprocAttr, rows_len]
    refine loopS (fun k st => ∃ i : Nat, k = 7 - i ∧ i ≤ 7 ∧ i ≤ o.rules.length ∧
      st = ⟨[(1, .ptr 1 0), (2, .ptr 2 0), (3, .ptr 3 0), (10, int i)], [(1, [int o.ref.kind, str o.ref.space, str o.ref.name, bln o.good, .pd (.slice (rows APair.pd o.labels)), .pd (.slice (ints o.ports)), str o.cls, .pd (.slice (rows AListener.pd o.listeners)), .pd (.slice (rows AParent.pd o.parents)), .pd (.slice (strs o.hosts)), .pd (.slice (rows ARule.pd o.rules)), .pd (.slice (rows ASide.pd o.from_)), .pd (.slice (rows ASide.pd o.to_))]), (2, [int 0, str ⟨#[]⟩, str ⟨#[]⟩, bln false, .nils, .nils, str ⟨#[]⟩, .nils, .nils, .nils, .nils, .nils, .nils]), (3, [int (fewRef o.ref).kind, str (fewRef o.ref).space, str (fewRef o.ref).name, bln o.good, .pd (.slice (rows APair.pd (fewPairs o.labels))), .own 3 1 (rows cInt ((o.ports.take 9).map id)) 52, str (few o.cls), .own 82 9 (rows AListener.pd ((o.listeners.take 9).map fewListener)) 92, .own 96 4 (rows AParent.pd ((o.parents.take 5).map fewParent)) 125, .own 9 1 (rows cStr ((o.hosts.take 5).map few)) 147, .own 72 3 (rows ARule.pd ((o.rules.take i).map fewRule)) 239, .pd (.slice (rows ASide.pd (fewSides o.from_))), .pd (.slice (rows ASide.pd (fewSides o.to_)))])], [], .no⟩) 7 _
      ?_ ⟨0, rfl, by omega, by omega, rfl⟩ ?_
    · exact Weak.ownB 3 10 239 72 3 (by kernel_rfl) (by decide) rfl rfl (by simp [lessL, lk, St.purge, D.purge, rows]) (by simp [lessL, lk, St.purge, D.purges, D.purge, rows]) (by simp [lessL]) rfl
    rintro k st ⟨i, rfl, hi6, hi, rfl⟩
    have hw := i64_succ (show i < 1000000000 by omega)
    by_cases hlt : i < o.rules.length ∧ i < 7
    · obtain ⟨x, hx⟩ := at_lt hlt.1
      have h1 : ((i : Int) < (o.rules.length : Int)) = True := eq_true (by omega)
      have h2 : ((i : Int) < 7) = True := eq_true (by omega)
      have hl' : ((o.rules.take i).map fewRule).length ≤ i := by simp; omega
      have e1 : rows ARule.pd ((o.rules.take i).map fewRule) ++ [[PD.slice (rows AMatch.pd ((x.matches_.take 5).map fewMatch)), PD.slice (rows AFilter.pd (fewFilters x.filters)), PD.slice (rows ABackend.pd ((x.backends.take 5).map fewBackend))]] = rows ARule.pd ((o.rules.take (i + 1)).map fewRule) := few_step hx
      apply run_cut
      · intro K' hK
        simp only [go_sem, contS_seq, simprocAttr, rows_len, h1, h2]
        exact hK
      apply run_cut
      · intro K' hK
        rw [run_block]
        apply run_cut
        · intro K' hK
          simp only [go_sem, contS_seq, simprocAttr, rows_len, rows_get hx]
          refine (law7_Few x.filters).callW (enters_of Tryz.func58 rfl rfl) _ rfl rfl ?_
          rintro _ rfl
          simp only [go_sem, contS_seq, simprocAttr]
          exact hK
        refine run_cutJ (fun s => ∃ j : Nat, s = ⟨[(180, bln false), (1, .ptr 1 0), (2, .ptr 2 0), (3, .ptr 3 0), (10, int i), (11, .ptr 11 0), (12, int j), (180, bln false)], [(1, [int o.ref.kind, str o.ref.space, str o.ref.name, bln o.good, .pd (.slice (rows APair.pd o.labels)), .pd (.slice (ints o.ports)), str o.cls, .pd (.slice (rows AListener.pd o.listeners)), .pd (.slice (rows AParent.pd o.parents)), .pd (.slice (strs o.hosts)), .pd (.slice (rows ARule.pd o.rules)), .pd (.slice (rows ASide.pd o.from_)), .pd (.slice (rows ASide.pd o.to_))]), (2, [int 0, str ⟨#[]⟩, str ⟨#[]⟩, bln false, .nils, .nils, str ⟨#[]⟩, .nils, .nils, .nils, .nils, .nils, .nils]), (3, [int (fewRef o.ref).kind, str (fewRef o.ref).space, str (fewRef o.ref).name, bln o.good, .pd (.slice (rows APair.pd (fewPairs o.labels))), .own 3 1 (rows cInt ((o.ports.take 9).map id)) 52, str (few o.cls), .own 82 9 (rows AListener.pd ((o.listeners.take 9).map fewListener)) 92, .own 96 4 (rows AParent.pd ((o.parents.take 5).map fewParent)) 125, .own 9 1 (rows cStr ((o.hosts.take 5).map few)) 147, .own 72 3 (rows ARule.pd ((o.rules.take i).map fewRule)) 239, .pd (.slice (rows ASide.pd (fewSides o.from_))), .pd (.slice (rows ASide.pd (fewSides o.to_)))]), (11, [.own 101 5 (rows AMatch.pd ((x.matches_.take 5).map fewMatch)) 196, .pd (.slice (rows AFilter.pd (fewFilters x.filters))), .nils])], [], .no⟩) ?_ ?_
        · intro K' hK
          simp only [go_sem, contS_seq, simprocAttr, rows_len, rows_get hx]
          refine loopS (fun k st => ∃ j : Nat, k = 5 - j ∧ j ≤ 5 ∧ j ≤ x.matches_.length ∧
            st = ⟨[(1, .ptr 1 0), (2, .ptr 2 0), (3, .ptr 3 0), (10, int i), (11, .ptr 11 0), (12, int j)], [(1, [int o.ref.kind, str o.ref.space, str o.ref.name, bln o.good, .pd (.slice (rows APair.pd o.labels)), .pd (.slice (ints o.ports)), str o.cls, .pd (.slice (rows AListener.pd o.listeners)), .pd (.slice (rows AParent.pd o.parents)), .pd (.slice (strs o.hosts)), .pd (.slice (rows ARule.pd o.rules)), .pd (.slice (rows ASide.pd o.from_)), .pd (.slice (rows ASide.pd o.to_))]), (2, [int 0, str ⟨#[]⟩, str ⟨#[]⟩, bln false, .nils, .nils, str ⟨#[]⟩, .nils, .nils, .nils, .nils, .nils, .nils]), (3, [int (fewRef o.ref).kind, str (fewRef o.ref).space, str (fewRef o.ref).name, bln o.good, .pd (.slice (rows APair.pd (fewPairs o.labels))), .own 3 1 (rows cInt ((o.ports.take 9).map id)) 52, str (few o.cls), .own 82 9 (rows AListener.pd ((o.listeners.take 9).map fewListener)) 92, .own 96 4 (rows AParent.pd ((o.parents.take 5).map fewParent)) 125, .own 9 1 (rows cStr ((o.hosts.take 5).map few)) 147, .own 72 3 (rows ARule.pd ((o.rules.take i).map fewRule)) 239, .pd (.slice (rows ASide.pd (fewSides o.from_))), .pd (.slice (rows ASide.pd (fewSides o.to_)))]), (11, [.own 101 5 (rows AMatch.pd ((x.matches_.take j).map fewMatch)) 196, .pd (.slice (rows AFilter.pd (fewFilters x.filters))), .nils])], [], .no⟩) 5 _
            ?_ ⟨0, rfl, by omega, by omega, rfl⟩ ?_
          · exact Weak.ownB 11 0 196 101 5 (by kernel_rfl) (by decide) rfl rfl (by simp [lessL, lk, St.purge, D.purge, rows]) (by simp [lessL, lk, St.purge, D.purges, D.purge, rows]) (by simp [lessL]) rfl
          rintro k st ⟨j, rfl, hj6, hj, rfl⟩
          have hwj := i64_succ (show j < 1000000000 by omega)
          by_cases hltj : j < x.matches_.length ∧ j < 5
          · obtain ⟨y, hy⟩ := at_lt hltj.1
            have h1' : ((j : Int) < (x.matches_.length : Int)) = True := eq_true (by omega)
            have h2' : ((j : Int) < 5) = True := eq_true (by omega)
            have hlj : ((x.matches_.take j).map fewMatch).length ≤ j := by simp; omega
            have e2 : rows AMatch.pd ((x.matches_.take j).map fewMatch) ++ [[PD.raw (Value.int IntKind.i64 (fewMatch y).pkind), PD.raw (Value.string (fewMatch y).pval), PD.raw (Value.string (fewMatch y).method), PD.slice (rows APair.pd (fewMatch y).head), PD.slice (rows APair.pd (fewMatch y).query)]] = rows AMatch.pd ((x.matches_.take (j + 1)).map fewMatch) := few_step hy
            simp only [go_sem, contS_seq, simprocAttr, rows_len, rows_get hx, rows_get hy, h1', h2']
            repeat' (first | (refine (law6_Few y).callX (enters_of Tryz.func59 rfl rfl) _ rfl rfl ?_; rintro _ rfl; simp only [go_sem, contS_seq, simprocAttr, rows_len, rows_get hx, rows_get hy]))
            simp only [go_sem, contS_seq, simprocAttr, hwj, e2]
            refine ⟨by simp, by unfold maxLen; omega, by omega, 5 - (j + 1), _, by omega, ?_, j + 1, rfl, by omega, by omega, rfl⟩
            exact Weak.less (by simp [lessL, lk]) (by simp [lessL, lk]) (by simp [lessL, lk]) rfl
          · have h3 := few_end (g := fewMatch) hj6 hj hltj
            rw [h3]
            by_cases h1 : j < x.matches_.length
            · have h1' : ((j : Int) < (x.matches_.length : Int)) = True := eq_true (by omega)
              have h2 : ((j : Int) < 5) = False := eq_false (by omega)
              simp only [go_sem, contS_seq, simprocAttr, rows_len, rows_get hx, h1', h2]
              exact hK _ ⟨j, rfl⟩
            · have h1' : ((j : Int) < (x.matches_.length : Int)) = False := eq_false (by omega)
              simp only [go_sem, contS_seq, simprocAttr, rows_len, rows_get hx, h1']
              exact hK _ ⟨j, rfl⟩
        rintro s ⟨_, rfl⟩
        refine run_cutJ (fun s => ∃ j : Nat, s = ⟨[(210, bln false), (1, .ptr 1 0), (2, .ptr 2 0), (3, .ptr 3 0), (10, int i), (11, .ptr 11 0), (13, int j), (210, bln false)], [(1, [int o.ref.kind, str o.ref.space, str o.ref.name, bln o.good, .pd (.slice (rows APair.pd o.labels)), .pd (.slice (ints o.ports)), str o.cls, .pd (.slice (rows AListener.pd o.listeners)), .pd (.slice (rows AParent.pd o.parents)), .pd (.slice (strs o.hosts)), .pd (.slice (rows ARule.pd o.rules)), .pd (.slice (rows ASide.pd o.from_)), .pd (.slice (rows ASide.pd o.to_))]), (2, [int 0, str ⟨#[]⟩, str ⟨#[]⟩, bln false, .nils, .nils, str ⟨#[]⟩, .nils, .nils, .nils, .nils, .nils, .nils]), (3, [int (fewRef o.ref).kind, str (fewRef o.ref).space, str (fewRef o.ref).name, bln o.good, .pd (.slice (rows APair.pd (fewPairs o.labels))), .own 3 1 (rows cInt ((o.ports.take 9).map id)) 52, str (few o.cls), .own 82 9 (rows AListener.pd ((o.listeners.take 9).map fewListener)) 92, .own 96 4 (rows AParent.pd ((o.parents.take 5).map fewParent)) 125, .own 9 1 (rows cStr ((o.hosts.take 5).map few)) 147, .own 72 3 (rows ARule.pd ((o.rules.take i).map fewRule)) 239, .pd (.slice (rows ASide.pd (fewSides o.from_))), .pd (.slice (rows ASide.pd (fewSides o.to_)))]), (11, [.own 101 5 (rows AMatch.pd ((x.matches_.take 5).map fewMatch)) 196, .pd (.slice (rows AFilter.pd (fewFilters x.filters))), .own 74 5 (rows ABackend.pd ((x.backends.take 5).map fewBackend)) 233])], [], .no⟩) ?_ ?_
        · intro K' hK
          simp only [go_sem, contS_seq, simprocAttr, rows_len, rows_get hx]
          refine loopS (fun k st => ∃ j : Nat, k = 5 - j ∧ j ≤ 5 ∧ j ≤ x.backends.length ∧
            st = ⟨[(1, .ptr 1 0), (2, .ptr 2 0), (3, .ptr 3 0), (10, int i), (11, .ptr 11 0), (13, int j)], [(1, [int o.ref.kind, str o.ref.space, str o.ref.name, bln o.good, .pd (.slice (rows APair.pd o.labels)), .pd (.slice (ints o.ports)), str o.cls, .pd (.slice (rows AListener.pd o.listeners)), .pd (.slice (rows AParent.pd o.parents)), .pd (.slice (strs o.hosts)), .pd (.slice (rows ARule.pd o.rules)), .pd (.slice (rows ASide.pd o.from_)), .pd (.slice (rows ASide.pd o.to_))]), (2, [int 0, str ⟨#[]⟩, str ⟨#[]⟩, bln false, .nils, .nils, str ⟨#[]⟩, .nils, .nils, .nils, .nils, .nils, .nils]), (3, [int (fewRef o.ref).kind, str (fewRef o.ref).space, str (fewRef o.ref).name, bln o.good, .pd (.slice (rows APair.pd (fewPairs o.labels))), .own 3 1 (rows cInt ((o.ports.take 9).map id)) 52, str (few o.cls), .own 82 9 (rows AListener.pd ((o.listeners.take 9).map fewListener)) 92, .own 96 4 (rows AParent.pd ((o.parents.take 5).map fewParent)) 125, .own 9 1 (rows cStr ((o.hosts.take 5).map few)) 147, .own 72 3 (rows ARule.pd ((o.rules.take i).map fewRule)) 239, .pd (.slice (rows ASide.pd (fewSides o.from_))), .pd (.slice (rows ASide.pd (fewSides o.to_)))]), (11, [.own 101 5 (rows AMatch.pd ((x.matches_.take 5).map fewMatch)) 196, .pd (.slice (rows AFilter.pd (fewFilters x.filters))), .own 74 5 (rows ABackend.pd ((x.backends.take j).map fewBackend)) 233])], [], .no⟩) 5 _
            ?_ ⟨0, rfl, by omega, by omega, rfl⟩ ?_
          · exact Weak.ownB 11 2 233 74 5 (by kernel_rfl) (by decide) rfl rfl (by simp [lessL, lk, St.purge, D.purge, rows]) (by simp [lessL, lk, St.purge, D.purges, D.purge, rows]) (by simp [lessL]) rfl
          rintro k st ⟨j, rfl, hj6, hj, rfl⟩
          have hwj := i64_succ (show j < 1000000000 by omega)
          by_cases hltj : j < x.backends.length ∧ j < 5
          · obtain ⟨y, hy⟩ := at_lt hltj.1
            have h1' : ((j : Int) < (x.backends.length : Int)) = True := eq_true (by omega)
            have h2' : ((j : Int) < 5) = True := eq_true (by omega)
            have hlj : ((x.backends.take j).map fewBackend).length ≤ j := by simp; omega
            have e2 : rows ABackend.pd ((x.backends.take j).map fewBackend) ++ [[PD.raw (Value.int IntKind.i64 (fewRef y.ref).kind), PD.raw (Value.string (fewRef y.ref).space), PD.raw (Value.string (fewRef y.ref).name), PD.raw (Value.int IntKind.i64 y.port), PD.raw (Value.int IntKind.i64 y.weight)]] = rows ABackend.pd ((x.backends.take (j + 1)).map fewBackend) := few_step hy
            simp only [go_sem, contS_seq, simprocAttr, rows_len, rows_get hx, rows_get hy, h1', h2']
            repeat' (first | (refine (law9_FewRef y.ref).callX (enters_of Tryz.func21 rfl rfl) _ rfl rfl ?_; rintro _ rfl; simp only [go_sem, contS_seq, simprocAttr, rows_len, rows_get hx, rows_get hy]))
            simp only [go_sem, contS_seq, simprocAttr, hwj, e2]
            refine ⟨by simp, by unfold maxLen; omega, by omega, 5 - (j + 1), _, by omega, ?_, j + 1, rfl, by omega, by omega, rfl⟩
            exact Weak.less (by simp [lessL, lk]) (by simp [lessL, lk]) (by simp [lessL, lk]) rfl
          · have h3 := few_end (g := fewBackend) hj6 hj hltj
            rw [h3]
            by_cases h1 : j < x.backends.length
            · have h1' : ((j : Int) < (x.backends.length : Int)) = True := eq_true (by omega)
              have h2 : ((j : Int) < 5) = False := eq_false (by omega)
              simp only [go_sem, contS_seq, simprocAttr, rows_len, rows_get hx, h1', h2]
              exact hK _ ⟨j, rfl⟩
            · have h1' : ((j : Int) < (x.backends.length : Int)) = False := eq_false (by omega)
              simp only [go_sem, contS_seq, simprocAttr, rows_len, rows_get hx, h1']
              exact hK _ ⟨j, rfl⟩
        rintro s ⟨_, rfl⟩
        simp only [go_sem, contS_seq, simprocAttr, rows_len, e1]
        refine ⟨by simp, by unfold maxLen; omega, by omega, ?_⟩
        exact hK
      simp only [go_sem, contS_seq, simprocAttr, hw]
      refine ⟨7 - (i + 1), _, by omega, ?_, i + 1, rfl, by omega, by omega, rfl⟩
      exact Weak.less (by simp [lessL, lk]) (by simp [lessL, lk]) (by simp [lessL, lk]) rfl
    · have h3 := few_end (g := fewRule) hi6 hi hlt
      rw [h3]
      by_cases h1 : i < o.rules.length
      · have h1' : ((i : Int) < (o.rules.length : Int)) = True := eq_true (by omega)
        have h2 : ((i : Int) < 7) = False := eq_false (by omega)
        simp only [go_sem, contS_seq, simprocAttr, rows_len, h1', h2]
        exact hK _ ⟨i, rfl⟩
      · have h1' : ((i : Int) < (o.rules.length : Int)) = False := eq_false (by omega)
        simp only [go_sem, contS_seq, simprocAttr, rows_len, h1']
        exact hK _ ⟨i, rfl⟩
  rintro s ⟨_, rfl⟩
  simp only [go_sem, contS_seq, simprocAttr]
  simp only [retK, fullK, iterK, resD, resA, AOp.ex, St.ev, Option.map_some, Option.bind_some, St.get, lk, reduceIte, Nat.reduceEqDiff, Option.getD_some, oneD, List.getElem?_cons_zero, List.getElem?_cons_succ, List.drop_zero, List.drop_succ_cons, List.take_succ_cons, List.take_zero, List.length_cons, List.length_nil, Nat.zero_add, Nat.reduceAdd, Nat.le_refl, Nat.reduceLeDiff, D.pub, D.pubs, ret_z8s55, List.map_id]
  exact ⟨_, rfl, rfl, rfl⟩


def near (r : ARef) (s : ByteArray) : ARef := if r.space = ⟨#[]⟩ ∧ r.kind ≠ 1 ∧ r.kind ≠ 2 then { r with space := s } else r

set_option maxRecDepth 100000 in
theorem grant_Near (r : ARef) (s : ByteArray) : Pure Tryz.prog 27 [r.d, str s] (fun d => d = (near r s).d) := by
  refine pure_of_run follows an_zrkgf Tryz.func27 rfl ok_zrkgf dst_zrkgf (by simp [Tryz.ntmps27]) ?_
  rw [run_start]
  simp only [ac_zrkgf, go_sem, contS_seq, simprocAttr]
  simp only [retK, fullK, iterK, resD, resA, AOp.ex, St.ev, Option.map_some, Option.bind_some, St.get, lk, reduceIte, Nat.reduceEqDiff, Option.getD_some, oneD, List.getElem?_cons_zero, List.getElem?_cons_succ, List.drop_zero, List.drop_succ_cons, List.take_succ_cons, List.take_zero, List.length_cons, List.length_nil, Nat.zero_add, Nat.reduceAdd, Nat.le_refl, Nat.reduceLeDiff, D.pub, D.pubs, ret_zrkgf]
  refine ⟨fun h1 => ⟨fun h2 => ?_, fun h2 => ⟨fun h3 => ?_, fun h3 => ?_⟩⟩, fun h1 => ?_⟩
  · exact ⟨_, rfl, rfl, by simp [near, h1, h2, oneD, D.pub, D.pubs]⟩
  · exact ⟨_, rfl, rfl, by simp [near, h1, h3, oneD, D.pub, D.pubs]⟩
  · exact ⟨_, rfl, rfl, by simp [near, h1, h2, h3, oneD, D.pub, D.pubs]⟩
  · exact ⟨_, rfl, rfl, by simp [near, h1, oneD, D.pub, D.pubs]⟩

abbrev refVal (r : ARef) : Value := .agg #[.int .i64 r.kind, .string r.space, .string r.name]

theorem by_iter (p : AObj → Bool) (os : List AObj) (kind : Int) (space : ByteArray) (to_ : ARef) (hos : os.length ≤ 1000000)
    (hp : ∀ o ∈ os, Pure Tryz.prog 18 [o.d, int kind, str space, to_.d] (fun d => d = bln (p o))) :
    IterB Tryz.prog 83 [(500001, 0), (500002, 0), (500003, 0), (500004, 0)]
      [(500001, [.pd (.slice (rows AObj.pd os))]), (500002, [int kind]), (500003, [str space]), (500004, [int to_.kind, str to_.space, str to_.name])] ((os.filter p).map fun o => refVal o.ref) := by
  refine iter_of_run follows an_zvbe Tryz.func83 rfl ok_zvbe dst_zvbe (by simp [Tryz.ntmps83]) rfl ?_
  intro l
  rw [run_start]
  simp only [ac_zvbe, go_sem, contS_seq, simprocAttr, rows_len]
  have hb := hos
  refine loopS (fun k st => ∃ i : Nat, k = os.length - i ∧ i ≤ os.length ∧
    st = ⟨[(0, yieldD l), (2, .ptr 500002 0), (3, .ptr 500003 0), (4, .ptr 500004 0), (8, .pd (.slice (rows AObj.pd os))), (9, int os.length), (10, int i)],
      [(500001, [.pd (.slice (rows AObj.pd os))]), (500002, [int kind]), (500003, [str space]), (500004, [int to_.kind, str to_.space, str to_.name])], [], .it l (((os.filter p).map fun o => refVal o.ref).map ([·])) ((os.take i).filter p).length false⟩) os.length _
    (Weak.refl _ _) ⟨0, rfl, Nat.zero_le _, rfl⟩ ?_
  rintro k st ⟨i, rfl, hi, rfl⟩
  by_cases hlt : i < os.length
  · obtain ⟨o, ho⟩ := at_lt hlt
    have hlt' : (i : Int) < (os.length : Int) := by omega
    simp only [go_sem, contS_seq, simprocAttr, hlt', decide_true, rows_get ho]
    refine (hp o (List.mem_of_getElem? ho)).callW (enters_of Tryz.func18 rfl rfl) _ rfl rfl ?_
    rintro d rfl
    have hw : IntKind.i64.wrap ((i : Int) + 1) = ((i + 1 : Nat) : Int) := by rw [IntWalk.i64_in _ (by omega)]; omega
    cases hpo : p o with
    | true =>
      have hx : (((os.filter p).map fun o => refVal o.ref).map ([·]))[((os.take i).filter p).length]? = some [refVal o.ref] := by
        simp [List.getElem?_map, filter_at ho hpo]
      simp only [go_sem, contS_seq, simprocAttr, hx, hw]
      refine ⟨⟨_, _, ?_, ?_, i + 1, rfl, ?_, rfl⟩, ?_⟩
      · omega
      · rw [filter_yes ho hpo]; exact Weak.less (by simp [lessL, lk]) (by simp [lessL, lk]) (by simp [lessL, lk]) rfl
      · omega
      · exact ⟨[], _, _, rfl, rfl, fun h => by cases h⟩
    | false =>
      simp only [go_sem, contS_seq, simprocAttr, hw]
      refine ⟨_, _, ?_, ?_, i + 1, rfl, ?_, rfl⟩
      · omega
      · rw [filter_no ho hpo]; exact Weak.less (by simp [lessL, lk]) (by simp [lessL, lk]) (by simp [lessL, lk]) rfl
      · omega
  · have hlt' : ¬ (i : Int) < (os.length : Int) := by omega
    simp only [go_sem, contS_seq, simprocAttr, hlt', decide_false]
    exact ⟨[], _, _, rfl, rfl, fun _ => by rw [List.take_of_length_le (by omega)]; simp⟩

theorem grant_by (os : List AObj) (kind : Int) (space : ByteArray) (to_ : ARef) :
    Full Tryz.prog 49 [.pd (.slice (rows AObj.pd os)), int kind, str space, to_.d] [] true
      (fun d bs => d = .fn 83 [(4, 0), (5, 0), (6, 0), (7, 0)] ∧ bs = [(4, [.pd (.slice (rows AObj.pd os))]), (5, [int kind]), (6, [str space]), (7, [int to_.kind, str to_.space, str to_.name])]) := by
  refine full_of_run follows an_zfsgx Tryz.func49 rfl ok_zfsgx dst_zfsgx (by simp [Tryz.ntmps49]) (by simp [Tryz.ntmps49]) (.inl rfl) ?_
  rw [run_start]
  simp only [ac_zfsgx, go_sem, contS_seq, simprocAttr]
  simp only [retK, fullK, iterK, resD, resA, AOp.ex, St.ev, Option.map_some, Option.bind_some, St.get, lk, reduceIte, Nat.reduceEqDiff, Option.getD_some, oneD, List.getElem?_cons_zero, List.getElem?_cons_succ, List.drop_zero, List.drop_succ_cons, List.take_succ_cons, List.take_zero, List.length_cons, List.length_nil, Nat.zero_add, Nat.reduceAdd, Nat.le_refl, Nat.reduceLeDiff, D.pub, D.pubs, Tryz.results49]
  exact ⟨_, _, rfl, by simp [lessL, lk], rfl, rfl⟩

theorem grant_Permits (p : AObj → Bool) (os : List AObj) (kind : Int) (space : ByteArray) (to_ : ARef) (hos : os.length ≤ 1000000)
    (hp : ∀ o ∈ os, Pure Tryz.prog 18 [o.d, int kind, str space, to_.d] (fun d => d = bln (p o))) :
    Pure Tryz.prog 17 [.pd (.slice (rows AObj.pd os)), int kind, str space, to_.d] (fun d => d = bln (os.any p || decide (space = to_.space))) := by
  refine pure_of_run follows an_zj2qb Tryz.func17 rfl ok_zj2qb dst_zj2qb (by simp [Tryz.ntmps17]) ?_
  rw [run_start]
  simp only [ac_zj2qb, go_sem, contS_seq, simprocAttr]
  refine (grant_by os kind space to_).callW (enters_of Tryz.func49 rfl rfl) _ false [] [] [(4, 200001), (5, 200002), (6, 200003), (7, 200004)] [] rfl rfl rfl ?_
  rintro d bs ⟨rfl, rfl⟩
  simp only [go_sem, contS_seq, simprocAttr]
  refine rangeS ((os.filter p).map fun o => refVal o.ref) (fun i bs => i = 0 ∧ bs = [(7, [int to_.kind, str to_.space, str to_.name]), (8, [bln false])]) rfl rfl rfl
    ((by_iter p os kind space to_ hos hp).iterW (enters_of Tryz.func83 rfl rfl) false [(200001, 500001), (200002, 500002), (200003, 500003), (200004, 500004)] rfl rfl rfl) ⟨rfl, rfl⟩ ?_ ?_
  · rintro i v bs hv ⟨rfl, rfl⟩
    simp only [go_sem, contS_seq, simprocAttr]
    simp only [retK, fullK, iterK, resD, resA, AOp.ex, St.ev, Option.map_some, Option.bind_some, St.get, lk, reduceIte, Nat.reduceEqDiff, Option.getD_some, oneD, List.getElem?_cons_zero, List.getElem?_cons_succ, List.drop_zero, List.drop_succ_cons, List.take_succ_cons, List.take_zero, List.length_cons, List.length_nil, Nat.zero_add, Nat.reduceAdd, Nat.le_refl, Nat.reduceLeDiff, D.pub, D.pubs, ret_zj2qb]
    have hany : os.any p = true := by
      rw [List.getElem?_map] at hv
      obtain ⟨o, ho, _⟩ := Option.map_eq_some_iff.1 hv
      have := List.mem_filter.1 (List.mem_of_getElem? ho)
      exact List.any_eq_true.2 ⟨o, this.1, this.2⟩
    exact ⟨_, rfl, rfl, by simp [hany, oneD, D.pub]⟩
  · rintro bs ⟨hl, rfl⟩
    simp only [go_sem, contS_seq, simprocAttr]
    simp only [retK, fullK, iterK, resD, resA, AOp.ex, St.ev, Option.map_some, Option.bind_some, St.get, lk, reduceIte, Nat.reduceEqDiff, Option.getD_some, oneD, List.getElem?_cons_zero, List.getElem?_cons_succ, List.drop_zero, List.drop_succ_cons, List.take_succ_cons, List.take_zero, List.length_cons, List.length_nil, Nat.zero_add, Nat.reduceAdd, Nat.le_refl, Nat.reduceLeDiff, D.pub, D.pubs, ret_zj2qb]
    have hany : os.any p = false := by
      rw [List.length_map, List.length_eq_zero_iff, List.filter_eq_nil_iff] at hl
      exact List.any_eq_false.2 hl
    exact ⟨_, rfl, rfl, by simp [hany, oneD, D.pub]⟩


def sideIs (kind : Int) (space : ByteArray) (s : ASide) : Bool := decide (s.kind = kind) && decide (s.space = space)
def sideAt (t : ARef) (s : ASide) : Bool := decide (s.kind = t.kind) && (decide (s.name = ⟨#[]⟩) || decide (s.name = t.name))

theorem Lets_1 (kind : Int) (space : ByteArray) (s : ASide) : PureB Tryz.prog 50 [s.d, .ptr 1000001 0, .ptr 1000002 0] [(1000001, [int kind]), (1000002, [str space])] (fun d => d = bln (sideIs kind space s)) := by
  refine pureB_of_run follows an_z4wyn Tryz.func50 rfl ok_z4wyn dst_z4wyn (by simp [Tryz.ntmps50]) ?_
  rw [run_start]
  simp only [ac_z4wyn, go_sem, contS_seq, simprocAttr]
  (repeat' (first | (refine GifP.mk (fun _ => ?_) (fun _ => ?_)) | (refine Gif.mk (fun _ => ?_) (fun _ => ?_)))) <;> (simp only [retK, fullK, iterK, resD, resA, AOp.ex, St.ev, Option.map_some, Option.bind_some, St.get, lk, reduceIte, Nat.reduceEqDiff, Option.getD_some, oneD, List.getElem?_cons_zero, List.getElem?_cons_succ, List.drop_zero, List.drop_succ_cons, List.take_succ_cons, List.take_zero, List.length_cons, List.length_nil, Nat.zero_add, Nat.reduceAdd, Nat.le_refl, Nat.reduceLeDiff, D.pub, D.pubs, Tryz.results50]; exact ⟨_, rfl, rfl, congrArg bln (by first | rfl | (rw [Bool.eq_iff_iff]; simp only [sideIs]; simp; done) | (rw [Bool.eq_iff_iff]; simp only [sideIs]; simp; omega) | (rw [Bool.eq_iff_iff]; simp only [sideIs]; simp [*]; done) | (rw [Bool.eq_iff_iff]; simp only [sideIs]; simp [*]; omega) | (simp_all [sideIs]; done) | (exfalso; omega))⟩)

theorem Lets_2 (t : ARef) (s : ASide) : PureB Tryz.prog 51 [s.d, .ptr 1000001 0] [(1000001, [int t.kind, str t.space, str t.name])] (fun d => d = bln (sideAt t s)) := by
  refine pureB_of_run follows an_z3e5h Tryz.func51 rfl ok_z3e5h dst_z3e5h (by simp [Tryz.ntmps51]) ?_
  rw [run_start]
  simp only [ac_z3e5h, go_sem, contS_seq, simprocAttr]
  (repeat' (first | (refine GifP.mk (fun _ => ?_) (fun _ => ?_)) | (refine Gif.mk (fun _ => ?_) (fun _ => ?_)))) <;> (simp only [retK, fullK, iterK, resD, resA, AOp.ex, St.ev, Option.map_some, Option.bind_some, St.get, lk, reduceIte, Nat.reduceEqDiff, Option.getD_some, oneD, List.getElem?_cons_zero, List.getElem?_cons_succ, List.drop_zero, List.drop_succ_cons, List.take_succ_cons, List.take_zero, List.length_cons, List.length_nil, Nat.zero_add, Nat.reduceAdd, Nat.le_refl, Nat.reduceLeDiff, D.pub, D.pubs, Tryz.results51]; exact ⟨_, rfl, rfl, congrArg bln (by first | rfl | (rw [Bool.eq_iff_iff]; simp only [sideAt]; simp; done) | (rw [Bool.eq_iff_iff]; simp only [sideAt]; simp; omega) | (rw [Bool.eq_iff_iff]; simp only [sideAt]; simp [*]; done) | (rw [Bool.eq_iff_iff]; simp only [sideAt]; simp [*]; omega) | (simp_all [sideAt]; done) | (exfalso; omega))⟩)

def lets (kind : Int) (space : ByteArray) (t : ARef) (o : AObj) : Bool :=
  decide (o.ref.kind = 7) && decide (o.ref.space = t.space) && objMay o && o.from_.any (sideIs kind space) && o.to_.any (sideAt t)

theorem grant_Lets (o : AObj) (h : o.ok) (kind : Int) (space : ByteArray) (t : ARef) : Pure Tryz.prog 18 [o.d, int kind, str space, t.d] (fun d => d = bln (lets kind space t o)) := by
  refine pure_of_run follows an_zs3t2 Tryz.func18 rfl ok_zs3t2 dst_zs3t2 (by simp [Tryz.ntmps18]) ?_
  rw [run_start]
  simp only [ac_zs3t2, go_sem, contS_seq, simprocAttr]
  (repeat' (first | (refine GifP.mk (fun _ => ?_) (fun _ => ?_)) | (refine Gif.mk (fun _ => ?_) (fun _ => ?_)) | ((first | refine (object_May o h).callW (enters_of Tryz.func52 rfl rfl) _ rfl rfl ?_ | refine (ContainsFunc_Side (sideIs kind space) 50 (enters_of Tryz.func50 rfl rfl) [(1000001, 0), (1000002, 0)] [(1000001, [int kind]), (1000002, [str space])] (Cl.of rfl rfl rfl rfl rfl) o.from_ h.fr (fun s _ => Lets_1 kind space s)).callW (enters_of Tryz.func53 rfl rfl) _ [(5, 1000001), (6, 1000002)] rfl rfl rfl ?_ | refine (ContainsFunc_Side (sideAt t) 51 (enters_of Tryz.func51 rfl rfl) [(1000001, 0)] [(1000001, [int t.kind, str t.space, str t.name])] (Cl.of rfl rfl rfl rfl rfl) o.to_ h.to (fun s _ => Lets_2 t s)).callW (enters_of Tryz.func53 rfl rfl) _ [(7, 1000001)] rfl rfl rfl ?_); rintro _ rfl; try simp only [go_sem, contS_seq, simprocAttr]))) <;> (simp only [retK, fullK, iterK, resD, resA, AOp.ex, St.ev, Option.map_some, Option.bind_some, St.get, lk, reduceIte, Nat.reduceEqDiff, Option.getD_some, oneD, List.getElem?_cons_zero, List.getElem?_cons_succ, List.drop_zero, List.drop_succ_cons, List.take_succ_cons, List.take_zero, List.length_cons, List.length_nil, Nat.zero_add, Nat.reduceAdd, Nat.le_refl, Nat.reduceLeDiff, D.pub, D.pubs, Tryz.results18]; exact ⟨_, rfl, rfl, congrArg bln (by first | rfl | (rw [Bool.eq_iff_iff]; simp only [lets]; simp; done) | (rw [Bool.eq_iff_iff]; simp only [lets]; simp; omega) | (rw [Bool.eq_iff_iff]; simp only [lets]; simp [*]; done) | (rw [Bool.eq_iff_iff]; simp only [lets]; simp [*]; omega) | (simp_all [lets]; done) | (exfalso; omega))⟩)

def permits (os : List AObj) (kind : Int) (space : ByteArray) (t : ARef) : Bool := os.any (lets kind space t) || decide (space = t.space)

theorem grant_Permits' (os : List AObj) (hos : os.length ≤ 1000000) (h : ∀ o ∈ os, o.ok) (kind : Int) (space : ByteArray) (t : ARef) :
    Pure Tryz.prog 17 [.pd (.slice (rows AObj.pd os)), int kind, str space, t.d] (fun d => d = bln (permits os kind space t)) :=
  grant_Permits (lets kind space t) os kind space t hos (fun o ho => grant_Lets o (h o ho) kind space t)

def isRef (r : ARef) (o : AObj) : Bool := decide (o.ref = r)

theorem Find_1 (r : ARef) (o : AObj) : PureB Tryz.prog 68 [o.d, .ptr 1000001 0] [(1000001, [int r.kind, str r.space, str r.name])] (fun d => d = bln (isRef r o)) := by
  refine pureB_of_run follows an_zl31y Tryz.func68 rfl ok_zl31y dst_zl31y (by simp [Tryz.ntmps68]) ?_
  rw [run_start]
  simp only [ac_zl31y, go_sem, contS_seq, simprocAttr, eqVs, eqV, eq_Ref]
  simp only [retK, fullK, iterK, resD, resA, AOp.ex, St.ev, Option.map_some, Option.bind_some, St.get, lk, reduceIte, Nat.reduceEqDiff, Option.getD_some, oneD, List.getElem?_cons_zero, List.getElem?_cons_succ, List.drop_zero, List.drop_succ_cons, List.take_succ_cons, List.take_zero, List.length_cons, List.length_nil, Nat.zero_add, Nat.reduceAdd, Nat.le_refl, Nat.reduceLeDiff, D.pub, D.pubs, Tryz.results68]
  exact ⟨_, rfl, rfl, rfl⟩

theorem lidx_find {α : Type} (p : α → Bool) : ∀ (l : List α) (k : Nat), (l.find? p = none ∧ lidx p l k = -1) ∨ ∃ x j, l.find? p = some x ∧ lidx p l k = ((k + j : Nat) : Int) ∧ l[j]? = some x
  | [], k => .inl ⟨rfl, rfl⟩
  | x :: l, k => by
    rw [List.find?_cons, lidx]
    by_cases h : p x = true
    · rw [if_pos h, h]; exact .inr ⟨x, 0, rfl, by simp, by simp⟩
    · rw [if_neg h]
      have h' : p x = false := by simpa using h
      rw [h']
      rcases lidx_find p l (k + 1) with h1 | ⟨y, j, h1, h2, h3⟩
      · exact .inl h1
      · exact .inr ⟨y, j + 1, h1, by rw [h2]; omega, by simpa using h3⟩

def ref0 : ARef := ⟨0, ⟨#[]⟩, ⟨#[]⟩⟩

def found (os : List AObj) (r : ARef) : Option AObj := os.find? (isRef r)

def foundD : Option AObj → D
  | some o => .tup [o.d, bln true]
  | none => .tup [(AObj.zero ref0).d, bln false]

theorem grant_Find (os : List AObj) (hos : os.length ≤ 1000000) (r : ARef) : Pure Tryz.prog 25 [.pd (.slice (rows AObj.pd os)), r.d] (fun d => d = foundD (found os r)) := by
  refine pure_of_run follows an_z88d6 Tryz.func25 rfl ok_z88d6 dst_z88d6 (by simp [Tryz.ntmps25]) ?_
  rw [run_start]
  simp only [ac_z88d6, go_sem, contS_seq, simprocAttr]
  refine (IndexFunc_Object (isRef r) 68 (enters_of Tryz.func68 rfl rfl) [(1000001, 0)] [(1000001, [int r.kind, str r.space, str r.name])] (Cl.of rfl rfl rfl rfl rfl) os hos (fun o _ => Find_1 r o)).callW (enters_of Tryz.func67 rfl rfl) _ [(3, 1000001)] rfl rfl rfl ?_
  rintro d rfl
  rcases lidx_find (isRef r) os 0 with ⟨h1, h2⟩ | ⟨x, j, h1, h2, h3⟩
  · rw [h2]
    simp only [go_sem, contS_seq, simprocAttr]
    simp only [retK, fullK, iterK, resD, resA, AOp.ex, St.ev, Option.map_some, Option.bind_some, St.get, lk, reduceIte, Nat.reduceEqDiff, Option.getD_some, oneD, List.getElem?_cons_zero, List.getElem?_cons_succ, List.drop_zero, List.drop_succ_cons, List.take_succ_cons, List.take_zero, List.length_cons, List.length_nil, Nat.zero_add, Nat.reduceAdd, Nat.le_refl, Nat.reduceLeDiff, D.pub, D.pubs, ret_z88d6]
    refine ⟨_, rfl, rfl, ?_⟩
    rw [found, h1]; rfl
  · rw [h2, Nat.zero_add]
    have hn : ((j : Int) < 0) = False := eq_false (by omega)
    simp only [go_sem, contS_seq, simprocAttr, hn, rows_get h3]
    simp only [retK, fullK, iterK, resD, resA, AOp.ex, St.ev, Option.map_some, Option.bind_some, St.get, lk, reduceIte, Nat.reduceEqDiff, Option.getD_some, oneD, List.getElem?_cons_zero, List.getElem?_cons_succ, List.drop_zero, List.drop_succ_cons, List.take_succ_cons, List.take_zero, List.length_cons, List.length_nil, Nat.zero_add, Nat.reduceAdd, Nat.le_refl, Nat.reduceLeDiff, D.pub, D.pubs, ret_z88d6]
    refine ⟨_, rfl, rfl, ?_⟩
    rw [found, h1]; rfl


def badKind : ByteArray := ⟨#[73, 110, 118, 97, 108, 105, 100, 75, 105, 110, 100]⟩
def notLet : ByteArray := ⟨#[82, 101, 102, 78, 111, 116, 80, 101, 114, 109, 105, 116, 116, 101, 100]⟩

set_option maxRecDepth 100000 in
theorem wrong_nil (r : AObj) (b : ABackend) (t : ARef) (ht : near b.ref r.ref.space = t) (h : t.kind ≠ 3 ∨ r.ref.space ≠ t.space) :
    Pure Tryz.prog 37 [.pd (.slice []), r.d, b.d] (fun d => d = str (if t.kind = 3 then notLet else badKind)) := by
  refine pure_of_run follows an_zcgje Tryz.func37 rfl ok_zcgje dst_zcgje (by simp [Tryz.ntmps37]) ?_
  rw [run_start]
  simp only [ac_zcgje, go_sem, contS_seq, simprocAttr]
  refine (grant_Near b.ref r.ref.space).callW (enters_of Tryz.func27 rfl rfl) _ rfl rfl ?_
  rintro d rfl
  rw [ht]
  simp only [go_sem, contS_seq, simprocAttr]
  refine ⟨fun h3 => ?_, fun h3 => ?_⟩
  · have hs : r.ref.space ≠ t.space := by
      rcases h with h | h
      · exact absurd h3 h
      · exact h
    refine (grant_Permits (fun _ => false) [] 6 r.ref.space t (by simp) (by simp)).callW (enters_of Tryz.func17 rfl rfl) _ rfl rfl ?_
    rintro d rfl
    simp only [go_sem, contS_seq, simprocAttr, hs]
    simp only [retK, fullK, iterK, resD, resA, AOp.ex, St.ev, Option.map_some, Option.bind_some, St.get, lk, reduceIte, Nat.reduceEqDiff, Option.getD_some, oneD, List.getElem?_cons_zero, List.getElem?_cons_succ, List.drop_zero, List.drop_succ_cons, List.take_succ_cons, List.take_zero, List.length_cons, List.length_nil, Nat.zero_add, Nat.reduceAdd, Nat.le_refl, Nat.reduceLeDiff, D.pub, D.pubs, Tryz.results37, h3]
    exact ⟨_, rfl, rfl, rfl⟩
  · simp only [retK, fullK, iterK, resD, resA, AOp.ex, St.ev, Option.map_some, Option.bind_some, St.get, lk, reduceIte, Nat.reduceEqDiff, Option.getD_some, oneD, List.getElem?_cons_zero, List.getElem?_cons_succ, List.drop_zero, List.drop_succ_cons, List.take_succ_cons, List.take_zero, List.length_cons, List.length_nil, Nat.zero_add, Nat.reduceAdd, Nat.le_refl, Nat.reduceLeDiff, D.pub, D.pubs, Tryz.results37, h3]
    exact ⟨_, rfl, rfl, rfl⟩


def noBackend : ByteArray := ⟨#[66, 97, 99, 107, 101, 110, 100, 78, 111, 116, 70, 111, 117, 110, 100]⟩

def thereIs (os : List AObj) (t : ARef) (port : Int) : Bool := match found os t with
  | some s => objMay s && hasInt s.ports port
  | none => false

def wrongAt (os : List AObj) (space : ByteArray) (t : ARef) (port : Int) : ByteArray :=
  if t.kind ≠ 3 then badKind else if permits os 6 space t = false then notLet else if thereIs os t port = false then noBackend else ⟨#[]⟩

def wrong (os : List AObj) (r : AObj) (b : ABackend) : ByteArray := wrongAt os r.ref.space (near b.ref r.ref.space) b.port

theorem found_mem {os : List AObj} {t : ARef} {s : AObj} (h : found os t = some s) : s ∈ os := List.mem_of_find?_eq_some h

theorem back_Wrong (os : List AObj) (hos : os.length ≤ 1000000) (h : ∀ o ∈ os, o.ok) (r : AObj) (b : ABackend) : Pure Tryz.prog 37 [.pd (.slice (rows AObj.pd os)), r.d, b.d] (fun d => d = str (wrong os r b)) := by
  refine pure_of_run follows an_zcgje Tryz.func37 rfl ok_zcgje dst_zcgje (by simp [Tryz.ntmps37]) ?_
  rw [run_start]
  simp only [ac_zcgje, go_sem, contS_seq, simprocAttr]
  refine (grant_Near b.ref r.ref.space).callW (enters_of Tryz.func27 rfl rfl) _ rfl rfl ?_
  rintro d rfl
  obtain ⟨t, ht⟩ : ∃ t, near b.ref r.ref.space = t := ⟨_, rfl⟩
  have hwr : wrong os r b = wrongAt os r.ref.space t b.port := by rw [wrong, ht]
  rw [ht]
  simp only [go_sem, contS_seq, simprocAttr]
  refine GifP.mk (fun h3 => ?_) (fun h3 => ?_)
  · refine (grant_Permits' os hos h 6 r.ref.space t).callW (enters_of Tryz.func17 rfl rfl) _ rfl rfl ?_
    rintro d rfl
    simp only [go_sem, contS_seq, simprocAttr]
    refine Gif.mk (fun hp => ?_) (fun hp => ?_)
    · refine (grant_Find os hos t).callW (enters_of Tryz.func25 rfl rfl) _ rfl rfl ?_
      rintro d rfl
      cases hf : found os t with
      | none =>
        simp only [foundD, go_sem, contS_seq, simprocAttr]
        simp only [retK, fullK, iterK, resD, resA, AOp.ex, St.ev, Option.map_some, Option.bind_some, St.get, lk, reduceIte, Nat.reduceEqDiff, Option.getD_some, oneD, List.getElem?_cons_zero, List.getElem?_cons_succ, List.drop_zero, List.drop_succ_cons, List.take_succ_cons, List.take_zero, List.length_cons, List.length_nil, Nat.zero_add, Nat.reduceAdd, Nat.le_refl, Nat.reduceLeDiff, D.pub, D.pubs, Tryz.results37]
        exact ⟨_, rfl, rfl, by rw [hwr]; simp [wrongAt, h3, hp, thereIs, hf, D.pub, noBackend]⟩
      | some s =>
        simp only [foundD, go_sem, contS_seq, simprocAttr]
        refine (object_May s (h s (found_mem hf))).callW (enters_of Tryz.func52 rfl rfl) _ rfl rfl ?_
        rintro d rfl
        simp only [go_sem, contS_seq, simprocAttr]
        refine Gif.mk (fun hm => ?_) (fun hm => ?_)
        · refine (slices_Contains_int s.ports (h s (found_mem hf)).po b.port).callW (enters_of Tryz.func76 rfl rfl) _ rfl rfl ?_
          rintro d rfl
          simp only [go_sem, contS_seq, simprocAttr]
          refine Gif.mk (fun hc => ?_) (fun hc => ?_)
          all_goals
            simp only [retK, fullK, iterK, resD, resA, AOp.ex, St.ev, Option.map_some, Option.bind_some, St.get, lk, reduceIte, Nat.reduceEqDiff, Option.getD_some, oneD, List.getElem?_cons_zero, List.getElem?_cons_succ, List.drop_zero, List.drop_succ_cons, List.take_succ_cons, List.take_zero, List.length_cons, List.length_nil, Nat.zero_add, Nat.reduceAdd, Nat.le_refl, Nat.reduceLeDiff, D.pub, D.pubs, Tryz.results37]
            exact ⟨_, rfl, rfl, by rw [hwr]; simp [wrongAt, h3, hp, thereIs, hf, hm, hc, D.pub, noBackend]⟩
        · simp only [retK, fullK, iterK, resD, resA, AOp.ex, St.ev, Option.map_some, Option.bind_some, St.get, lk, reduceIte, Nat.reduceEqDiff, Option.getD_some, oneD, List.getElem?_cons_zero, List.getElem?_cons_succ, List.drop_zero, List.drop_succ_cons, List.take_succ_cons, List.take_zero, List.length_cons, List.length_nil, Nat.zero_add, Nat.reduceAdd, Nat.le_refl, Nat.reduceLeDiff, D.pub, D.pubs, Tryz.results37]
          exact ⟨_, rfl, rfl, by rw [hwr]; simp [wrongAt, h3, hp, thereIs, hf, hm, D.pub, noBackend]⟩
    · simp only [retK, fullK, iterK, resD, resA, AOp.ex, St.ev, Option.map_some, Option.bind_some, St.get, lk, reduceIte, Nat.reduceEqDiff, Option.getD_some, oneD, List.getElem?_cons_zero, List.getElem?_cons_succ, List.drop_zero, List.drop_succ_cons, List.take_succ_cons, List.take_zero, List.length_cons, List.length_nil, Nat.zero_add, Nat.reduceAdd, Nat.le_refl, Nat.reduceLeDiff, D.pub, D.pubs, Tryz.results37]
      exact ⟨_, rfl, rfl, by rw [hwr]; simp [wrongAt, h3, hp, D.pub, notLet]⟩
  · simp only [retK, fullK, iterK, resD, resA, AOp.ex, St.ev, Option.map_some, Option.bind_some, St.get, lk, reduceIte, Nat.reduceEqDiff, Option.getD_some, oneD, List.getElem?_cons_zero, List.getElem?_cons_succ, List.drop_zero, List.drop_succ_cons, List.take_succ_cons, List.take_zero, List.length_cons, List.length_nil, Nat.zero_add, Nat.reduceAdd, Nat.le_refl, Nat.reduceLeDiff, D.pub, D.pubs, Tryz.results37]
    exact ⟨_, rfl, rfl, by rw [hwr]; simp [wrongAt, h3, D.pub, badKind]⟩

def isRoute (r : AObj) : Bool := decide (r.ref.kind = 6) && objMay r

theorem back_route (r : AObj) (h : r.ok) : Pure Tryz.prog 77 [r.d] (fun d => d = bln (isRoute r)) := by
  refine pure_of_run follows an_zjzrx Tryz.func77 rfl ok_zjzrx dst_zjzrx (by simp [Tryz.ntmps77]) ?_
  rw [run_start]
  simp only [ac_zjzrx, go_sem, contS_seq, simprocAttr]
  (repeat' (first | (refine GifP.mk (fun _ => ?_) (fun _ => ?_)) | (refine Gif.mk (fun _ => ?_) (fun _ => ?_)) | (refine (object_May r h).callW (enters_of Tryz.func52 rfl rfl) _ rfl rfl ?_; rintro _ rfl; try simp only [go_sem, contS_seq, simprocAttr]))) <;> (simp only [retK, fullK, iterK, resD, resA, AOp.ex, St.ev, Option.map_some, Option.bind_some, St.get, lk, reduceIte, Nat.reduceEqDiff, Option.getD_some, oneD, List.getElem?_cons_zero, List.getElem?_cons_succ, List.drop_zero, List.drop_succ_cons, List.take_succ_cons, List.take_zero, List.length_cons, List.length_nil, Nat.zero_add, Nat.reduceAdd, Nat.le_refl, Nat.reduceLeDiff, D.pub, D.pubs, Tryz.results77]; exact ⟨_, rfl, rfl, congrArg bln (by first | rfl | (rw [Bool.eq_iff_iff]; simp only [isRoute]; simp; done) | (rw [Bool.eq_iff_iff]; simp only [isRoute]; simp; omega) | (rw [Bool.eq_iff_iff]; simp only [isRoute]; simp [*]; done) | (rw [Bool.eq_iff_iff]; simp only [isRoute]; simp [*]; omega) | (simp_all [isRoute]; done) | (exfalso; omega))⟩)

def firstWrong (os : List AObj) (r : AObj) : List ABackend → Option ByteArray
  | [] => none
  | b :: l => if wrong os r b = ⟨#[]⟩ then firstWrong os r l else some (wrong os r b)

def firstRule (os : List AObj) (r : AObj) : List ARule → ByteArray
  | [] => ⟨#[]⟩
  | x :: l => match firstWrong os r x.backends with
    | some w => w
    | none => firstRule os r l

def routeWhy (os : List AObj) (r : AObj) : ByteArray := if isRoute r = true then firstRule os r r.rules else ⟨#[]⟩

set_option maxHeartbeats 1000000 in
theorem back_Route (os : List AObj) (hos : os.length ≤ 1000000) (h : ∀ o ∈ os, o.ok) (r : AObj) (hr : r.ok) : Pure Tryz.prog 39 [.pd (.slice (rows AObj.pd os)), r.d] (fun d => d = str (routeWhy os r)) := by
  refine pure_of_run follows an_zqnyx Tryz.func39 rfl ok_zqnyx dst_zqnyx (by simp [Tryz.ntmps39]) ?_
  rw [run_start]
  simp only [ac_zqnyx, go_sem, contS_seq, simprocAttr]
  refine (back_route r hr).callW (enters_of Tryz.func77 rfl rfl) _ rfl rfl ?_
  rintro d rfl
  simp only [go_sem, contS_seq, simprocAttr]
  refine Gif.mk (fun h1 => ?_) (fun h1 => ?_)
  rotate_left
  · simp only [retK, fullK, iterK, resD, resA, AOp.ex, St.ev, Option.map_some, Option.bind_some, St.get, lk, reduceIte, Nat.reduceEqDiff, Option.getD_some, oneD, List.getElem?_cons_zero, List.getElem?_cons_succ, List.drop_zero, List.drop_succ_cons, List.take_succ_cons, List.take_zero, List.length_cons, List.length_nil, Nat.zero_add, Nat.reduceAdd, Nat.le_refl, Nat.reduceLeDiff, D.pub, D.pubs, Tryz.results39]
    exact ⟨_, rfl, rfl, by simp [routeWhy, h1, D.pub]⟩
  simp only [rows_len]
  refine loopS (fun k st => ∃ i : Nat, k = r.rules.length - i ∧ i ≤ r.rules.length ∧ firstRule os r (r.rules.drop i) = firstRule os r r.rules ∧
    st = ⟨[(0, .pd (.slice (rows AObj.pd os))), (3, .ptr 3 0), (14, .pd (.slice (rows ARule.pd r.rules))), (15, int r.rules.length), (16, int i)], [(3, r.ds)], [], .no⟩) r.rules.length _ ?_ ⟨0, rfl, Nat.zero_le _, rfl, rfl⟩ ?_
  · exact Weak.less (by simp [lessL, lk]) (by simp [lessL, lk]) (by simp [lessL, lk]) rfl
  rintro k st ⟨i, rfl, hi, hrr, rfl⟩
  by_cases hlt : i < r.rules.length
  · obtain ⟨x, hx⟩ := at_lt hlt
    have hlt' : ((i : Int) < (r.rules.length : Int)) = True := eq_true (by omega)
    have hw := i64_succ (show i < 1000000000 by have := hr.ru; omega)
    have hxb := (hr.rus x (List.mem_of_getElem? hx)).bl
    rw [drop_at hx, firstRule] at hrr
    simp only [go_sem, contS_seq, simprocAttr, hlt', rows_get hx, rows_len]
    refine loopS (fun k st => ∃ j : Nat, k = x.backends.length - j ∧ j ≤ x.backends.length ∧ firstWrong os r (x.backends.drop j) = firstWrong os r x.backends ∧
      st = ⟨[(0, .pd (.slice (rows AObj.pd os))), (3, .ptr 3 0), (14, .pd (.slice (rows ARule.pd r.rules))), (15, int r.rules.length), (16, int i), (21, .pd (.slice (rows ABackend.pd x.backends))), (22, int x.backends.length), (23, int j)], [(3, r.ds)], [], .no⟩) x.backends.length _ ?_ ⟨0, rfl, Nat.zero_le _, rfl, rfl⟩ ?_
    · exact Weak.less (by simp [lessL, lk]) (by simp [lessL, lk]) (by simp [lessL, lk]) rfl
    rintro k st ⟨j, rfl, hj, hfw, rfl⟩
    by_cases hjl : j < x.backends.length
    · obtain ⟨b, hb⟩ := at_lt hjl
      have hjl' : ((j : Int) < (x.backends.length : Int)) = True := eq_true (by omega)
      have hwj := i64_succ (show j < 1000000000 by omega)
      rw [drop_at hb, firstWrong] at hfw
      simp only [go_sem, contS_seq, simprocAttr, hjl', rows_get hb]
      refine (back_Wrong os hos h r b).callW (enters_of Tryz.func37 rfl rfl) _ rfl rfl ?_
      rintro d rfl
      simp only [go_sem, contS_seq, simprocAttr, hwj]
      refine GifP.mk (fun hwr => ?_) (fun hwr => ?_)
      · rw [if_pos hwr] at hfw
        refine ⟨x.backends.length - (j + 1), _, ?_, ?_, j + 1, rfl, ?_, hfw, rfl⟩
        · omega
        · exact Weak.less (by simp [lessL, lk]) (by simp [lessL, lk]) (by simp [lessL, lk]) rfl
        · omega
      · rw [if_neg hwr] at hfw
        rw [← hfw] at hrr
        simp only [retK, fullK, iterK, resD, resA, AOp.ex, St.ev, Option.map_some, Option.bind_some, St.get, lk, reduceIte, Nat.reduceEqDiff, Option.getD_some, oneD, List.getElem?_cons_zero, List.getElem?_cons_succ, List.drop_zero, List.drop_succ_cons, List.take_succ_cons, List.take_zero, List.length_cons, List.length_nil, Nat.zero_add, Nat.reduceAdd, Nat.le_refl, Nat.reduceLeDiff, D.pub, D.pubs, Tryz.results39]
        refine ⟨_, rfl, rfl, ?_⟩
        rw [routeWhy, if_pos h1, ← hrr]; rfl
    · have hjl' : ((j : Int) < (x.backends.length : Int)) = False := eq_false (by omega)
      rw [List.drop_eq_nil_of_le (by omega), firstWrong] at hfw
      rw [← hfw] at hrr
      simp only [go_sem, contS_seq, simprocAttr, hjl', hw]
      refine ⟨r.rules.length - (i + 1), _, ?_, ?_, i + 1, rfl, ?_, hrr, rfl⟩
      · omega
      · exact Weak.less (by simp [lessL, lk]) (by simp [lessL, lk]) (by simp [lessL, lk]) rfl
      · omega
  · have hlt' : ((i : Int) < (r.rules.length : Int)) = False := eq_false (by omega)
    rw [List.drop_eq_nil_of_le (by omega), firstRule] at hrr
    simp only [go_sem, contS_seq, simprocAttr, hlt']
    simp only [retK, fullK, iterK, resD, resA, AOp.ex, St.ev, Option.map_some, Option.bind_some, St.get, lk, reduceIte, Nat.reduceEqDiff, Option.getD_some, oneD, List.getElem?_cons_zero, List.getElem?_cons_succ, List.drop_zero, List.drop_succ_cons, List.take_succ_cons, List.take_zero, List.length_cons, List.length_nil, Nat.zero_add, Nat.reduceAdd, Nat.le_refl, Nat.reduceLeDiff, D.pub, D.pubs, Tryz.results39]
    refine ⟨_, rfl, rfl, ?_⟩
    rw [routeWhy, if_pos h1, ← hrr]; rfl


def fewObjs (l : List AObj) : List AObj := (l.take 24).map fewObj

theorem take_map_mem {α β : Type} {g : α → β} {l : List α} {n : Nat} {y : β} (h : y ∈ (l.take n).map g) : ∃ x, x ∈ l ∧ g x = y := by
  obtain ⟨x, hx, rfl⟩ := List.mem_map.1 h
  exact ⟨x, List.mem_of_mem_take hx, rfl⟩

theorem fewPairs_ok {l : List APair} : ∀ p ∈ fewPairs l, p.ok := fun p hp => by
  obtain ⟨x, _, rfl⟩ := take_map_mem hp
  exact fewPair_ok x

theorem fewPairs_len (l : List APair) : (fewPairs l).length ≤ 1000000 := by simp [fewPairs]; omega

theorem fewMatch_ok (m : AMatch) : (fewMatch m).ok := ⟨fewPairs_len _, fewPairs_len _, fewPairs_ok, fewPairs_ok⟩

theorem fewFilter_ok (f : AFilter) : (fewFilter f).ok := ⟨by have := few_size f.name; simp [fewFilter]; omega, by have := few_size f.val; simp [fewFilter]; omega⟩

theorem fewNeed_ok (n : ANeed) : (fewNeed n).ok := by simp [ANeed.ok, fewNeed]; omega

theorem fewListener_ok (l : AListener) : (fewListener l).ok := ⟨by simp [fewListener, fewNeeds]; omega, fun x hx => by
  obtain ⟨y, _, rfl⟩ := take_map_mem hx
  exact fewNeed_ok y⟩

theorem fewRule_ok (r : ARule) : (fewRule r).ok := ⟨by simp [fewRule]; omega, by simp [fewRule, fewFilters]; omega, by simp [fewRule]; omega, fun x hx => by
  obtain ⟨y, _, rfl⟩ := take_map_mem hx
  exact fewMatch_ok y, fun x hx => by
  obtain ⟨y, _, rfl⟩ := take_map_mem hx
  exact fewFilter_ok y⟩

theorem fewObj_ok (o : AObj) : (fewObj o).ok where
  la := fewPairs_len _
  po := by simp [fewObj]; omega
  li := by simp [fewObj]; omega
  pa := by simp [fewObj]; omega
  ho := by simp [fewObj]; omega
  ru := by simp [fewObj]; omega
  fr := by simp [fewObj, fewSides]; omega
  to := by simp [fewObj, fewSides]; omega
  lis := fun x hx => by
    obtain ⟨y, _, rfl⟩ := take_map_mem hx
    exact fewListener_ok y
  rus := fun x hx => by
    obtain ⟨y, _, rfl⟩ := take_map_mem hx
    exact fewRule_ok y

theorem fewObjs_ok {l : List AObj} : ∀ o ∈ fewObjs l, o.ok := fun o ho => by
  obtain ⟨x, _, rfl⟩ := take_map_mem ho
  exact fewObj_ok x

theorem fewObjs_len (l : List AObj) : (fewObjs l).length ≤ 24 := by simp [fewObjs]; omega

theorem law11_Some (l : List AObj) : Pure Tryz.prog 16 [.pd (.slice (rows AObj.pd l))] (fun d => d = .pd (.slice (rows AObj.pd (fewObjs l)))) := by
  refine pure_of_run follows an_zh218 Tryz.func16 rfl ok_zh218 dst_zh218 (by simp [Tryz.ntmps16]) ?_
  rw [run_start]
  simp only [ac_zh218, go_sem, contS_seq, simprocAttr, rows_len]
  refine loopS (fun k st => ∃ i : Nat, k = 24 - i ∧ i ≤ 24 ∧ i ≤ l.length ∧
    st = ⟨[(0, .pd (.slice (rows AObj.pd l))), (3, .own 39 13 (rows AObj.pd ((l.take i).map fewObj)) 22), (4, int i)], [], [], .no⟩) 24 _
    ?_ ⟨0, rfl, by omega, by omega, rfl⟩ ?_
  · exact Weak.own1 3 22 39 13 (by kernel_rfl) (by decide) rfl (by simp [lessL, lk, St.purge, St.put, D.purge, rows]) (by simp [lessL, lk, St.purge, D.purges, D.purge]) (by simp [lessL]) rfl
  rintro k st ⟨i, rfl, hi6, hi, rfl⟩
  have hw := i64_succ (show i < 1000000000 by omega)
  by_cases hlt : i < l.length ∧ i < 24
  · obtain ⟨x, hx⟩ := at_lt hlt.1
    have h1 : ((i : Int) < (l.length : Int)) = True := eq_true (by omega)
    have h2 : ((i : Int) < 24) = True := eq_true (by omega)
    simp only [go_sem, contS_seq, simprocAttr, rows_len, rows_get hx, h1, h2]
    refine (law9_Few x).callW (enters_of Tryz.func20 rfl rfl) _ rfl rfl ?_
    rintro d rfl
    have hl' : ((l.take i).map fewObj).length ≤ i := by simp; omega
    have e1 : rows AObj.pd ((l.take i).map fewObj) ++ [AObj.pd (fewObj x)] = rows AObj.pd ((l.take (i + 1)).map fewObj) := few_step hx
    simp only [go_sem, contS_seq, simprocAttr, rows_len, hw]
    rw [e1]
    refine ⟨by simp, by unfold maxLen; omega, by omega, 24 - (i + 1), _, by omega, ?_, i + 1, rfl, by omega, by omega, rfl⟩
    exact Weak.less (by simp [lessL, lk]) (by simp [lessL, lk]) (by simp [lessL, lk]) rfl
  · have h3 := few_end (g := fewObj) hi6 hi hlt
    rw [h3]
    by_cases h1 : i < l.length
    · have h1' : ((i : Int) < (l.length : Int)) = True := eq_true (by omega)
      have h2 : ((i : Int) < 24) = False := eq_false (by omega)
      simp only [go_sem, contS_seq, simprocAttr, rows_len, h1', h2]
      simp only [retK, fullK, iterK, resD, resA, AOp.ex, St.ev, Option.map_some, Option.bind_some, St.get, lk, reduceIte, Nat.reduceEqDiff, Option.getD_some, oneD, List.getElem?_cons_zero, List.getElem?_cons_succ, List.drop_zero, List.drop_succ_cons, List.take_succ_cons, List.take_zero, List.length_cons, List.length_nil, Nat.zero_add, Nat.reduceAdd, Nat.le_refl, Nat.reduceLeDiff, D.pub, D.pubs, Tryz.results16]
      exact ⟨_, rfl, rfl, rfl⟩
    · have h1' : ((i : Int) < (l.length : Int)) = False := eq_false (by omega)
      simp only [go_sem, contS_seq, simprocAttr, rows_len, h1']
      simp only [retK, fullK, iterK, resD, resA, AOp.ex, St.ev, Option.map_some, Option.bind_some, St.get, lk, reduceIte, Nat.reduceEqDiff, Option.getD_some, oneD, List.getElem?_cons_zero, List.getElem?_cons_succ, List.drop_zero, List.drop_succ_cons, List.take_succ_cons, List.take_zero, List.length_cons, List.length_nil, Nat.zero_add, Nat.reduceAdd, Nat.le_refl, Nat.reduceLeDiff, D.pub, D.pubs, Tryz.results16]
      exact ⟨_, rfl, rfl, rfl⟩

def goalOf (os : List AObj) (r : AObj) (b : ABackend) : AGoal := ⟨near b.ref r.ref.space, b.port, b.weight, !decide (wrong os r b = ⟨#[]⟩)⟩

def goals (os : List AObj) (r : AObj) (i : Int) : List AGoal := if isRoute r = true ∧ 0 ≤ i ∧ i < r.rules.length then match r.rules[i.toNat]? with
    | some x => x.backends.map (goalOf os r)
    | none => []
  else []

set_option maxHeartbeats 1000000 in
theorem back_Goals (os : List AObj) (hos : os.length ≤ 1000000) (h : ∀ o ∈ os, o.ok) (r : AObj) (hr : r.ok) (i : Int) : Pure Tryz.prog 42 [.pd (.slice (rows AObj.pd os)), r.d, int i] (fun d => d = .pd (.slice (rows AGoal.pd (goals os r i)))) := by
  refine pure_of_run follows an_z7x5b Tryz.func42 rfl ok_z7x5b dst_z7x5b (by simp [Tryz.ntmps42]) ?_
  rw [run_start]
  simp only [ac_z7x5b, go_sem, contS_seq, simprocAttr, rows_len]
  refine (back_route r hr).callW (enters_of Tryz.func77 rfl rfl) _ rfl rfl ?_
  rintro d rfl
  simp only [go_sem, contS_seq, simprocAttr, rows_len]
  by_cases hg : isRoute r = true ∧ 0 ≤ i ∧ i < r.rules.length
  · have h1 : isRoute r = true := hg.1
    have h2 : (i < 0) = False := eq_false (by omega)
    have h3 : ((r.rules.length : Int) ≤ i) = False := eq_false (by omega)
    obtain ⟨n, rfl⟩ := Int.eq_ofNat_of_zero_le hg.2.1
    obtain ⟨x, hx⟩ := at_lt (show n < r.rules.length by omega)
    have hgo : goals os r n = x.backends.map (goalOf os r) := by simp only [goals, if_pos hg, Int.toNat_natCast, hx]
    have hxb := (hr.rus x (List.mem_of_getElem? hx)).bl
    simp only [go_sem, contS_seq, simprocAttr, rows_len, h1, h2, h3, rows_get hx]
    refine loopS (fun k st => ∃ j : Nat, k = x.backends.length - j ∧ j ≤ x.backends.length ∧
      st = ⟨[(0, .pd (.slice (rows AObj.pd os))), (4, .ptr 4 0), (7, .own 64 6 (rows AGoal.pd ((x.backends.take j).map (goalOf os r))) 53), (29, .pd (.slice (rows ABackend.pd x.backends))), (30, int x.backends.length), (31, int j)], [(4, r.ds)], [], .no⟩) x.backends.length _
      ?_ ⟨0, rfl, by omega, rfl⟩ ?_
    · exact Weak.own1 7 53 64 6 (by kernel_rfl) (by decide) rfl (by simp [lessL, lk, St.purge, St.put, D.purge, rows]) (by simp [lessL, lk, St.purge, D.purges, D.purge]) (by simp [lessL]) rfl
    rintro k st ⟨j, rfl, hj, rfl⟩
    by_cases hlt : j < x.backends.length
    · obtain ⟨b, hb⟩ := at_lt hlt
      have h1' : ((j : Int) < (x.backends.length : Int)) = True := eq_true (by omega)
      have hw := i64_succ (show j < 1000000000 by omega)
      simp only [go_sem, contS_seq, simprocAttr, rows_len, rows_get hb, h1']
      refine (grant_Near b.ref r.ref.space).callX (enters_of Tryz.func27 rfl rfl) _ rfl rfl ?_
      rintro _ rfl
      simp only [go_sem, contS_seq, simprocAttr]
      refine (back_Wrong os hos h r b).callX (enters_of Tryz.func37 rfl rfl) _ rfl rfl ?_
      rintro _ rfl
      have hl' : ((x.backends.take j).map (goalOf os r)).length ≤ j := by simp; omega
      have e1 : rows AGoal.pd ((x.backends.take j).map (goalOf os r)) ++ [[PD.raw (Value.int IntKind.i64 (near b.ref r.ref.space).kind), PD.raw (Value.string (near b.ref r.ref.space).space), PD.raw (Value.string (near b.ref r.ref.space).name), PD.raw (Value.int IntKind.i64 b.port), PD.raw (Value.int IntKind.i64 b.weight), PD.raw (Value.bool !decide (wrong os r b = ⟨#[]⟩))]] = rows AGoal.pd ((x.backends.take (j + 1)).map (goalOf os r)) := few_step (f := AGoal.pd) (g := goalOf os r) hb
      simp only [go_sem, contS_seq, simprocAttr, rows_len, hw]
      rw [e1]
      refine ⟨by simp, by unfold maxLen; omega, by omega, x.backends.length - (j + 1), _, by omega, ?_, j + 1, rfl, by omega, rfl⟩
      exact Weak.less (by simp [lessL, lk]) (by simp [lessL, lk]) (by simp [lessL, lk]) rfl
    · have h1' : ((j : Int) < (x.backends.length : Int)) = False := eq_false (by omega)
      simp only [go_sem, contS_seq, simprocAttr, rows_len, h1']
      simp only [retK, fullK, iterK, resD, resA, AOp.ex, St.ev, Option.map_some, Option.bind_some, St.get, lk, reduceIte, Nat.reduceEqDiff, Option.getD_some, oneD, List.getElem?_cons_zero, List.getElem?_cons_succ, List.drop_zero, List.drop_succ_cons, List.take_succ_cons, List.take_zero, List.length_cons, List.length_nil, Nat.zero_add, Nat.reduceAdd, Nat.le_refl, Nat.reduceLeDiff, D.pub, D.pubs, Tryz.results42]
      exact ⟨_, rfl, rfl, by rw [hgo, List.take_of_length_le (by omega)]; rfl⟩
  · have hgo : goals os r i = [] := by simp only [goals, if_neg hg]
    refine Gif.mk (fun h1 => ?_) (fun h1 => ?_)
    · refine GifP.mk (fun h2 => ?_) (fun h2 => ?_)
      · simp only [retK, fullK, iterK, resD, resA, AOp.ex, St.ev, Option.map_some, Option.bind_some, St.get, lk, reduceIte, Nat.reduceEqDiff, Option.getD_some, oneD, List.getElem?_cons_zero, List.getElem?_cons_succ, List.drop_zero, List.drop_succ_cons, List.take_succ_cons, List.take_zero, List.length_cons, List.length_nil, Nat.zero_add, Nat.reduceAdd, Nat.le_refl, Nat.reduceLeDiff, D.pub, D.pubs, Tryz.results42]
        exact ⟨_, rfl, rfl, by rw [hgo]; rfl⟩
      refine GifP.mk (fun h3 => ?_) (fun h3 => ?_)
      · simp only [retK, fullK, iterK, resD, resA, AOp.ex, St.ev, Option.map_some, Option.bind_some, St.get, lk, reduceIte, Nat.reduceEqDiff, Option.getD_some, oneD, List.getElem?_cons_zero, List.getElem?_cons_succ, List.drop_zero, List.drop_succ_cons, List.take_succ_cons, List.take_zero, List.length_cons, List.length_nil, Nat.zero_add, Nat.reduceAdd, Nat.le_refl, Nat.reduceLeDiff, D.pub, D.pubs, Tryz.results42]
        exact ⟨_, rfl, rfl, by rw [hgo]; rfl⟩
      · exact absurd ⟨h1, by omega, by omega⟩ hg
    · simp only [retK, fullK, iterK, resD, resA, AOp.ex, St.ev, Option.map_some, Option.bind_some, St.get, lk, reduceIte, Nat.reduceEqDiff, Option.getD_some, oneD, List.getElem?_cons_zero, List.getElem?_cons_succ, List.drop_zero, List.drop_succ_cons, List.take_succ_cons, List.take_zero, List.length_cons, List.length_nil, Nat.zero_add, Nat.reduceAdd, Nat.le_refl, Nat.reduceLeDiff, D.pub, D.pubs, Tryz.results42]
      exact ⟨_, rfl, rfl, by rw [hgo]; rfl⟩

theorem filter_step {α : Type} {p : α → Bool} {l : List α} {i : Nat} {x : α} (h : l[i]? = some x) : (l.take (i + 1)).filter p = (l.take i).filter p ++ (if p x = true then [x] else []) := by
  rw [take_at h, List.filter_append]
  congr 1
  by_cases hp : p x = true <;> simp [hp]

end Go.Proofs.YtjhomppadppfnaaGreatDoor

namespace Go.Proofs.YtjhomppadppfnaaGreatDoor
open Go

def an_z8ehi : Ann := ⟨[(0, [0, 2, 4]), (1, [0, 2, 4]), (2, [0, 2, 4, 7, 8]), (3, [0, 2, 4, 7, 8, 9]), (4, [0, 2, 4, 7, 8, 9, 10]), (5, [0, 2, 4, 7, 8, 9, 10, 11]), (6, [0, 2, 4, 7, 8, 9, 10, 11, 30]), (7, [0, 2, 4, 7, 8, 9, 10, 11]), (8, [0, 2, 4, 7, 8, 9, 10, 11, 39]), (9, [0, 2, 4, 7, 8, 9, 10, 11]), (10, [0, 2, 4, 7, 8, 9, 11, 60]), (11, [6]), (12, [0, 2, 4, 7, 8, 9, 10, 11]), (13, [2, 4, 8, 10, 13]), (14, [4, 8, 10, 13, 14]), (15, [4, 14, 101]), (16, [6]), (17, [6])], [(1, ([0, 1, 0, 7, 0, 31, 63, 127, 255], .take 0 (.take 2 (.take 4 (.alts (.cons 1 false (.alts (.cons 3 false (.alts (.cons 5 true (.take 6 (.alts (.cons 7 true (.take 8 (.done)) (.nil)))) (.nil))) (.nil))) (.nil))))))), (8, ([0, 0, 3, 7, 15, 0, 63], .take 0 (.take 1 (.take 2 (.take 3 (.take 4 (.take 5 (.take 6 (.done))))))))), (10, ([0, 1, 3, 7, 15, 31, 31, 31, 223, 479, 1023, 2047, 4095, 8191], .take 0 (.take 1 (.take 2 (.take 3 (.take 4 (.take 5 (.take 6 (.take 7 (.take 8 (.take 9 (.alts (.cons 10 true (.take 11 (.take 12 (.take 13 (.done)))) (.nil)))))))))))))), (15, ([0, 0, 2, 7, 15, 31, 63, 127, 255, 511, 255, 1279, 4095, 8191, 16383, 32767, 65535, 32767, 163839, 524287, 1048575, 2097151, 4194303, 8388607, 4194303, 33554431, 67108863, 134217727, 268435455, 536870911, 1073741823, 2147483647], .take 0 (.take 1 (.take 2 (.take 3 (.take 4 (.take 5 (.take 6 (.take 7 (.take 8 (.take 9 (.take 10 (.take 11 (.take 12 (.take 13 (.take 14 (.take 15 (.take 16 (.take 17 (.take 18 (.take 19 (.take 20 (.take 21 (.take 22 (.take 24 (.alts (.cons 23 false (.take 25 (.take 26 (.take 27 (.take 28 (.take 29 (.take 30 (.take 31 (.done)))))))) (.nil))))))))))))))))))))))))))))], []⟩
def ac_z8ehi : AC := (.seq (.region [.mk none (some 4) (.box 24 (.tmp 1)), .mk none (some 6) (.mv (.const (.bool false)))] (some [0, 2, 4])) (.seq (.draw [.mk none (some 15) (.mv (.tmp 0)), .mk none (some 16) (.call 16 [.tmp 15]), .mk none (some 17) (.load (some 3) (.tmp 4)), .mk none (some 18) (.call 21 [.tmp 17]), .mk none (some 19) (.mv (.tmp 2)), .mk none (some 20) (.call 22 [.tmp 19]), .mk none (some 0) (.mv (.tmp 16)), .mk none none (.store 3 (.tmp 4) (.tmp 18)), .mk none (some 2) (.mv (.tmp 20))] [0, 1, 0, 7, 0, 31, 63, 127, 255] (.take 0 (.take 2 (.take 4 (.alts (.cons 1 false (.alts (.cons 3 false (.alts (.cons 5 true (.take 6 (.alts (.cons 7 true (.take 8 .done) .nil))) .nil)) .nil)) .nil))))) (some [0, 2, 4])) (.seq (.region [.mk none (some 22) (.mv (.tmp 0)), .mk none (some 23) (.load (some 3) (.tmp 4)), .mk none (some 24) (.call 25 [.tmp 22, .tmp 23]), .mk none (some 21) (.mv (.tmp 24)), .mk none (some 25) (.extract (.tmp 21) 0), .mk none (some 26) (.extract (.tmp 21) 1), .mk none (some 7) (.alloc 39 [.pd (.raw (.int .i64 0)), .pd (.raw (.string ⟨#[]⟩)), .pd (.raw (.string ⟨#[]⟩)), .pd (.raw (.bool false)), .nils, .nils, .pd (.raw (.string ⟨#[]⟩)), .nils, .nils, .nils, .nils, .nils, .nils]), .mk none none (.store 13 (.tmp 7) (.tmp 25)), .mk none (some 8) (.mv (.tmp 26))] (some [0, 2, 4, 7, 8])) (.seq (.region [.mk none (some 9) (.mv (.const (.slice none 0 0)))] (some [0, 2, 4, 7, 8, 9])) (.seq (.region [.mk none (some 10) (.mv (.const (.bool true)))] (some [0, 2, 4, 7, 8, 9, 10])) (.seq (.seq (.region [.mk none (some 11) (.mv (.const (.int .i64 0)))] (some [0, 2, 4, 7, 8, 9, 10, 11])) (.block 0 (.loop (.seq (.seq (.region [.mk none (some 27) (.mv (.tmp 11)), .mk none (some 28) (.mv (.tmp 0)), .mk none (some 29) (.len (.tmp 28) false), .mk none (some 30) (.bin .lss (.tmp 27) (.tmp 29))] (some [0, 2, 4, 7, 8, 9, 10, 11, 30])) (.cond (.tmp 30) .skip (.exit 0))) (.seq (.block 1 (.seq (.seq (.draw [.mk none (some 33) (.mv (.tmp 0)), .mk none (some 34) (.mv (.tmp 11)), .mk none (some 35) (.idxA 13 (.tmp 33) (.tmp 34)), .mk none (some 36) (.fieldA 0 (.tmp 35)), .mk none (some 37) (.load (some 3) (.tmp 36)), .mk none (some 38) (.load (some 3) (.tmp 4)), .mk none (some 39) (.eqs true [.int, .str, .str] (.tmp 37) (.tmp 38))] [0, 0, 3, 7, 15, 0, 63] (.take 0 (.take 1 (.take 2 (.take 3 (.take 4 (.take 5 (.take 6 .done))))))) (some [0, 2, 4, 7, 8, 9, 10, 11, 39])) (.cond (.tmp 39) (.seq (.region [.mk none (some 40) (.mv (.tmp 9)), .mk none (some 41) (.mv (.tmp 0)), .mk none (some 42) (.mv (.tmp 11)), .mk none (some 43) (.idxA 13 (.tmp 41) (.tmp 42)), .mk none (some 44) (.load (some 13) (.tmp 43)), .mk none (some 45) (.bslice 39 13 [.tmp 44]), .mk none (some 46) (.append 39 13 256 (.tmp 40) (.tmp 45)), .mk none (some 9) (.mv (.tmp 46))] (some [0, 2, 4, 7, 8, 9, 10, 11])) (.exit 1)) .skip)) (.seq (.seq (.draw [.mk none (some 47) (.mv (.tmp 10)), .mk none (some 48) (.mv (.tmp 47)), .mk (some (48, true)) (some 49) (.mv (.tmp 8)), .mk (some (48, true)) (some 50) (.un .not (.tmp 49)), .mk (some (48, true)) (some 51) (.mv (.tmp 50)), .mk (some (51, false)) (some 52) (.load (some 13) (.tmp 7)), .mk (some (51, false)) (some 53) (.mv (.tmp 0)), .mk (some (51, false)) (some 54) (.mv (.tmp 11)), .mk (some (51, false)) (some 55) (.idxA 13 (.tmp 53) (.tmp 54)), .mk (some (51, false)) (some 56) (.load (some 13) (.tmp 55)), .mk (some (51, false)) (some 57) (.call 26 [.tmp 52, .tmp 56]), .mk (some (51, false)) (some 58) (.un .not (.tmp 57)), .mk (some (48, true)) (some 59) (.pick (.tmp 51) (.const (.bool true)) (.tmp 58)), .mk none (some 60) (.pick (.tmp 48) (.tmp 59) (.const (.bool false)))] [0, 1, 3, 7, 15, 31, 31, 31, 223, 479, 1023, 2047, 4095, 8191] (.take 0 (.take 1 (.take 2 (.take 3 (.take 4 (.take 5 (.take 6 (.take 7 (.take 8 (.take 9 (.alts (.cons 10 true (.take 11 (.take 12 (.take 13 .done))) .nil)))))))))))) (some [0, 2, 4, 7, 8, 9, 11, 60])) (.cond (.tmp 60) (.seq (.region [.mk none (some 6) (.mv (.const (.bool false)))] (some [6])) .ret) .skip)) (.region [.mk none (some 10) (.mv (.const (.bool false)))] (some [0, 2, 4, 7, 8, 9, 10, 11]))))) (.region [.mk none (some 31) (.mv (.tmp 11)), .mk none (some 32) (.bin .add (.tmp 31) (.const (.int .i64 1))), .mk none (some 11) (.mv (.tmp 32))] (some [0, 2, 4, 7, 8, 9, 10, 11]))))))) (.seq (.region [.mk none (some 62) (.mv (.tmp 9)), .mk none (some 63) (.load (some 3) (.tmp 4)), .mk none (some 64) (.call 25 [.tmp 62, .tmp 63]), .mk none (some 61) (.mv (.tmp 64)), .mk none (some 65) (.extract (.tmp 61) 0), .mk none (some 66) (.extract (.tmp 61) 1), .mk none (some 12) (.alloc 39 [.pd (.raw (.int .i64 0)), .pd (.raw (.string ⟨#[]⟩)), .pd (.raw (.string ⟨#[]⟩)), .pd (.raw (.bool false)), .nils, .nils, .pd (.raw (.string ⟨#[]⟩)), .nils, .nils, .nils, .nils, .nils, .nils]), .mk none none (.store 13 (.tmp 12) (.tmp 65)), .mk none (some 13) (.mv (.tmp 66))] (some [2, 4, 8, 10, 13])) (.seq (.region [.mk none (some 67) (.load (some 3) (.tmp 4)), .mk none (some 68) (.mv (.tmp 2)), .mk none (some 69) (.call 27 [.tmp 67, .tmp 68]), .mk none (some 14) (.alloc 24 [.pd (.raw (.int .i64 0)), .pd (.raw (.string ⟨#[]⟩)), .pd (.raw (.string ⟨#[]⟩))]), .mk none none (.store 3 (.tmp 14) (.tmp 69))] (some [4, 8, 10, 13, 14])) (.seq (.seq (.draw [.mk none (some 70) (.mv (.tmp 8)), .mk none (some 71) (.mv (.tmp 10)), .mk none (some 72) (.un .not (.tmp 71)), .mk none (some 73) (.binB true (.tmp 70) (.tmp 72)), .mk none (some 74) (.mv (.tmp 73)), .mk (some (74, false)) (some 75) (.mv (.tmp 13)), .mk none (some 76) (.pick (.tmp 74) (.const (.bool true)) (.tmp 75)), .mk none (some 77) (.mv (.tmp 76)), .mk (some (77, false)) (some 78) (.fieldA 2 (.tmp 14)), .mk (some (77, false)) (some 79) (.load none (.tmp 78)), .mk (some (77, false)) (some 80) (.fieldA 2 (.tmp 4)), .mk (some (77, false)) (some 81) (.load none (.tmp 80)), .mk (some (77, false)) (some 82) (.bin .neq (.tmp 79) (.tmp 81)), .mk none (some 83) (.pick (.tmp 77) (.const (.bool true)) (.tmp 82)), .mk none (some 84) (.mv (.tmp 83)), .mk (some (84, false)) (some 85) (.fieldA 0 (.tmp 14)), .mk (some (84, false)) (some 86) (.load none (.tmp 85)), .mk (some (84, false)) (some 87) (.fieldA 0 (.tmp 4)), .mk (some (84, false)) (some 88) (.load none (.tmp 87)), .mk (some (84, false)) (some 89) (.bin .neq (.tmp 86) (.tmp 88)), .mk none (some 90) (.pick (.tmp 84) (.const (.bool true)) (.tmp 89)), .mk none (some 91) (.mv (.tmp 90)), .mk (some (91, false)) (some 92) (.load (some 3) (.tmp 14)), .mk (some (91, false)) (some 93) (.call 27 [.tmp 92, .const (.string ⟨#[111, 116, 104, 101, 114]⟩)]), .mk (some (91, false)) (some 94) (.load (some 3) (.tmp 14)), .mk (some (91, false)) (some 95) (.eqs true [.int, .str, .str] (.tmp 93) (.tmp 94)), .mk (some (91, false)) (some 96) (.mv (.tmp 95)), .mk (some (96, true)) (some 97) (.fieldA 1 (.tmp 14)), .mk (some (96, true)) (some 98) (.load none (.tmp 97)), .mk (some (96, true)) (some 99) (.bin .neq (.tmp 98) (.const (.string ⟨#[]⟩))), .mk (some (91, false)) (some 100) (.pick (.tmp 96) (.tmp 99) (.const (.bool false))), .mk none (some 101) (.pick (.tmp 91) (.const (.bool true)) (.tmp 100))] [0, 0, 2, 7, 15, 31, 63, 127, 255, 511, 255, 1279, 4095, 8191, 16383, 32767, 65535, 32767, 163839, 524287, 1048575, 2097151, 4194303, 8388607, 4194303, 33554431, 67108863, 134217727, 268435455, 536870911, 1073741823, 2147483647] (.take 0 (.take 1 (.take 2 (.take 3 (.take 4 (.take 5 (.take 6 (.take 7 (.take 8 (.take 9 (.take 10 (.take 11 (.take 12 (.take 13 (.take 14 (.take 15 (.take 16 (.take 17 (.take 18 (.take 19 (.take 20 (.take 21 (.take 22 (.take 24 (.alts (.cons 23 false (.take 25 (.take 26 (.take 27 (.take 28 (.take 29 (.take 30 (.take 31 .done))))))) .nil)))))))))))))))))))))))))) (some [4, 14, 101])) (.cond (.tmp 101) (.seq (.region [.mk none (some 6) (.mv (.const (.bool false)))] (some [6])) .ret) .skip)) (.seq (.region [.mk none (some 102) (.fieldA 1 (.tmp 4)), .mk none (some 103) (.load none (.tmp 102)), .mk none (some 104) (.bin .eql (.tmp 103) (.const (.string ⟨#[]⟩))), .mk none (some 105) (.mv (.tmp 104)), .mk (some (105, false)) (some 106) (.load (some 3) (.tmp 14)), .mk (some (105, false)) (some 107) (.load (some 3) (.tmp 4)), .mk (some (105, false)) (some 108) (.eqs false [.int, .str, .str] (.tmp 106) (.tmp 107)), .mk none (some 109) (.pick (.tmp 105) (.const (.bool true)) (.tmp 108)), .mk none (some 110) (.mv (.tmp 109)), .mk (some (110, true)) (some 111) (.call 19 []), .mk none (some 112) (.pick (.tmp 110) (.tmp 111) (.const (.bool false))), .mk none (some 6) (.mv (.tmp 112))] (some [6])) .ret))))))))))
theorem ok_z8ehi : compC Tryz.prog an_z8ehi (Tryz.f7.body.getD .skip) = some ac_z8ehi := by kernel_rfl
theorem dst_z8ehi : ac_z8ehi.dstOK Tryz.f7.ntmps (fun i => decide (i < Tryz.f7.ntmps)) = true := by kernel_rfl

def an_zaoe5 : Ann := ⟨[(0, [1, 2]), (1, [2])], [(1, ([0, 1, 3, 0, 8, 0, 32, 103, 0, 256, 999, 2047, 4095], .take 0 (.take 1 (.take 3 (.take 4 (.take 5 (.take 6 (.take 8 (.take 9 (.alts (.cons 2 false (.alts (.cons 7 false (.alts (.cons 10 false (.take 11 (.alts (.cons 12 true (.done) (.nil)))) (.nil))) (.nil))) (.nil))))))))))))], []⟩
def ac_zaoe5 : AC := (.seq (.region [.mk none (some 1) (.box 26 (.tmp 0)), .mk none (some 2) (.alloc 26 [.nils, .pd (.raw (.int .i64 0)), .pd (.raw (.string ⟨#[]⟩)), .pd (.raw (.int .i64 0)), .pd (.raw (.string ⟨#[]⟩)), .pd (.raw (.string ⟨#[]⟩))])] (some [1, 2])) (.seq (.draw [.mk none (some 3) (.fieldA 0 (.tmp 1)), .mk none (some 4) (.load none (.tmp 3)), .mk none (some 5) (.call 16 [.tmp 4]), .mk none (some 6) (.fieldA 1 (.tmp 1)), .mk none (some 7) (.load none (.tmp 6)), .mk none (some 8) (.fieldA 2 (.tmp 1)), .mk none (some 9) (.load none (.tmp 8)), .mk none (some 10) (.call 22 [.tmp 9]), .mk none (some 11) (.fieldA 3 (.tmp 1)), .mk none (some 12) (.load (some 3) (.tmp 11)), .mk none (some 13) (.call 21 [.tmp 12]), .mk none (some 14) (.build [.nils, .pd (.raw (.int .i64 0)), .pd (.raw (.string ⟨#[]⟩)), .pd (.raw (.int .i64 0)), .pd (.raw (.string ⟨#[]⟩)), .pd (.raw (.string ⟨#[]⟩))] [(0, 1, .tmp 5), (1, 1, .tmp 7), (2, 1, .tmp 10), (3, 3, .tmp 13)]), .mk none none (.store 6 (.tmp 2) (.tmp 14))] [0, 1, 3, 0, 8, 0, 32, 103, 0, 256, 999, 2047, 4095] (.take 0 (.take 1 (.take 3 (.take 4 (.take 5 (.take 6 (.take 8 (.take 9 (.alts (.cons 2 false (.alts (.cons 7 false (.alts (.cons 10 false (.take 11 (.alts (.cons 12 true .done .nil))) .nil)) .nil)) .nil)))))))))) (some [2])) .ret))
theorem ok_zaoe5 : compC Tryz.prog an_zaoe5 (Tryz.f15.body.getD .skip) = some ac_zaoe5 := by kernel_rfl
theorem ret_zaoe5 (st : St) : resD Tryz.prog st Tryz.f15.results.toList = resA st [.cell 2 (some 6)] := resD_of (by kernel_rfl)
theorem dst_zaoe5 : ac_zaoe5.dstOK Tryz.f15.ntmps (fun i => decide (i < Tryz.f15.ntmps)) = true := by kernel_rfl

def an_zz6t : Ann := ⟨[(0, []), (1, [1]), (2, [0])], [], []⟩
def ac_zz6t : AC := (.seq (.region [.mk none (some 0) (.mv (.const (.bool false)))] (some [])) (.seq (.region [.mk none (some 2) (.build [.pd (.raw (.int .i64 0)), .pd (.raw (.string ⟨#[]⟩)), .pd (.raw (.string ⟨#[]⟩))] [(0, 1, .const (.int .i64 7)), (1, 1, .const (.string ⟨#[97, 112, 112]⟩)), (2, 1, .const (.string ⟨#[103]⟩))]), .mk none (some 3) (.build [.pd (.raw (.int .i64 0)), .pd (.raw (.string ⟨#[]⟩)), .pd (.raw (.string ⟨#[]⟩))] [(0, 1, .const (.int .i64 6)), (1, 1, .const (.string ⟨#[119, 101, 98]⟩))]), .mk none (some 4) (.bslice 45 3 [.tmp 3]), .mk none (some 5) (.build [.pd (.raw (.int .i64 0)), .pd (.raw (.string ⟨#[]⟩)), .pd (.raw (.string ⟨#[]⟩))] [(0, 1, .const (.int .i64 3)), (2, 1, .const (.string ⟨#[97, 112, 105]⟩))]), .mk none (some 6) (.bslice 45 3 [.tmp 5]), .mk none (some 7) (.build [.pd (.raw (.int .i64 0)), .pd (.raw (.string ⟨#[]⟩)), .pd (.raw (.string ⟨#[]⟩)), .pd (.raw (.bool false)), .nils, .nils, .pd (.raw (.string ⟨#[]⟩)), .nils, .nils, .nils, .nils, .nils, .nils] [(0, 3, .tmp 2), (11, 1, .tmp 4), (12, 1, .tmp 6)]), .mk none (some 8) (.bslice 39 13 [.tmp 7]), .mk none (some 1) (.mv (.tmp 8))] (some [1])) (.seq (.region [.mk none (some 9) (.mv (.tmp 1)), .mk none (some 10) (.call 54 [.const (.string ⟨#[97, 112, 112]⟩), .const (.string ⟨#[97, 112, 105]⟩)]), .mk none (some 11) (.call 17 [.tmp 9, .const (.int .i64 6), .const (.string ⟨#[119, 101, 98]⟩), .tmp 10]), .mk none (some 12) (.mv (.tmp 11)), .mk (some (12, true)) (some 13) (.mv (.tmp 1)), .mk (some (12, true)) (some 14) (.call 54 [.const (.string ⟨#[97, 112, 112]⟩), .const (.string ⟨#[100, 98]⟩)]), .mk (some (12, true)) (some 15) (.call 17 [.tmp 13, .const (.int .i64 6), .const (.string ⟨#[119, 101, 98]⟩), .tmp 14]), .mk (some (12, true)) (some 16) (.un .not (.tmp 15)), .mk none (some 17) (.pick (.tmp 12) (.tmp 16) (.const (.bool false))), .mk none (some 18) (.mv (.tmp 17)), .mk (some (18, true)) (some 19) (.mv (.tmp 1)), .mk (some (18, true)) (some 20) (.call 54 [.const (.string ⟨#[97, 112, 112]⟩), .const (.string ⟨#[97, 112, 105]⟩)]), .mk (some (18, true)) (some 21) (.call 17 [.tmp 19, .const (.int .i64 6), .const (.string ⟨#[111, 112, 115]⟩), .tmp 20]), .mk (some (18, true)) (some 22) (.un .not (.tmp 21)), .mk none (some 23) (.pick (.tmp 18) (.tmp 22) (.const (.bool false))), .mk none (some 0) (.mv (.tmp 23))] (some [0])) .ret)))
theorem ok_zz6t : compC Tryz.prog an_zz6t (Tryz.f19.body.getD .skip) = some ac_zz6t := by kernel_rfl
theorem dst_zz6t : ac_zz6t.dstOK Tryz.f19.ntmps (fun i => decide (i < Tryz.f19.ntmps)) = true := by kernel_rfl

def an_zkdi4 : Ann := ⟨[(0, [0, 1, 4]), (1, [4])], [], []⟩
def ac_zkdi4 : AC := (.seq (.region [.mk none (some 4) (.alloc 24 [.pd (.raw (.int .i64 0)), .pd (.raw (.string ⟨#[]⟩)), .pd (.raw (.string ⟨#[]⟩))])] (some [0, 1, 4])) (.seq (.region [.mk none (some 5) (.mv (.tmp 0)), .mk none (some 6) (.mv (.tmp 1)), .mk none (some 7) (.build [.pd (.raw (.int .i64 0)), .pd (.raw (.string ⟨#[]⟩)), .pd (.raw (.string ⟨#[]⟩))] [(0, 1, .const (.int .i64 3)), (1, 1, .tmp 5), (2, 1, .tmp 6)]), .mk none none (.store 3 (.tmp 4) (.tmp 7))] (some [4])) .ret))
theorem ok_zkdi4 : compC Tryz.prog an_zkdi4 (Tryz.f54.body.getD .skip) = some ac_zkdi4 := by kernel_rfl
theorem ret_zkdi4 (st : St) : resD Tryz.prog st Tryz.f54.results.toList = resA st [.cell 4 (some 3)] := resD_of (by kernel_rfl)
theorem dst_zkdi4 : ac_zkdi4.dstOK Tryz.f54.ntmps (fun i => decide (i < Tryz.f54.ntmps)) = true := by kernel_rfl

end Go.Proofs.YtjhomppadppfnaaGreatDoor

namespace Go.Proofs.YtjhomppadppfnaaGreatDoor
open Go Go.RowKit
set_option linter.unusedSimpArgs false
set_option linter.unusedVariables false
set_option maxRecDepth 100000

theorem beq_tt (b : Bool) : (b == b) = true := by cases b <;> rfl

structure AAsk where
  os : List AObj
  kind : Int
  space : ByteArray
  to : ARef

abbrev AAsk.pd (q : AAsk) : List PD := [.slice (rows AObj.pd q.os), pInt q.kind, pStr q.space, pInt q.to.kind, pStr q.to.space, pStr q.to.name]
abbrev AAsk.ds (q : AAsk) : List D := [.pd (.slice (rows AObj.pd q.os)), int q.kind, str q.space, int q.to.kind, str q.to.space, str q.to.name]
abbrev AAsk.d (q : AAsk) : D := .agg [.pd (.slice (rows AObj.pd q.os)), int q.kind, str q.space, int q.to.kind, str q.to.space, str q.to.name]

def cutAsk (q : AAsk) : AAsk := ⟨fewObjs q.os, q.kind, few q.space, fewRef q.to⟩

theorem law11_cut (q : AAsk) : Pure Tryz.prog 15 [q.d] (fun d => d = (cutAsk q).d) := by
  refine pure_of_run follows an_zaoe5 Tryz.func15 rfl ok_zaoe5 dst_zaoe5 (by simp [Tryz.ntmps15]) ?_
  rw [run_start]
  simp only [ac_zaoe5, go_sem, contS_seq, simprocAttr]
  repeat' (first | (refine (law11_Some q.os).callX (enters_of Tryz.func16 rfl rfl) _ rfl rfl ?_; rintro _ rfl; simp only [go_sem, contS_seq, simprocAttr]) | (refine (law1_Few q.space).callX (enters_of Tryz.func22 rfl rfl) _ rfl rfl ?_; rintro _ rfl; simp only [go_sem, contS_seq, simprocAttr]) | (refine (law9_FewRef q.to).callX (enters_of Tryz.func21 rfl rfl) _ rfl rfl ?_; rintro _ rfl; simp only [go_sem, contS_seq, simprocAttr]) | refine And.intro ?_ ?_)
  all_goals
    simp only [retK, fullK, iterK, resD, resA, AOp.ex, St.ev, Option.map_some, Option.bind_some, St.get, lk, reduceIte, Nat.reduceEqDiff, Option.getD_some, oneD, List.getElem?_cons_zero, List.getElem?_cons_succ, List.drop_zero, List.drop_succ_cons, List.take_succ_cons, List.take_zero, List.length_cons, List.length_nil, Nat.zero_add, Nat.reduceAdd, Nat.le_refl, Nat.reduceLeDiff, D.pub, D.pubs, ret_zaoe5]
    exact ⟨_, rfl, rfl, rfl⟩

theorem law11_service (a b : ByteArray) : Pure Tryz.prog 54 [str a, str b] (fun d => d = (ARef.mk 3 a b).d) := by
  refine pure_of_run follows an_zkdi4 Tryz.func54 rfl ok_zkdi4 dst_zkdi4 (by simp [Tryz.ntmps54]) ?_
  rw [run_start]
  simp only [ac_zkdi4, go_sem, contS_seq, simprocAttr]
  simp only [retK, fullK, iterK, resD, resA, AOp.ex, St.ev, Option.map_some, Option.bind_some, St.get, lk, reduceIte, Nat.reduceEqDiff, Option.getD_some, oneD, List.getElem?_cons_zero, List.getElem?_cons_succ, List.drop_zero, List.drop_succ_cons, List.take_succ_cons, List.take_zero, List.length_cons, List.length_nil, Nat.zero_add, Nat.reduceAdd, Nat.le_refl, Nat.reduceLeDiff, D.pub, D.pubs, ret_zkdi4]
  exact ⟨_, rfl, rfl, rfl⟩

def aGrant : AObj := ⟨⟨7, ⟨#[97, 112, 112]⟩, ⟨#[103]⟩⟩, false, [], [], ⟨#[]⟩, [], [], [], [], [⟨6, ⟨#[119, 101, 98]⟩, ⟨#[]⟩⟩], [⟨3, ⟨#[]⟩, ⟨#[97, 112, 105]⟩⟩]⟩

theorem aGrant_ok : aGrant.ok := by constructor <;> simp [aGrant]

theorem permits_grant (kind : Int) (space : ByteArray) (t : ARef) : Pure Tryz.prog 17 [.pd (.slice (rows AObj.pd [aGrant])), int kind, str space, t.d] (fun d => d = bln (permits [aGrant] kind space t)) :=
  grant_Permits' [aGrant] (by simp) (fun o h => by rw [List.mem_singleton.1 h]; exact aGrant_ok) kind space t

theorem awake11 : Pure Tryz.prog 19 [] (fun d => d = bln true) := by
  refine pure_of_run follows an_zz6t Tryz.func19 rfl ok_zz6t dst_zz6t (by simp [Tryz.ntmps19]) ?_
  rw [run_start]
  simp only [ac_zz6t, go_sem, contS_seq, simprocAttr]
  refine (law11_service ⟨#[97, 112, 112]⟩ ⟨#[97, 112, 105]⟩).callW (enters_of Tryz.func54 rfl rfl) _ rfl rfl ?_
  rintro _ rfl
  simp only [go_sem, contS_seq, simprocAttr]
  refine (permits_grant 6 ⟨#[119, 101, 98]⟩ ⟨3, ⟨#[97, 112, 112]⟩, ⟨#[97, 112, 105]⟩⟩).callW (enters_of Tryz.func17 rfl rfl) _ rfl rfl ?_
  rintro _ rfl
  rw [show permits [aGrant] 6 ⟨#[119, 101, 98]⟩ ⟨3, ⟨#[97, 112, 112]⟩, ⟨#[97, 112, 105]⟩⟩ = true by decide +kernel]
  simp only [go_sem, contS_seq, simprocAttr]
  refine (law11_service ⟨#[97, 112, 112]⟩ ⟨#[100, 98]⟩).callW (enters_of Tryz.func54 rfl rfl) _ rfl rfl ?_
  rintro _ rfl
  simp only [go_sem, contS_seq, simprocAttr]
  refine (permits_grant 6 ⟨#[119, 101, 98]⟩ ⟨3, ⟨#[97, 112, 112]⟩, ⟨#[100, 98]⟩⟩).callW (enters_of Tryz.func17 rfl rfl) _ rfl rfl ?_
  rintro _ rfl
  rw [show permits [aGrant] 6 ⟨#[119, 101, 98]⟩ ⟨3, ⟨#[97, 112, 112]⟩, ⟨#[100, 98]⟩⟩ = false by decide +kernel]
  simp only [go_sem, contS_seq, simprocAttr]
  refine (law11_service ⟨#[97, 112, 112]⟩ ⟨#[97, 112, 105]⟩).callW (enters_of Tryz.func54 rfl rfl) _ rfl rfl ?_
  rintro _ rfl
  simp only [go_sem, contS_seq, simprocAttr]
  refine (permits_grant 6 ⟨#[111, 112, 115]⟩ ⟨3, ⟨#[97, 112, 112]⟩, ⟨#[97, 112, 105]⟩⟩).callW (enters_of Tryz.func17 rfl rfl) _ rfl rfl ?_
  rintro _ rfl
  rw [show permits [aGrant] 6 ⟨#[111, 112, 115]⟩ ⟨3, ⟨#[97, 112, 112]⟩, ⟨#[97, 112, 105]⟩⟩ = false by decide +kernel]
  simp only [go_sem, contS_seq, simprocAttr]
  simp only [retK, fullK, iterK, resD, resA, AOp.ex, St.ev, Option.map_some, Option.bind_some, St.get, lk, reduceIte, Nat.reduceEqDiff, Option.getD_some, oneD, List.getElem?_cons_zero, List.getElem?_cons_succ, List.drop_zero, List.drop_succ_cons, List.take_succ_cons, List.take_zero, List.length_cons, List.length_nil, Nat.zero_add, Nat.reduceAdd, Nat.le_refl, Nat.reduceLeDiff, D.pub, D.pubs, Tryz.results19]
  exact ⟨_, rfl, rfl, rfl⟩

end Go.Proofs.YtjhomppadppfnaaGreatDoor

namespace Go.Proofs.YtjhomppadppfnaaGreatDoor
open Go Go.RowKit Go.ChangeShapes Go.WideShapes Go.ChangeAt Go.WideMaps Go.WideElems
set_option linter.unusedSimpArgs false
set_option linter.unusedVariables false
set_option maxRecDepth 100000

abbrev refShs : List Sh := [.int .i64, .str, .str]

theorem ref_row {r : List PD} (h : HasShs refShs r) : ∃ a, r = ARef.pd a := by
  cases h with
  | cons _ d1 _ _ a1 h1 =>
  cases h1 with
  | cons _ d2 _ _ a2 h2 =>
  cases h2 with
  | cons _ d3 _ _ a3 h3 =>
  cases h3
  cases a1 with
  | int _ x1 _ =>
  cases a2 with
  | str x2 _ =>
  cases a3 with
  | str x3 _ =>
  exact ⟨⟨x1, x2, x3⟩, rfl⟩

abbrev askShs : List Sh := [.slice objShs, .int .i64, .str, .int .i64, .str, .str]

theorem ask_row {r : List PD} (h : HasShs askShs r) : ∃ a, r = AAsk.pd a := by
  cases h with
  | cons _ d1 _ _ a1 h1 =>
  cases h1 with
  | cons _ d2 _ _ a2 h2 =>
  cases h2 with
  | cons _ d3 _ _ a3 h3 =>
  cases h3 with
  | cons _ d4 _ _ a4 h4 =>
  cases h4 with
  | cons _ d5 _ _ a5 h5 =>
  cases h5 with
  | cons _ d6 _ _ a6 h6 =>
  cases h6
  cases a1 with
  | slice _ els1 _ k1 =>
  obtain ⟨x1, rfl⟩ := rows_of obj_row k1
  cases a2 with
  | int _ x2 _ =>
  cases a3 with
  | str x3 _ =>
  cases a4 with
  | int _ x4 _ =>
  cases a5 with
  | str x5 _ =>
  cases a6 with
  | str x6 _ =>
  exact ⟨⟨x1, x2, x3, ⟨x4, x5, x6⟩⟩, rfl⟩

section
variable {H : Type} {enc : TypeId × Value → H} {P : Program} {W : World} {base : Nat} {spare : Nat → Bool} {held : Bool}

theorem arg_ref {t : TypeId} {fs : Array Field} {v : Value} {d : DataW H} {ps : List MemPlace} {n : Nat} (hu : P.underlying t = some (.struct fs)) (hv : Value.okWide P W .any base t v) (h : DataW.Trod enc P W 0 spare held t v d ps)
    (hs : shp P n t = some refShs) : ∃ o : ARef, Rep (gh0 (allFz W)) W o.d v := by
  obtain ⟨ds, h1, h2⟩ := arg_struct hu hv h hs
  obtain ⟨o, rfl⟩ := ref_row h2
  exact ⟨o, h1⟩

theorem arg_ask {t : TypeId} {fs : Array Field} {v : Value} {d : DataW H} {ps : List MemPlace} {n : Nat} (hu : P.underlying t = some (.struct fs)) (hv : Value.okWide P W .any base t v) (h : DataW.Trod enc P W 0 spare held t v d ps)
    (hs : shp P n t = some askShs) : ∃ o : AAsk, Rep (gh0 (allFz W)) W o.d v := by
  obtain ⟨ds, h1, h2⟩ := arg_struct hu hv h hs
  obtain ⟨o, rfl⟩ := ask_row h2
  exact ⟨o, h1⟩
end

end Go.Proofs.YtjhomppadppfnaaGreatDoor

namespace Go.Proofs.YtjhomppadppfnaaGreatDoor
open Go

def an_z712c : Ann := ⟨[(0, [0, 3, 4]), (1, [0, 3, 4, 6]), (2, [0, 3, 4, 6, 10]), (3, [0, 3, 4, 6]), (4, [0, 3, 4, 6, 19]), (5, [4, 5]), (6, [4, 5])], [(4, ([0, 0, 3, 7, 15, 0, 63], .take 0 (.take 1 (.take 2 (.take 3 (.take 4 (.take 5 (.take 6 (.done)))))))))], []⟩
def ac_z712c : AC := (.seq (.region [.mk none (some 3) (.box 24 (.tmp 1)), .mk none (some 4) (.alloc 39 [.pd (.raw (.int .i64 0)), .pd (.raw (.string ⟨#[]⟩)), .pd (.raw (.string ⟨#[]⟩)), .pd (.raw (.bool false)), .nils, .nils, .pd (.raw (.string ⟨#[]⟩)), .nils, .nils, .nils, .nils, .nils, .nils]), .mk none (some 5) (.mv (.const (.bool false)))] (some [0, 3, 4])) (.seq (.seq (.region [.mk none (some 6) (.mv (.const (.int .i64 0)))] (some [0, 3, 4, 6])) (.block 0 (.loop (.seq (.seq (.region [.mk none (some 7) (.mv (.tmp 6)), .mk none (some 8) (.mv (.tmp 0)), .mk none (some 9) (.len (.tmp 8) false), .mk none (some 10) (.bin .lss (.tmp 7) (.tmp 9))] (some [0, 3, 4, 6, 10])) (.cond (.tmp 10) .skip (.exit 0))) (.seq (.block 1 (.seq (.draw [.mk none (some 13) (.mv (.tmp 0)), .mk none (some 14) (.mv (.tmp 6)), .mk none (some 15) (.idxA 13 (.tmp 13) (.tmp 14)), .mk none (some 16) (.fieldA 0 (.tmp 15)), .mk none (some 17) (.load (some 3) (.tmp 16)), .mk none (some 18) (.load (some 3) (.tmp 3)), .mk none (some 19) (.eqs false [.int, .str, .str] (.tmp 17) (.tmp 18))] [0, 0, 3, 7, 15, 0, 63] (.take 0 (.take 1 (.take 2 (.take 3 (.take 4 (.take 5 (.take 6 .done))))))) (some [0, 3, 4, 6, 19])) (.cond (.tmp 19) (.seq (.region [.mk none (some 20) (.mv (.tmp 0)), .mk none (some 21) (.mv (.tmp 6)), .mk none (some 22) (.idxA 13 (.tmp 20) (.tmp 21)), .mk none (some 23) (.load (some 13) (.tmp 22)), .mk none none (.store 13 (.tmp 4) (.tmp 23)), .mk none (some 5) (.mv (.const (.bool true)))] (some [4, 5])) .ret) .skip))) (.region [.mk none (some 11) (.mv (.tmp 6)), .mk none (some 12) (.bin .add (.tmp 11) (.const (.int .i64 1))), .mk none (some 6) (.mv (.tmp 12))] (some [0, 3, 4, 6]))))))) (.seq (.region [.mk none (some 24) (.build [.pd (.raw (.int .i64 0)), .pd (.raw (.string ⟨#[]⟩)), .pd (.raw (.string ⟨#[]⟩)), .pd (.raw (.bool false)), .nils, .nils, .pd (.raw (.string ⟨#[]⟩)), .nils, .nils, .nils, .nils, .nils, .nils] []), .mk none none (.store 13 (.tmp 4) (.tmp 24)), .mk none (some 5) (.mv (.const (.bool false)))] (some [4, 5])) .ret)))
theorem ok_z712c : compC Tryz.prog an_z712c (Tryz.f28.body.getD .skip) = some ac_z712c := by kernel_rfl
theorem ret_z712c (st : St) : resD Tryz.prog st Tryz.f28.results.toList = resA st [.cell 4 (some 13), .tmp 5] := resD_of (by kernel_rfl)
theorem dst_z712c : ac_z712c.dstOK Tryz.f28.ntmps (fun i => decide (i < Tryz.f28.ntmps)) = true := by kernel_rfl

end Go.Proofs.YtjhomppadppfnaaGreatDoor

namespace Go.Proofs.YtjhomppadppfnaaGreatDoor
open Go Go.RowKit
set_option linter.unusedSimpArgs false
set_option linter.unusedVariables false
set_option maxRecDepth 100000

theorem ref11_Find (os : List AObj) (hos : os.length ≤ 1000000) (r : ARef) : Pure Tryz.prog 28 [.pd (.slice (rows AObj.pd os)), r.d] (fun d => d = foundD (found os r)) := by
  refine pure_of_run follows an_z712c Tryz.func28 rfl ok_z712c dst_z712c (by simp [Tryz.ntmps28]) ?_
  rw [run_start]
  simp only [ac_z712c, go_sem, contS_seq, simprocAttr]
  refine loopS (fun k st => ∃ i : Nat, k = os.length - i ∧ i ≤ os.length ∧ (os.drop i).find? (isRef r) = found os r ∧
    st = ⟨[(0, .pd (.slice (rows AObj.pd os))), (3, .ptr 3 0), (4, .ptr 4 0), (6, int i)], [(3, [int r.kind, str r.space, str r.name]), (4, [int 0, str ⟨#[]⟩, str ⟨#[]⟩, bln false, .nils, .nils, str ⟨#[]⟩, .nils, .nils, .nils, .nils, .nils, .nils])], [], .no⟩) os.length _ ?_ ⟨0, rfl, by omega, rfl, rfl⟩ ?_
  · exact Weak.less (by simp [lessL, lk]) (by simp [lessL, lk]) (by simp [lessL, lk]) rfl
  rintro k st ⟨i, rfl, hi, hf, rfl⟩
  by_cases hlt : i < os.length
  · obtain ⟨x, hx⟩ := at_lt hlt
    have h1 : ((i : Int) < (os.length : Int)) = True := eq_true (by omega)
    have hw := i64_succ (show i < 1000000000 by omega)
    rw [drop_at hx, List.find?_cons] at hf
    simp only [go_sem, contS_seq, simprocAttr, rows_len, rows_get hx, h1, hw, eqVs, eqV, eq_Ref]
    refine GifP.mk (fun h => ?_) (fun h => ?_)
    · rw [show isRef r x = true by simp [isRef, h]] at hf
      simp only [retK, fullK, iterK, resD, resA, AOp.ex, St.ev, Option.map_some, Option.bind_some, St.get, lk, reduceIte, Nat.reduceEqDiff, Option.getD_some, oneD, List.getElem?_cons_zero, List.getElem?_cons_succ, List.drop_zero, List.drop_succ_cons, List.take_succ_cons, List.take_zero, List.length_cons, List.length_nil, Nat.zero_add, Nat.reduceAdd, Nat.le_refl, Nat.reduceLeDiff, D.pub, D.pubs, ret_z712c]
      refine ⟨_, rfl, rfl, ?_⟩
      rw [← hf]; rfl
    · rw [show isRef r x = false by simp [isRef, h]] at hf
      refine ⟨os.length - (i + 1), _, by omega, ?_, i + 1, rfl, by omega, hf, rfl⟩
      exact Weak.less (by simp [lessL, lk]) (by simp [lessL, lk]) (by simp [lessL, lk]) rfl
  · have h1 : ((i : Int) < (os.length : Int)) = False := eq_false (by omega)
    rw [List.drop_eq_nil_of_le (by omega), List.find?_nil] at hf
    simp only [go_sem, contS_seq, simprocAttr, rows_len, h1]
    simp only [retK, fullK, iterK, resD, resA, AOp.ex, St.ev, Option.map_some, Option.bind_some, St.get, lk, reduceIte, Nat.reduceEqDiff, Option.getD_some, oneD, List.getElem?_cons_zero, List.getElem?_cons_succ, List.drop_zero, List.drop_succ_cons, List.take_succ_cons, List.take_zero, List.length_cons, List.length_nil, Nat.zero_add, Nat.reduceAdd, Nat.le_refl, Nat.reduceLeDiff, D.pub, D.pubs, ret_z712c]
    refine ⟨_, rfl, rfl, ?_⟩
    rw [← hf]; rfl

def letF (os : List AObj) (gs rs : ByteArray) : Bool := os.any fun o => o.from_.any fun s => decide (o.ref.kind = 7) && (decide (o.ref.space = gs) && (decide (s.kind = 6) && decide (s.space = rs)))

theorem wrong_none {os : List AObj} {q : AObj} {b : ABackend} (h : wrong os q b = ⟨#[]⟩) : (near b.ref q.ref.space).kind = 3 ∧ (∃ s, found os (near b.ref q.ref.space) = some s ∧ hasInt s.ports b.port = true) ∧
    (decide ((near b.ref q.ref.space).space = q.ref.space) || letF os (near b.ref q.ref.space).space q.ref.space) = true := by
  unfold wrong wrongAt at h
  generalize near b.ref q.ref.space = t at h ⊢
  by_cases h1 : t.kind = 3
  · rw [if_neg (by simpa using h1)] at h
    by_cases h2 : permits os 6 q.ref.space t = false
    · rw [if_pos h2] at h
      exact absurd h (by decide +kernel)
    · rw [if_neg h2] at h
      by_cases h3 : thereIs os t b.port = false
      · rw [if_pos h3] at h
        exact absurd h (by decide +kernel)
      · refine ⟨h1, ?_, ?_⟩
        · unfold thereIs at h3
          cases hf : found os t with
          | none => rw [hf] at h3; exact absurd rfl h3
          | some s =>
            rw [hf] at h3
            simp only [Bool.not_eq_false, Bool.and_eq_true] at h3
            exact ⟨s, rfl, h3.2⟩
        · simp only [Bool.not_eq_false, permits, Bool.or_eq_true, decide_eq_true_eq, List.any_eq_true] at h2
          rcases h2 with ⟨o, ho, hl⟩ | h2
          · simp only [lets, Bool.and_eq_true, decide_eq_true_eq, List.any_eq_true] at hl
            obtain ⟨⟨⟨⟨k1, k2⟩, _⟩, ⟨s, hs, k3⟩⟩, _⟩ := hl
            simp only [sideIs, Bool.and_eq_true, decide_eq_true_eq] at k3
            simp only [Bool.or_eq_true, letF, List.any_eq_true, Bool.and_eq_true, decide_eq_true_eq]
            exact .inr ⟨o, ho, s, hs, k1, k2, k3.1, k3.2⟩
          · simp [h2]
  · rw [if_pos (by simpa using h1)] at h
    exact absurd h (by decide +kernel)

theorem goal_ok {os : List AObj} {q : AObj} {i : Int} {g : AGoal} (hg : g ∈ goals os q i) (hb : g.bad = false) : g.ref.kind = 3 ∧ (∃ s, found os g.ref = some s ∧ hasInt s.ports g.port = true) ∧ (decide (g.ref.space = q.ref.space) || letF os g.ref.space q.ref.space) = true := by
  unfold goals at hg
  split at hg
  · split at hg
    · obtain ⟨b, _, rfl⟩ := List.mem_map.1 hg
      exact wrong_none (by simpa [goalOf] using hb)
    · cases hg
  · cases hg

theorem any_step {α : Type} {f : α → Bool} {l : List α} {i : Nat} {x : α} (h : l[i]? = some x) : (l.take (i + 1)).any f = ((l.take i).any f || f x) := by
  rw [take_at h, List.any_append]; simp

def sideOK (o : AObj) (gs rs : ByteArray) (s : ASide) : Bool := decide (o.ref.kind = 7) && (decide (o.ref.space = gs) && (decide (s.kind = 6) && decide (s.space = rs)))

theorem goals_len (os : List AObj) (q : AObj) (hq : q.ok) (i : Int) : (goals os q i).length ≤ 1000000 := by
  unfold goals
  split
  · split
    · rename_i x hx; simpa using (hq.rus x (List.mem_of_getElem? hx)).bl
    · simp
  · simp

abbrev AGoal.ds (g : AGoal) : List D := [int g.ref.kind, str g.ref.space, str g.ref.name, int g.port, int g.weight, bln g.bad]

end Go.Proofs.YtjhomppadppfnaaGreatDoor

namespace Go.Proofs.YtjhomppadppfnaaGreatDoor
open Go

def an_zwcd : Ann := ⟨[(0, [2, 3]), (1, [2, 3, 47]), (2, [4]), (3, [2, 3, 99]), (4, [4]), (5, [2, 3, 5]), (6, [2, 3, 5, 104]), (7, [2, 3, 5]), (8, [2, 3, 5, 117]), (9, [4]), (10, [2, 3, 6]), (11, [2, 3, 6, 122]), (12, [2, 3, 6]), (13, [2, 3, 6, 7, 8]), (14, [2, 3, 6, 182]), (15, [4]), (16, [2, 3, 9]), (17, [2, 3, 9, 187]), (18, [2, 3, 9]), (19, [2, 3, 9, 200]), (20, [4]), (21, [2, 3, 10]), (22, [2, 3, 10, 205]), (23, [2, 3, 10]), (24, [2, 3, 10, 218]), (25, [4]), (26, [2, 3, 11]), (27, [2, 3, 11, 223]), (28, [2, 3, 11]), (29, [2, 3, 11, 236]), (30, [4]), (31, [2, 3, 12]), (32, [2, 3, 12, 241]), (33, [2, 3, 12]), (34, [2, 3, 12, 255]), (35, [4]), (36, [4])], [(8, ([0, 1, 0, 7, 15, 0, 32, 0, 224, 480, 1023], .take 0 (.take 1 (.take 2 (.take 3 (.take 4 (.take 5 (.take 6 (.take 7 (.take 8 (.take 9 (.take 10 (.done))))))))))))), (13, ([0, 1, 0, 7, 15, 0, 32, 0, 224, 480, 0, 0, 3103, 8191], .take 0 (.take 1 (.take 2 (.take 3 (.take 4 (.take 5 (.take 6 (.take 7 (.take 8 (.take 9 (.alts (.cons 10 false (.alts (.cons 11 false (.alts (.cons 12 false (.alts (.cons 13 true (.done) (.nil))) (.nil))) (.nil))) (.cons 11 false (.alts (.cons 10 false (.alts (.cons 12 false (.alts (.cons 13 true (.done) (.nil))) (.nil))) (.nil))) (.nil))))))))))))))), (19, ([0, 1, 0, 7, 15, 0, 32, 0, 224, 480, 1023], .take 0 (.take 1 (.take 2 (.take 3 (.take 4 (.take 5 (.take 6 (.take 7 (.take 8 (.take 9 (.take 10 (.done))))))))))))), (24, ([0, 1, 0, 7, 15, 0, 32, 0, 224, 480, 1023], .take 0 (.take 1 (.take 2 (.take 3 (.take 4 (.take 5 (.take 6 (.take 7 (.take 8 (.take 9 (.take 10 (.done))))))))))))), (29, ([0, 1, 0, 7, 15, 0, 32, 0, 224, 480, 1023], .take 0 (.take 1 (.take 2 (.take 3 (.take 4 (.take 5 (.take 6 (.take 7 (.take 8 (.take 9 (.take 10 (.done))))))))))))), (34, ([0, 1, 0, 7, 15, 0, 32, 0, 224, 480, 1023, 2047], .take 0 (.take 1 (.take 2 (.take 3 (.take 4 (.take 5 (.take 6 (.take 7 (.take 8 (.take 9 (.alts (.cons 10 true (.take 11 (.done)) (.nil))))))))))))))], []⟩
def ac_zwcd : AC := (.seq (.region [.mk none (some 2) (.box 39 (.tmp 0)), .mk none (some 3) (.box 39 (.tmp 1)), .mk none (some 4) (.mv (.const (.bool false)))] (some [2, 3])) (.seq (.seq (.region [.mk none (some 13) (.fieldA 0 (.tmp 2)), .mk none (some 14) (.load (some 3) (.tmp 13)), .mk none (some 15) (.fieldA 0 (.tmp 3)), .mk none (some 16) (.load (some 3) (.tmp 15)), .mk none (some 17) (.eqs true [.int, .str, .str] (.tmp 14) (.tmp 16)), .mk none (some 18) (.mv (.tmp 17)), .mk (some (18, false)) (some 19) (.fieldA 3 (.tmp 2)), .mk (some (18, false)) (some 20) (.load none (.tmp 19)), .mk (some (18, false)) (some 21) (.fieldA 3 (.tmp 3)), .mk (some (18, false)) (some 22) (.load none (.tmp 21)), .mk (some (18, false)) (some 23) (.binB true (.tmp 20) (.tmp 22)), .mk none (some 24) (.pick (.tmp 18) (.const (.bool true)) (.tmp 23)), .mk none (some 25) (.mv (.tmp 24)), .mk (some (25, false)) (some 26) (.fieldA 6 (.tmp 2)), .mk (some (25, false)) (some 27) (.load none (.tmp 26)), .mk (some (25, false)) (some 28) (.fieldA 6 (.tmp 3)), .mk (some (25, false)) (some 29) (.load none (.tmp 28)), .mk (some (25, false)) (some 30) (.bin .neq (.tmp 27) (.tmp 29)), .mk none (some 31) (.pick (.tmp 25) (.const (.bool true)) (.tmp 30)), .mk none (some 32) (.mv (.tmp 31)), .mk (some (32, false)) (some 33) (.fieldA 4 (.tmp 2)), .mk (some (32, false)) (some 34) (.load none (.tmp 33)), .mk (some (32, false)) (some 35) (.fieldA 4 (.tmp 3)), .mk (some (32, false)) (some 36) (.load none (.tmp 35)), .mk (some (32, false)) (some 37) (.call 69 [.tmp 34, .tmp 36]), .mk (some (32, false)) (some 38) (.un .not (.tmp 37)), .mk none (some 39) (.pick (.tmp 32) (.const (.bool true)) (.tmp 38)), .mk none (some 40) (.mv (.tmp 39)), .mk (some (40, false)) (some 41) (.fieldA 9 (.tmp 2)), .mk (some (40, false)) (some 42) (.load none (.tmp 41)), .mk (some (40, false)) (some 43) (.fieldA 9 (.tmp 3)), .mk (some (40, false)) (some 44) (.load none (.tmp 43)), .mk (some (40, false)) (some 45) (.call 70 [.tmp 42, .tmp 44]), .mk (some (40, false)) (some 46) (.un .not (.tmp 45)), .mk none (some 47) (.pick (.tmp 40) (.const (.bool true)) (.tmp 46))] (some [2, 3, 47])) (.cond (.tmp 47) (.seq (.region [.mk none (some 4) (.mv (.const (.bool false)))] (some [4])) .ret) .skip)) (.seq (.seq (.region [.mk none (some 48) (.fieldA 5 (.tmp 2)), .mk none (some 49) (.load none (.tmp 48)), .mk none (some 50) (.len (.tmp 49) false), .mk none (some 51) (.fieldA 5 (.tmp 3)), .mk none (some 52) (.load none (.tmp 51)), .mk none (some 53) (.len (.tmp 52) false), .mk none (some 54) (.bin .neq (.tmp 50) (.tmp 53)), .mk none (some 55) (.mv (.tmp 54)), .mk (some (55, false)) (some 56) (.fieldA 7 (.tmp 2)), .mk (some (55, false)) (some 57) (.load none (.tmp 56)), .mk (some (55, false)) (some 58) (.len (.tmp 57) false), .mk (some (55, false)) (some 59) (.fieldA 7 (.tmp 3)), .mk (some (55, false)) (some 60) (.load none (.tmp 59)), .mk (some (55, false)) (some 61) (.len (.tmp 60) false), .mk (some (55, false)) (some 62) (.bin .neq (.tmp 58) (.tmp 61)), .mk none (some 63) (.pick (.tmp 55) (.const (.bool true)) (.tmp 62)), .mk none (some 64) (.mv (.tmp 63)), .mk (some (64, false)) (some 65) (.fieldA 8 (.tmp 2)), .mk (some (64, false)) (some 66) (.load none (.tmp 65)), .mk (some (64, false)) (some 67) (.len (.tmp 66) false), .mk (some (64, false)) (some 68) (.fieldA 8 (.tmp 3)), .mk (some (64, false)) (some 69) (.load none (.tmp 68)), .mk (some (64, false)) (some 70) (.len (.tmp 69) false), .mk (some (64, false)) (some 71) (.bin .neq (.tmp 67) (.tmp 70)), .mk none (some 72) (.pick (.tmp 64) (.const (.bool true)) (.tmp 71)), .mk none (some 73) (.mv (.tmp 72)), .mk (some (73, false)) (some 74) (.fieldA 10 (.tmp 2)), .mk (some (73, false)) (some 75) (.load none (.tmp 74)), .mk (some (73, false)) (some 76) (.len (.tmp 75) false), .mk (some (73, false)) (some 77) (.fieldA 10 (.tmp 3)), .mk (some (73, false)) (some 78) (.load none (.tmp 77)), .mk (some (73, false)) (some 79) (.len (.tmp 78) false), .mk (some (73, false)) (some 80) (.bin .neq (.tmp 76) (.tmp 79)), .mk none (some 81) (.pick (.tmp 73) (.const (.bool true)) (.tmp 80)), .mk none (some 82) (.mv (.tmp 81)), .mk (some (82, false)) (some 83) (.fieldA 11 (.tmp 2)), .mk (some (82, false)) (some 84) (.load none (.tmp 83)), .mk (some (82, false)) (some 85) (.len (.tmp 84) false), .mk (some (82, false)) (some 86) (.fieldA 11 (.tmp 3)), .mk (some (82, false)) (some 87) (.load none (.tmp 86)), .mk (some (82, false)) (some 88) (.len (.tmp 87) false), .mk (some (82, false)) (some 89) (.bin .neq (.tmp 85) (.tmp 88)), .mk none (some 90) (.pick (.tmp 82) (.const (.bool true)) (.tmp 89)), .mk none (some 91) (.mv (.tmp 90)), .mk (some (91, false)) (some 92) (.fieldA 12 (.tmp 2)), .mk (some (91, false)) (some 93) (.load none (.tmp 92)), .mk (some (91, false)) (some 94) (.len (.tmp 93) false), .mk (some (91, false)) (some 95) (.fieldA 12 (.tmp 3)), .mk (some (91, false)) (some 96) (.load none (.tmp 95)), .mk (some (91, false)) (some 97) (.len (.tmp 96) false), .mk (some (91, false)) (some 98) (.bin .neq (.tmp 94) (.tmp 97)), .mk none (some 99) (.pick (.tmp 91) (.const (.bool true)) (.tmp 98))] (some [2, 3, 99])) (.cond (.tmp 99) (.seq (.region [.mk none (some 4) (.mv (.const (.bool false)))] (some [4])) .ret) .skip)) (.seq (.seq (.region [.mk none (some 5) (.mv (.const (.int .i64 0)))] (some [2, 3, 5])) (.block 0 (.loop (.seq (.seq (.region [.mk none (some 100) (.mv (.tmp 5)), .mk none (some 101) (.fieldA 5 (.tmp 2)), .mk none (some 102) (.load none (.tmp 101)), .mk none (some 103) (.len (.tmp 102) false), .mk none (some 104) (.bin .lss (.tmp 100) (.tmp 103))] (some [2, 3, 5, 104])) (.cond (.tmp 104) .skip (.exit 0))) (.seq (.block 1 (.seq (.draw [.mk none (some 107) (.fieldA 5 (.tmp 2)), .mk none (some 108) (.load none (.tmp 107)), .mk none (some 109) (.mv (.tmp 5)), .mk none (some 110) (.idxA 1 (.tmp 108) (.tmp 109)), .mk none (some 111) (.load none (.tmp 110)), .mk none (some 112) (.fieldA 5 (.tmp 3)), .mk none (some 113) (.load none (.tmp 112)), .mk none (some 114) (.mv (.tmp 5)), .mk none (some 115) (.idxA 1 (.tmp 113) (.tmp 114)), .mk none (some 116) (.load none (.tmp 115)), .mk none (some 117) (.bin .neq (.tmp 111) (.tmp 116))] [0, 1, 0, 7, 15, 0, 32, 0, 224, 480, 1023] (.take 0 (.take 1 (.take 2 (.take 3 (.take 4 (.take 5 (.take 6 (.take 7 (.take 8 (.take 9 (.take 10 .done))))))))))) (some [2, 3, 5, 117])) (.cond (.tmp 117) (.seq (.region [.mk none (some 4) (.mv (.const (.bool false)))] (some [4])) .ret) .skip))) (.region [.mk none (some 105) (.mv (.tmp 5)), .mk none (some 106) (.bin .add (.tmp 105) (.const (.int .i64 1))), .mk none (some 5) (.mv (.tmp 106))] (some [2, 3, 5]))))))) (.seq (.seq (.region [.mk none (some 6) (.mv (.const (.int .i64 0)))] (some [2, 3, 6])) (.block 2 (.loop (.seq (.seq (.region [.mk none (some 118) (.mv (.tmp 6)), .mk none (some 119) (.fieldA 7 (.tmp 2)), .mk none (some 120) (.load none (.tmp 119)), .mk none (some 121) (.len (.tmp 120) false), .mk none (some 122) (.bin .lss (.tmp 118) (.tmp 121))] (some [2, 3, 6, 122])) (.cond (.tmp 122) .skip (.exit 2))) (.seq (.block 3 (.seq (.draw [.mk none (some 125) (.fieldA 7 (.tmp 2)), .mk none (some 126) (.load none (.tmp 125)), .mk none (some 127) (.mv (.tmp 6)), .mk none (some 128) (.idxA 9 (.tmp 126) (.tmp 127)), .mk none (some 129) (.load (some 9) (.tmp 128)), .mk none (some 130) (.fieldA 7 (.tmp 3)), .mk none (some 131) (.load none (.tmp 130)), .mk none (some 132) (.mv (.tmp 6)), .mk none (some 133) (.idxA 9 (.tmp 131) (.tmp 132)), .mk none (some 134) (.load (some 9) (.tmp 133)), .mk none (some 7) (.alloc 82 [.pd (.raw (.string ⟨#[]⟩)), .pd (.raw (.int .i64 0)), .pd (.raw (.bool false)), .pd (.raw (.string ⟨#[]⟩)), .pd (.raw (.int .i64 0)), .pd (.raw (.string ⟨#[]⟩)), .pd (.raw (.string ⟨#[]⟩)), .pd (.raw (.int .i64 0)), .nils]), .mk none (some 8) (.alloc 82 [.pd (.raw (.string ⟨#[]⟩)), .pd (.raw (.int .i64 0)), .pd (.raw (.bool false)), .pd (.raw (.string ⟨#[]⟩)), .pd (.raw (.int .i64 0)), .pd (.raw (.string ⟨#[]⟩)), .pd (.raw (.string ⟨#[]⟩)), .pd (.raw (.int .i64 0)), .nils]), .mk none none (.store 9 (.tmp 7) (.tmp 129)), .mk none none (.store 9 (.tmp 8) (.tmp 134))] [0, 1, 0, 7, 15, 0, 32, 0, 224, 480, 0, 0, 3103, 8191] (.take 0 (.take 1 (.take 2 (.take 3 (.take 4 (.take 5 (.take 6 (.take 7 (.take 8 (.take 9 (.alts (.cons 10 false (.alts (.cons 11 false (.alts (.cons 12 false (.alts (.cons 13 true .done .nil)) .nil)) .nil)) (.cons 11 false (.alts (.cons 10 false (.alts (.cons 12 false (.alts (.cons 13 true .done .nil)) .nil)) .nil)) .nil))))))))))))) (some [2, 3, 6, 7, 8])) (.seq (.region [.mk none (some 135) (.fieldA 0 (.tmp 7)), .mk none (some 136) (.load none (.tmp 135)), .mk none (some 137) (.fieldA 0 (.tmp 8)), .mk none (some 138) (.load none (.tmp 137)), .mk none (some 139) (.bin .neq (.tmp 136) (.tmp 138)), .mk none (some 140) (.mv (.tmp 139)), .mk (some (140, false)) (some 141) (.fieldA 1 (.tmp 7)), .mk (some (140, false)) (some 142) (.load none (.tmp 141)), .mk (some (140, false)) (some 143) (.fieldA 1 (.tmp 8)), .mk (some (140, false)) (some 144) (.load none (.tmp 143)), .mk (some (140, false)) (some 145) (.bin .neq (.tmp 142) (.tmp 144)), .mk none (some 146) (.pick (.tmp 140) (.const (.bool true)) (.tmp 145)), .mk none (some 147) (.mv (.tmp 146)), .mk (some (147, false)) (some 148) (.fieldA 2 (.tmp 7)), .mk (some (147, false)) (some 149) (.load none (.tmp 148)), .mk (some (147, false)) (some 150) (.fieldA 2 (.tmp 8)), .mk (some (147, false)) (some 151) (.load none (.tmp 150)), .mk (some (147, false)) (some 152) (.binB true (.tmp 149) (.tmp 151)), .mk none (some 153) (.pick (.tmp 147) (.const (.bool true)) (.tmp 152)), .mk none (some 154) (.mv (.tmp 153)), .mk (some (154, false)) (some 155) (.fieldA 3 (.tmp 7)), .mk (some (154, false)) (some 156) (.load none (.tmp 155)), .mk (some (154, false)) (some 157) (.fieldA 3 (.tmp 8)), .mk (some (154, false)) (some 158) (.load none (.tmp 157)), .mk (some (154, false)) (some 159) (.bin .neq (.tmp 156) (.tmp 158)), .mk none (some 160) (.pick (.tmp 154) (.const (.bool true)) (.tmp 159)), .mk none (some 161) (.mv (.tmp 160)), .mk (some (161, false)) (some 162) (.fieldA 4 (.tmp 7)), .mk (some (161, false)) (some 163) (.load (some 3) (.tmp 162)), .mk (some (161, false)) (some 164) (.fieldA 4 (.tmp 8)), .mk (some (161, false)) (some 165) (.load (some 3) (.tmp 164)), .mk (some (161, false)) (some 166) (.eqs true [.int, .str, .str] (.tmp 163) (.tmp 165)), .mk none (some 167) (.pick (.tmp 161) (.const (.bool true)) (.tmp 166)), .mk none (some 168) (.mv (.tmp 167)), .mk (some (168, false)) (some 169) (.fieldA 7 (.tmp 7)), .mk (some (168, false)) (some 170) (.load none (.tmp 169)), .mk (some (168, false)) (some 171) (.fieldA 7 (.tmp 8)), .mk (some (168, false)) (some 172) (.load none (.tmp 171)), .mk (some (168, false)) (some 173) (.bin .neq (.tmp 170) (.tmp 172)), .mk none (some 174) (.pick (.tmp 168) (.const (.bool true)) (.tmp 173)), .mk none (some 175) (.mv (.tmp 174)), .mk (some (175, false)) (some 176) (.fieldA 8 (.tmp 7)), .mk (some (175, false)) (some 177) (.load none (.tmp 176)), .mk (some (175, false)) (some 178) (.fieldA 8 (.tmp 8)), .mk (some (175, false)) (some 179) (.load none (.tmp 178)), .mk (some (175, false)) (some 180) (.call 71 [.tmp 177, .tmp 179]), .mk (some (175, false)) (some 181) (.un .not (.tmp 180)), .mk none (some 182) (.pick (.tmp 175) (.const (.bool true)) (.tmp 181))] (some [2, 3, 6, 182])) (.cond (.tmp 182) (.seq (.region [.mk none (some 4) (.mv (.const (.bool false)))] (some [4])) .ret) .skip)))) (.region [.mk none (some 123) (.mv (.tmp 6)), .mk none (some 124) (.bin .add (.tmp 123) (.const (.int .i64 1))), .mk none (some 6) (.mv (.tmp 124))] (some [2, 3, 6]))))))) (.seq (.seq (.region [.mk none (some 9) (.mv (.const (.int .i64 0)))] (some [2, 3, 9])) (.block 4 (.loop (.seq (.seq (.region [.mk none (some 183) (.mv (.tmp 9)), .mk none (some 184) (.fieldA 8 (.tmp 2)), .mk none (some 185) (.load none (.tmp 184)), .mk none (some 186) (.len (.tmp 185) false), .mk none (some 187) (.bin .lss (.tmp 183) (.tmp 186))] (some [2, 3, 9, 187])) (.cond (.tmp 187) .skip (.exit 4))) (.seq (.block 5 (.seq (.draw [.mk none (some 190) (.fieldA 8 (.tmp 2)), .mk none (some 191) (.load none (.tmp 190)), .mk none (some 192) (.mv (.tmp 9)), .mk none (some 193) (.idxA 4 (.tmp 191) (.tmp 192)), .mk none (some 194) (.load (some 4) (.tmp 193)), .mk none (some 195) (.fieldA 8 (.tmp 3)), .mk none (some 196) (.load none (.tmp 195)), .mk none (some 197) (.mv (.tmp 9)), .mk none (some 198) (.idxA 4 (.tmp 196) (.tmp 197)), .mk none (some 199) (.load (some 4) (.tmp 198)), .mk none (some 200) (.eqs true [.str, .str, .str, .int] (.tmp 194) (.tmp 199))] [0, 1, 0, 7, 15, 0, 32, 0, 224, 480, 1023] (.take 0 (.take 1 (.take 2 (.take 3 (.take 4 (.take 5 (.take 6 (.take 7 (.take 8 (.take 9 (.take 10 .done))))))))))) (some [2, 3, 9, 200])) (.cond (.tmp 200) (.seq (.region [.mk none (some 4) (.mv (.const (.bool false)))] (some [4])) .ret) .skip))) (.region [.mk none (some 188) (.mv (.tmp 9)), .mk none (some 189) (.bin .add (.tmp 188) (.const (.int .i64 1))), .mk none (some 9) (.mv (.tmp 189))] (some [2, 3, 9]))))))) (.seq (.seq (.region [.mk none (some 10) (.mv (.const (.int .i64 0)))] (some [2, 3, 10])) (.block 6 (.loop (.seq (.seq (.region [.mk none (some 201) (.mv (.tmp 10)), .mk none (some 202) (.fieldA 11 (.tmp 2)), .mk none (some 203) (.load none (.tmp 202)), .mk none (some 204) (.len (.tmp 203) false), .mk none (some 205) (.bin .lss (.tmp 201) (.tmp 204))] (some [2, 3, 10, 205])) (.cond (.tmp 205) .skip (.exit 6))) (.seq (.block 7 (.seq (.draw [.mk none (some 208) (.fieldA 11 (.tmp 2)), .mk none (some 209) (.load none (.tmp 208)), .mk none (some 210) (.mv (.tmp 10)), .mk none (some 211) (.idxA 3 (.tmp 209) (.tmp 210)), .mk none (some 212) (.load (some 3) (.tmp 211)), .mk none (some 213) (.fieldA 11 (.tmp 3)), .mk none (some 214) (.load none (.tmp 213)), .mk none (some 215) (.mv (.tmp 10)), .mk none (some 216) (.idxA 3 (.tmp 214) (.tmp 215)), .mk none (some 217) (.load (some 3) (.tmp 216)), .mk none (some 218) (.eqs true [.int, .str, .str] (.tmp 212) (.tmp 217))] [0, 1, 0, 7, 15, 0, 32, 0, 224, 480, 1023] (.take 0 (.take 1 (.take 2 (.take 3 (.take 4 (.take 5 (.take 6 (.take 7 (.take 8 (.take 9 (.take 10 .done))))))))))) (some [2, 3, 10, 218])) (.cond (.tmp 218) (.seq (.region [.mk none (some 4) (.mv (.const (.bool false)))] (some [4])) .ret) .skip))) (.region [.mk none (some 206) (.mv (.tmp 10)), .mk none (some 207) (.bin .add (.tmp 206) (.const (.int .i64 1))), .mk none (some 10) (.mv (.tmp 207))] (some [2, 3, 10]))))))) (.seq (.seq (.region [.mk none (some 11) (.mv (.const (.int .i64 0)))] (some [2, 3, 11])) (.block 8 (.loop (.seq (.seq (.region [.mk none (some 219) (.mv (.tmp 11)), .mk none (some 220) (.fieldA 12 (.tmp 2)), .mk none (some 221) (.load none (.tmp 220)), .mk none (some 222) (.len (.tmp 221) false), .mk none (some 223) (.bin .lss (.tmp 219) (.tmp 222))] (some [2, 3, 11, 223])) (.cond (.tmp 223) .skip (.exit 8))) (.seq (.block 9 (.seq (.draw [.mk none (some 226) (.fieldA 12 (.tmp 2)), .mk none (some 227) (.load none (.tmp 226)), .mk none (some 228) (.mv (.tmp 11)), .mk none (some 229) (.idxA 3 (.tmp 227) (.tmp 228)), .mk none (some 230) (.load (some 3) (.tmp 229)), .mk none (some 231) (.fieldA 12 (.tmp 3)), .mk none (some 232) (.load none (.tmp 231)), .mk none (some 233) (.mv (.tmp 11)), .mk none (some 234) (.idxA 3 (.tmp 232) (.tmp 233)), .mk none (some 235) (.load (some 3) (.tmp 234)), .mk none (some 236) (.eqs true [.int, .str, .str] (.tmp 230) (.tmp 235))] [0, 1, 0, 7, 15, 0, 32, 0, 224, 480, 1023] (.take 0 (.take 1 (.take 2 (.take 3 (.take 4 (.take 5 (.take 6 (.take 7 (.take 8 (.take 9 (.take 10 .done))))))))))) (some [2, 3, 11, 236])) (.cond (.tmp 236) (.seq (.region [.mk none (some 4) (.mv (.const (.bool false)))] (some [4])) .ret) .skip))) (.region [.mk none (some 224) (.mv (.tmp 11)), .mk none (some 225) (.bin .add (.tmp 224) (.const (.int .i64 1))), .mk none (some 11) (.mv (.tmp 225))] (some [2, 3, 11]))))))) (.seq (.seq (.region [.mk none (some 12) (.mv (.const (.int .i64 0)))] (some [2, 3, 12])) (.block 10 (.loop (.seq (.seq (.region [.mk none (some 237) (.mv (.tmp 12)), .mk none (some 238) (.fieldA 10 (.tmp 2)), .mk none (some 239) (.load none (.tmp 238)), .mk none (some 240) (.len (.tmp 239) false), .mk none (some 241) (.bin .lss (.tmp 237) (.tmp 240))] (some [2, 3, 12, 241])) (.cond (.tmp 241) .skip (.exit 10))) (.seq (.block 11 (.seq (.draw [.mk none (some 244) (.fieldA 10 (.tmp 2)), .mk none (some 245) (.load none (.tmp 244)), .mk none (some 246) (.mv (.tmp 12)), .mk none (some 247) (.idxA 3 (.tmp 245) (.tmp 246)), .mk none (some 248) (.load (some 3) (.tmp 247)), .mk none (some 249) (.fieldA 10 (.tmp 3)), .mk none (some 250) (.load none (.tmp 249)), .mk none (some 251) (.mv (.tmp 12)), .mk none (some 252) (.idxA 3 (.tmp 250) (.tmp 251)), .mk none (some 253) (.load (some 3) (.tmp 252)), .mk none (some 254) (.call 72 [.tmp 248, .tmp 253]), .mk none (some 255) (.un .not (.tmp 254))] [0, 1, 0, 7, 15, 0, 32, 0, 224, 480, 1023, 2047] (.take 0 (.take 1 (.take 2 (.take 3 (.take 4 (.take 5 (.take 6 (.take 7 (.take 8 (.take 9 (.alts (.cons 10 true (.take 11 .done) .nil)))))))))))) (some [2, 3, 12, 255])) (.cond (.tmp 255) (.seq (.region [.mk none (some 4) (.mv (.const (.bool false)))] (some [4])) .ret) .skip))) (.region [.mk none (some 242) (.mv (.tmp 12)), .mk none (some 243) (.bin .add (.tmp 242) (.const (.int .i64 1))), .mk none (some 12) (.mv (.tmp 243))] (some [2, 3, 12]))))))) (.seq (.region [.mk none (some 4) (.mv (.const (.bool true)))] (some [4])) .ret))))))))))
theorem ok_zwcd : compC Tryz.prog an_zwcd (Tryz.f26.body.getD .skip) = some ac_zwcd := by kernel_rfl
theorem dst_zwcd : ac_zwcd.dstOK Tryz.f26.ntmps (fun i => decide (i < Tryz.f26.ntmps)) = true := by kernel_rfl

def an_zk76r : Ann := ⟨[(0, [0, 1]), (1, [0, 1, 10]), (2, [4]), (3, [0, 1, 5]), (4, [0, 1, 5, 14]), (5, [0, 1, 5]), (6, [0, 1, 5, 25]), (7, [4]), (8, [4])], [(6, ([0, 0, 3, 7, 0, 0, 48, 112, 255], .take 0 (.take 1 (.take 2 (.take 3 (.take 4 (.take 5 (.take 6 (.take 7 (.take 8 (.done)))))))))))], []⟩
def ac_zk76r : AC := (.seq (.region [.mk none (some 4) (.mv (.const (.bool false)))] (some [0, 1])) (.seq (.seq (.region [.mk none (some 6) (.mv (.tmp 0)), .mk none (some 7) (.len (.tmp 6) false), .mk none (some 8) (.mv (.tmp 1)), .mk none (some 9) (.len (.tmp 8) false), .mk none (some 10) (.bin .neq (.tmp 7) (.tmp 9))] (some [0, 1, 10])) (.cond (.tmp 10) (.seq (.region [.mk none (some 4) (.mv (.const (.bool false)))] (some [4])) .ret) .skip)) (.seq (.seq (.region [.mk none (some 5) (.mv (.const (.int .i64 0)))] (some [0, 1, 5])) (.block 0 (.loop (.seq (.seq (.region [.mk none (some 11) (.mv (.tmp 5)), .mk none (some 12) (.mv (.tmp 0)), .mk none (some 13) (.len (.tmp 12) false), .mk none (some 14) (.bin .lss (.tmp 11) (.tmp 13))] (some [0, 1, 5, 14])) (.cond (.tmp 14) .skip (.exit 0))) (.seq (.block 1 (.seq (.draw [.mk none (some 17) (.mv (.tmp 0)), .mk none (some 18) (.mv (.tmp 5)), .mk none (some 19) (.idxA 2 (.tmp 17) (.tmp 18)), .mk none (some 20) (.load (some 2) (.tmp 19)), .mk none (some 21) (.mv (.tmp 1)), .mk none (some 22) (.mv (.tmp 5)), .mk none (some 23) (.idxA 2 (.tmp 21) (.tmp 22)), .mk none (some 24) (.load (some 2) (.tmp 23)), .mk none (some 25) (.eqs true [.str, .str] (.tmp 20) (.tmp 24))] [0, 0, 3, 7, 0, 0, 48, 112, 255] (.take 0 (.take 1 (.take 2 (.take 3 (.take 4 (.take 5 (.take 6 (.take 7 (.take 8 .done))))))))) (some [0, 1, 5, 25])) (.cond (.tmp 25) (.seq (.region [.mk none (some 4) (.mv (.const (.bool false)))] (some [4])) .ret) .skip))) (.region [.mk none (some 15) (.mv (.tmp 5)), .mk none (some 16) (.bin .add (.tmp 15) (.const (.int .i64 1))), .mk none (some 5) (.mv (.tmp 16))] (some [0, 1, 5]))))))) (.seq (.region [.mk none (some 4) (.mv (.const (.bool true)))] (some [4])) .ret))))
theorem ok_zk76r : compC Tryz.prog an_zk76r (Tryz.f69.body.getD .skip) = some ac_zk76r := by kernel_rfl
theorem dst_zk76r : ac_zk76r.dstOK Tryz.f69.ntmps (fun i => decide (i < Tryz.f69.ntmps)) = true := by kernel_rfl

def an_zjxe8 : Ann := ⟨[(0, [0, 1]), (1, [0, 1, 10]), (2, [4]), (3, [0, 1, 5]), (4, [0, 1, 5, 14]), (5, [0, 1, 5]), (6, [0, 1, 5, 25]), (7, [4]), (8, [4])], [(6, ([0, 0, 3, 7, 0, 0, 48, 112, 255], .take 0 (.take 1 (.take 2 (.take 3 (.take 4 (.take 5 (.take 6 (.take 7 (.take 8 (.done)))))))))))], []⟩
def ac_zjxe8 : AC := (.seq (.region [.mk none (some 4) (.mv (.const (.bool false)))] (some [0, 1])) (.seq (.seq (.region [.mk none (some 6) (.mv (.tmp 0)), .mk none (some 7) (.len (.tmp 6) false), .mk none (some 8) (.mv (.tmp 1)), .mk none (some 9) (.len (.tmp 8) false), .mk none (some 10) (.bin .neq (.tmp 7) (.tmp 9))] (some [0, 1, 10])) (.cond (.tmp 10) (.seq (.region [.mk none (some 4) (.mv (.const (.bool false)))] (some [4])) .ret) .skip)) (.seq (.seq (.region [.mk none (some 5) (.mv (.const (.int .i64 0)))] (some [0, 1, 5])) (.block 0 (.loop (.seq (.seq (.region [.mk none (some 11) (.mv (.tmp 5)), .mk none (some 12) (.mv (.tmp 0)), .mk none (some 13) (.len (.tmp 12) false), .mk none (some 14) (.bin .lss (.tmp 11) (.tmp 13))] (some [0, 1, 5, 14])) (.cond (.tmp 14) .skip (.exit 0))) (.seq (.block 1 (.seq (.draw [.mk none (some 17) (.mv (.tmp 0)), .mk none (some 18) (.mv (.tmp 5)), .mk none (some 19) (.idxA 1 (.tmp 17) (.tmp 18)), .mk none (some 20) (.load none (.tmp 19)), .mk none (some 21) (.mv (.tmp 1)), .mk none (some 22) (.mv (.tmp 5)), .mk none (some 23) (.idxA 1 (.tmp 21) (.tmp 22)), .mk none (some 24) (.load none (.tmp 23)), .mk none (some 25) (.bin .neq (.tmp 20) (.tmp 24))] [0, 0, 3, 7, 0, 0, 48, 112, 255] (.take 0 (.take 1 (.take 2 (.take 3 (.take 4 (.take 5 (.take 6 (.take 7 (.take 8 .done))))))))) (some [0, 1, 5, 25])) (.cond (.tmp 25) (.seq (.region [.mk none (some 4) (.mv (.const (.bool false)))] (some [4])) .ret) .skip))) (.region [.mk none (some 15) (.mv (.tmp 5)), .mk none (some 16) (.bin .add (.tmp 15) (.const (.int .i64 1))), .mk none (some 5) (.mv (.tmp 16))] (some [0, 1, 5]))))))) (.seq (.region [.mk none (some 4) (.mv (.const (.bool true)))] (some [4])) .ret))))
theorem ok_zjxe8 : compC Tryz.prog an_zjxe8 (Tryz.f70.body.getD .skip) = some ac_zjxe8 := by kernel_rfl
theorem dst_zjxe8 : ac_zjxe8.dstOK Tryz.f70.ntmps (fun i => decide (i < Tryz.f70.ntmps)) = true := by kernel_rfl

def an_zgrh4 : Ann := ⟨[(0, [0, 1]), (1, [0, 1, 10]), (2, [4]), (3, [0, 1, 5]), (4, [0, 1, 5, 14]), (5, [0, 1, 5]), (6, [0, 1, 5, 54]), (7, [4]), (8, [4])], [(6, ([0, 0, 3, 7, 15, 0, 0, 96, 224, 480, 1023, 2047, 4095, 4095, 16383, 32767, 65535, 4095, 4095, 397311, 921599, 1970175, 4194303, 8388607, 16777215, 33554431, 33554431, 134217727, 268435455, 536870911, 33554431, 33554431, 3254779903, 7549747199, 16139681791, 34359738367, 68719476735, 137438953471], .take 0 (.take 1 (.take 2 (.take 3 (.take 4 (.take 5 (.take 6 (.take 7 (.take 8 (.take 9 (.take 10 (.take 11 (.take 12 (.take 13 (.take 14 (.take 15 (.take 16 (.take 17 (.take 18 (.take 19 (.take 20 (.take 21 (.take 22 (.take 23 (.take 24 (.take 25 (.take 26 (.take 27 (.take 28 (.take 29 (.take 30 (.take 31 (.take 32 (.take 33 (.take 34 (.alts (.cons 35 true (.take 36 (.take 37 (.done))) (.nil)))))))))))))))))))))))))))))))))))))))], []⟩
def ac_zgrh4 : AC := (.seq (.region [.mk none (some 4) (.mv (.const (.bool false)))] (some [0, 1])) (.seq (.seq (.region [.mk none (some 6) (.mv (.tmp 0)), .mk none (some 7) (.len (.tmp 6) false), .mk none (some 8) (.mv (.tmp 1)), .mk none (some 9) (.len (.tmp 8) false), .mk none (some 10) (.bin .neq (.tmp 7) (.tmp 9))] (some [0, 1, 10])) (.cond (.tmp 10) (.seq (.region [.mk none (some 4) (.mv (.const (.bool false)))] (some [4])) .ret) .skip)) (.seq (.seq (.region [.mk none (some 5) (.mv (.const (.int .i64 0)))] (some [0, 1, 5])) (.block 0 (.loop (.seq (.seq (.region [.mk none (some 11) (.mv (.tmp 5)), .mk none (some 12) (.mv (.tmp 0)), .mk none (some 13) (.len (.tmp 12) false), .mk none (some 14) (.bin .lss (.tmp 11) (.tmp 13))] (some [0, 1, 5, 14])) (.cond (.tmp 14) .skip (.exit 0))) (.seq (.block 1 (.seq (.draw [.mk none (some 17) (.mv (.tmp 0)), .mk none (some 18) (.mv (.tmp 5)), .mk none (some 19) (.idxA 3 (.tmp 17) (.tmp 18)), .mk none (some 20) (.fieldA 0 (.tmp 19)), .mk none (some 21) (.load none (.tmp 20)), .mk none (some 22) (.mv (.tmp 1)), .mk none (some 23) (.mv (.tmp 5)), .mk none (some 24) (.idxA 3 (.tmp 22) (.tmp 23)), .mk none (some 25) (.fieldA 0 (.tmp 24)), .mk none (some 26) (.load none (.tmp 25)), .mk none (some 27) (.bin .neq (.tmp 21) (.tmp 26)), .mk none (some 28) (.mv (.tmp 27)), .mk (some (28, false)) (some 29) (.mv (.tmp 0)), .mk (some (28, false)) (some 30) (.mv (.tmp 5)), .mk (some (28, false)) (some 31) (.idxA 3 (.tmp 29) (.tmp 30)), .mk (some (28, false)) (some 32) (.fieldA 1 (.tmp 31)), .mk (some (28, false)) (some 33) (.load none (.tmp 32)), .mk (some (28, false)) (some 34) (.mv (.tmp 1)), .mk (some (28, false)) (some 35) (.mv (.tmp 5)), .mk (some (28, false)) (some 36) (.idxA 3 (.tmp 34) (.tmp 35)), .mk (some (28, false)) (some 37) (.fieldA 1 (.tmp 36)), .mk (some (28, false)) (some 38) (.load none (.tmp 37)), .mk (some (28, false)) (some 39) (.bin .neq (.tmp 33) (.tmp 38)), .mk none (some 40) (.pick (.tmp 28) (.const (.bool true)) (.tmp 39)), .mk none (some 41) (.mv (.tmp 40)), .mk (some (41, false)) (some 42) (.mv (.tmp 0)), .mk (some (41, false)) (some 43) (.mv (.tmp 5)), .mk (some (41, false)) (some 44) (.idxA 3 (.tmp 42) (.tmp 43)), .mk (some (41, false)) (some 45) (.fieldA 2 (.tmp 44)), .mk (some (41, false)) (some 46) (.load none (.tmp 45)), .mk (some (41, false)) (some 47) (.mv (.tmp 1)), .mk (some (41, false)) (some 48) (.mv (.tmp 5)), .mk (some (41, false)) (some 49) (.idxA 3 (.tmp 47) (.tmp 48)), .mk (some (41, false)) (some 50) (.fieldA 2 (.tmp 49)), .mk (some (41, false)) (some 51) (.load none (.tmp 50)), .mk (some (41, false)) (some 52) (.call 70 [.tmp 46, .tmp 51]), .mk (some (41, false)) (some 53) (.un .not (.tmp 52)), .mk none (some 54) (.pick (.tmp 41) (.const (.bool true)) (.tmp 53))] [0, 0, 3, 7, 15, 0, 0, 96, 224, 480, 1023, 2047, 4095, 4095, 16383, 32767, 65535, 4095, 4095, 397311, 921599, 1970175, 4194303, 8388607, 16777215, 33554431, 33554431, 134217727, 268435455, 536870911, 33554431, 33554431, 3254779903, 7549747199, 16139681791, 34359738367, 68719476735, 137438953471] (.take 0 (.take 1 (.take 2 (.take 3 (.take 4 (.take 5 (.take 6 (.take 7 (.take 8 (.take 9 (.take 10 (.take 11 (.take 12 (.take 13 (.take 14 (.take 15 (.take 16 (.take 17 (.take 18 (.take 19 (.take 20 (.take 21 (.take 22 (.take 23 (.take 24 (.take 25 (.take 26 (.take 27 (.take 28 (.take 29 (.take 30 (.take 31 (.take 32 (.take 33 (.take 34 (.alts (.cons 35 true (.take 36 (.take 37 .done)) .nil))))))))))))))))))))))))))))))))))))) (some [0, 1, 5, 54])) (.cond (.tmp 54) (.seq (.region [.mk none (some 4) (.mv (.const (.bool false)))] (some [4])) .ret) .skip))) (.region [.mk none (some 15) (.mv (.tmp 5)), .mk none (some 16) (.bin .add (.tmp 15) (.const (.int .i64 1))), .mk none (some 5) (.mv (.tmp 16))] (some [0, 1, 5]))))))) (.seq (.region [.mk none (some 4) (.mv (.const (.bool true)))] (some [4])) .ret))))
theorem ok_zgrh4 : compC Tryz.prog an_zgrh4 (Tryz.f71.body.getD .skip) = some ac_zgrh4 := by kernel_rfl
theorem dst_zgrh4 : ac_zgrh4.dstOK Tryz.f71.ntmps (fun i => decide (i < Tryz.f71.ntmps)) = true := by kernel_rfl

def an_zt6t3 : Ann := ⟨[(0, [2, 3]), (1, [2, 3, 32]), (2, [4]), (3, [2, 3, 5]), (4, [2, 3, 5, 37]), (5, [2, 3, 5]), (6, [2, 3, 5, 51]), (7, [4]), (8, [2, 3, 6]), (9, [2, 3, 6, 56]), (10, [2, 3, 6]), (11, [2, 3, 6, 69]), (12, [4]), (13, [2, 3, 7]), (14, [2, 3, 7, 74]), (15, [2, 3, 7]), (16, [2, 3, 7, 87]), (17, [4]), (18, [4])], [(6, ([0, 1, 0, 7, 15, 0, 32, 0, 224, 480, 1023, 2047], .take 0 (.take 1 (.take 2 (.take 3 (.take 4 (.take 5 (.take 6 (.take 7 (.take 8 (.take 9 (.alts (.cons 10 true (.take 11 (.done)) (.nil)))))))))))))), (11, ([0, 1, 0, 7, 15, 0, 32, 0, 224, 480, 1023], .take 0 (.take 1 (.take 2 (.take 3 (.take 4 (.take 5 (.take 6 (.take 7 (.take 8 (.take 9 (.take 10 (.done))))))))))))), (16, ([0, 1, 0, 7, 15, 0, 32, 0, 224, 480, 1023], .take 0 (.take 1 (.take 2 (.take 3 (.take 4 (.take 5 (.take 6 (.take 7 (.take 8 (.take 9 (.take 10 (.done)))))))))))))], []⟩
def ac_zt6t3 : AC := (.seq (.region [.mk none (some 2) (.box 72 (.tmp 0)), .mk none (some 3) (.box 72 (.tmp 1)), .mk none (some 4) (.mv (.const (.bool false)))] (some [2, 3])) (.seq (.seq (.region [.mk none (some 8) (.fieldA 0 (.tmp 2)), .mk none (some 9) (.load none (.tmp 8)), .mk none (some 10) (.len (.tmp 9) false), .mk none (some 11) (.fieldA 0 (.tmp 3)), .mk none (some 12) (.load none (.tmp 11)), .mk none (some 13) (.len (.tmp 12) false), .mk none (some 14) (.bin .neq (.tmp 10) (.tmp 13)), .mk none (some 15) (.mv (.tmp 14)), .mk (some (15, false)) (some 16) (.fieldA 1 (.tmp 2)), .mk (some (15, false)) (some 17) (.load none (.tmp 16)), .mk (some (15, false)) (some 18) (.len (.tmp 17) false), .mk (some (15, false)) (some 19) (.fieldA 1 (.tmp 3)), .mk (some (15, false)) (some 20) (.load none (.tmp 19)), .mk (some (15, false)) (some 21) (.len (.tmp 20) false), .mk (some (15, false)) (some 22) (.bin .neq (.tmp 18) (.tmp 21)), .mk none (some 23) (.pick (.tmp 15) (.const (.bool true)) (.tmp 22)), .mk none (some 24) (.mv (.tmp 23)), .mk (some (24, false)) (some 25) (.fieldA 2 (.tmp 2)), .mk (some (24, false)) (some 26) (.load none (.tmp 25)), .mk (some (24, false)) (some 27) (.len (.tmp 26) false), .mk (some (24, false)) (some 28) (.fieldA 2 (.tmp 3)), .mk (some (24, false)) (some 29) (.load none (.tmp 28)), .mk (some (24, false)) (some 30) (.len (.tmp 29) false), .mk (some (24, false)) (some 31) (.bin .neq (.tmp 27) (.tmp 30)), .mk none (some 32) (.pick (.tmp 24) (.const (.bool true)) (.tmp 31))] (some [2, 3, 32])) (.cond (.tmp 32) (.seq (.region [.mk none (some 4) (.mv (.const (.bool false)))] (some [4])) .ret) .skip)) (.seq (.seq (.region [.mk none (some 5) (.mv (.const (.int .i64 0)))] (some [2, 3, 5])) (.block 0 (.loop (.seq (.seq (.region [.mk none (some 33) (.mv (.tmp 5)), .mk none (some 34) (.fieldA 0 (.tmp 2)), .mk none (some 35) (.load none (.tmp 34)), .mk none (some 36) (.len (.tmp 35) false), .mk none (some 37) (.bin .lss (.tmp 33) (.tmp 36))] (some [2, 3, 5, 37])) (.cond (.tmp 37) .skip (.exit 0))) (.seq (.block 1 (.seq (.draw [.mk none (some 40) (.fieldA 0 (.tmp 2)), .mk none (some 41) (.load none (.tmp 40)), .mk none (some 42) (.mv (.tmp 5)), .mk none (some 43) (.idxA 5 (.tmp 41) (.tmp 42)), .mk none (some 44) (.load (some 5) (.tmp 43)), .mk none (some 45) (.fieldA 0 (.tmp 3)), .mk none (some 46) (.load none (.tmp 45)), .mk none (some 47) (.mv (.tmp 5)), .mk none (some 48) (.idxA 5 (.tmp 46) (.tmp 47)), .mk none (some 49) (.load (some 5) (.tmp 48)), .mk none (some 50) (.call 103 [.tmp 44, .tmp 49]), .mk none (some 51) (.un .not (.tmp 50))] [0, 1, 0, 7, 15, 0, 32, 0, 224, 480, 1023, 2047] (.take 0 (.take 1 (.take 2 (.take 3 (.take 4 (.take 5 (.take 6 (.take 7 (.take 8 (.take 9 (.alts (.cons 10 true (.take 11 .done) .nil)))))))))))) (some [2, 3, 5, 51])) (.cond (.tmp 51) (.seq (.region [.mk none (some 4) (.mv (.const (.bool false)))] (some [4])) .ret) .skip))) (.region [.mk none (some 38) (.mv (.tmp 5)), .mk none (some 39) (.bin .add (.tmp 38) (.const (.int .i64 1))), .mk none (some 5) (.mv (.tmp 39))] (some [2, 3, 5]))))))) (.seq (.seq (.region [.mk none (some 6) (.mv (.const (.int .i64 0)))] (some [2, 3, 6])) (.block 2 (.loop (.seq (.seq (.region [.mk none (some 52) (.mv (.tmp 6)), .mk none (some 53) (.fieldA 1 (.tmp 2)), .mk none (some 54) (.load none (.tmp 53)), .mk none (some 55) (.len (.tmp 54) false), .mk none (some 56) (.bin .lss (.tmp 52) (.tmp 55))] (some [2, 3, 6, 56])) (.cond (.tmp 56) .skip (.exit 2))) (.seq (.block 3 (.seq (.draw [.mk none (some 59) (.fieldA 1 (.tmp 2)), .mk none (some 60) (.load none (.tmp 59)), .mk none (some 61) (.mv (.tmp 6)), .mk none (some 62) (.idxA 8 (.tmp 60) (.tmp 61)), .mk none (some 63) (.load (some 8) (.tmp 62)), .mk none (some 64) (.fieldA 1 (.tmp 3)), .mk none (some 65) (.load none (.tmp 64)), .mk none (some 66) (.mv (.tmp 6)), .mk none (some 67) (.idxA 8 (.tmp 65) (.tmp 66)), .mk none (some 68) (.load (some 8) (.tmp 67)), .mk none (some 69) (.eqs true [.int, .str, .str, .str, .int, .str, .bool, .int] (.tmp 63) (.tmp 68))] [0, 1, 0, 7, 15, 0, 32, 0, 224, 480, 1023] (.take 0 (.take 1 (.take 2 (.take 3 (.take 4 (.take 5 (.take 6 (.take 7 (.take 8 (.take 9 (.take 10 .done))))))))))) (some [2, 3, 6, 69])) (.cond (.tmp 69) (.seq (.region [.mk none (some 4) (.mv (.const (.bool false)))] (some [4])) .ret) .skip))) (.region [.mk none (some 57) (.mv (.tmp 6)), .mk none (some 58) (.bin .add (.tmp 57) (.const (.int .i64 1))), .mk none (some 6) (.mv (.tmp 58))] (some [2, 3, 6]))))))) (.seq (.seq (.region [.mk none (some 7) (.mv (.const (.int .i64 0)))] (some [2, 3, 7])) (.block 4 (.loop (.seq (.seq (.region [.mk none (some 70) (.mv (.tmp 7)), .mk none (some 71) (.fieldA 2 (.tmp 2)), .mk none (some 72) (.load none (.tmp 71)), .mk none (some 73) (.len (.tmp 72) false), .mk none (some 74) (.bin .lss (.tmp 70) (.tmp 73))] (some [2, 3, 7, 74])) (.cond (.tmp 74) .skip (.exit 4))) (.seq (.block 5 (.seq (.draw [.mk none (some 77) (.fieldA 2 (.tmp 2)), .mk none (some 78) (.load none (.tmp 77)), .mk none (some 79) (.mv (.tmp 7)), .mk none (some 80) (.idxA 5 (.tmp 78) (.tmp 79)), .mk none (some 81) (.load (some 5) (.tmp 80)), .mk none (some 82) (.fieldA 2 (.tmp 3)), .mk none (some 83) (.load none (.tmp 82)), .mk none (some 84) (.mv (.tmp 7)), .mk none (some 85) (.idxA 5 (.tmp 83) (.tmp 84)), .mk none (some 86) (.load (some 5) (.tmp 85)), .mk none (some 87) (.eqs true [.int, .str, .str, .int, .int] (.tmp 81) (.tmp 86))] [0, 1, 0, 7, 15, 0, 32, 0, 224, 480, 1023] (.take 0 (.take 1 (.take 2 (.take 3 (.take 4 (.take 5 (.take 6 (.take 7 (.take 8 (.take 9 (.take 10 .done))))))))))) (some [2, 3, 7, 87])) (.cond (.tmp 87) (.seq (.region [.mk none (some 4) (.mv (.const (.bool false)))] (some [4])) .ret) .skip))) (.region [.mk none (some 75) (.mv (.tmp 7)), .mk none (some 76) (.bin .add (.tmp 75) (.const (.int .i64 1))), .mk none (some 7) (.mv (.tmp 76))] (some [2, 3, 7]))))))) (.seq (.region [.mk none (some 4) (.mv (.const (.bool true)))] (some [4])) .ret))))))
theorem ok_zt6t3 : compC Tryz.prog an_zt6t3 (Tryz.f72.body.getD .skip) = some ac_zt6t3 := by kernel_rfl
theorem dst_zt6t3 : ac_zt6t3.dstOK Tryz.f72.ntmps (fun i => decide (i < Tryz.f72.ntmps)) = true := by kernel_rfl

def an_zlug8 : Ann := ⟨[(0, [2, 3]), (1, [4])], [], []⟩
def ac_zlug8 : AC := (.seq (.region [.mk none (some 2) (.box 101 (.tmp 0)), .mk none (some 3) (.box 101 (.tmp 1)), .mk none (some 4) (.mv (.const (.bool false)))] (some [2, 3])) (.seq (.region [.mk none (some 5) (.fieldA 0 (.tmp 2)), .mk none (some 6) (.load (some 2) (.tmp 5)), .mk none (some 7) (.fieldA 0 (.tmp 3)), .mk none (some 8) (.load (some 2) (.tmp 7)), .mk none (some 9) (.eqs false [.int, .str] (.tmp 6) (.tmp 8)), .mk none (some 10) (.mv (.tmp 9)), .mk (some (10, true)) (some 11) (.fieldA 2 (.tmp 2)), .mk (some (10, true)) (some 12) (.load none (.tmp 11)), .mk (some (10, true)) (some 13) (.fieldA 2 (.tmp 3)), .mk (some (10, true)) (some 14) (.load none (.tmp 13)), .mk (some (10, true)) (some 15) (.bin .eql (.tmp 12) (.tmp 14)), .mk none (some 16) (.pick (.tmp 10) (.tmp 15) (.const (.bool false))), .mk none (some 17) (.mv (.tmp 16)), .mk (some (17, true)) (some 18) (.fieldA 3 (.tmp 2)), .mk (some (17, true)) (some 19) (.load none (.tmp 18)), .mk (some (17, true)) (some 20) (.fieldA 3 (.tmp 3)), .mk (some (17, true)) (some 21) (.load none (.tmp 20)), .mk (some (17, true)) (some 22) (.call 69 [.tmp 19, .tmp 21]), .mk none (some 23) (.pick (.tmp 17) (.tmp 22) (.const (.bool false))), .mk none (some 24) (.mv (.tmp 23)), .mk (some (24, true)) (some 25) (.fieldA 4 (.tmp 2)), .mk (some (24, true)) (some 26) (.load none (.tmp 25)), .mk (some (24, true)) (some 27) (.fieldA 4 (.tmp 3)), .mk (some (24, true)) (some 28) (.load none (.tmp 27)), .mk (some (24, true)) (some 29) (.call 69 [.tmp 26, .tmp 28]), .mk none (some 30) (.pick (.tmp 24) (.tmp 29) (.const (.bool false))), .mk none (some 4) (.mv (.tmp 30))] (some [4])) .ret))
theorem ok_zlug8 : compC Tryz.prog an_zlug8 (Tryz.f103.body.getD .skip) = some ac_zlug8 := by kernel_rfl
theorem dst_zlug8 : ac_zlug8.dstOK Tryz.f103.ntmps (fun i => decide (i < Tryz.f103.ntmps)) = true := by kernel_rfl

end Go.Proofs.YtjhomppadppfnaaGreatDoor

namespace Go.Proofs.YtjhomppadppfnaaGreatDoor
open Go Go.RowKit
set_option linter.unusedSimpArgs false
set_option linter.unusedVariables false
set_option maxRecDepth 100000

theorem res_no {p : Prop} [Decidable p] (h : ¬p) : bln false = bln (decide p) := by rw [decide_eq_false h]
theorem res_yes {p : Prop} [Decidable p] (h : p) : bln true = bln (decide p) := by rw [decide_eq_true h]
theorem take_step {α : Type} {l m : List α} {i : Nat} {x y : α} (h : l.take i = m.take i) (hx : l[i]? = some x) (hy : m[i]? = some y) (e : x = y) : l.take (i + 1) = m.take (i + 1) := by
  rw [take_at hx, take_at hy, h, e]
theorem take_end {α : Type} {l m : List α} {i : Nat} (h : l.take i = m.take i) (hl : l.length = m.length) (hi : ¬ i < l.length) : l = m := by
  rwa [List.take_of_length_le (by omega), List.take_of_length_le (by omega)] at h

set_option maxHeartbeats 2000000 in
theorem ref1_Same (a b : List ByteArray) (ha : a.length ≤ 1000000) : Pure Tryz.prog 70 [.pd (.slice (rows cStr a)), .pd (.slice (rows cStr b))] (fun d => d = bln (decide (a = b))) := by
  refine pure_of_run follows an_zjxe8 Tryz.func70 rfl ok_zjxe8 dst_zjxe8 (by simp [Tryz.ntmps70]) ?_
  rw [run_start]
  simp only [ac_zjxe8, go_sem, contS_seq, simprocAttr, rows_len]
  refine GifP.mk (fun hl => ?_) (fun hl => ?_)
  rotate_left
  · simp only [retK, fullK, iterK, resD, resA, AOp.ex, St.ev, Option.map_some, Option.bind_some, St.get, lk, reduceIte, Nat.reduceEqDiff, Option.getD_some, oneD, List.getElem?_cons_zero, List.getElem?_cons_succ, List.drop_zero, List.drop_succ_cons, List.take_succ_cons, List.take_zero, List.length_cons, List.length_nil, Nat.zero_add, Nat.reduceAdd, Nat.le_refl, Nat.reduceLeDiff, D.pub, D.pubs, Tryz.results70]
    exact ⟨_, rfl, rfl, res_no (fun e => hl (by rw [e]))⟩
  have hL : a.length = b.length := by omega
  refine loopS (fun k st => ∃ i : Nat, k = a.length - i ∧ i ≤ a.length ∧ a.take i = b.take i ∧ st = ⟨[(0, .pd (.slice (rows cStr a))), (1, .pd (.slice (rows cStr b))), (5, int i)], [], [], .no⟩) a.length _ ?_ ⟨0, rfl, by omega, rfl, rfl⟩ ?_
  · exact Weak.less (by simp [lessL, lk]) (by simp [lessL, lk]) (by simp [lessL, lk]) rfl
  rintro k st ⟨i, rfl, hi, hT, rfl⟩
  have hw := i64_succ (show i < 1000000000 by omega)
  by_cases hlt : i < a.length
  · obtain ⟨x, hx⟩ := at_lt hlt
    obtain ⟨y, hy⟩ := at_lt (show i < b.length by omega)
    have h1 : ((i : Int) < (a.length : Int)) = True := eq_true (by omega)
    simp only [go_sem, contS_seq, simprocAttr, rows_len, rows_get hx, rows_get hy, h1, hw]
    · repeat' (first | refine GifP.mk (fun _ => ?_) (fun _ => ?_) | refine Gif.mk (fun _ => ?_) (fun _ => ?_) | refine And.intro ?_ ?_)
      all_goals first
        | (refine ⟨a.length - (i + 1), _, by omega, ?_, i + 1, rfl, by omega, take_step hT hx hy (by first | assumption | (cases x; cases y; simp_all)), rfl⟩; exact Weak.less (by simp [lessL, lk]) (by simp [lessL, lk]) (by simp [lessL, lk]) rfl)
        | (simp only [retK, fullK, iterK, resD, resA, AOp.ex, St.ev, Option.map_some, Option.bind_some, St.get, lk, reduceIte, Nat.reduceEqDiff, Option.getD_some, oneD, List.getElem?_cons_zero, List.getElem?_cons_succ, List.drop_zero, List.drop_succ_cons, List.take_succ_cons, List.take_zero, List.length_cons, List.length_nil, Nat.zero_add, Nat.reduceAdd, Nat.le_refl, Nat.reduceLeDiff, D.pub, D.pubs, Tryz.results70]; exact ⟨_, rfl, rfl, res_no (fun e => by subst e; have hxy := Option.some.inj (hx.symm.trans hy); subst hxy; first | contradiction | simp_all)⟩)
  have h1 : ((i : Int) < (a.length : Int)) = False := eq_false (by omega)
  have hE := take_end hT (by omega) hlt
  clear hT hi hw
  simp only [go_sem, contS_seq, simprocAttr, rows_len, h1]
  clear h1 hlt i
  simp only [retK, fullK, iterK, resD, resA, AOp.ex, St.ev, Option.map_some, Option.bind_some, St.get, lk, reduceIte, Nat.reduceEqDiff, Option.getD_some, oneD, List.getElem?_cons_zero, List.getElem?_cons_succ, List.drop_zero, List.drop_succ_cons, List.take_succ_cons, List.take_zero, List.length_cons, List.length_nil, Nat.zero_add, Nat.reduceAdd, Nat.le_refl, Nat.reduceLeDiff, D.pub, D.pubs, Tryz.results70]
  exact ⟨_, rfl, rfl, res_yes hE⟩

set_option maxHeartbeats 2000000 in
theorem ref4_Same (a b : List APair) (ha : a.length ≤ 1000000) : Pure Tryz.prog 69 [.pd (.slice (rows APair.pd a)), .pd (.slice (rows APair.pd b))] (fun d => d = bln (decide (a = b))) := by
  refine pure_of_run follows an_zk76r Tryz.func69 rfl ok_zk76r dst_zk76r (by simp [Tryz.ntmps69]) ?_
  rw [run_start]
  simp only [ac_zk76r, go_sem, contS_seq, simprocAttr, rows_len]
  refine GifP.mk (fun hl => ?_) (fun hl => ?_)
  rotate_left
  · simp only [retK, fullK, iterK, resD, resA, AOp.ex, St.ev, Option.map_some, Option.bind_some, St.get, lk, reduceIte, Nat.reduceEqDiff, Option.getD_some, oneD, List.getElem?_cons_zero, List.getElem?_cons_succ, List.drop_zero, List.drop_succ_cons, List.take_succ_cons, List.take_zero, List.length_cons, List.length_nil, Nat.zero_add, Nat.reduceAdd, Nat.le_refl, Nat.reduceLeDiff, D.pub, D.pubs, Tryz.results69]
    exact ⟨_, rfl, rfl, res_no (fun e => hl (by rw [e]))⟩
  have hL : a.length = b.length := by omega
  refine loopS (fun k st => ∃ i : Nat, k = a.length - i ∧ i ≤ a.length ∧ a.take i = b.take i ∧ st = ⟨[(0, .pd (.slice (rows APair.pd a))), (1, .pd (.slice (rows APair.pd b))), (5, int i)], [], [], .no⟩) a.length _ ?_ ⟨0, rfl, by omega, rfl, rfl⟩ ?_
  · exact Weak.less (by simp [lessL, lk]) (by simp [lessL, lk]) (by simp [lessL, lk]) rfl
  rintro k st ⟨i, rfl, hi, hT, rfl⟩
  have hw := i64_succ (show i < 1000000000 by omega)
  by_cases hlt : i < a.length
  · obtain ⟨x, hx⟩ := at_lt hlt
    obtain ⟨y, hy⟩ := at_lt (show i < b.length by omega)
    have h1 : ((i : Int) < (a.length : Int)) = True := eq_true (by omega)
    simp only [go_sem, contS_seq, simprocAttr, rows_len, rows_get hx, rows_get hy, h1, hw, eqVs, eqV, eq_Pair]
    · repeat' (first | refine GifP.mk (fun _ => ?_) (fun _ => ?_) | refine Gif.mk (fun _ => ?_) (fun _ => ?_) | refine And.intro ?_ ?_)
      all_goals first
        | (refine ⟨a.length - (i + 1), _, by omega, ?_, i + 1, rfl, by omega, take_step hT hx hy (by first | assumption | (cases x; cases y; simp_all)), rfl⟩; exact Weak.less (by simp [lessL, lk]) (by simp [lessL, lk]) (by simp [lessL, lk]) rfl)
        | (simp only [retK, fullK, iterK, resD, resA, AOp.ex, St.ev, Option.map_some, Option.bind_some, St.get, lk, reduceIte, Nat.reduceEqDiff, Option.getD_some, oneD, List.getElem?_cons_zero, List.getElem?_cons_succ, List.drop_zero, List.drop_succ_cons, List.take_succ_cons, List.take_zero, List.length_cons, List.length_nil, Nat.zero_add, Nat.reduceAdd, Nat.le_refl, Nat.reduceLeDiff, D.pub, D.pubs, Tryz.results69]; exact ⟨_, rfl, rfl, res_no (fun e => by subst e; have hxy := Option.some.inj (hx.symm.trans hy); subst hxy; first | contradiction | simp_all)⟩)
  have h1 : ((i : Int) < (a.length : Int)) = False := eq_false (by omega)
  have hE := take_end hT (by omega) hlt
  clear hT hi hw
  simp only [go_sem, contS_seq, simprocAttr, rows_len, h1]
  clear h1 hlt i
  simp only [retK, fullK, iterK, resD, resA, AOp.ex, St.ev, Option.map_some, Option.bind_some, St.get, lk, reduceIte, Nat.reduceEqDiff, Option.getD_some, oneD, List.getElem?_cons_zero, List.getElem?_cons_succ, List.drop_zero, List.drop_succ_cons, List.take_succ_cons, List.take_zero, List.length_cons, List.length_nil, Nat.zero_add, Nat.reduceAdd, Nat.le_refl, Nat.reduceLeDiff, D.pub, D.pubs, Tryz.results69]
  exact ⟨_, rfl, rfl, res_yes hE⟩

set_option maxHeartbeats 2000000 in
theorem ref8_Same (a b : List ANeed) (ha : a.length ≤ 1000000) (hb : ∀ x ∈ a, x.vals.length ≤ 1000000) : Pure Tryz.prog 71 [.pd (.slice (rows ANeed.pd a)), .pd (.slice (rows ANeed.pd b))] (fun d => d = bln (decide (a = b))) := by
  refine pure_of_run follows an_zgrh4 Tryz.func71 rfl ok_zgrh4 dst_zgrh4 (by simp [Tryz.ntmps71]) ?_
  rw [run_start]
  simp only [ac_zgrh4, go_sem, contS_seq, simprocAttr, rows_len]
  refine GifP.mk (fun hl => ?_) (fun hl => ?_)
  rotate_left
  · simp only [retK, fullK, iterK, resD, resA, AOp.ex, St.ev, Option.map_some, Option.bind_some, St.get, lk, reduceIte, Nat.reduceEqDiff, Option.getD_some, oneD, List.getElem?_cons_zero, List.getElem?_cons_succ, List.drop_zero, List.drop_succ_cons, List.take_succ_cons, List.take_zero, List.length_cons, List.length_nil, Nat.zero_add, Nat.reduceAdd, Nat.le_refl, Nat.reduceLeDiff, D.pub, D.pubs, Tryz.results71]
    exact ⟨_, rfl, rfl, res_no (fun e => hl (by rw [e]))⟩
  have hL : a.length = b.length := by omega
  refine loopS (fun k st => ∃ i : Nat, k = a.length - i ∧ i ≤ a.length ∧ a.take i = b.take i ∧ st = ⟨[(0, .pd (.slice (rows ANeed.pd a))), (1, .pd (.slice (rows ANeed.pd b))), (5, int i)], [], [], .no⟩) a.length _ ?_ ⟨0, rfl, by omega, rfl, rfl⟩ ?_
  · exact Weak.less (by simp [lessL, lk]) (by simp [lessL, lk]) (by simp [lessL, lk]) rfl
  rintro k st ⟨i, rfl, hi, hT, rfl⟩
  have hw := i64_succ (show i < 1000000000 by omega)
  by_cases hlt : i < a.length
  · obtain ⟨x, hx⟩ := at_lt hlt
    obtain ⟨y, hy⟩ := at_lt (show i < b.length by omega)
    have h1 : ((i : Int) < (a.length : Int)) = True := eq_true (by omega)
    simp only [go_sem, contS_seq, simprocAttr, rows_len, rows_get hx, rows_get hy, h1, hw]
    · repeat' (first | refine GifP.mk (fun _ => ?_) (fun _ => ?_) | refine Gif.mk (fun _ => ?_) (fun _ => ?_) | (refine (ref1_Same x.vals y.vals (hb x (List.mem_of_getElem? hx))).callX (enters_of Tryz.func70 rfl rfl) _ rfl rfl ?_; rintro _ rfl; simp only [go_sem, contS_seq, simprocAttr, rows_len, rows_get hx, rows_get hy, hw]) | refine And.intro ?_ ?_)
      all_goals first
        | (refine ⟨a.length - (i + 1), _, by omega, ?_, i + 1, rfl, by omega, take_step hT hx hy (by first | assumption | (cases x; cases y; simp_all)), rfl⟩; exact Weak.less (by simp [lessL, lk]) (by simp [lessL, lk]) (by simp [lessL, lk]) rfl)
        | (simp only [retK, fullK, iterK, resD, resA, AOp.ex, St.ev, Option.map_some, Option.bind_some, St.get, lk, reduceIte, Nat.reduceEqDiff, Option.getD_some, oneD, List.getElem?_cons_zero, List.getElem?_cons_succ, List.drop_zero, List.drop_succ_cons, List.take_succ_cons, List.take_zero, List.length_cons, List.length_nil, Nat.zero_add, Nat.reduceAdd, Nat.le_refl, Nat.reduceLeDiff, D.pub, D.pubs, Tryz.results71]; exact ⟨_, rfl, rfl, res_no (fun e => by subst e; have hxy := Option.some.inj (hx.symm.trans hy); subst hxy; first | contradiction | simp_all)⟩)
  have h1 : ((i : Int) < (a.length : Int)) = False := eq_false (by omega)
  have hE := take_end hT (by omega) hlt
  clear hT hi hw
  simp only [go_sem, contS_seq, simprocAttr, rows_len, h1]
  clear h1 hlt i
  simp only [retK, fullK, iterK, resD, resA, AOp.ex, St.ev, Option.map_some, Option.bind_some, St.get, lk, reduceIte, Nat.reduceEqDiff, Option.getD_some, oneD, List.getElem?_cons_zero, List.getElem?_cons_succ, List.drop_zero, List.drop_succ_cons, List.take_succ_cons, List.take_zero, List.length_cons, List.length_nil, Nat.zero_add, Nat.reduceAdd, Nat.le_refl, Nat.reduceLeDiff, D.pub, D.pubs, Tryz.results71]
  exact ⟨_, rfl, rfl, res_yes hE⟩

theorem ref6_Same (a b : AMatch) (h1 : a.head.length ≤ 1000000) (h2 : a.query.length ≤ 1000000) : Pure Tryz.prog 103 [.agg [int a.pkind, str a.pval, str a.method, .pd (.slice (rows APair.pd a.head)), .pd (.slice (rows APair.pd a.query))], .agg [int b.pkind, str b.pval, str b.method, .pd (.slice (rows APair.pd b.head)), .pd (.slice (rows APair.pd b.query))]] (fun d => d = bln (decide (a = b))) := by
  refine pure_of_run follows an_zlug8 Tryz.func103 rfl ok_zlug8 dst_zlug8 (by simp [Tryz.ntmps103]) ?_
  rw [run_start]
  simp only [ac_zlug8, go_sem, contS_seq, simprocAttr, eqVs, eqV]
  (repeat' (first | (refine GifP.mk (fun _ => ?_) (fun _ => ?_)) | (refine Gif.mk (fun _ => ?_) (fun _ => ?_)) | ((first | refine (ref4_Same a.head b.head h1).callW (enters_of Tryz.func69 rfl rfl) _ rfl rfl ?_ | refine (ref4_Same a.query b.query h2).callW (enters_of Tryz.func69 rfl rfl) _ rfl rfl ?_); rintro _ rfl; try simp only [go_sem, contS_seq, simprocAttr, eqVs, eqV]))) <;> (simp only [retK, fullK, iterK, resD, resA, AOp.ex, St.ev, Option.map_some, Option.bind_some, St.get, lk, reduceIte, Nat.reduceEqDiff, Option.getD_some, oneD, List.getElem?_cons_zero, List.getElem?_cons_succ, List.drop_zero, List.drop_succ_cons, List.take_succ_cons, List.take_zero, List.length_cons, List.length_nil, Nat.zero_add, Nat.reduceAdd, Nat.le_refl, Nat.reduceLeDiff, D.pub, D.pubs, Tryz.results103]; exact ⟨_, rfl, rfl, congrArg bln (by cases a; cases b; rw [Bool.eq_iff_iff]; simp_all)⟩)

set_option maxHeartbeats 2000000 in
theorem ref9_SameRule (a b : ARule) (h1 : a.matches_.length ≤ 1000000) (h2 : a.filters.length ≤ 1000000) (h3 : a.backends.length ≤ 1000000) (h4 : ∀ m ∈ a.matches_, m.head.length ≤ 1000000 ∧ m.query.length ≤ 1000000) :
    Pure Tryz.prog 72 [.agg [.pd (.slice (rows AMatch.pd a.matches_)), .pd (.slice (rows AFilter.pd a.filters)), .pd (.slice (rows ABackend.pd a.backends))], .agg [.pd (.slice (rows AMatch.pd b.matches_)), .pd (.slice (rows AFilter.pd b.filters)), .pd (.slice (rows ABackend.pd b.backends))]] (fun d => d = bln (decide (a = b))) := by
  refine pure_of_run follows an_zt6t3 Tryz.func72 rfl ok_zt6t3 dst_zt6t3 (by simp [Tryz.ntmps72]) ?_
  rw [run_start]
  simp only [ac_zt6t3, go_sem, contS_seq, simprocAttr, rows_len]
  repeat' (refine GifP.mk (fun _ => ?_) (fun _ => ?_))
  all_goals first
    | (simp only [retK, fullK, iterK, resD, resA, AOp.ex, St.ev, Option.map_some, Option.bind_some, St.get, lk, reduceIte, Nat.reduceEqDiff, Option.getD_some, oneD, List.getElem?_cons_zero, List.getElem?_cons_succ, List.drop_zero, List.drop_succ_cons, List.take_succ_cons, List.take_zero, List.length_cons, List.length_nil, Nat.zero_add, Nat.reduceAdd, Nat.le_refl, Nat.reduceLeDiff, D.pub, D.pubs, Tryz.results72]; exact ⟨_, rfl, rfl, res_no (fun e => by subst e; contradiction)⟩)
    | skip
  refine loopS (fun k st => ∃ i : Nat, k = a.matches_.length - i ∧ i ≤ a.matches_.length ∧ a.matches_.take i = b.matches_.take i ∧ st = ⟨[(2, .ptr 2 0), (3, .ptr 3 0), (5, int i)], [(2, [.pd (.slice (rows AMatch.pd a.matches_)), .pd (.slice (rows AFilter.pd a.filters)), .pd (.slice (rows ABackend.pd a.backends))]), (3, [.pd (.slice (rows AMatch.pd b.matches_)), .pd (.slice (rows AFilter.pd b.filters)), .pd (.slice (rows ABackend.pd b.backends))])], [], .no⟩) a.matches_.length _ ?_ ⟨0, rfl, by omega, rfl, rfl⟩ ?_
  · exact Weak.less (by simp [lessL, lk]) (by simp [lessL, lk]) (by simp [lessL, lk]) rfl
  rintro k st ⟨i, rfl, hi, hT, rfl⟩
  have hw := i64_succ (show i < 1000000000 by omega)
  by_cases hlt : i < a.matches_.length
  · obtain ⟨x, hx⟩ := at_lt hlt
    obtain ⟨y, hy⟩ := at_lt (show i < b.matches_.length by omega)
    have h1 : ((i : Int) < (a.matches_.length : Int)) = True := eq_true (by omega)
    simp only [go_sem, contS_seq, simprocAttr, rows_len, rows_get hx, rows_get hy, h1, hw]
    · repeat' (first | refine GifP.mk (fun _ => ?_) (fun _ => ?_) | refine Gif.mk (fun _ => ?_) (fun _ => ?_) | (refine (ref6_Same x y (h4 x (List.mem_of_getElem? hx)).1 (h4 x (List.mem_of_getElem? hx)).2).callX (enters_of Tryz.func103 rfl rfl) _ rfl rfl ?_; rintro _ rfl; simp only [go_sem, contS_seq, simprocAttr, rows_len, rows_get hx, rows_get hy, hw]) | refine And.intro ?_ ?_)
      all_goals first
        | (refine ⟨a.matches_.length - (i + 1), _, by omega, ?_, i + 1, rfl, by omega, take_step hT hx hy (by first | assumption | (cases x; cases y; simp_all)), rfl⟩; exact Weak.less (by simp [lessL, lk]) (by simp [lessL, lk]) (by simp [lessL, lk]) rfl)
        | (simp only [retK, fullK, iterK, resD, resA, AOp.ex, St.ev, Option.map_some, Option.bind_some, St.get, lk, reduceIte, Nat.reduceEqDiff, Option.getD_some, oneD, List.getElem?_cons_zero, List.getElem?_cons_succ, List.drop_zero, List.drop_succ_cons, List.take_succ_cons, List.take_zero, List.length_cons, List.length_nil, Nat.zero_add, Nat.reduceAdd, Nat.le_refl, Nat.reduceLeDiff, D.pub, D.pubs, Tryz.results72]; exact ⟨_, rfl, rfl, res_no (fun e => by subst e; have hxy := Option.some.inj (hx.symm.trans hy); subst hxy; first | contradiction | simp_all)⟩)
  have h1 : ((i : Int) < (a.matches_.length : Int)) = False := eq_false (by omega)
  have hM := take_end hT (by omega) hlt
  clear hT hi hw
  simp only [go_sem, contS_seq, simprocAttr, rows_len, h1]
  clear h1 hlt i
  refine loopS (fun k st => ∃ i : Nat, k = a.filters.length - i ∧ i ≤ a.filters.length ∧ a.filters.take i = b.filters.take i ∧ st = ⟨[(2, .ptr 2 0), (3, .ptr 3 0), (6, int i)], [(2, [.pd (.slice (rows AMatch.pd a.matches_)), .pd (.slice (rows AFilter.pd a.filters)), .pd (.slice (rows ABackend.pd a.backends))]), (3, [.pd (.slice (rows AMatch.pd b.matches_)), .pd (.slice (rows AFilter.pd b.filters)), .pd (.slice (rows ABackend.pd b.backends))])], [], .no⟩) a.filters.length _ ?_ ⟨0, rfl, by omega, rfl, rfl⟩ ?_
  · exact Weak.less (by simp [lessL, lk]) (by simp [lessL, lk]) (by simp [lessL, lk]) rfl
  rintro k st ⟨i, rfl, hi, hT, rfl⟩
  have hw := i64_succ (show i < 1000000000 by omega)
  by_cases hlt : i < a.filters.length
  · obtain ⟨x, hx⟩ := at_lt hlt
    obtain ⟨y, hy⟩ := at_lt (show i < b.filters.length by omega)
    have h1 : ((i : Int) < (a.filters.length : Int)) = True := eq_true (by omega)
    simp only [go_sem, contS_seq, simprocAttr, rows_len, rows_get hx, rows_get hy, h1, hw, eqVs, eqV, eq_Filter]
    · repeat' (first | refine GifP.mk (fun _ => ?_) (fun _ => ?_) | refine Gif.mk (fun _ => ?_) (fun _ => ?_) | refine And.intro ?_ ?_)
      all_goals first
        | (refine ⟨a.filters.length - (i + 1), _, by omega, ?_, i + 1, rfl, by omega, take_step hT hx hy (by first | assumption | (cases x; cases y; simp_all)), rfl⟩; exact Weak.less (by simp [lessL, lk]) (by simp [lessL, lk]) (by simp [lessL, lk]) rfl)
        | (simp only [retK, fullK, iterK, resD, resA, AOp.ex, St.ev, Option.map_some, Option.bind_some, St.get, lk, reduceIte, Nat.reduceEqDiff, Option.getD_some, oneD, List.getElem?_cons_zero, List.getElem?_cons_succ, List.drop_zero, List.drop_succ_cons, List.take_succ_cons, List.take_zero, List.length_cons, List.length_nil, Nat.zero_add, Nat.reduceAdd, Nat.le_refl, Nat.reduceLeDiff, D.pub, D.pubs, Tryz.results72]; exact ⟨_, rfl, rfl, res_no (fun e => by subst e; have hxy := Option.some.inj (hx.symm.trans hy); subst hxy; first | contradiction | simp_all)⟩)
  have h1 : ((i : Int) < (a.filters.length : Int)) = False := eq_false (by omega)
  have hF := take_end hT (by omega) hlt
  clear hT hi hw
  simp only [go_sem, contS_seq, simprocAttr, rows_len, h1]
  clear h1 hlt i
  refine loopS (fun k st => ∃ i : Nat, k = a.backends.length - i ∧ i ≤ a.backends.length ∧ a.backends.take i = b.backends.take i ∧ st = ⟨[(2, .ptr 2 0), (3, .ptr 3 0), (7, int i)], [(2, [.pd (.slice (rows AMatch.pd a.matches_)), .pd (.slice (rows AFilter.pd a.filters)), .pd (.slice (rows ABackend.pd a.backends))]), (3, [.pd (.slice (rows AMatch.pd b.matches_)), .pd (.slice (rows AFilter.pd b.filters)), .pd (.slice (rows ABackend.pd b.backends))])], [], .no⟩) a.backends.length _ ?_ ⟨0, rfl, by omega, rfl, rfl⟩ ?_
  · exact Weak.less (by simp [lessL, lk]) (by simp [lessL, lk]) (by simp [lessL, lk]) rfl
  rintro k st ⟨i, rfl, hi, hT, rfl⟩
  have hw := i64_succ (show i < 1000000000 by omega)
  by_cases hlt : i < a.backends.length
  · obtain ⟨x, hx⟩ := at_lt hlt
    obtain ⟨y, hy⟩ := at_lt (show i < b.backends.length by omega)
    have h1 : ((i : Int) < (a.backends.length : Int)) = True := eq_true (by omega)
    simp only [go_sem, contS_seq, simprocAttr, rows_len, rows_get hx, rows_get hy, h1, hw, eqVs, eqV, eq_Backend]
    · repeat' (first | refine GifP.mk (fun _ => ?_) (fun _ => ?_) | refine Gif.mk (fun _ => ?_) (fun _ => ?_) | refine And.intro ?_ ?_)
      all_goals first
        | (refine ⟨a.backends.length - (i + 1), _, by omega, ?_, i + 1, rfl, by omega, take_step hT hx hy (by first | assumption | (cases x; cases y; simp_all)), rfl⟩; exact Weak.less (by simp [lessL, lk]) (by simp [lessL, lk]) (by simp [lessL, lk]) rfl)
        | (simp only [retK, fullK, iterK, resD, resA, AOp.ex, St.ev, Option.map_some, Option.bind_some, St.get, lk, reduceIte, Nat.reduceEqDiff, Option.getD_some, oneD, List.getElem?_cons_zero, List.getElem?_cons_succ, List.drop_zero, List.drop_succ_cons, List.take_succ_cons, List.take_zero, List.length_cons, List.length_nil, Nat.zero_add, Nat.reduceAdd, Nat.le_refl, Nat.reduceLeDiff, D.pub, D.pubs, Tryz.results72]; exact ⟨_, rfl, rfl, res_no (fun e => by subst e; have hxy := Option.some.inj (hx.symm.trans hy); subst hxy; first | contradiction | simp_all)⟩)
  have h1 : ((i : Int) < (a.backends.length : Int)) = False := eq_false (by omega)
  have hB := take_end hT (by omega) hlt
  clear hT hi hw
  simp only [go_sem, contS_seq, simprocAttr, rows_len, h1]
  clear h1 hlt i
  simp only [retK, fullK, iterK, resD, resA, AOp.ex, St.ev, Option.map_some, Option.bind_some, St.get, lk, reduceIte, Nat.reduceEqDiff, Option.getD_some, oneD, List.getElem?_cons_zero, List.getElem?_cons_succ, List.drop_zero, List.drop_succ_cons, List.take_succ_cons, List.take_zero, List.length_cons, List.length_nil, Nat.zero_add, Nat.reduceAdd, Nat.le_refl, Nat.reduceLeDiff, D.pub, D.pubs, Tryz.results72]
  exact ⟨_, rfl, rfl, res_yes (by cases a; cases b; simp_all)⟩

set_option maxHeartbeats 8000000 in
theorem ref9_Same (a b : AObj) (ha : a.ok) : Pure Tryz.prog 26 [a.d, b.d] (fun d => d = bln (decide (a = b))) := by
  have hla := ha.la
  have hpo := ha.po
  have hli := ha.li
  have hpa := ha.pa
  have hho := ha.ho
  have hru := ha.ru
  have hfr := ha.fr
  have hto := ha.to
  refine pure_of_run follows an_zwcd Tryz.func26 rfl ok_zwcd dst_zwcd (by simp [Tryz.ntmps26]) ?_
  rw [run_start]
  simp only [ac_zwcd, go_sem, contS_seq, simprocAttr, rows_len, eqVs, eqV, eq_Ref]
  repeat' (first | refine GifP.mk (fun _ => ?_) (fun _ => ?_) | refine Gif.mk (fun _ => ?_) (fun _ => ?_) | (refine (ref4_Same a.labels b.labels hla).callW (enters_of Tryz.func69 rfl rfl) _ rfl rfl ?_; rintro _ rfl; simp only [go_sem, contS_seq, simprocAttr, rows_len]) | (refine (ref1_Same a.hosts b.hosts hho).callW (enters_of Tryz.func70 rfl rfl) _ rfl rfl ?_; rintro _ rfl; simp only [go_sem, contS_seq, simprocAttr, rows_len]))
  all_goals first
    | (simp only [retK, fullK, iterK, resD, resA, AOp.ex, St.ev, Option.map_some, Option.bind_some, St.get, lk, reduceIte, Nat.reduceEqDiff, Option.getD_some, oneD, List.getElem?_cons_zero, List.getElem?_cons_succ, List.drop_zero, List.drop_succ_cons, List.take_succ_cons, List.take_zero, List.length_cons, List.length_nil, Nat.zero_add, Nat.reduceAdd, Nat.le_refl, Nat.reduceLeDiff, D.pub, D.pubs, Tryz.results26]; exact ⟨_, rfl, rfl, res_no (fun e => by subst e; first | contradiction | simp_all)⟩)
    | skip
  refine loopS (fun k st => ∃ i : Nat, k = a.ports.length - i ∧ i ≤ a.ports.length ∧ a.ports.take i = b.ports.take i ∧ st = ⟨[(2, .ptr 2 0), (3, .ptr 3 0), (5, int i)], [(2, a.ds), (3, b.ds)], [], .no⟩) a.ports.length _ ?_ ⟨0, rfl, by omega, rfl, rfl⟩ ?_
  · exact Weak.less (by simp [lessL, lk]) (by simp [lessL, lk]) (by simp [lessL, lk]) rfl
  rintro k st ⟨i, rfl, hi, hT, rfl⟩
  have hw := i64_succ (show i < 1000000000 by omega)
  by_cases hlt : i < a.ports.length
  · obtain ⟨x, hx⟩ := at_lt hlt
    obtain ⟨y, hy⟩ := at_lt (show i < b.ports.length by omega)
    have h1 : ((i : Int) < (a.ports.length : Int)) = True := eq_true (by omega)
    simp only [go_sem, contS_seq, simprocAttr, rows_len, rows_get hx, rows_get hy, h1, hw]
    · repeat' (first | refine GifP.mk (fun _ => ?_) (fun _ => ?_) | refine Gif.mk (fun _ => ?_) (fun _ => ?_) | refine And.intro ?_ ?_)
      all_goals first
        | (refine ⟨a.ports.length - (i + 1), _, by omega, ?_, i + 1, rfl, by omega, take_step hT hx hy (by first | assumption | (cases x; cases y; simp_all)), rfl⟩; exact Weak.less (by simp [lessL, lk]) (by simp [lessL, lk]) (by simp [lessL, lk]) rfl)
        | (simp only [retK, fullK, iterK, resD, resA, AOp.ex, St.ev, Option.map_some, Option.bind_some, St.get, lk, reduceIte, Nat.reduceEqDiff, Option.getD_some, oneD, List.getElem?_cons_zero, List.getElem?_cons_succ, List.drop_zero, List.drop_succ_cons, List.take_succ_cons, List.take_zero, List.length_cons, List.length_nil, Nat.zero_add, Nat.reduceAdd, Nat.le_refl, Nat.reduceLeDiff, D.pub, D.pubs, Tryz.results26]; exact ⟨_, rfl, rfl, res_no (fun e => by subst e; have hxy := Option.some.inj (hx.symm.trans hy); subst hxy; first | contradiction | simp_all)⟩)
  have h1 : ((i : Int) < (a.ports.length : Int)) = False := eq_false (by omega)
  have hE1 := take_end hT (by omega) hlt
  clear hT hi hw
  simp only [go_sem, contS_seq, simprocAttr, rows_len, h1]
  clear h1 hlt i
  refine loopS (fun k st => ∃ i : Nat, k = a.listeners.length - i ∧ i ≤ a.listeners.length ∧ a.listeners.take i = b.listeners.take i ∧ st = ⟨[(2, .ptr 2 0), (3, .ptr 3 0), (6, int i)], [(2, a.ds), (3, b.ds)], [], .no⟩) a.listeners.length _ ?_ ⟨0, rfl, by omega, rfl, rfl⟩ ?_
  · exact Weak.less (by simp [lessL, lk]) (by simp [lessL, lk]) (by simp [lessL, lk]) rfl
  rintro k st ⟨i, rfl, hi, hT, rfl⟩
  have hw := i64_succ (show i < 1000000000 by omega)
  by_cases hlt : i < a.listeners.length
  · obtain ⟨x, hx⟩ := at_lt hlt
    obtain ⟨y, hy⟩ := at_lt (show i < b.listeners.length by omega)
    have h1 : ((i : Int) < (a.listeners.length : Int)) = True := eq_true (by omega)
    simp only [go_sem, contS_seq, simprocAttr, rows_len, rows_get hx, rows_get hy, h1, hw, eqVs, eqV, eq_Ref]
    · repeat' (first | refine GifP.mk (fun _ => ?_) (fun _ => ?_) | refine Gif.mk (fun _ => ?_) (fun _ => ?_) | (refine (ref8_Same x.needs y.needs (ha.lis x (List.mem_of_getElem? hx)).nl (fun n hn => ((ha.lis x (List.mem_of_getElem? hx)).n n hn))).callW (enters_of Tryz.func71 rfl rfl) _ rfl rfl ?_; rintro _ rfl; simp only [go_sem, contS_seq, simprocAttr, rows_len, rows_get hx, rows_get hy, hw, eqVs, eqV, eq_Ref]) | refine And.intro ?_ ?_)
      all_goals first
        | (refine ⟨a.listeners.length - (i + 1), _, by omega, ?_, i + 1, rfl, by omega, take_step hT hx hy (by first | assumption | (cases x; cases y; simp_all)), rfl⟩; exact Weak.less (by simp [lessL, lk]) (by simp [lessL, lk]) (by simp [lessL, lk]) rfl)
        | (simp only [retK, fullK, iterK, resD, resA, AOp.ex, St.ev, Option.map_some, Option.bind_some, St.get, lk, reduceIte, Nat.reduceEqDiff, Option.getD_some, oneD, List.getElem?_cons_zero, List.getElem?_cons_succ, List.drop_zero, List.drop_succ_cons, List.take_succ_cons, List.take_zero, List.length_cons, List.length_nil, Nat.zero_add, Nat.reduceAdd, Nat.le_refl, Nat.reduceLeDiff, D.pub, D.pubs, Tryz.results26]; exact ⟨_, rfl, rfl, res_no (fun e => by subst e; have hxy := Option.some.inj (hx.symm.trans hy); subst hxy; first | contradiction | simp_all)⟩)
  have h1 : ((i : Int) < (a.listeners.length : Int)) = False := eq_false (by omega)
  have hE2 := take_end hT (by omega) hlt
  clear hT hi hw
  simp only [go_sem, contS_seq, simprocAttr, rows_len, h1]
  clear h1 hlt i
  refine loopS (fun k st => ∃ i : Nat, k = a.parents.length - i ∧ i ≤ a.parents.length ∧ a.parents.take i = b.parents.take i ∧ st = ⟨[(2, .ptr 2 0), (3, .ptr 3 0), (9, int i)], [(2, a.ds), (3, b.ds)], [], .no⟩) a.parents.length _ ?_ ⟨0, rfl, by omega, rfl, rfl⟩ ?_
  · exact Weak.less (by simp [lessL, lk]) (by simp [lessL, lk]) (by simp [lessL, lk]) rfl
  rintro k st ⟨i, rfl, hi, hT, rfl⟩
  have hw := i64_succ (show i < 1000000000 by omega)
  by_cases hlt : i < a.parents.length
  · obtain ⟨x, hx⟩ := at_lt hlt
    obtain ⟨y, hy⟩ := at_lt (show i < b.parents.length by omega)
    have h1 : ((i : Int) < (a.parents.length : Int)) = True := eq_true (by omega)
    simp only [go_sem, contS_seq, simprocAttr, rows_len, rows_get hx, rows_get hy, h1, hw, eqVs, eqV, eq_Parent]
    · repeat' (first | refine GifP.mk (fun _ => ?_) (fun _ => ?_) | refine Gif.mk (fun _ => ?_) (fun _ => ?_) | refine And.intro ?_ ?_)
      all_goals first
        | (refine ⟨a.parents.length - (i + 1), _, by omega, ?_, i + 1, rfl, by omega, take_step hT hx hy (by first | assumption | (cases x; cases y; simp_all)), rfl⟩; exact Weak.less (by simp [lessL, lk]) (by simp [lessL, lk]) (by simp [lessL, lk]) rfl)
        | (simp only [retK, fullK, iterK, resD, resA, AOp.ex, St.ev, Option.map_some, Option.bind_some, St.get, lk, reduceIte, Nat.reduceEqDiff, Option.getD_some, oneD, List.getElem?_cons_zero, List.getElem?_cons_succ, List.drop_zero, List.drop_succ_cons, List.take_succ_cons, List.take_zero, List.length_cons, List.length_nil, Nat.zero_add, Nat.reduceAdd, Nat.le_refl, Nat.reduceLeDiff, D.pub, D.pubs, Tryz.results26]; exact ⟨_, rfl, rfl, res_no (fun e => by subst e; have hxy := Option.some.inj (hx.symm.trans hy); subst hxy; first | contradiction | simp_all)⟩)
  have h1 : ((i : Int) < (a.parents.length : Int)) = False := eq_false (by omega)
  have hE3 := take_end hT (by omega) hlt
  clear hT hi hw
  simp only [go_sem, contS_seq, simprocAttr, rows_len, h1]
  clear h1 hlt i
  refine loopS (fun k st => ∃ i : Nat, k = a.from_.length - i ∧ i ≤ a.from_.length ∧ a.from_.take i = b.from_.take i ∧ st = ⟨[(2, .ptr 2 0), (3, .ptr 3 0), (10, int i)], [(2, a.ds), (3, b.ds)], [], .no⟩) a.from_.length _ ?_ ⟨0, rfl, by omega, rfl, rfl⟩ ?_
  · exact Weak.less (by simp [lessL, lk]) (by simp [lessL, lk]) (by simp [lessL, lk]) rfl
  rintro k st ⟨i, rfl, hi, hT, rfl⟩
  have hw := i64_succ (show i < 1000000000 by omega)
  by_cases hlt : i < a.from_.length
  · obtain ⟨x, hx⟩ := at_lt hlt
    obtain ⟨y, hy⟩ := at_lt (show i < b.from_.length by omega)
    have h1 : ((i : Int) < (a.from_.length : Int)) = True := eq_true (by omega)
    simp only [go_sem, contS_seq, simprocAttr, rows_len, rows_get hx, rows_get hy, h1, hw, eqVs, eqV, eq_Side]
    · repeat' (first | refine GifP.mk (fun _ => ?_) (fun _ => ?_) | refine Gif.mk (fun _ => ?_) (fun _ => ?_) | refine And.intro ?_ ?_)
      all_goals first
        | (refine ⟨a.from_.length - (i + 1), _, by omega, ?_, i + 1, rfl, by omega, take_step hT hx hy (by first | assumption | (cases x; cases y; simp_all)), rfl⟩; exact Weak.less (by simp [lessL, lk]) (by simp [lessL, lk]) (by simp [lessL, lk]) rfl)
        | (simp only [retK, fullK, iterK, resD, resA, AOp.ex, St.ev, Option.map_some, Option.bind_some, St.get, lk, reduceIte, Nat.reduceEqDiff, Option.getD_some, oneD, List.getElem?_cons_zero, List.getElem?_cons_succ, List.drop_zero, List.drop_succ_cons, List.take_succ_cons, List.take_zero, List.length_cons, List.length_nil, Nat.zero_add, Nat.reduceAdd, Nat.le_refl, Nat.reduceLeDiff, D.pub, D.pubs, Tryz.results26]; exact ⟨_, rfl, rfl, res_no (fun e => by subst e; have hxy := Option.some.inj (hx.symm.trans hy); subst hxy; first | contradiction | simp_all)⟩)
  have h1 : ((i : Int) < (a.from_.length : Int)) = False := eq_false (by omega)
  have hE4 := take_end hT (by omega) hlt
  clear hT hi hw
  simp only [go_sem, contS_seq, simprocAttr, rows_len, h1]
  clear h1 hlt i
  refine loopS (fun k st => ∃ i : Nat, k = a.to_.length - i ∧ i ≤ a.to_.length ∧ a.to_.take i = b.to_.take i ∧ st = ⟨[(2, .ptr 2 0), (3, .ptr 3 0), (11, int i)], [(2, a.ds), (3, b.ds)], [], .no⟩) a.to_.length _ ?_ ⟨0, rfl, by omega, rfl, rfl⟩ ?_
  · exact Weak.less (by simp [lessL, lk]) (by simp [lessL, lk]) (by simp [lessL, lk]) rfl
  rintro k st ⟨i, rfl, hi, hT, rfl⟩
  have hw := i64_succ (show i < 1000000000 by omega)
  by_cases hlt : i < a.to_.length
  · obtain ⟨x, hx⟩ := at_lt hlt
    obtain ⟨y, hy⟩ := at_lt (show i < b.to_.length by omega)
    have h1 : ((i : Int) < (a.to_.length : Int)) = True := eq_true (by omega)
    simp only [go_sem, contS_seq, simprocAttr, rows_len, rows_get hx, rows_get hy, h1, hw, eqVs, eqV, eq_Side]
    · repeat' (first | refine GifP.mk (fun _ => ?_) (fun _ => ?_) | refine Gif.mk (fun _ => ?_) (fun _ => ?_) | refine And.intro ?_ ?_)
      all_goals first
        | (refine ⟨a.to_.length - (i + 1), _, by omega, ?_, i + 1, rfl, by omega, take_step hT hx hy (by first | assumption | (cases x; cases y; simp_all)), rfl⟩; exact Weak.less (by simp [lessL, lk]) (by simp [lessL, lk]) (by simp [lessL, lk]) rfl)
        | (simp only [retK, fullK, iterK, resD, resA, AOp.ex, St.ev, Option.map_some, Option.bind_some, St.get, lk, reduceIte, Nat.reduceEqDiff, Option.getD_some, oneD, List.getElem?_cons_zero, List.getElem?_cons_succ, List.drop_zero, List.drop_succ_cons, List.take_succ_cons, List.take_zero, List.length_cons, List.length_nil, Nat.zero_add, Nat.reduceAdd, Nat.le_refl, Nat.reduceLeDiff, D.pub, D.pubs, Tryz.results26]; exact ⟨_, rfl, rfl, res_no (fun e => by subst e; have hxy := Option.some.inj (hx.symm.trans hy); subst hxy; first | contradiction | simp_all)⟩)
  have h1 : ((i : Int) < (a.to_.length : Int)) = False := eq_false (by omega)
  have hE5 := take_end hT (by omega) hlt
  clear hT hi hw
  simp only [go_sem, contS_seq, simprocAttr, rows_len, h1]
  clear h1 hlt i
  refine loopS (fun k st => ∃ i : Nat, k = a.rules.length - i ∧ i ≤ a.rules.length ∧ a.rules.take i = b.rules.take i ∧ st = ⟨[(2, .ptr 2 0), (3, .ptr 3 0), (12, int i)], [(2, a.ds), (3, b.ds)], [], .no⟩) a.rules.length _ ?_ ⟨0, rfl, by omega, rfl, rfl⟩ ?_
  · exact Weak.less (by simp [lessL, lk]) (by simp [lessL, lk]) (by simp [lessL, lk]) rfl
  rintro k st ⟨i, rfl, hi, hT, rfl⟩
  have hw := i64_succ (show i < 1000000000 by omega)
  by_cases hlt : i < a.rules.length
  · obtain ⟨x, hx⟩ := at_lt hlt
    obtain ⟨y, hy⟩ := at_lt (show i < b.rules.length by omega)
    have h1 : ((i : Int) < (a.rules.length : Int)) = True := eq_true (by omega)
    simp only [go_sem, contS_seq, simprocAttr, rows_len, rows_get hx, rows_get hy, h1, hw]
    · repeat' (first | refine GifP.mk (fun _ => ?_) (fun _ => ?_) | refine Gif.mk (fun _ => ?_) (fun _ => ?_) | (refine (ref9_SameRule x y (ha.rus x (List.mem_of_getElem? hx)).ml (ha.rus x (List.mem_of_getElem? hx)).fl (ha.rus x (List.mem_of_getElem? hx)).bl (fun m hm => ⟨((ha.rus x (List.mem_of_getElem? hx)).m m hm).hl, ((ha.rus x (List.mem_of_getElem? hx)).m m hm).ql⟩)).callX (enters_of Tryz.func72 rfl rfl) _ rfl rfl ?_; rintro _ rfl; simp only [go_sem, contS_seq, simprocAttr, rows_len, rows_get hx, rows_get hy, hw]) | refine And.intro ?_ ?_)
      all_goals first
        | (refine ⟨a.rules.length - (i + 1), _, by omega, ?_, i + 1, rfl, by omega, take_step hT hx hy (by first | assumption | (cases x; cases y; simp_all)), rfl⟩; exact Weak.less (by simp [lessL, lk]) (by simp [lessL, lk]) (by simp [lessL, lk]) rfl)
        | (simp only [retK, fullK, iterK, resD, resA, AOp.ex, St.ev, Option.map_some, Option.bind_some, St.get, lk, reduceIte, Nat.reduceEqDiff, Option.getD_some, oneD, List.getElem?_cons_zero, List.getElem?_cons_succ, List.drop_zero, List.drop_succ_cons, List.take_succ_cons, List.take_zero, List.length_cons, List.length_nil, Nat.zero_add, Nat.reduceAdd, Nat.le_refl, Nat.reduceLeDiff, D.pub, D.pubs, Tryz.results26]; exact ⟨_, rfl, rfl, res_no (fun e => by subst e; have hxy := Option.some.inj (hx.symm.trans hy); subst hxy; first | contradiction | simp_all)⟩)
  have h1 : ((i : Int) < (a.rules.length : Int)) = False := eq_false (by omega)
  have hE6 := take_end hT (by omega) hlt
  clear hT hi hw
  simp only [go_sem, contS_seq, simprocAttr, rows_len, h1]
  clear h1 hlt i
  simp only [retK, fullK, iterK, resD, resA, AOp.ex, St.ev, Option.map_some, Option.bind_some, St.get, lk, reduceIte, Nat.reduceEqDiff, Option.getD_some, oneD, List.getElem?_cons_zero, List.getElem?_cons_succ, List.drop_zero, List.drop_succ_cons, List.take_succ_cons, List.take_zero, List.length_cons, List.length_nil, Nat.zero_add, Nat.reduceAdd, Nat.le_refl, Nat.reduceLeDiff, D.pub, D.pubs, Tryz.results26]
  exact ⟨_, rfl, rfl, res_yes (by cases a; cases b; simp_all)⟩


theorem foundD_eq (f : Option AObj) : foundD f = .tup [(f.getD (AObj.zero ref0)).d, bln f.isSome] := by cases f <;> rfl

theorem found_first {os : List AObj} {r : ARef} {i : Nat} {x : AObj} (hx : os[i]? = some x) (hr : x.ref = r) (hb : (os.take i).any (isRef r) = false) : found os r = some x := by
  unfold found
  rw [← List.take_append_drop i os, List.find?_append, drop_at hx, List.find?_cons]
  rw [List.find?_eq_none.2 (fun y hy => by have := List.any_eq_false.1 hb y hy; simpa using this)]
  rw [show isRef r x = true by simp [isRef, hr]]
  rfl

theorem found_any (os : List AObj) (r : ARef) : (found os r).isSome = os.any (isRef r) := by
  unfold found
  rw [Bool.eq_iff_iff, List.find?_isSome, List.any_eq_true]

theorem found_less (os : List AObj) (r : ARef) : found (os.filter fun o => !isRef r o) r = none := by
  unfold found
  rw [List.find?_eq_none]
  intro o h
  have := (List.mem_filter.1 h).2
  simpa using this

theorem near_kind (r : ARef) (s : ByteArray) : (near r s).kind = r.kind := by unfold near; split <;> rfl
theorem near_name (r : ARef) (s : ByteArray) : (near r s).name = r.name := by unfold near; split <;> rfl
theorem near_ne {r : ARef} {s : ByteArray} (h : ¬ near r s = r) : r.space = ⟨#[]⟩ := by
  unfold near at h
  split at h
  · rename_i h1; exact h1.1
  · exact absurd rfl h
theorem near_eq {r : ARef} {s : ByteArray} (h : ¬ r.space = ⟨#[]⟩) : near r s = r := by
  unfold near
  rw [if_neg (fun e => h e.1)]

set_option maxHeartbeats 4000000 in
theorem law_GrantFinds (l : List AObj) (r : ARef) (s : ByteArray) : Pure Tryz.prog 7 [.pd (.slice (rows AObj.pd l)), r.d, str s] (fun d => d = bln true) := by
  refine pure_of_run follows an_z8ehi Tryz.func7 rfl ok_z8ehi dst_z8ehi (by simp [Tryz.ntmps7]) ?_
  rw [run_start]
  simp only [ac_z8ehi]
  apply run_cut
  · intro K' hK
    simp only [go_sem, contS_seq, simprocAttr]
    exact hK
  apply run_cut
  · intro K' hK
    simp only [go_sem, contS_seq, simprocAttr]
    repeat' (first | exact hK | (refine (law11_Some l).callX (enters_of Tryz.func16 rfl rfl) _ rfl rfl ?_; rintro _ rfl; simp only [go_sem, contS_seq, simprocAttr]) | (refine (law9_FewRef r).callX (enters_of Tryz.func21 rfl rfl) _ rfl rfl ?_; rintro _ rfl; simp only [go_sem, contS_seq, simprocAttr]) | (refine (law1_Few s).callX (enters_of Tryz.func22 rfl rfl) _ rfl rfl ?_; rintro _ rfl; simp only [go_sem, contS_seq, simprocAttr]) | refine And.intro ?_ ?_)
  have hos : (fewObjs l).length ≤ 1000 := Nat.le_trans (fewObjs_len l) (by omega)
  have ho := fewObjs_ok (l := l)
  generalize fewObjs l = os at hos ho ⊢
  generalize fewRef r = r
  generalize few s = s
  have hz : ∀ (i : Nat) (x : AObj), os[i]? = some x → x.ref = r → (os.take i).any (isRef r) = false → (found os r).isSome = true ∧ (found os r).getD (AObj.zero ref0) = x := fun i x hx hr hb => by
    rw [found_first hx hr hb]; exact ⟨rfl, rfl⟩
  have ha := found_any os r
  have c1 := grant_Find os (by omega) r
  rw [foundD_eq] at c1
  generalize (found os r).isSome = isb at hz ha c1
  generalize (found os r).getD (AObj.zero ref0) = z at hz c1
  simp only [go_sem, contS_seq, simprocAttr]
  refine c1.callW (enters_of Tryz.func25 rfl rfl) _ rfl rfl ?_
  rintro _ rfl
  simp only [go_sem, contS_seq, simprocAttr]
  refine loopS (fun k st => ∃ i : Nat, k = os.length - i ∧ i ≤ os.length ∧
    st = ⟨[(0, .pd (.slice (rows AObj.pd os))), (2, str s), (4, .ptr 4 0), (7, .ptr 7 0), (8, bln isb), (9, .own 39 13 (rows AObj.pd ((os.take i).filter fun o => !isRef r o)) 46), (10, bln (!(os.take i).any (isRef r))), (11, int i)],
      [(4, [int r.kind, str r.space, str r.name]), (7, z.ds)], [], .no⟩) os.length _ ?_ ⟨0, rfl, by omega, rfl⟩ ?_
  · exact Weak.own1 9 46 39 13 (by kernel_rfl) (by decide) rfl (by simp [lessL, lk, St.purge, St.put, D.purge, rows]) (by simp [lessL, lk, St.purge, D.purges, D.purge]) (by simp [lessL]) rfl
  rintro k st ⟨i, rfl, hi, rfl⟩
  by_cases hlt : i < os.length
  · obtain ⟨x, hx⟩ := at_lt hlt
    have h1 : ((i : Int) < (os.length : Int)) = True := eq_true (by omega)
    have hw := i64_succ (show i < 1000000000 by omega)
    have hf := filter_step (p := fun o => !isRef r o) hx
    have hany := any_step (f := isRef r) hx
    have hl' : ((os.take i).filter fun o => !isRef r o).length ≤ i := Nat.le_trans (List.length_filter_le _ _) (by simp; omega)
    simp only [go_sem, contS_seq, simprocAttr, rows_len, rows_get hx, h1, hw, eqVs, eqV, eq_Ref]
    refine GifP.mk (fun hr => ?_) (fun hr => ?_)
    · have e : isRef r x = true := by simp [isRef, hr]
      rw [e, Bool.or_true] at hany
      simp only [e, Bool.not_true, Bool.false_eq_true, if_false, List.append_nil] at hf
      cases hfi : (os.take i).any (isRef r)
      · obtain ⟨rfl, rfl⟩ := hz i x hx hr hfi
        simp only [go_sem, contS_seq, simprocAttr, rows_len, rows_get hx]
        refine (ref9_Same z z (ho z (List.mem_of_getElem? hx))).callX (enters_of Tryz.func26 rfl rfl) _ rfl rfl ?_
        rintro _ rfl
        simp only [go_sem, contS_seq, simprocAttr, hw]
        refine ⟨os.length - (i + 1), _, by omega, ?_, i + 1, rfl, by omega, rfl⟩
        rw [hany, hf]
        exact Weak.less (by simp [lessL, lk]) (by simp [lessL, lk]) (by simp [lessL, lk]) rfl
      · simp only [go_sem, contS_seq, simprocAttr, rows_len, rows_get hx, hw]
        refine ⟨os.length - (i + 1), _, by omega, ?_, i + 1, rfl, by omega, rfl⟩
        rw [hany, hf]
        exact Weak.less (by simp [lessL, lk]) (by simp [lessL, lk]) (by simp [lessL, lk]) rfl
    · have e : isRef r x = false := by simp [isRef, hr]
      rw [e, Bool.or_false] at hany
      simp only [e, Bool.not_false, if_true] at hf
      rw [rows_one _ x, ← hf]
      refine ⟨by simp, by unfold maxLen; omega, by omega, os.length - (i + 1), _, by omega, ?_, i + 1, rfl, by omega, rfl⟩
      rw [hany]
      exact Weak.less (by simp [lessL, lk]) (by simp [lessL, lk]) (by simp [lessL, lk]) rfl
  · have h1 : ((i : Int) < (os.length : Int)) = False := eq_false (by omega)
    rw [List.take_of_length_le (by omega)]
    simp only [go_sem, contS_seq, simprocAttr, rows_len, h1]
    have c2 := grant_Find (os.filter fun o => !isRef r o) (Nat.le_trans (List.length_filter_le _ _) (by omega)) r
    rw [found_less, foundD_eq] at c2
    refine c2.callW (enters_of Tryz.func25 rfl rfl) _ rfl rfl ?_
    rintro _ rfl
    simp only [go_sem, contS_seq, simprocAttr]
    refine (grant_Near r s).callW (enters_of Tryz.func27 rfl rfl) _ rfl rfl ?_
    rintro _ rfl
    have hk := near_kind r s
    have hn := near_name r s
    have he := near_eq (r := r) (s := s)
    generalize near r s = n at hk hn he
    obtain ⟨nk, ns, nn⟩ := n
    simp only at hk hn
    subst hk
    subst hn
    rw [← ha]
    have c3 := grant_Near ⟨r.kind, ns, r.name⟩ ⟨#[111, 116, 104, 101, 114]⟩
    have hne : ¬ near ⟨r.kind, ns, r.name⟩ ⟨#[111, 116, 104, 101, 114]⟩ = ⟨r.kind, ns, r.name⟩ → ns = ⟨#[]⟩ := near_ne
    have he' : ¬ r.space = ⟨#[]⟩ → ns = r.space := fun h => congrArg ARef.space (he h)
    generalize near ⟨r.kind, ns, r.name⟩ ⟨#[111, 116, 104, 101, 114]⟩ = m at c3 hne
    cases isb
    all_goals
      simp only [go_sem, contS_seq, simprocAttr, beq_tt]
      refine c3.callX (enters_of Tryz.func27 rfl rfl) _ rfl rfl ?_
      rintro _ rfl
      simp only [go_sem, contS_seq, simprocAttr, eqVs, eqV, eq_Ref]
      repeat' (first | refine GifP.mk (fun _ => ?_) (fun _ => ?_) | refine Gif.mk (fun _ => ?_) (fun _ => ?_) | (refine awake11.callW (enters_of Tryz.func19 rfl rfl) _ rfl rfl ?_; rintro _ rfl; simp only [go_sem, contS_seq, simprocAttr]))
    all_goals first
      | (simp only [retK, fullK, iterK, resD, resA, AOp.ex, St.ev, Option.map_some, Option.bind_some, St.get, lk, reduceIte, Nat.reduceEqDiff, Option.getD_some, oneD, List.getElem?_cons_zero, List.getElem?_cons_succ, List.drop_zero, List.drop_succ_cons, List.take_succ_cons, List.take_zero, List.length_cons, List.length_nil, Nat.zero_add, Nat.reduceAdd, Nat.le_refl, Nat.reduceLeDiff, D.pub, D.pubs, Tryz.results7]; exact ⟨_, rfl, rfl, rfl⟩)
      | (exfalso; exact (by assumption : ¬ ns = r.space) (he' (by assumption)))
      | (exfalso; exact (by assumption : ¬ ns = ⟨#[]⟩) (hne (fun e => by clear hz c1 c2 c3 ha; subst e; simp_all)))

end Go.Proofs.YtjhomppadppfnaaGreatDoor
