/- Texts of the prover's, joined: IF M1 DD N1 N2 N4 N5 N6 N3 JK M2 N7 JA JB N8 E7 D6 FF FH FI DB J1 N9 O1. -/
import Derived.Test.YtcnhcamimcpinaaGreatDoorVI5
import Derived.Test.YtcnhcamimcpinaaGreatDoorProg
import Derived.KernelRfl
import Derived.Lib.DecodeN
import Derived.Lib.IndexLaws

namespace Go.Proofs.YtcnhcamimcpinaaGreatDoor
open Go Go.RowKit
set_option linter.unusedSimpArgs false
set_option linter.unusedVariables false
set_option maxRecDepth 100000

def goodAt (os : List AObj) (r : ARef) : Bool := match found os r with
 | some o => objMay o && o.good
 | none => false

theorem listen_good (os : List AObj) (hos : os.length ≤ 1000000) (h : ∀ o ∈ os, o.ok) (r : ARef) : Pure Tryz.prog 60 [.pd (.slice (rows AObj.pd os)), r.d] (fun d => d = bln (goodAt os r)) := by
 refine pure_of_run follows an_zb5tb Tryz.func60 rfl ok_zb5tb.1 ok_zb5tb.2 (by simp [Tryz.ntmps60]) ?_
 rw [run_start]
 simp only [ac_zb5tb, go_sem, contS_seq, simprocAttr]
 refine (grant_Find os hos r).callW (enters_of Tryz.func30 rfl rfl) _ rfl rfl ?_
 rintro _ rfl
 unfold goodAt
 rcases hf : found os r with _ | o
 ·simp only [foundD, go_sem, contS_seq, simprocAttr]
  simp only [retK, resD, retL, oneD, simprocAttr, Tryz.results60]
  exact ⟨_, rfl, rfl, rfl⟩
 ·simp only [foundD, go_sem, contS_seq, simprocAttr]
  refine (object_May o (h o (List.mem_of_find?_eq_some hf))).callW (enters_of Tryz.func29 rfl rfl) _ rfl rfl ?_
  rintro _ rfl
  simp only [go_sem, contS_seq, simprocAttr]
  cases objMay o
  all_goals
   simp only [go_sem, contS_seq, simprocAttr]
   simp only [retK, resD, retL, oneD, simprocAttr, Tryz.results60]
   exact ⟨_, rfl, rfl, rfl⟩

def gwOk (g : AObj) : Bool := decide (g.ref.kind = 5) && objMay g

theorem listen_gateway (g : AObj) (h : g.ok) : Pure Tryz.prog 59 [g.d] (fun d => d = bln (gwOk g)) := by
 refine pure_of_run follows an_zjbl5 Tryz.func59 rfl ok_zjbl5.1 ok_zjbl5.2 (by simp [Tryz.ntmps59]) ?_
 rw [run_start]
 simp only [ac_zjbl5, go_sem, contS_seq, simprocAttr]
 (repeat' (first | (refine GifP.mk (fun _ => ?_) (fun _ => ?_)) | (refine Gif.mk (fun _ => ?_) (fun _ => ?_)) | (refine (object_May g h).callW (enters_of Tryz.func29 rfl rfl) _ rfl rfl ?_; rintro _ rfl; try simp only [go_sem, contS_seq, simprocAttr]))) <;> (simp only [retK, resD, retL, oneD, simprocAttr, Tryz.results59]; exact ⟨_, rfl, rfl, congrArg bln (by first | rfl | (rw [Bool.eq_iff_iff]; simp only [gwOk]; (first | (simp; done) | (simp; omega) | (simp [*]; done) | (simp [*]; omega))) | (simp_all [gwOk]; done) | (exfalso; omega))⟩)

def ours (os : List AObj) (g : AObj) : Bool := gwOk g && goodAt os ⟨1, ⟨#[]⟩, g.cls⟩

theorem listen_Ours (os : List AObj) (hos : os.length ≤ 1000000) (h : ∀ o ∈ os, o.ok) (g : AObj) (hg : g.ok) : Pure Tryz.prog 32 [.pd (.slice (rows AObj.pd os)), g.d] (fun d => d = bln (ours os g)) := by
 refine pure_of_run follows an_zws5f Tryz.func32 rfl ok_zws5f.1 ok_zws5f.2 (by simp [Tryz.ntmps32]) ?_
 rw [run_start]
 simp only [ac_zws5f, go_sem, contS_seq, simprocAttr]
 (repeat' (first | (refine GifP.mk (fun _ => ?_) (fun _ => ?_)) | (refine Gif.mk (fun _ => ?_) (fun _ => ?_)) | ((first | refine (listen_gateway g hg).callW (enters_of Tryz.func59 rfl rfl) _ rfl rfl ?_ | refine (listen_good os hos h ⟨1, ⟨#[]⟩, g.cls⟩).callW (enters_of Tryz.func60 rfl rfl) _ rfl rfl ?_); rintro _ rfl; try simp only [go_sem, contS_seq, simprocAttr]))) <;> (simp only [retK, resD, retL, oneD, simprocAttr, Tryz.results32]; exact ⟨_, rfl, rfl, congrArg bln (by first | rfl | (rw [Bool.eq_iff_iff]; simp only [ours]; (first | (simp; done) | (simp; omega) | (simp [*]; done) | (simp [*]; omega))) | (simp_all [ours]; done) | (exfalso; omega))⟩)

def atL (g : AObj) (i : Int) : Option AListener := if gwOk g = true then (if i < 0 then none else g.listeners[i.toNat]?) else none


abbrev star : ByteArray := ⟨#[42, 46]⟩
abbrev dot : ByteArray := ⟨#[46]⟩

def under (s z : ByteArray) : Bool := dname s && dname z && hasSuffix s (dot ++ z)

def below (p q : ByteArray) : Bool :=
 if q = ⟨#[]⟩ ∨ p = q then true
 else if p = ⟨#[]⟩ ∨ hasPrefix q star = false then false
 else if hasPrefix p star = true then under (cutPrefix p star) (cutPrefix q star)
 else under p (cutPrefix q star)

def hostMeet (a b : ByteArray) : Option ByteArray :=
 if hostMay a = false ∨ hostMay b = false then none
 else if below a b = true then some a
 else if below b a = true then some b
 else none

theorem below_nil (p : ByteArray) : below p ⟨#[]⟩ = true := by simp [below]
theorem meet_may {a b m : ByteArray} (h : hostMeet a b = some m) : hostMay a = true ∧ hostMay b = true := by
 unfold hostMeet at h
 split at h
 ·cases h
 ·rename_i hn
  exact ⟨by simpa using fun e => hn (.inl e), by simpa using fun e => hn (.inr e)⟩

theorem meet_nil {a : ByteArray} (h : hostMay a = true) : hostMeet a ⟨#[]⟩ = some a := by
 have h0 : hostMay ⟨#[]⟩ = true := by simp [hostMay]
 simp [hostMeet, h, h0, below_nil]

def hasStr (l : List ByteArray) (v : ByteArray) : Bool := l.any fun x => decide (v = x)

theorem hasStr_iff {l : List ByteArray} {v : ByteArray} : hasStr l v = true ↔ v ∈ l := by
 unfold hasStr
 rw [List.any_eq_true]
 exact ⟨fun ⟨x, hx, h⟩ => by rw [of_decide_eq_true h]; exact hx, fun h => ⟨v, h, decide_eq_true rfl⟩⟩

def meetStep (p : ByteArray) (out : List ByteArray) (h : ByteArray) : List ByteArray := match hostMeet p h with
 | some m => if hasStr out m = true then out else out ++ [m]
 | none => out

def someHosts (hosts : List ByteArray) : List ByteArray := if hosts = [] then [⟨#[]⟩] else hosts

def meets (p : ByteArray) (hosts : List ByteArray) : List ByteArray := (someHosts hosts).foldl (meetStep p) []

theorem mem_meetStep {p h m : ByteArray} {out : List ByteArray} : m ∈ meetStep p out h ↔ m ∈ out ∨ hostMeet p h = some m := by
 unfold meetStep
 cases hh : hostMeet p h with
 | none => simp
 | some x =>
   simp only [Option.some.injEq]
   split
   ·rename_i hx
    exact ⟨.inl, fun h => h.elim id fun e => e ▸ hasStr_iff.1 hx⟩
   ·rw [List.mem_append, List.mem_singleton, eq_comm]

theorem mem_meetFold {p m : ByteArray} : ∀ {hosts out : List ByteArray}, m ∈ hosts.foldl (meetStep p) out ↔ m ∈ out ∨ ∃ h ∈ hosts, hostMeet p h = some m
 | [], out => by simp
 | h :: hosts, out => by
   rw [List.foldl_cons, mem_meetFold, mem_meetStep]
   simp only [List.mem_cons, exists_eq_or_imp, or_assoc]

theorem mem_meets {p m : ByteArray} {hosts : List ByteArray} : m ∈ meets p hosts ↔ ∃ h ∈ someHosts hosts, hostMeet p h = some m := by
 unfold meets
 rw [mem_meetFold]
 simp

theorem meets_wide {p : ByteArray} {hosts : List ByteArray} (h : meets p hosts ≠ []) : meets p [] ≠ [] := by
 obtain ⟨m, hm⟩ := List.exists_mem_of_ne_nil _ h
 obtain ⟨x, _, hx⟩ := mem_meets.1 hm
 have : p ∈ meets p [] := mem_meets.2 ⟨⟨#[]⟩, by simp [someHosts], meet_nil (meet_may hx).1⟩
 exact List.ne_nil_of_mem this

def isName (n : ByteArray) (p : APair) : Bool := decide (p.name = n)
def labFind (l : List APair) (n : ByteArray) : Option ByteArray := (l.find? (isName n)).map (·.val)

def labAmong (l : List APair) (n : ByteArray) (vals : List ByteArray) : Bool := match labFind l n with
 | some v => hasStr vals v
 | none => false

def metBy (n : ANeed) (l : List APair) : Bool :=
 if n.kind = 1 then labAmong l n.name n.vals
 else if n.kind = 2 then !labAmong l n.name n.vals
 else if n.kind = 3 then (labFind l n.name).isSome
 else !(labFind l n.name).isSome

def metNeed (n : ANeed) (l : List APair) : Bool := labelsMay l && (askMay n && metBy n l)
def labelsAll (needs : List ANeed) (l : List APair) : Bool := needsMay needs && labelsMay l && !needs.any fun n => !metNeed n l

structure ASpot where
 gateway : ARef
 listener : ByteArray
 hosts : List ByteArray

abbrev ASpot.pd (s : ASpot) : List PD := [pInt s.gateway.kind, pStr s.gateway.space, pStr s.gateway.name, pStr s.listener, .slice (strs s.hosts)]

abbrev ASpot.ds (s : ASpot) : List D := [int s.gateway.kind, str s.gateway.space, str s.gateway.name, str s.listener, .pd (.slice (strs s.hosts))]
abbrev ASpot.d (s : ASpot) : D := .agg [int s.gateway.kind, str s.gateway.space, str s.gateway.name, str s.listener, .pd (.slice (strs s.hosts))]

abbrev ASpot.at_ (s : ASpot) (g : ARef) (l : ByteArray) : Bool := decide (s.gateway = g) && decide (s.listener = l)

def asked (x : AListener) (p : AParent) : Bool := (decide (p.section_ = ⟨#[]⟩) || decide (p.section_ = x.name)) && (decide (p.port = 0) || decide (p.port = x.port))

def noParent : ByteArray := ⟨#[78, 111, 77, 97, 116, 99, 104, 105, 110, 103, 80, 97, 114, 101, 110, 116]⟩
def noSpace : ByteArray := ⟨#[78, 111, 116, 65, 108, 108, 111, 119, 101, 100, 66, 121, 76, 105, 115, 116, 101, 110, 101, 114, 115]⟩
def noHost : ByteArray := ⟨#[78, 111, 77, 97, 116, 99, 104, 105, 110, 103, 76, 105, 115, 116, 101, 110, 101, 114, 72, 111, 115, 116, 110, 97, 109, 101]⟩

def attLets (met : List ANeed → List APair → Bool) (os : List AObj) (g : AObj) (x : AListener) (space : ByteArray) : Bool :=
 if x.from_ = 1 then true
 else if x.from_ = 2 then (match found os ⟨2, ⟨#[]⟩, space⟩ with
  | some s => objMay s && met x.needs s.labels
  | none => false)
 else decide (space = g.ref.space)

section
variable (met : List ANeed → List APair → Bool)

def atStep (os : List AObj) (g r : AObj) (p : AParent) (x : AListener) (a : List ASpot × ByteArray) : List ASpot × ByteArray :=
 if asked x p = false then a
 else if attLets met os g x r.ref.space = false then (a.1, if a.2 = noParent then noSpace else a.2)
 else if meets x.host r.hosts = [] then (a.1, noHost)
 else (a.1 ++ [⟨g.ref, x.name, meets x.host r.hosts⟩], a.2)

def atFold (os : List AObj) (g r : AObj) (p : AParent) (l : List AListener) : List ASpot × ByteArray := l.foldl (fun a x => atStep met os g r p x a) ([], noParent)

def attAt (os : List AObj) (r : AObj) (p : Int) : List ASpot × ByteArray × Bool :=
 if isRoute r = true ∧ 0 ≤ p then match r.parents[p.toNat]? with
  | some x => match found os (near ⟨5, x.space, x.name⟩ r.ref.space) with
    | some g => if ours os g = true then ((atFold met os g r x g.listeners).1, if (atFold met os g r x g.listeners).1 = [] then (atFold met os g r x g.listeners).2 else ⟨#[]⟩, true) else ([], ⟨#[]⟩, false)
    | none => ([], ⟨#[]⟩, false)
  | none => ([], ⟨#[]⟩, false)
 else ([], ⟨#[]⟩, false)

def gatherStep (out : List ASpot) (s : ASpot) : List ASpot := if out.any (fun x => x.at_ s.gateway s.listener) = true then out else out ++ [s]
def gatherS (out more : List ASpot) : List ASpot := more.foldl gatherStep out

def allUpto (os : List AObj) (r : AObj) : Nat → List ASpot
 | 0 => []
 | n + 1 => gatherS (allUpto os r n) (attAt met os r n).1

def attAll (os : List AObj) (r : AObj) : List ASpot := allUpto met os r r.parents.length

structure Like (os us : List AObj) (r : AObj) : Prop where
 cls : ∀ n, found os ⟨1, ⟨#[]⟩, n⟩ = found us ⟨1, ⟨#[]⟩, n⟩
 spc : ∀ n, found os ⟨2, ⟨#[]⟩, n⟩ = found us ⟨2, ⟨#[]⟩, n⟩
 gws : ∀ x ∈ r.parents, found os (near ⟨5, x.space, x.name⟩ r.ref.space) = found us (near ⟨5, x.space, x.name⟩ r.ref.space)

theorem mem_atFold {os : List AObj} {g r : AObj} {p : AParent} {s : ASpot} : ∀ {l : List AListener} {a : List ASpot × ByteArray}, s ∈ (l.foldl (fun a x => atStep met os g r p x a) a).1 ↔
 s ∈ a.1 ∨ ∃ x ∈ l, asked x p = true ∧ attLets met os g x r.ref.space = true ∧ meets x.host r.hosts ≠ [] ∧ s = ⟨g.ref, x.name, meets x.host r.hosts⟩
 | [], a => by simp
 | x :: l, a => by
   rw [List.foldl_cons, mem_atFold]
   have : s ∈ (atStep met os g r p x a).1 ↔ s ∈ a.1 ∨ (asked x p = true ∧ attLets met os g x r.ref.space = true ∧ meets x.host r.hosts ≠ [] ∧ s = ⟨g.ref, x.name, meets x.host r.hosts⟩) := by
    unfold atStep
    by_cases h1 : asked x p = false
    ·rw [if_pos h1]; simp [h1]
    ·rw [if_neg h1]
     simp only [Bool.not_eq_false] at h1
     by_cases h2 : attLets met os g x r.ref.space = false
     ·rw [if_pos h2]; simp [h2]
     ·rw [if_neg h2]
      simp only [Bool.not_eq_false] at h2
      by_cases h3 : meets x.host r.hosts = []
      ·rw [if_pos h3]; simp [h3]
      ·rw [if_neg h3]
       simp [h1, h2, h3]
   rw [this]
   simp only [List.mem_cons, exists_eq_or_imp, or_assoc]

end

end Go.Proofs.YtcnhcamimcpinaaGreatDoor



namespace Go.Proofs.YtcnhcamimcpinaaGreatDoor
open Go

def ac_zrjun : AC := (sr [oo 3 (.box 33 (tp 1)),oo 4 (.mv (cq false))] [0,3] (.seq (.draw [mq 18 0,oo 19 (.call 9 [tp 18]),oo 20 (.load (some 13) (tp 3)),oo 21 (.call 10 [tp 20]),mq 0 19,.mk none none (.store 13 (tp 3) (tp 21))] [0,1,0,7,15,31] (.take 0 (.take 2 (.alts (.cons 1 false (.alts (.cons 3 true (.take 4 (.alts (.cons 5 true .done .nil))) .nil)) .nil)))) (some [0,3])) (.seq (sr [fi 22 8 3,lq 23 22,oo 24 (.len (tp 23) false),oo 25 (.bin .eql (tp 24) (ci 0))] [0,3,25] (.cond (tp 25) (sr [mq 26 0,oo 27 (.load (some 13) (tp 3)),oo 28 (.call 14 [tp 26,tp 27]),oo 29 (.len (tp 28) false),oo 30 (.bin .eql (tp 29) (ci 0)),mq 31 30,og 31 true 32 (.call 16 []),oo 33 (.pick (tp 31) (tp 32) (cq false)),mq 4 33] [4] .ret) .skip)) (sr [fi 34 8 3,lq 35 34,oo 36 (.slcL 4 (tp 35) none (some (ci 1))),fi 37 8 3,.mk none none (.store 1 (tp 37) (tp 36))] [0,3] (sr [mq 39 0,oo 40 (.load (some 13) (tp 3)),oo 41 (.call 11 [tp 39,tp 40,ci 0]),mq 38 41,oo 42 (.extract (tp 38) 0),oo 43 (.extract (tp 38) 1),oo 44 (.extract (tp 38) 2),mq 5 42,mq 6 43,mq 7 44] [0,3,5,7] (.seq (.draw [oo 45 (.load (some 13) (tp 3)),oo 46 (.load (some 13) (tp 3)),oo 8 (.alloc 33 [.pd (.raw (.int .i64 0)),.pd (.raw (.string ⟨#[]⟩)),.pd (.raw (.string ⟨#[]⟩)),.pd (.raw (.bool false)),.nils,.nils,.pd (.raw (.string ⟨#[]⟩)),.nils,.nils,.nils,.nils,.nils,.nils]),oo 9 (.alloc 33 [.pd (.raw (.int .i64 0)),.pd (.raw (.string ⟨#[]⟩)),.pd (.raw (.string ⟨#[]⟩)),.pd (.raw (.bool false)),.nils,.nils,.pd (.raw (.string ⟨#[]⟩)),.nils,.nils,.nils,.nils,.nils,.nils]),.mk none none (.store 13 (tp 8) (tp 45)),.mk none none (.store 13 (tp 9) (tp 46))] [0,0,0,0,13,31] (.take 0 (.take 1 (.alts (.cons 2 false (.alts (.cons 3 false (.alts (.cons 4 false (.alts (.cons 5 true .done .nil)) .nil)) .nil)) (.cons 3 false (.alts (.cons 2 false (.alts (.cons 4 false (.alts (.cons 5 true .done .nil)) .nil)) .nil)) .nil))))) (some [0,3,5,7,8,9])) (sr [fi 47 9 8,.mk none none (.store 1 (tp 47) (.const (.slice none 0 0)))] [0,3,5,7,8,9] (.seq (.draw [fi 48 8 3,lq 49 48,oo 50 (.idxA 4 (tp 49) (ci 0)),fi 51 0 50,lq 52 51,fi 53 8 3,lq 54 53,oo 55 (.idxA 4 (tp 54) (ci 0)),fi 56 1 55,lq 57 56,oo 58 (.build [.pd (.raw (.string ⟨#[]⟩)),.pd (.raw (.string ⟨#[]⟩)),.pd (.raw (.string ⟨#[]⟩)),.pd (.raw (.int .i64 0))] [(0,1,tp 52),(1,1,tp 57)]),oo 59 (.bslice 55 4 [tp 58]),fi 60 8 9,.mk none none (.store 1 (tp 60) (tp 59))] [0,1,3,7,15,0,32,96,224,480,1023,2047,4095,8191] (.take 0 (.take 1 (.take 2 (.take 3 (.take 4 (.take 5 (.take 6 (.take 7 (.take 8 (.take 9 (.take 10 (.alts (.cons 11 true (.take 12 (.alts (.cons 13 true .done .nil))) .nil))))))))))))) (some [0,5,7,8,9])) (.seq (sr [oo 61 (.load (some 13) (tp 8)),oo 62 (.load (some 13) (tp 9)),oo 63 (.bslice 33 13 [tp 61,tp 62]),oo 64 (.len (tp 63) false),oo 65 (.mv (ci 0))] [0,5,7,63,64,65] (.block 0 (.loop (sr [oo 66 (.bin .lss (tp 65) (tp 64))] [0,5,7,63,64,65,66] (.seq (.cond (tp 66) .skip (.exit 0)) (.seq (.block 1 (sr [oo 67 (.idxA 13 (tp 63) (tp 65)),oo 68 (.load (some 13) (tp 67)),oo 11 (.alloc 33 [.pd (.raw (.int .i64 0)),.pd (.raw (.string ⟨#[]⟩)),.pd (.raw (.string ⟨#[]⟩)),.pd (.raw (.bool false)),.nils,.nils,.pd (.raw (.string ⟨#[]⟩)),.nils,.nils,.nils,.nils,.nils,.nils]),.mk none none (.store 13 (tp 11) (tp 68))] [0,5,7,11,63,64,65] (sr [mq 70 0,oo 71 (.load (some 13) (tp 11)),oo 72 (.call 11 [tp 70,tp 71,ci 0]),mq 69 72,oo 73 (.extract (tp 69) 0),oo 74 (.extract (tp 69) 1),oo 75 (.extract (tp 69) 2),mq 12 73,mq 13 74,mq 14 75] [0,5,7,12,14,63,64,65] (.seq (sr [mq 76 7,mq 77 76,og 77 true 78 (.mv (tp 14)),og 77 true 79 (.un .not (tp 78)),oo 80 (.pick (tp 77) (tp 79) (cq false))] [0,5,7,12,63,64,65,80] (.cond (tp 80) (sr [oo 4 (.mv (cq false))] [4] .ret) .skip)) (sr [oo 15 (.mv (ci 0))] [0,5,7,12,15,63,64,65] (.block 2 (.loop (.seq (sr [mq 81 15,mq 82 5,oo 83 (.len (tp 82) false),oo 84 (.bin .lss (tp 81) (tp 83))] [0,5,7,12,15,63,64,65,84] (.cond (tp 84) .skip (.exit 2))) (.seq (.block 3 (sr [oo 16 (.mv (cq false))] [0,5,7,12,15,16,63,64,65] (.seq (sr [oo 17 (.mv (ci 0))] [0,5,7,12,15,16,17,63,64,65] (.block 4 (.loop (.seq (sr [mq 87 17,mq 88 12,oo 89 (.len (tp 88) false),oo 90 (.bin .lss (tp 87) (tp 89))] [0,5,7,12,15,16,17,63,64,65,90] (.cond (tp 90) .skip (.exit 4))) (.seq (.block 5 (.draw [mq 93 16,mq 94 93,og 94 false 95 (.mv (tp 12)),og 94 false 96 (.mv (tp 17)),og 94 false 97 (.idxA 5 (tp 95) (tp 96)),og 94 false 98 (.fieldA 0 (tp 97)),og 94 false 99 (.load (some 3) (tp 98)),og 94 false 100 (.mv (tp 5)),og 94 false 101 (.mv (tp 15)),og 94 false 102 (.idxA 5 (tp 100) (tp 101)),og 94 false 103 (.fieldA 0 (tp 102)),og 94 false 104 (.load (some 3) (tp 103)),og 94 false 105 (.eqs false [.int,.str,.str] (tp 99) (tp 104)),og 94 false 106 (.mv (tp 105)),og 106 true 107 (.mv (tp 12)),og 106 true 108 (.mv (tp 17)),og 106 true 109 (.idxA 5 (tp 107) (tp 108)),og 106 true 110 (.fieldA 3 (tp 109)),og 106 true 111 (.load none (tp 110)),og 106 true 112 (.mv (tp 5)),og 106 true 113 (.mv (tp 15)),og 106 true 114 (.idxA 5 (tp 112) (tp 113)),og 106 true 115 (.fieldA 3 (tp 114)),og 106 true 116 (.load none (tp 115)),og 106 true 117 (.bin .eql (tp 111) (tp 116)),og 94 false 118 (.pick (tp 106) (tp 117) (cq false)),oo 119 (.pick (tp 94) (cq true) (tp 118)),mq 16 119] [0,1,3,3,15,31,63,3,3,387,899,1923,4095,8191,16383,16383,65535,131071,262143,16383,16383,1589247,3686399,7880703,16777215,33554431,67108863,134217727] (.take 0 (.take 1 (.take 2 (.take 3 (.take 4 (.take 5 (.take 6 (.take 7 (.take 8 (.take 9 (.take 10 (.take 11 (.take 12 (.take 13 (.take 14 (.take 15 (.take 16 (.take 17 (.take 18 (.take 19 (.take 20 (.take 21 (.take 22 (.take 23 (.take 24 (.take 25 (.take 26 (.take 27 .done)))))))))))))))))))))))))))) (some [0,5,7,12,15,16,17,63,64,65]))) (.region [mq 91 17,oo 92 (.bin .add (tp 91) (ci 1)),mq 17 92] (some [0,5,7,12,15,16,17,63,64,65]))))))) (sr [mq 120 16,oo 121 (.un .not (tp 120))] [0,5,7,12,15,63,64,65,121] (.cond (tp 121) (sr [oo 4 (.mv (cq false))] [4] .ret) .skip))))) (.region [mq 85 15,oo 86 (.bin .add (tp 85) (ci 1)),mq 15 86] (some [0,5,7,12,15,63,64,65]))))))))))) (.region [oo 122 (.bin .add (tp 65) (ci 1)),mq 65 122] (some [0,5,7,63,64,65])))))))) (sr [oo 123 (.call 16 []),mq 4 123] [4] .ret))))))))))
def an_zrjun : Ann := ann [0,1,2,3,4,5,6,7,8,9,10,11,12,13,14,15,16,18,19,20,22,21,23,24,17,25,26] ac_zrjun
theorem ok_zrjun : okd Tryz.prog an_zrjun ac_zrjun Tryz.f5 := ⟨by kernel_rfl, by kernel_rfl⟩

def ac_zf3ax : AC := (sr [oo 4 (.box 33 (tp 1)),oo 6 (.mv (.const (.slice none 0 0))),oo 7 (.mv (.const (.string ⟨#[]⟩))),oo 8 (.mv (cq false))] [0,2,4,6] (.seq (sr [fi 15 0 4,fi 16 0 15,lq 17 16,oo 18 (.bin .neq (tp 17) (ci 6)),mq 19 18,og 19 false 20 (.load (some 13) (tp 4)),og 19 false 21 (.call 29 [tp 20]),og 19 false 22 (.un .not (tp 21)),oo 23 (.pick (tp 19) (cq true) (tp 22)),mq 24 23,og 24 false 25 (.mv (tp 2)),og 24 false 26 (.bin .lss (tp 25) (ci 0)),oo 27 (.pick (tp 24) (cq true) (tp 26)),mq 28 27,og 28 false 29 (.mv (tp 2)),og 28 false 30 (.fieldA 8 (tp 4)),og 28 false 31 (.load none (tp 30)),og 28 false 32 (.len (tp 31) false),og 28 false 33 (.bin .geq (tp 29) (tp 32)),oo 34 (.pick (tp 28) (cq true) (tp 33))] [0,2,4,6,34] (.cond (tp 34) (sr [oo 6 (.mv (.const (.slice none 0 0))),oo 7 (.mv (.const (.string ⟨#[]⟩))),oo 8 (.mv (cq false))] [6,7,8] .ret) .skip)) (sr [fi 35 8 4,lq 36 35,mq 37 2,oo 38 (.idxA 4 (tp 36) (tp 37)),oo 39 (.load (some 4) (tp 38)),oo 9 (.alloc 55 [.pd (.raw (.string ⟨#[]⟩)),.pd (.raw (.string ⟨#[]⟩)),.pd (.raw (.string ⟨#[]⟩)),.pd (.raw (.int .i64 0))]),.mk none none (.store 4 (tp 9) (tp 39))] [0,4,6,9] (sr [mq 41 0,fi 42 0 9,lq 43 42,fi 44 1 9,lq 45 44,oo 46 (.build [.pd (.raw (.int .i64 0)),.pd (.raw (.string ⟨#[]⟩)),.pd (.raw (.string ⟨#[]⟩))] [(0,1,ci 5),(1,1,tp 43),(2,1,tp 45)]),fi 47 0 4,fi 48 1 47,lq 49 48,oo 50 (.call 31 [tp 46,tp 49]),oo 51 (.call 30 [tp 41,tp 50]),mq 40 51,oo 52 (.extract (tp 40) 0),oo 53 (.extract (tp 40) 1),oo 10 (.alloc 33 [.pd (.raw (.int .i64 0)),.pd (.raw (.string ⟨#[]⟩)),.pd (.raw (.string ⟨#[]⟩)),.pd (.raw (.bool false)),.nils,.nils,.pd (.raw (.string ⟨#[]⟩)),.nils,.nils,.nils,.nils,.nils,.nils]),.mk none none (.store 13 (tp 10) (tp 52)),mq 11 53] [0,4,6,9,10,11] (.seq (sr [mq 54 11,oo 55 (.un .not (tp 54)),mq 56 55,og 56 false 57 (.mv (tp 0)),og 56 false 58 (.load (some 13) (tp 10)),og 56 false 59 (.call 32 [tp 57,tp 58]),og 56 false 60 (.un .not (tp 59)),oo 61 (.pick (tp 56) (cq true) (tp 60))] [0,4,6,9,10,61] (.cond (tp 61) (sr [oo 6 (.mv (.const (.slice none 0 0))),oo 7 (.mv (.const (.string ⟨#[]⟩))),oo 8 (.mv (cq false))] [6,7,8] .ret) .skip)) (sr [oo 7 (.mv (.const (.string ⟨#[78,111,77,97,116,99,104,105,110,103,80,97,114,101,110,116]⟩)))] [0,4,6,7,9,10] (.seq (sr [fi 62 7 10,lq 63 62,oo 64 (.len (tp 63) false),oo 65 (.mv (ci 0))] [0,4,6,7,9,10,63,64,65] (.block 0 (.loop (sr [oo 66 (.bin .lss (tp 65) (tp 64))] [0,4,6,7,9,10,63,64,65,66] (.seq (.cond (tp 66) .skip (.exit 0)) (.seq (.block 1 (sr [mq 67 65,oo 68 (.idxA 9 (tp 63) (tp 65)),oo 69 (.load (some 9) (tp 68)),oo 13 (.alloc 49 [.pd (.raw (.string ⟨#[]⟩)),.pd (.raw (.int .i64 0)),.pd (.raw (.bool false)),.pd (.raw (.string ⟨#[]⟩)),.pd (.raw (.int .i64 0)),.pd (.raw (.string ⟨#[]⟩)),.pd (.raw (.string ⟨#[]⟩)),.pd (.raw (.int .i64 0)),.nils]),mq 12 67,.mk none none (.store 9 (tp 13) (tp 69))] [0,4,6,7,9,10,12,13,63,64,65] (.scope 0 (.seq (sr [oo 70 (.load (some 9) (tp 13)),oo 71 (.load (some 4) (tp 9)),oo 72 (.call 33 [tp 70,tp 71]),oo 73 (.un .not (tp 72))] [0,4,6,7,9,10,12,13,63,64,65,73] (.cond (tp 73) (.exit 1) .skip)) (sr [fi 74 3 13,lq 75 74,fi 76 9 4,lq 77 76,oo 78 (.call 34 [tp 75,tp 77]),mq 14 78] [0,4,6,7,9,10,12,13,14,63,64,65] (.seq (sr [mq 79 0,oo 80 (.load (some 13) (tp 10)),mq 81 12,fi 82 0 4,fi 83 1 82,lq 84 83,oo 85 (.call 18 [tp 79,tp 80,tp 81,tp 84]),oo 86 (.un .not (tp 85))] [0,4,6,7,9,10,13,14,63,64,65,86] (.cond (tp 86) (.seq (sr [mq 87 7,oo 88 (.bin .eql (tp 87) (.const (.string ⟨#[78,111,77,97,116,99,104,105,110,103,80,97,114,101,110,116]⟩)))] [0,4,6,7,9,10,63,64,65,88] (.cond (tp 88) (.region [oo 7 (.mv (.const (.string ⟨#[78,111,116,65,108,108,111,119,101,100,66,121,76,105,115,116,101,110,101,114,115]⟩)))] (some [0,4,6,7,9,10,63,64,65])) .skip)) (.exit 1)) .skip)) (.seq (sr [mq 89 14,oo 90 (.len (tp 89) false),oo 91 (.bin .eql (tp 90) (ci 0))] [0,4,6,7,9,10,13,14,63,64,65,91] (.cond (tp 91) (.goto 0) .skip)) (sr [mq 92 6,fi 93 0 10,oo 94 (.load (some 3) (tp 93)),fi 95 0 13,lq 96 95,mq 97 14,oo 98 (.build [.pd (.raw (.int .i64 0)),.pd (.raw (.string ⟨#[]⟩)),.pd (.raw (.string ⟨#[]⟩)),.pd (.raw (.string ⟨#[]⟩)),.nils] [(0,3,tp 94),(3,1,tp 96),(4,1,tp 97)]),oo 99 (.bslice 46 5 [tp 98]),oo 100 (.append 46 5 80 (tp 92) (tp 99)),mq 6 100] [0,4,6,7,9,10,63,64,65] (.seq (.exit 1) (.seq (.label 0) (.region [oo 7 (.mv (.const (.string ⟨#[78,111,77,97,116,99,104,105,110,103,76,105,115,116,101,110,101,114,72,111,115,116,110,97,109,101]⟩)))] (some [0,4,6,7,9,10,63,64,65]))))))))) (.seq .skip (.region [oo 7 (.mv (.const (.string ⟨#[78,111,77,97,116,99,104,105,110,103,76,105,115,116,101,110,101,114,72,111,115,116,110,97,109,101]⟩)))] (some [0,4,6,7,9,10,63,64,65])))))) (.region [oo 101 (.bin .add (tp 65) (ci 1)),mq 65 101] (some [0,4,6,7,9,10,63,64,65])))))))) (.seq (sr [mq 102 6,oo 103 (.len (tp 102) false),oo 104 (.bin .gtr (tp 103) (ci 0))] [6,7,104] (.cond (tp 104) (.region [oo 7 (.mv (.const (.string ⟨#[]⟩)))] (some [6,7])) .skip)) (sr [mq 105 6,mq 106 7,mq 6 105,mq 7 106,oo 8 (.mv (cq true))] [6,7,8] .ret)))))))))
def an_zf3ax : Ann := ⟨[(0,[0,2,4,6]),(1,[0,2,4,6,34]),(2,[6,7,8]),(3,[0,4,6,9]),(4,[0,4,6,9,10,11]),(5,[0,4,6,9,10,61]),(6,[6,7,8]),(7,[0,4,6,7,9,10]),(8,[0,4,6,7,9,10,63,64,65]),(9,[0,4,6,7,9,10,63,64,65,66]),(10,[0,4,6,7,9,10,12,13,63,64,65]),(11,[0,4,6,7,9,10,12,13,63,64,65,73]),(12,[0,4,6,7,9,10,12,13,14,63,64,65]),(13,[0,4,6,7,9,10,13,14,63,64,65,86]),(14,[0,4,6,7,9,10,63,64,65,88]),(15,[0,4,6,7,9,10,63,64,65]),(16,[0,4,6,7,9,10,13,14,63,64,65,91]),(17,[0,4,6,7,9,10,63,64,65]),(18,[0,4,6,7,9,10,63,64,65]),(19,[0,4,6,7,9,10,63,64,65]),(20,[6,7,104]),(21,[6,7]),(22,[6,7,8])],[],[]⟩
theorem ok_zf3ax : okd Tryz.prog an_zf3ax ac_zf3ax Tryz.f11 := ⟨by kernel_rfl, by kernel_rfl⟩

def ac_z7omx : AC := (sr [oo 3 (.box 33 (tp 1)),oo 4 (.mv (.const (.slice none 0 0)))] [0,3] (sr [oo 5 (.mv (.const (.slice none 0 0)))] [0,3,5] (.seq (sr [fi 10 8 3,lq 11 10,oo 12 (.len (tp 11) false),oo 13 (.mv (ci 0))] [0,3,5,12,13] (.block 0 (.loop (sr [oo 14 (.bin .lss (tp 13) (tp 12))] [0,3,5,12,13,14] (.seq (.cond (tp 14) .skip (.exit 0)) (.seq (.block 1 (sr [mq 15 13,mq 6 15] [0,3,5,6,12,13] (sr [mq 17 0,oo 18 (.load (some 13) (tp 3)),mq 19 6,oo 20 (.call 11 [tp 17,tp 18,tp 19]),mq 16 20,oo 21 (.extract (tp 16) 0),oo 22 (.extract (tp 16) 1),oo 23 (.extract (tp 16) 2),mq 7 21,mq 8 22,mq 9 23] [0,3,5,7,12,13] (.region [mq 24 5,mq 25 7,oo 26 (.call 41 [tp 24,tp 25]),mq 5 26] (some [0,3,5,12,13]))))) (.region [oo 27 (.bin .add (tp 13) (ci 1)),mq 13 27] (some [0,3,5,12,13])))))))) (sr [mq 28 5,mq 4 28] [4] .ret))))
def an_z7omx : Ann := ann (List.range 9) ac_z7omx
theorem ok_z7omx : okd Tryz.prog an_z7omx ac_z7omx Tryz.f14 := ⟨by kernel_rfl, by kernel_rfl⟩

def ac_z11cc : AC := (sr [oo 0 (.mv (cq false))] [] (sr [oo 9 (.build [.pd (.raw (.int .i64 0)),.pd (.raw (.string ⟨#[]⟩)),.pd (.raw (.string ⟨#[]⟩))] [(0,1,ci 1),(2,1,.const (.string ⟨#[99]⟩))]),oo 10 (.build [.pd (.raw (.int .i64 0)),.pd (.raw (.string ⟨#[]⟩)),.pd (.raw (.string ⟨#[]⟩)),.pd (.raw (.bool false)),.nils,.nils,.pd (.raw (.string ⟨#[]⟩)),.nils,.nils,.nils,.nils,.nils,.nils] [(0,3,tp 9),(3,1,cq true)]),oo 11 (.build [.pd (.raw (.int .i64 0)),.pd (.raw (.string ⟨#[]⟩)),.pd (.raw (.string ⟨#[]⟩))] [(0,1,ci 5),(1,1,.const (.string ⟨#[119,101,98]⟩)),(2,1,.const (.string ⟨#[103,119]⟩))]),oo 12 (.build [.pd (.raw (.string ⟨#[]⟩)),.pd (.raw (.int .i64 0)),.pd (.raw (.bool false)),.pd (.raw (.string ⟨#[]⟩)),.pd (.raw (.int .i64 0)),.pd (.raw (.string ⟨#[]⟩)),.pd (.raw (.string ⟨#[]⟩)),.pd (.raw (.int .i64 0)),.nils] [(0,1,.const (.string ⟨#[97]⟩)),(1,1,ci 80)]),oo 13 (.bslice 49 9 [tp 12]),oo 14 (.build [.pd (.raw (.int .i64 0)),.pd (.raw (.string ⟨#[]⟩)),.pd (.raw (.string ⟨#[]⟩)),.pd (.raw (.bool false)),.nils,.nils,.pd (.raw (.string ⟨#[]⟩)),.nils,.nils,.nils,.nils,.nils,.nils] [(0,3,tp 11),(6,1,.const (.string ⟨#[99]⟩)),(7,1,tp 13)]),oo 15 (.bslice 33 13 [tp 10,tp 14]),mq 1 15] [1] (sr [oo 16 (.build [.pd (.raw (.int .i64 0)),.pd (.raw (.string ⟨#[]⟩)),.pd (.raw (.string ⟨#[]⟩))] [(0,1,ci 6),(1,1,.const (.string ⟨#[97,112,112]⟩)),(2,1,.const (.string ⟨#[114]⟩))]),oo 17 (.build [.pd (.raw (.string ⟨#[]⟩)),.pd (.raw (.string ⟨#[]⟩)),.pd (.raw (.string ⟨#[]⟩)),.pd (.raw (.int .i64 0))] [(0,1,.const (.string ⟨#[119,101,98]⟩)),(1,1,.const (.string ⟨#[103,119]⟩))]),oo 18 (.build [.pd (.raw (.string ⟨#[]⟩)),.pd (.raw (.string ⟨#[]⟩)),.pd (.raw (.string ⟨#[]⟩)),.pd (.raw (.int .i64 0))] [(0,1,.const (.string ⟨#[119,101,98]⟩)),(1,1,.const (.string ⟨#[103,119]⟩)),(2,1,.const (.string ⟨#[122]⟩))]),oo 19 (.bslice 55 4 [tp 17,tp 18]),oo 20 (.build [.pd (.raw (.int .i64 0)),.pd (.raw (.string ⟨#[]⟩)),.pd (.raw (.string ⟨#[]⟩)),.pd (.raw (.bool false)),.nils,.nils,.pd (.raw (.string ⟨#[]⟩)),.nils,.nils,.nils,.nils,.nils,.nils] [(0,3,tp 16),(8,1,tp 19)]),oo 2 (.alloc 33 [.pd (.raw (.int .i64 0)),.pd (.raw (.string ⟨#[]⟩)),.pd (.raw (.string ⟨#[]⟩)),.pd (.raw (.bool false)),.nils,.nils,.pd (.raw (.string ⟨#[]⟩)),.nils,.nils,.nils,.nils,.nils,.nils]),.mk none none (.store 13 (tp 2) (tp 20))] [1,2] (sr [mq 22 1,oo 23 (.load (some 13) (tp 2)),oo 24 (.call 11 [tp 22,tp 23,ci 0]),mq 21 24,oo 25 (.extract (tp 21) 0),oo 26 (.extract (tp 21) 1),oo 27 (.extract (tp 21) 2),mq 3 25,mq 4 26,mq 5 27] [1,2,4,5] (sr [mq 29 1,oo 30 (.load (some 13) (tp 2)),oo 31 (.call 11 [tp 29,tp 30,ci 1]),mq 28 31,oo 32 (.extract (tp 28) 0),oo 33 (.extract (tp 28) 1),oo 34 (.extract (tp 28) 2),mq 6 32,mq 7 33,mq 8 34] [4,5,7,8] (sr [oo 35 (.bslice 9 1 [.const (.string ⟨#[97,46,116,101,115,116]⟩),.const (.string ⟨#[98,46,120]⟩)]),oo 36 (.call 34 [.const (.string ⟨#[42,46,116,101,115,116]⟩),tp 35]),oo 37 (.bslice 9 1 [.const (.string ⟨#[97,46,116,101,115,116]⟩)]),oo 38 (.call 40 [tp 36,tp 37]),mq 39 38,og 39 true 40 (.call 34 [.const (.string ⟨#[97,46,116,101,115,116]⟩),.const (.slice none 0 0)]),og 39 true 41 (.bslice 9 1 [.const (.string ⟨#[97,46,116,101,115,116]⟩)]),og 39 true 42 (.call 40 [tp 40,tp 41]),oo 43 (.pick (tp 39) (tp 42) (cq false)),mq 44 43,og 44 true 45 (.mv (tp 4)),og 44 true 46 (.bin .eql (tp 45) (.const (.string ⟨#[78,111,116,65,108,108,111,119,101,100,66,121,76,105,115,116,101,110,101,114,115]⟩))),oo 47 (.pick (tp 44) (tp 46) (cq false)),mq 48 47,og 48 true 49 (.mv (tp 5)),oo 50 (.pick (tp 48) (tp 49) (cq false)),mq 51 50,og 51 true 52 (.mv (tp 7)),og 51 true 53 (.bin .eql (tp 52) (.const (.string ⟨#[78,111,77,97,116,99,104,105,110,103,80,97,114,101,110,116]⟩))),oo 54 (.pick (tp 51) (tp 53) (cq false)),mq 55 54,og 55 true 56 (.mv (tp 8)),oo 57 (.pick (tp 55) (tp 56) (cq false)),mq 58 57,oo 59 (.pick (tp 58) (cq true) (cq false)),mq 0 59] [0] .ret))))))
def an_z11cc : Ann := ann (List.range 6) ac_z11cc
theorem ok_z11cc : okd Tryz.prog an_z11cc ac_z11cc Tryz.f16 := ⟨by kernel_rfl, by kernel_rfl⟩

def ac_zuhx : AC := (sr [oo 5 (.box 33 (tp 1)),oo 8 (.mv (cq false))] [0,2,3,5] (.seq (sr [fi 12 0 5,fi 13 0 12,lq 14 13,oo 15 (.bin .neq (tp 14) (ci 5)),mq 16 15,og 16 false 17 (.load (some 13) (tp 5)),og 16 false 18 (.call 29 [tp 17]),og 16 false 19 (.un .not (tp 18)),oo 20 (.pick (tp 16) (cq true) (tp 19)),mq 21 20,og 21 false 22 (.mv (tp 2)),og 21 false 23 (.bin .lss (tp 22) (ci 0)),oo 24 (.pick (tp 21) (cq true) (tp 23)),mq 25 24,og 25 false 26 (.mv (tp 2)),og 25 false 27 (.fieldA 7 (tp 5)),og 25 false 28 (.load none (tp 27)),og 25 false 29 (.len (tp 28) false),og 25 false 30 (.bin .geq (tp 26) (tp 29)),oo 31 (.pick (tp 25) (cq true) (tp 30))] [0,2,3,5,31] (.cond (tp 31) (sr [oo 8 (.mv (cq false))] [8] .ret) .skip)) (.seq (sr [fi 32 7 5,lq 33 32,mq 34 2,oo 35 (.idxA 9 (tp 33) (tp 34)),oo 36 (.load (some 9) (tp 35)),oo 9 (.alloc 49 [.pd (.raw (.string ⟨#[]⟩)),.pd (.raw (.int .i64 0)),.pd (.raw (.bool false)),.pd (.raw (.string ⟨#[]⟩)),.pd (.raw (.int .i64 0)),.pd (.raw (.string ⟨#[]⟩)),.pd (.raw (.string ⟨#[]⟩)),.pd (.raw (.int .i64 0)),.nils]),.mk none none (.store 9 (tp 9) (tp 36))] [0,3,5,9] (sr [fi 37 7 9,lq 38 37] [0,3,5,9,38] (.block 0 (sr [oo 40 (.bin .eql (tp 38) (ci 1)),mq 39 40] [0,3,5,9,38,39] (.cond (tp 39) (sr [oo 8 (.mv (cq true))] [8] .ret) (sr [oo 42 (.bin .eql (tp 38) (ci 2)),mq 41 42] [0,3,5,9,41] (.cond (tp 41) (sr [mq 44 0,mq 45 3,oo 46 (.build [.pd (.raw (.int .i64 0)),.pd (.raw (.string ⟨#[]⟩)),.pd (.raw (.string ⟨#[]⟩))] [(0,1,ci 2),(2,1,tp 45)]),oo 47 (.call 30 [tp 44,tp 46]),mq 43 47,oo 48 (.extract (tp 43) 0),oo 49 (.extract (tp 43) 1),oo 10 (.alloc 33 [.pd (.raw (.int .i64 0)),.pd (.raw (.string ⟨#[]⟩)),.pd (.raw (.string ⟨#[]⟩)),.pd (.raw (.bool false)),.nils,.nils,.pd (.raw (.string ⟨#[]⟩)),.nils,.nils,.nils,.nils,.nils,.nils]),.mk none none (.store 13 (tp 10) (tp 48)),mq 11 49] [9,10,11] (sr [mq 50 11,mq 51 50,og 51 true 52 (.load (some 13) (tp 10)),og 51 true 53 (.call 29 [tp 52]),oo 54 (.pick (tp 51) (tp 53) (cq false)),mq 55 54,og 55 true 56 (.fieldA 8 (tp 9)),og 55 true 57 (.load none (tp 56)),og 55 true 58 (.fieldA 4 (tp 10)),og 55 true 59 (.load none (tp 58)),og 55 true 60 (.call 42 [tp 57,tp 59]),oo 61 (.pick (tp 55) (tp 60) (cq false)),mq 8 61] [8] .ret)) .skip))))))) (sr [mq 62 3,fi 63 0 5,fi 64 1 63,lq 65 64,oo 66 (.bin .eql (tp 62) (tp 65)),mq 8 66] [8] .ret))))
def an_zuhx : Ann := ann (List.range 11) ac_zuhx
theorem ok_zuhx : okd Tryz.prog an_zuhx ac_zuhx Tryz.f18 := ⟨by kernel_rfl, by kernel_rfl⟩

def ac_zsw2x : AC := (sr [oo 2 (.box 49 (tp 0)),oo 3 (.box 55 (tp 1)),oo 4 (.mv (cq false))] [2,3] (sr [fi 5 2 3,lq 6 5,oo 7 (.bin .eql (tp 6) (.const (.string ⟨#[]⟩))),mq 8 7,og 8 false 9 (.fieldA 2 (tp 3)),og 8 false 10 (.load none (tp 9)),og 8 false 11 (.fieldA 0 (tp 2)),og 8 false 12 (.load none (tp 11)),og 8 false 13 (.bin .eql (tp 10) (tp 12)),oo 14 (.pick (tp 8) (cq true) (tp 13)),mq 15 14,og 15 true 16 (.fieldA 3 (tp 3)),og 15 true 17 (.load none (tp 16)),og 15 true 18 (.bin .eql (tp 17) (ci 0)),og 15 true 19 (.mv (tp 18)),og 19 false 20 (.fieldA 3 (tp 3)),og 19 false 21 (.load none (tp 20)),og 19 false 22 (.fieldA 1 (tp 2)),og 19 false 23 (.load none (tp 22)),og 19 false 24 (.bin .eql (tp 21) (tp 23)),og 15 true 25 (.pick (tp 19) (cq true) (tp 24)),oo 26 (.pick (tp 15) (tp 25) (cq false)),mq 4 26] [4] .ret))
def an_zsw2x : Ann := ann (List.range 2) ac_zsw2x
theorem ok_zsw2x : okd Tryz.prog an_zsw2x ac_zsw2x Tryz.f33 := ⟨by kernel_rfl, by kernel_rfl⟩

def ac_zbr1v : AC := (sr [oo 4 (.mv (.const (.slice none 0 0)))] [0,1] (.seq (sr [mq 10 1,oo 11 (.len (tp 10) false),oo 12 (.bin .eql (tp 11) (ci 0))] [0,1,12] (.cond (tp 12) (.region [oo 13 (.bslice 9 1 [.const (.string ⟨#[]⟩)]),mq 1 13] (some [0,1])) .skip)) (sr [oo 5 (.mv (.const (.slice none 0 0)))] [0,1,5] (.seq (sr [mq 14 1,oo 15 (.len (tp 14) false),oo 16 (.mv (ci 0))] [0,5,14,15,16] (.block 0 (.loop (sr [oo 17 (.bin .lss (tp 16) (tp 15))] [0,5,14,15,16,17] (.seq (.cond (tp 17) .skip (.exit 0)) (.seq (.block 1 (sr [oo 18 (.idxA 1 (tp 14) (tp 16)),lq 19 18,mq 7 19] [0,5,7,14,15,16] (sr [mq 21 0,mq 22 7,oo 23 (.call 61 [tp 21,tp 22]),mq 20 23,oo 24 (.extract (tp 20) 0),oo 25 (.extract (tp 20) 1),mq 8 24,mq 9 25] [0,5,8,9,14,15,16] (sr [mq 26 9,mq 27 26,og 27 true 28 (.mv (tp 5)),og 27 true 29 (.mv (tp 8)),og 27 true 30 (.call 62 [tp 28,tp 29]),og 27 true 31 (.un .not (tp 30)),oo 32 (.pick (tp 27) (tp 31) (cq false))] [0,5,8,14,15,16,32] (.cond (tp 32) (.region [mq 33 5,mq 34 8,oo 35 (.bslice 9 1 [tp 34]),oo 36 (.append 9 1 16 (tp 33) (tp 35)),mq 5 36] (some [0,5,14,15,16])) .skip))))) (.region [oo 37 (.bin .add (tp 16) (ci 1)),mq 16 37] (some [0,5,14,15,16])))))))) (sr [mq 38 5,mq 4 38] [4] .ret)))))
def an_zbr1v : Ann := ann (List.range 12) ac_zbr1v
theorem ok_zbr1v : okd Tryz.prog an_zbr1v ac_zbr1v Tryz.f34 := ⟨by kernel_rfl, by kernel_rfl⟩

def ac_z49r6 : AC := (sr [oo 4 (.mv (.const (.slice none 0 0)))] [0,1] (.seq (sr [mq 7 1,oo 8 (.len (tp 7) false),oo 9 (.mv (ci 0))] [0,7,8,9] (.block 0 (.loop (sr [oo 10 (.bin .lss (tp 9) (tp 8))] [0,7,8,9,10] (.seq (.cond (tp 10) .skip (.exit 0)) (.seq (.block 1 (sr [oo 11 (.idxA 5 (tp 7) (tp 9)),oo 12 (.load (some 5) (tp 11)),oo 6 (.alloc 46 [.pd (.raw (.int .i64 0)),.pd (.raw (.string ⟨#[]⟩)),.pd (.raw (.string ⟨#[]⟩)),.pd (.raw (.string ⟨#[]⟩)),.nils]),.mk none none (.store 5 (tp 6) (tp 12))] [0,6,7,8,9] (sr [mq 13 0,oo 14 (.mkfn 72 [tp 6]),oo 15 (.call 46 [tp 13,tp 14]),oo 16 (.un .not (tp 15))] [0,6,7,8,9,16] (.cond (tp 16) (.region [mq 17 0,oo 18 (.load (some 5) (tp 6)),oo 19 (.bslice 46 5 [tp 18]),oo 20 (.append 46 5 80 (tp 17) (tp 19)),mq 0 20] (some [0,7,8,9])) .skip)))) (.region [oo 21 (.bin .add (tp 9) (ci 1)),mq 9 21] (some [0,7,8,9])))))))) (sr [mq 22 0,mq 4 22] [4] .ret)))
def an_z49r6 : Ann := ann (List.range 8) ac_z49r6
theorem ok_z49r6 : okd Tryz.prog an_z49r6 ac_z49r6 Tryz.f41 := ⟨by kernel_rfl, by kernel_rfl⟩

def ac_zoiaa : AC := (sr [oo 4 (.mv (.const (.string ⟨#[]⟩))),oo 5 (.mv (cq false))] [0,1] (.seq (.block 0 (sr [mq 7 0,oo 8 (.call 96 [tp 7]),oo 9 (.un .not (tp 8)),mq 10 9,og 10 false 11 (.mv (tp 1)),og 10 false 12 (.call 96 [tp 11]),og 10 false 13 (.un .not (tp 12)),oo 14 (.pick (tp 10) (cq true) (tp 13)),mq 6 14] [0,1,6] (.cond (tp 6) (sr [oo 4 (.mv (.const (.string ⟨#[]⟩))),oo 5 (.mv (cq false))] [4,5] .ret) (sr [mq 16 0,mq 17 1,oo 18 (.call 116 [tp 16,tp 17]),mq 15 18] [0,1,15] (.cond (tp 15) (sr [mq 19 0,mq 4 19,oo 5 (.mv (cq true))] [4,5] .ret) (sr [mq 21 1,mq 22 0,oo 23 (.call 116 [tp 21,tp 22]),mq 20 23] [1,20] (.cond (tp 20) (sr [mq 24 1,mq 4 24,oo 5 (.mv (cq true))] [4,5] .ret) .skip))))))) (sr [oo 4 (.mv (.const (.string ⟨#[]⟩))),oo 5 (.mv (cq false))] [4,5] .ret)))
def an_zoiaa : Ann := ann (List.range 8) ac_zoiaa
theorem ok_zoiaa : okd Tryz.prog an_zoiaa ac_zoiaa Tryz.f61 := ⟨by kernel_rfl, by kernel_rfl⟩

def ac_zez17 : AC := (sr [oo 2 (.box 46 (tp 0)),oo 3 (.mv (cq false))] [1,2] (sr [fi 4 0 2,oo 5 (.load (some 3) (tp 4)),fi 6 0 1,oo 7 (.load (some 3) (tp 6)),oo 8 (.eqs false [.int,.str,.str] (tp 5) (tp 7)),mq 9 8,og 9 true 10 (.fieldA 3 (tp 2)),og 9 true 11 (.load none (tp 10)),og 9 true 12 (.fieldA 3 (tp 1)),og 9 true 13 (.load none (tp 12)),og 9 true 14 (.bin .eql (tp 11) (tp 13)),oo 15 (.pick (tp 9) (tp 14) (cq false)),mq 3 15] [3] .ret))
def an_zez17 : Ann := ann (List.range 2) ac_zez17
theorem ok_zez17 : okd Tryz.prog an_zez17 ac_zez17 Tryz.f72 := ⟨by kernel_rfl, by kernel_rfl⟩

def ac_ziiwx : AC := (sr [oo 4 (.mv (cq false))] [0,1] (sr [mq 10 0,oo 11 (.call 146 [tp 10,.const (.string ⟨#[42,46]⟩)]),mq 9 11,oo 12 (.extract (tp 9) 0),oo 13 (.extract (tp 9) 1),mq 5 12,mq 6 13] [0,1,5,6] (sr [mq 15 1,oo 16 (.call 146 [tp 15,.const (.string ⟨#[42,46]⟩)]),mq 14 16,oo 17 (.extract (tp 14) 0),oo 18 (.extract (tp 14) 1),mq 7 17,mq 8 18] [0,1,5,6,7,8] (.seq (.block 0 (sr [mq 20 1,oo 21 (.bin .eql (tp 20) (.const (.string ⟨#[]⟩))),mq 22 21,og 22 false 23 (.mv (tp 0)),og 22 false 24 (.mv (tp 1)),og 22 false 25 (.bin .eql (tp 23) (tp 24)),oo 26 (.pick (tp 22) (cq true) (tp 25)),mq 19 26] [0,5,6,7,8,19] (.cond (tp 19) (sr [oo 4 (.mv (cq true))] [4] .ret) (sr [mq 28 0,oo 29 (.bin .eql (tp 28) (.const (.string ⟨#[]⟩))),mq 30 29,og 30 false 31 (.mv (tp 8)),og 30 false 32 (.un .not (tp 31)),oo 33 (.pick (tp 30) (cq true) (tp 32)),mq 27 33] [0,5,6,7,27] (.cond (tp 27) (sr [oo 4 (.mv (cq false))] [4] .ret) (sr [mq 35 6,mq 34 35] [0,5,7,34] (.cond (tp 34) (sr [mq 36 5,mq 37 7,oo 38 (.call 166 [tp 36,tp 37]),mq 4 38] [4] .ret) .skip))))))) (sr [mq 39 0,mq 40 7,oo 41 (.call 166 [tp 39,tp 40]),mq 4 41] [4] .ret)))))
def an_ziiwx : Ann := ann (List.range 10) ac_ziiwx
theorem ok_ziiwx : okd Tryz.prog an_ziiwx ac_ziiwx Tryz.f116 := ⟨by kernel_rfl, by kernel_rfl⟩

def ac_zyyse : AC := (sr [oo 4 (.mv (cq false))] [0,1] (sr [mq 5 0,oo 6 (.call 87 [tp 5]),mq 7 6,og 7 true 8 (.mv (tp 1)),og 7 true 9 (.call 87 [tp 8]),oo 10 (.pick (tp 7) (tp 9) (cq false)),mq 11 10,og 11 true 12 (.mv (tp 0)),og 11 true 13 (.mv (tp 1)),og 11 true 14 (.bin .add (.const (.string ⟨#[46]⟩)) (tp 13)),og 11 true 15 (.call 205 [tp 12,tp 14]),oo 16 (.pick (tp 11) (tp 15) (cq false)),mq 4 16] [4] .ret))
def an_zyyse : Ann := ann (List.range 2) ac_zyyse
theorem ok_zyyse : okd Tryz.prog an_zyyse ac_zyyse Tryz.f166 := ⟨by kernel_rfl, by kernel_rfl⟩

def ac_zo94z : AC := (sr [oo 1 (.box 169 (tp 0)),oo 2 (.mv (.const (.string ⟨#[]⟩)))] [1] (sr [fi 3 0 1,lq 4 3,mq 2 4] [2] .ret))
def an_zo94z : Ann := ann (List.range 2) ac_zo94z
theorem ok_zo94z : okd Tryz.prog an_zo94z ac_zo94z Tryz.f173 := ⟨by kernel_rfl, by kernel_rfl⟩

def ac_ztj2x : AC := (sr [oo 2 (.mv (.const (.string ⟨#[]⟩)))] [0] (sr [mq 3 0,mq 2 3] [2] .ret))
def an_ztj2x : Ann := ann (List.range 2) ac_ztj2x
theorem ok_ztj2x : okd Tryz.prog an_ztj2x ac_ztj2x Tryz.f174 := ⟨by kernel_rfl, by kernel_rfl⟩

end Go.Proofs.YtcnhcamimcpinaaGreatDoor


namespace Go.Proofs.YtcnhcamimcpinaaGreatDoor
open Go Go.RowKit
set_option linter.unusedSimpArgs false
set_option linter.unusedVariables false
set_option maxRecDepth 100000

theorem dns_Under (s z : ByteArray) (hs : s.size ≤ 1000000) (hz : z.size ≤ 1000000) : Pure Tryz.prog 166 [str s, str z] (fun d => d = bln (under s z)) := by
 have hadd : binV .add (.string ⟨#[46]⟩) (.string z) = some (.string (⟨#[46]⟩ ++ z)) := if_pos (by have : (⟨#[46]⟩ : ByteArray).size = 1 := rfl; omega)
 refine pure_of_run follows an_zyyse Tryz.func166 rfl ok_zyyse.1 ok_zyyse.2 (by simp [Tryz.ntmps166]) ?_
 rw [run_start]
 simp only [ac_zyyse, go_sem, contS_seq, simprocAttr, ↓hadd]
 (repeat' (first | (refine GifP.mk (fun _ => ?_) (fun _ => ?_)) | (refine Gif.mk (fun _ => ?_) (fun _ => ?_)) | ((first | refine (dns_Name s).callW (enters_of Tryz.func87 rfl rfl) _ rfl rfl ?_ | refine (dns_Name z).callW (enters_of Tryz.func87 rfl rfl) _ rfl rfl ?_ | refine (strings_HasSuffix s (dot ++ z) hs).callW (enters_of Tryz.func205 rfl rfl) _ rfl rfl ?_); rintro _ rfl; try simp only [go_sem, contS_seq, simprocAttr, ↓hadd]))) <;> (simp only [retK, resD, retL, oneD, simprocAttr, Tryz.results166]; exact ⟨_, rfl, rfl, congrArg bln (by first | rfl | (rw [Bool.eq_iff_iff]; simp only [under]; (first | (simp; done) | (simp; omega) | (simp [*]; done) | (simp [*]; omega))) | (simp_all [under]; done) | (exfalso; omega))⟩)

theorem cut_size (p : ByteArray) : (cutPrefix p star).size ≤ p.size := by
 unfold cutPrefix
 split
 ·rw [ByteArray.size_extract]; omega
 ·exact Nat.le_refl _

theorem host_below (p q : ByteArray) (hp : p.size ≤ 1000000) (hq : q.size ≤ 1000000) : Pure Tryz.prog 116 [str p, str q] (fun d => d = bln (below p q)) := by
 have cp := Nat.le_trans (cut_size p) hp
 have cq := Nat.le_trans (cut_size q) hq
 refine pure_of_run follows an_ziiwx Tryz.func116 rfl ok_ziiwx.1 ok_ziiwx.2 (by simp [Tryz.ntmps116]) ?_
 rw [run_start]
 simp only [ac_ziiwx, go_sem, contS_seq, simprocAttr]
 (repeat' (first | (refine GifP.mk (fun _ => ?_) (fun _ => ?_)) | (refine Gif.mk (fun _ => ?_) (fun _ => ?_)) | ((first | refine (strings_CutPrefix p star).callW (enters_of Tryz.func146 rfl rfl) _ rfl rfl ?_ | refine (strings_CutPrefix q star).callW (enters_of Tryz.func146 rfl rfl) _ rfl rfl ?_ | refine (dns_Under (cutPrefix p star) (cutPrefix q star) cp cq).callW (enters_of Tryz.func166 rfl rfl) _ rfl rfl ?_ | refine (dns_Under p (cutPrefix q star) hp cq).callW (enters_of Tryz.func166 rfl rfl) _ rfl rfl ?_); rintro _ rfl; try simp only [go_sem, contS_seq, simprocAttr]))) <;> (simp only [retK, resD, retL, oneD, simprocAttr, Tryz.results116]; exact ⟨_, rfl, rfl, congrArg bln (by first | rfl | (rw [Bool.eq_iff_iff]; simp only [below]; (first | (simp; done) | (simp; omega) | (simp [*]; done) | (simp [*]; omega))) | (simp_all [below]; done) | (exfalso; omega))⟩)

def meetD : Option ByteArray → D
 | some m => .tup [str m, bln true]
 | none => .tup [str ⟨#[]⟩, bln false]

theorem host_Meet' (a b : ByteArray) (ha : a.size ≤ 1000000) (hb : b.size ≤ 1000000) : Pure Tryz.prog 61 [str a, str b] (fun d => d = meetD (hostMeet a b)) := by
 refine pure_of_run follows an_zoiaa Tryz.func61 rfl ok_zoiaa.1 ok_zoiaa.2 (by simp [Tryz.ntmps61]) ?_
 rw [run_start]
 simp only [ac_zoiaa, go_sem, contS_seq, simprocAttr]
 (repeat' (first | (refine GifP.mk (fun _ => ?_) (fun _ => ?_)) | (refine Gif.mk (fun _ => ?_) (fun _ => ?_)) | ((first | refine (host_May a).callW (enters_of Tryz.func96 rfl rfl) _ rfl rfl ?_ | refine (host_May b).callW (enters_of Tryz.func96 rfl rfl) _ rfl rfl ?_ | refine (host_below a b ha hb).callW (enters_of Tryz.func116 rfl rfl) _ rfl rfl ?_ | refine (host_below b a hb ha).callW (enters_of Tryz.func116 rfl rfl) _ rfl rfl ?_); rintro _ rfl; try simp only [go_sem, contS_seq, simprocAttr]))) <;> (simp only [retK, resD, retL, oneD, simprocAttr, Tryz.results61]; exact ⟨_, rfl, rfl, by simp_all [hostMeet, meetD, D.pub, D.pubs]⟩)

theorem may_size {a : ByteArray} (h : hostMay a = true) : a.size ≤ 1000000 := by
 simp only [hostMay, Bool.or_eq_true, Bool.and_eq_true, decide_eq_true_eq] at h
 rcases h with h | h
 ·subst h; decide
 ·have := h.1; omega

theorem host_Meet_no (a b : ByteArray) (h : hostMay a = false) : Pure Tryz.prog 61 [str a, str b] (fun d => d = meetD none) := by
 have c1 := host_May a
 rw [h] at c1
 refine pure_of_run follows an_zoiaa Tryz.func61 rfl ok_zoiaa.1 ok_zoiaa.2 (by simp [Tryz.ntmps61]) ?_
 rw [run_start]
 simp only [ac_zoiaa, go_sem, contS_seq, simprocAttr]
 (repeat' (first | (refine GifP.mk (fun _ => ?_) (fun _ => ?_)) | (refine Gif.mk (fun _ => ?_) (fun _ => ?_)) | (refine c1.callW (enters_of Tryz.func96 rfl rfl) _ rfl rfl ?_; rintro _ rfl; try simp only [go_sem, contS_seq, simprocAttr]))) <;> (simp only [retK, resD, retL, oneD, simprocAttr, Tryz.results61]; exact ⟨_, rfl, rfl, rfl⟩)

theorem host_Meet_nob (a b : ByteArray) (h1 : hostMay a = true) (h : hostMay b = false) : Pure Tryz.prog 61 [str a, str b] (fun d => d = meetD none) := by
 have c1 := host_May a
 have c2 := host_May b
 rw [h1] at c1
 rw [h] at c2
 refine pure_of_run follows an_zoiaa Tryz.func61 rfl ok_zoiaa.1 ok_zoiaa.2 (by simp [Tryz.ntmps61]) ?_
 rw [run_start]
 simp only [ac_zoiaa, go_sem, contS_seq, simprocAttr]
 (repeat' (first | (refine GifP.mk (fun _ => ?_) (fun _ => ?_)) | (refine Gif.mk (fun _ => ?_) (fun _ => ?_)) | ((first | refine c1.callW (enters_of Tryz.func96 rfl rfl) _ rfl rfl ?_ | refine c2.callW (enters_of Tryz.func96 rfl rfl) _ rfl rfl ?_); rintro _ rfl; try simp only [go_sem, contS_seq, simprocAttr]))) <;> (simp only [retK, resD, retL, oneD, simprocAttr, Tryz.results61]; exact ⟨_, rfl, rfl, rfl⟩)

theorem host_Meet (a b : ByteArray) : Pure Tryz.prog 61 [str a, str b] (fun d => d = meetD (hostMeet a b)) := by
 cases h1 : hostMay a
 ·have e : hostMeet a b = none := by unfold hostMeet; rw [if_pos (.inl h1)]
  rw [e]; exact host_Meet_no a b h1
 cases h2 : hostMay b
 ·have e : hostMeet a b = none := by unfold hostMeet; rw [if_pos (.inr h2)]
  rw [e]; exact host_Meet_nob a b h1 h2
 exact host_Meet' a b (may_size h1) (may_size h2)

theorem attach_asked (x : AListener) (p : AParent) : Pure Tryz.prog 33 [x.d, p.d] (fun d => d = bln (asked x p)) := by
 refine pure_of_run follows an_zsw2x Tryz.func33 rfl ok_zsw2x.1 ok_zsw2x.2 (by simp [Tryz.ntmps33]) ?_
 rw [run_start]
 simp only [ac_zsw2x, go_sem, contS_seq, simprocAttr]
 (repeat' (first | (refine GifP.mk (fun _ => ?_) (fun _ => ?_)) | (refine Gif.mk (fun _ => ?_) (fun _ => ?_)))) <;> (simp only [retK, resD, retL, oneD, simprocAttr, Tryz.results33]; exact ⟨_, rfl, rfl, congrArg bln (by first | rfl | (rw [Bool.eq_iff_iff]; simp only [asked]; (first | (simp; done) | (simp; omega) | (simp [*]; done) | (simp [*]; omega))) | (simp_all [asked]; done) | (exfalso; omega))⟩)


theorem slices_Index_string (l : List ByteArray) (hl : l.length ≤ 1000000) (v : ByteArray) : Pure Tryz.prog 117 [.pd (.slice (strs l)), str v] (fun d => d = int (lidx (fun x => decide (v = x)) l 0)) := by
 refine pure_of_run follows an_zv0lr Tryz.func117 rfl ok_zv0lr.1 ok_zv0lr.2 (by simp [Tryz.ntmps117]) ?_
 rw [run_start]
 simp only [ac_zv0lr, go_sem, contS_seq, simprocAttr, rows_len]
 refine loopS (fun k st => ∃ i : Nat, k = l.length - i ∧ i ≤ l.length ∧ lidx (fun x => decide (v = x)) (l.drop i) i = lidx (fun x => decide (v = x)) l 0 ∧
  st = ⟨[(0, .pd (.slice (strs l))), (1, str v), (7, int l.length), (8, int i)], [], [], .no⟩) l.length _ (Weak.refl _ _) ⟨0, rfl, Nat.zero_le _, rfl, rfl⟩ ?_
 rintro k st ⟨i, rfl, hi, hr, rfl⟩
 by_cases hlt : i < l.length
 ·obtain ⟨x, hx⟩ := at_lt hlt
  have hlt' : ((i : Int) < (l.length : Int)) = True := eq_true (by omega)
  have hw := i64_succ (show i < 1000000000 by omega)
  rw [drop_at hx, lidx] at hr
  simp only [go_sem, contS_seq, simprocAttr, hlt', rows_get hx, hw]
  refine GifP.mk (fun h => ?_) (fun h => ?_)
  ·rw [if_pos (by simp [h])] at hr
   simp only [retK, resD, retL, oneD, simprocAttr, Tryz.results117]
   exact ⟨_, rfl, rfl, congrArg int hr⟩
  ·rw [if_neg (by simp [h])] at hr
   refine ⟨l.length - (i + 1), _, ?_, ?_, i + 1, rfl, ?_, hr, rfl⟩
   ·omega
   ·exact lessA
   ·omega
 ·have hlt' : ((i : Int) < (l.length : Int)) = False := eq_false (by omega)
  rw [List.drop_eq_nil_of_le (by omega), lidx] at hr
  simp only [go_sem, contS_seq, simprocAttr, rows_len, hlt']
  simp only [retK, resD, retL, oneD, simprocAttr, Tryz.results117]
  exact ⟨_, rfl, rfl, congrArg int hr⟩

theorem slices_Contains_string (l : List ByteArray) (hl : l.length ≤ 1000000) (v : ByteArray) : Pure Tryz.prog 62 [.pd (.slice (strs l)), str v] (fun d => d = bln (hasStr l v)) := by
 refine pure_of_run follows an_z5vdk Tryz.func62 rfl ok_z5vdk.1 ok_z5vdk.2 (by simp [Tryz.ntmps62]) ?_
 rw [run_start]
 simp only [ac_z5vdk, go_sem, contS_seq, simprocAttr, rows_len]
 refine (slices_Index_string l hl v).callW (enters_of Tryz.func117 rfl rfl) _ rfl rfl ?_
 rintro d rfl
 simp only [go_sem, contS_seq, simprocAttr]
 simp only [retK, resD, retL, oneD, simprocAttr, Tryz.results62]
 exact ⟨_, rfl, rfl, congrArg bln (lidx_any _ l)⟩

theorem label_find_1 (n : ByteArray) (p : APair) : PureB Tryz.prog 214 [p.d, .ptr 1000001 0] [(1000001, [str n])] (fun d => d = bln (isName n p)) := by
 refine pureB_of_run follows an_zu0as Tryz.func214 rfl ok_zu0as.1 ok_zu0as.2 (by simp [Tryz.ntmps214]) ?_
 rw [run_start]
 simp only [ac_zu0as, go_sem, contS_seq, simprocAttr]
 simp only [retK, resD, retL, oneD, simprocAttr, Tryz.results214]
 exact ⟨_, rfl, rfl, rfl⟩

def labD : Option ByteArray → D
 | some v => .tup [str v, bln true]
 | none => .tup [str ⟨#[]⟩, bln false]

theorem label_find (l : List APair) (hl : l.length ≤ 1000000) (n : ByteArray) : Pure Tryz.prog 172 [.pd (.slice (rows APair.pd l)), str n] (fun d => d = labD (labFind l n)) := by
 refine pure_of_run follows an_ztzuw Tryz.func172 rfl ok_ztzuw.1 ok_ztzuw.2 (by simp [Tryz.ntmps172]) ?_
 rw [run_start]
 simp only [ac_ztzuw, go_sem, contS_seq, simprocAttr]
 refine (IndexFunc_Pair (isName n) 214 (enters_of Tryz.func214 rfl rfl) [(1000001, 0)] [(1000001, [str n])] (Cl.of rfl rfl rfl rfl rfl) l hl (fun p _ => label_find_1 n p)).callW (enters_of Tryz.func213 rfl rfl) _ [(3, 1000001)] rfl rfl rfl ?_
 rintro d rfl
 rcases lidx_find (isName n) l 0 with ⟨h1, h2⟩ | ⟨x, j, h1, h2, h3⟩
 ·rw [h2]
  simp only [go_sem, contS_seq, simprocAttr]
  simp only [retK, resD, retL, oneD, simprocAttr, Tryz.results172]
  refine ⟨_, rfl, rfl, ?_⟩
  rw [labFind, h1]; rfl
 ·rw [h2, Nat.zero_add]
  have hn : ((j : Int) < 0) = False := eq_false (by omega)
  simp only [go_sem, contS_seq, simprocAttr, hn, rows_get h3]
  simp only [retK, resD, retL, oneD, simprocAttr, Tryz.results172]
  refine ⟨_, rfl, rfl, ?_⟩
  rw [labFind, h1]; rfl


theorem among_name (n : ByteArray) (vals : List ByteArray) : Pure Tryz.prog 173 [.agg [str n, .pd (.slice (strs vals))]] (fun d => d = str n) := by
 refine pure_of_run follows an_zo94z Tryz.func173 rfl ok_zo94z.1 ok_zo94z.2 (by simp [Tryz.ntmps173]) ?_
 rw [run_start]
 simp only [ac_zo94z, go_sem, contS_seq, simprocAttr]
 (repeat' (first | (refine GifP.mk (fun _ => ?_) (fun _ => ?_)) | (refine Gif.mk (fun _ => ?_) (fun _ => ?_)))) <;> (simp only [retK, resD, retL, oneD, simprocAttr, Tryz.results173]; exact ⟨_, rfl, rfl, rfl⟩)

theorem there_name (n : ByteArray) : Pure Tryz.prog 174 [str n] (fun d => d = str n) := by
 refine pure_of_run follows an_ztj2x Tryz.func174 rfl ok_ztj2x.1 ok_ztj2x.2 (by simp [Tryz.ntmps174]) ?_
 rw [run_start]
 simp only [ac_ztj2x, go_sem, contS_seq, simprocAttr]
 (repeat' (first | (refine GifP.mk (fun _ => ?_) (fun _ => ?_)) | (refine Gif.mk (fun _ => ?_) (fun _ => ?_)))) <;> (simp only [retK, resD, retL, oneD, simprocAttr, Tryz.results174]; exact ⟨_, rfl, rfl, rfl⟩)

theorem met_among_n (n : ByteArray) (vals : List ByteArray) (l : List APair) (c1 : Pure Tryz.prog 172 [.pd (.slice (rows APair.pd l)), str n] (fun d => d = labD none)) :
 Pure Tryz.prog 132 [.pd (.iface 169 true [pStr n, .slice (strs vals)]), .pd (.slice (rows APair.pd l))] (fun d => d = bln false) := by
 unfold labD at c1
 refine pure_of_run follows an_zvb4i Tryz.func132 rfl ok_zvb4i.1 ok_zvb4i.2 (by simp [Tryz.ntmps132]) ?_
 rw [run_start]
 simp only [ac_zvb4i, go_sem, contS_seq, simprocAttr]
 (repeat' (first | (refine GifP.mk (fun _ => ?_) (fun _ => ?_)) | (refine Gif.mk (fun _ => ?_) (fun _ => ?_)) | ((first | refine (among_name n vals).callW (enters_of Tryz.func173 rfl rfl) _ rfl rfl ?_ | refine c1.callW (enters_of Tryz.func172 rfl rfl) _ rfl rfl ?_); rintro _ rfl; try simp only [go_sem, contS_seq, simprocAttr]))) <;> (simp only [retK, resD, retL, oneD, simprocAttr, Tryz.results132]; exact ⟨_, rfl, rfl, rfl⟩)

theorem met_among_s (n v : ByteArray) (vals : List ByteArray) (hv : vals.length ≤ 1000000) (l : List APair) (c1 : Pure Tryz.prog 172 [.pd (.slice (rows APair.pd l)), str n] (fun d => d = labD (some v))) :
 Pure Tryz.prog 132 [.pd (.iface 169 true [pStr n, .slice (strs vals)]), .pd (.slice (rows APair.pd l))] (fun d => d = bln (hasStr vals v)) := by
 unfold labD at c1
 refine pure_of_run follows an_zvb4i Tryz.func132 rfl ok_zvb4i.1 ok_zvb4i.2 (by simp [Tryz.ntmps132]) ?_
 rw [run_start]
 simp only [ac_zvb4i, go_sem, contS_seq, simprocAttr]
 (repeat' (first | (refine GifP.mk (fun _ => ?_) (fun _ => ?_)) | (refine Gif.mk (fun _ => ?_) (fun _ => ?_)) | ((first | refine (among_name n vals).callW (enters_of Tryz.func173 rfl rfl) _ rfl rfl ?_ | refine c1.callW (enters_of Tryz.func172 rfl rfl) _ rfl rfl ?_ | refine (slices_Contains_string vals hv v).callW (enters_of Tryz.func62 rfl rfl) _ rfl rfl ?_); rintro _ rfl; try simp only [go_sem, contS_seq, simprocAttr]))) <;> (simp only [retK, resD, retL, oneD, simprocAttr, Tryz.results132]; exact ⟨_, rfl, rfl, rfl⟩)

theorem met_among (n : ByteArray) (vals : List ByteArray) (hv : vals.length ≤ 1000000) (l : List APair) (hl : l.length ≤ 1000000) :
 Pure Tryz.prog 132 [.pd (.iface 169 true [pStr n, .slice (strs vals)]), .pd (.slice (rows APair.pd l))] (fun d => d = bln (labAmong l n vals)) := by
 have c1 := label_find l hl n
 unfold labAmong
 rcases hf : labFind l n with _ | v
 ·rw [hf] at c1; exact met_among_n n vals l c1
 ·rw [hf] at c1; exact met_among_s n v vals hv l c1

theorem met_there_o (n : ByteArray) (l : List APair) (v : ByteArray) (b : Bool) (c1 : Pure Tryz.prog 172 [.pd (.slice (rows APair.pd l)), str n] (fun d => d = .tup [str v, bln b])) :
 Pure Tryz.prog 132 [.pd (.iface 172 false [pStr n]), .pd (.slice (rows APair.pd l))] (fun d => d = bln b) := by
 refine pure_of_run follows an_zvb4i Tryz.func132 rfl ok_zvb4i.1 ok_zvb4i.2 (by simp [Tryz.ntmps132]) ?_
 rw [run_start]
 simp only [ac_zvb4i, go_sem, contS_seq, simprocAttr]
 (repeat' (first | (refine GifP.mk (fun _ => ?_) (fun _ => ?_)) | (refine Gif.mk (fun _ => ?_) (fun _ => ?_)) | ((first | refine (there_name n).callW (enters_of Tryz.func174 rfl rfl) _ rfl rfl ?_ | refine c1.callW (enters_of Tryz.func172 rfl rfl) _ rfl rfl ?_); rintro _ rfl; try simp only [go_sem, contS_seq, simprocAttr]))) <;> (simp only [retK, resD, retL, oneD, simprocAttr, Tryz.results132]; exact ⟨_, rfl, rfl, rfl⟩)

theorem met_there (n : ByteArray) (l : List APair) (hl : l.length ≤ 1000000) :
 Pure Tryz.prog 132 [.pd (.iface 172 false [pStr n]), .pd (.slice (rows APair.pd l))] (fun d => d = bln (labFind l n).isSome) := by
 have c1 := label_find l hl n
 rcases hf : labFind l n with _ | v
 ·rw [hf] at c1; exact met_there_o n l _ _ c1
 ·rw [hf] at c1; exact met_there_o n l _ _ c1

theorem met_outside (n : ByteArray) (vals : List ByteArray) (hv : vals.length ≤ 1000000) (l : List APair) (hl : l.length ≤ 1000000) :
 Pure Tryz.prog 132 [.pd (.iface 171 true [pStr n, .slice (strs vals)]), .pd (.slice (rows APair.pd l))] (fun d => d = bln (!labAmong l n vals)) := by
 refine pure_of_run follows an_zvb4i Tryz.func132 rfl ok_zvb4i.1 ok_zvb4i.2 (by simp [Tryz.ntmps132]) ?_
 rw [run_start]
 simp only [ac_zvb4i, go_sem, contS_seq, simprocAttr]
 (repeat' (first | (refine GifP.mk (fun _ => ?_) (fun _ => ?_)) | (refine Gif.mk (fun _ => ?_) (fun _ => ?_)) | (refine (met_among n vals hv l hl).callW (enters_of Tryz.func132 rfl rfl) _ rfl rfl ?_; rintro _ rfl; try simp only [go_sem, contS_seq, simprocAttr]))) <;> (simp only [retK, resD, retL, oneD, simprocAttr, Tryz.results132]; exact ⟨_, rfl, rfl, rfl⟩)

theorem met_missing (n : ByteArray) (l : List APair) (hl : l.length ≤ 1000000) :
 Pure Tryz.prog 132 [.pd (.iface 174 true [pStr n]), .pd (.slice (rows APair.pd l))] (fun d => d = bln (!(labFind l n).isSome)) := by
 refine pure_of_run follows an_zvb4i Tryz.func132 rfl ok_zvb4i.1 ok_zvb4i.2 (by simp [Tryz.ntmps132]) ?_
 rw [run_start]
 simp only [ac_zvb4i, go_sem, contS_seq, simprocAttr]
 (repeat' (first | (refine GifP.mk (fun _ => ?_) (fun _ => ?_)) | (refine Gif.mk (fun _ => ?_) (fun _ => ?_)) | (refine (met_there n l hl).callW (enters_of Tryz.func132 rfl rfl) _ rfl rfl ?_; rintro _ rfl; try simp only [go_sem, contS_seq, simprocAttr]))) <;> (simp only [retK, resD, retL, oneD, simprocAttr, Tryz.results132]; exact ⟨_, rfl, rfl, rfl⟩)

theorem met_nil (l : List APair) : Pure Tryz.prog 132 [.pd (.raw .nilIface), .pd (.slice (rows APair.pd l))] (fun d => d = bln false) := by
 refine pure_of_run follows an_zvb4i Tryz.func132 rfl ok_zvb4i.1 ok_zvb4i.2 (by simp [Tryz.ntmps132]) ?_
 rw [run_start]
 simp only [ac_zvb4i, go_sem, contS_seq, simprocAttr]
 (repeat' (first | (refine GifP.mk (fun _ => ?_) (fun _ => ?_)) | (refine Gif.mk (fun _ => ?_) (fun _ => ?_)))) <;> (simp only [retK, resD, retL, oneD, simprocAttr, Tryz.results132]; exact ⟨_, rfl, rfl, rfl⟩)

theorem label_met (n : ANeed) (hv : n.ok) (l : List APair) (hl : l.length ≤ 1000000) :
 Pure Tryz.prog 132 [asksD n, .pd (.slice (rows APair.pd l))] (fun d => d = bln (askMay n && metBy n l)) := by
 unfold asksD askMay metBy
 by_cases h0 : dname n.name = false
 ·rw [if_pos h0, h0, Bool.false_and, Bool.false_and]
  exact met_nil l
 rw [if_neg h0]
 rw [Bool.not_eq_false] at h0
 rw [h0, Bool.true_and]
 by_cases h1 : n.kind = 1
 ·have e2 : ¬ n.kind = 2 := by omega
  have e3 : ¬ n.kind = 3 := by omega
  have e4 : ¬ n.kind = 4 := by omega
  by_cases hf : fewVals n = true
  ·simp only [h1, hf, and_self, if_true, decide_true, Bool.true_and, Bool.true_or]
   exact met_among n.name n.vals hv l hl
  ·simp only [h1, hf, e2, e3, e4, and_false, false_and, if_false]
   simp [h1, hf]
   exact met_nil l
 by_cases h2 : n.kind = 2
 ·by_cases hf : fewVals n = true
  ·simp only [h2, hf]
   simp
   exact met_outside n.name n.vals hv l hl
  ·simp only [h2, hf]
   simp [hf]
   exact met_nil l
 by_cases h3 : n.kind = 3
 ·by_cases hf : n.vals.length = 0
  ·simp only [h3, hf]
   simp
   exact met_there n.name l hl
  ·simp only [h3, hf]
   simp [hf]
   exact met_nil l
 by_cases h4 : n.kind = 4
 ·by_cases hf : n.vals.length = 0
  ·simp only [h4, hf]
   have := met_missing n.name l hl
   simp only [Option.not_isSome] at this
   simp
   exact this
  ·simp only [h4, hf]
   simp [hf]
   exact met_nil l
 ·simp only [h1, h2, h3, h4, false_and, if_false, decide_false, Bool.false_and, Bool.or_false]
  exact met_nil l

theorem asksD_pd (n : ANeed) : ∃ x, asksD n = .pd x := by
 rcases askMay_isnil n with ⟨t, a, cs, h1, _⟩ | ⟨h1, _⟩
 ·exact ⟨_, h1⟩
 ·exact ⟨_, h1⟩

theorem label_Met (n : ANeed) (hv : n.ok) (l : List APair) (hl : l.length ≤ 1000000) : Pure Tryz.prog 77 [n.d, .pd (.slice (rows APair.pd l))] (fun d => d = bln (metNeed n l)) := by
 have c1 := label_asks n hv
 have c2 := label_met n hv l hl
 obtain ⟨x, hx⟩ := asksD_pd n
 rw [hx] at c1 c2
 refine pure_of_run follows an_zavw2 Tryz.func77 rfl ok_zavw2.1 ok_zavw2.2 (by simp [Tryz.ntmps77]) ?_
 rw [run_start]
 simp only [ac_zavw2, go_sem, contS_seq, simprocAttr]
 (repeat' (first | (refine GifP.mk (fun _ => ?_) (fun _ => ?_)) | (refine Gif.mk (fun _ => ?_) (fun _ => ?_)) | ((first | refine (label_May l hl).callW (enters_of Tryz.func74 rfl rfl) _ rfl rfl ?_ | refine c1.callW (enters_of Tryz.func129 rfl rfl) _ rfl rfl ?_ | refine c2.callW (enters_of Tryz.func132 rfl rfl) _ rfl rfl ?_); rintro _ rfl; try simp only [go_sem, contS_seq, simprocAttr]))) <;> (simp only [retK, resD, retL, oneD, simprocAttr, Tryz.results77]; exact ⟨_, rfl, rfl, congrArg bln (by first | rfl | (rw [Bool.eq_iff_iff]; simp only [metNeed]; (first | (simp; done) | (simp; omega) | (simp [*]; done) | (simp [*]; omega))) | (simp_all [metNeed]; done) | (exfalso; omega))⟩)

theorem label_All_1 (l : List APair) (hl : l.length ≤ 1000000) (n : ANeed) (hv : n.ok) : PureB Tryz.prog 76 [n.d, .ptr 1000001 0] [(1000001, [.pd (.slice (rows APair.pd l))])] (fun d => d = bln (!metNeed n l)) := by
 refine pureB_of_run follows an_z3q2c Tryz.func76 rfl ok_z3q2c.1 ok_z3q2c.2 (by simp [Tryz.ntmps76]) ?_
 rw [run_start]
 simp only [ac_z3q2c, go_sem, contS_seq, simprocAttr]
 refine (label_Met n hv l hl).callW (enters_of Tryz.func77 rfl rfl) _ rfl rfl ?_
 rintro _ rfl
 simp only [go_sem, contS_seq, simprocAttr]
 simp only [retK, resD, retL, oneD, simprocAttr, Tryz.results76]
 exact ⟨_, rfl, rfl, rfl⟩

theorem label_All (needs : List ANeed) (hn : needs.length ≤ 1000000) (hv : ∀ n ∈ needs, n.ok) (l : List APair) (hl : l.length ≤ 1000000) :
 Pure Tryz.prog 42 [.pd (.slice (rows ANeed.pd needs)), .pd (.slice (rows APair.pd l))] (fun d => d = bln (labelsAll needs l)) := by
 refine pure_of_run follows an_zjbt5 Tryz.func42 rfl ok_zjbt5.1 ok_zjbt5.2 (by simp [Tryz.ntmps42]) ?_
 rw [run_start]
 simp only [ac_zjbt5, go_sem, contS_seq, simprocAttr]
 (repeat' (first | (refine GifP.mk (fun _ => ?_) (fun _ => ?_)) | (refine Gif.mk (fun _ => ?_) (fun _ => ?_)) | ((first | refine (label_Needs needs hn hv).callW (enters_of Tryz.func73 rfl rfl) _ rfl rfl ?_ | refine (label_May l hl).callW (enters_of Tryz.func74 rfl rfl) _ rfl rfl ?_ | refine (ContainsFunc_Need (fun n => !metNeed n l) 76 (enters_of Tryz.func76 rfl rfl) [(1000001, 0)] [(1000001, [.pd (.slice (rows APair.pd l))])] (Cl.of rfl rfl rfl rfl rfl) needs hn (fun n h => label_All_1 l hl n (hv n h))).callW (enters_of Tryz.func75 rfl rfl) _ [(3, 1000001)] rfl rfl rfl ?_); rintro _ rfl; try simp only [go_sem, contS_seq, simprocAttr]))) <;> (simp only [retK, resD, retL, oneD, simprocAttr, Tryz.results42]; exact ⟨_, rfl, rfl, congrArg bln (by first | rfl | (rw [Bool.eq_iff_iff]; simp only [labelsAll]; (first | (simp; done) | (simp; omega) | (simp [*]; done) | (simp [*]; omega))) | (simp_all [labelsAll]; done) | (exfalso; omega))⟩)


def letsAt (os : List AObj) (g : AObj) (i : Int) (space : ByteArray) : Bool := match atL g i with
 | some x => attLets labelsAll os g x space
 | none => false

theorem attach_Lets (os : List AObj) (hos : os.length ≤ 1000000) (h : ∀ o ∈ os, o.ok) (g : AObj) (hg : g.ok) (i : Int) (space : ByteArray) :
 Pure Tryz.prog 18 [.pd (.slice (rows AObj.pd os)), g.d, int i, str space] (fun d => d = bln (letsAt os g i space)) := by
 have hli := hg.li
 refine pure_of_run follows an_zuhx Tryz.func18 rfl ok_zuhx.1 ok_zuhx.2 (by simp [Tryz.ntmps18]) ?_
 rw [run_start]
 unfold letsAt atL gwOk
 by_cases h5 : g.ref.kind = 5
 case neg =>
  have h5' := eq_false h5
  simp only [ac_zuhx, go_sem, contS_seq, simprocAttr, rows_len, h5']
  simp only [retK, resD, retL, oneD, simprocAttr, Tryz.results18]
  exact ⟨_, rfl, rfl, by simp [h5, D.pub]⟩
 have h5' := eq_true h5
 simp only [ac_zuhx, go_sem, contS_seq, simprocAttr, rows_len, h5']
 refine (object_May g hg).callW (enters_of Tryz.func29 rfl rfl) _ rfl rfl ?_
 rintro _ rfl
 cases hm : objMay g
 ·simp only [go_sem, contS_seq, simprocAttr]
  simp only [retK, resD, retL, oneD, simprocAttr, Tryz.results18]
  exact ⟨_, rfl, rfl, by simp [D.pub]⟩
 by_cases hi : i < 0
 ·have hi' := eq_true hi
  simp only [go_sem, contS_seq, simprocAttr, rows_len, hi']
  simp only [retK, resD, retL, oneD, simprocAttr, Tryz.results18]
  exact ⟨_, rfl, rfl, by simp [hi, D.pub]⟩
 obtain ⟨n, rfl⟩ : ∃ n : Nat, i = n := ⟨i.toNat, by omega⟩
 have hi' := eq_false hi
 by_cases hl : n < g.listeners.length
 case neg =>
  have h1 : ((g.listeners.length : Int) ≤ (n : Int)) = True := eq_true (by omega)
  simp only [go_sem, contS_seq, simprocAttr, rows_len, hi', h1]
  simp only [retK, resD, retL, oneD, simprocAttr, Tryz.results18]
  have hno : g.listeners[n]? = none := List.getElem?_eq_none (by omega)
  exact ⟨_, rfl, rfl, by simp only [Int.toNat_natCast, hno]; simp [D.pub]⟩
 obtain ⟨x, hx⟩ := at_lt hl
 have hxok := hg.lis x (List.mem_of_getElem? hx)
 have h1 : ((g.listeners.length : Int) ≤ (n : Int)) = False := eq_false (by omega)
 simp only [Int.toNat_natCast, hx, hi, decide_true, Bool.and_self, if_true, if_false, attLets]
 by_cases f1 : x.from_ = 1
 ·have f1' := eq_true f1
  simp only [go_sem, contS_seq, simprocAttr, rows_len, hi', h1, rows_get hx, f1']
  simp only [retK, resD, retL, oneD, simprocAttr, Tryz.results18]
  exact ⟨_, rfl, rfl, by simp [D.pub]⟩
 have f1' := eq_false f1
 by_cases f2 : x.from_ = 2
 case neg =>
  have f2' := eq_false f2
  simp only [go_sem, contS_seq, simprocAttr, rows_len, hi', h1, rows_get hx, f1', f2']
  simp only [retK, resD, retL, oneD, simprocAttr, Tryz.results18]
  exact ⟨_, rfl, rfl, by simp [D.pub]⟩
 have f2' := eq_true f2
 simp only [go_sem, contS_seq, simprocAttr, rows_len, hi', h1, rows_get hx, f1', f2']
 refine (grant_Find os hos ⟨2, ⟨#[]⟩, space⟩).callW (enters_of Tryz.func30 rfl rfl) _ rfl rfl ?_
 rintro _ rfl
 rcases hf : found os ⟨2, ⟨#[]⟩, space⟩ with _ | s
 ·simp only [foundD, go_sem, contS_seq, simprocAttr]
  simp only [retK, resD, retL, oneD, simprocAttr, Tryz.results18]
  exact ⟨_, rfl, rfl, by simp [D.pub]⟩
 simp only [foundD, go_sem, contS_seq, simprocAttr]
 refine (object_May s (h s (List.mem_of_find?_eq_some hf))).callW (enters_of Tryz.func29 rfl rfl) _ rfl rfl ?_
 rintro _ rfl
 cases hs : objMay s
 ·simp only [go_sem, contS_seq, simprocAttr]
  simp only [retK, resD, retL, oneD, simprocAttr, Tryz.results18]
  exact ⟨_, rfl, rfl, by simp [D.pub]⟩
 simp only [go_sem, contS_seq, simprocAttr]
 refine (label_All x.needs hxok.nl hxok.n s.labels (h s (List.mem_of_find?_eq_some hf)).la).callW (enters_of Tryz.func42 rfl rfl) _ rfl rfl ?_
 rintro _ rfl
 simp only [go_sem, contS_seq, simprocAttr]
 simp only [retK, resD, retL, oneD, simprocAttr, Tryz.results18]
 exact ⟨_, rfl, rfl, by simp [D.pub]⟩

theorem meetFold_len (p : ByteArray) : ∀ (hosts : List ByteArray) (out : List ByteArray), (hosts.foldl (meetStep p) out).length ≤ out.length + hosts.length
 | [], _ => by simp
 | h :: hosts, out => by
   have h1 := meetFold_len p hosts (meetStep p out h)
   have h2 : (meetStep p out h).length ≤ out.length + 1 := by
    unfold meetStep
    repeat' split
    all_goals simp
   simp only [List.foldl_cons, List.length_cons]
   omega

theorem foldl_take {α β : Type} {f : β → α → β} {b : β} {l : List α} {i : Nat} {x : α} (hx : l[i]? = some x) : (l.take (i + 1)).foldl f b = f ((l.take i).foldl f b) x := by
 rw [take_at hx, List.foldl_append]; rfl

theorem Weak.purge {P : Program} {st st' : St} (t : Nat) (hf : lessL st'.fr (st.purge t).fr) (hb : lessL st'.bs (st.purge t).bs) (hm : lessL st'.ms st.ms) (hh : st'.hs = st.hs) : Weak P st st' :=
 fun _ _ _ _ _ hs => ⟨_, (hs.purge t).less (fun i d hd => .inl (lessL_lk hf i d hd)) (lessL_lk hb) (lessL_lk hm) hh⟩

set_option maxHeartbeats 1000000 in
theorem attach_Meet (p : ByteArray) (hosts : List ByteArray) (hl : hosts.length ≤ 1000000) :
 Pure Tryz.prog 34 [str p, .pd (.slice (strs hosts))] (fun d => d = .pd (.slice (strs (meets p hosts)))) := by
 have hl2 : (someHosts hosts).length ≤ 1000000 := by
  unfold someHosts
  split
  ·simp
  ·exact hl
 refine pure_of_run follows an_zbr1v Tryz.func34 rfl ok_zbr1v.1 ok_zbr1v.2 (by simp [Tryz.ntmps34]) ?_
 rw [run_start]
 by_cases h0 : hosts.length = 0
 all_goals
  first
  | (have h0' := eq_true h0
     have hsome : someHosts hosts = [⟨#[]⟩] := by simp [someHosts, List.length_eq_zero_iff.1 h0]
     simp only [ac_zbr1v, go_sem, contS_seq, simprocAttr, rows_len, h0', Int.natCast_eq_zero])
  | (have h0' := eq_false h0
     have hsome : someHosts hosts = hosts := by unfold someHosts; exact if_neg fun e => h0 (List.length_eq_zero_iff.2 e)
     simp only [ac_zbr1v, go_sem, contS_seq, simprocAttr, rows_len, h0', Int.natCast_eq_zero])
  refine loopS (fun k st => ∃ i : Nat, k = (someHosts hosts).length - i ∧ i ≤ (someHosts hosts).length ∧
   st = ⟨[(0, str p), (5, .own 9 1 (strs (((someHosts hosts).take i).foldl (meetStep p) [])) 36), (14, .pd (.slice (strs (someHosts hosts)))), (15, int (someHosts hosts).length), (16, int i)], [], [], .no⟩) (someHosts hosts).length _ ?_ ⟨0, rfl, by omega, rfl⟩ ?_
  ·first
   | (refine Weak.trans (s2 := ⟨[(0, str p), (5, .nils), (14, .pd (.slice (strs (someHosts hosts)))), (15, int (someHosts hosts).length), (16, int 0)], [], [], .no⟩) (Weak.purge 13 (by simp [lessL, lk, St.purge, D.purge, hsome]) (by simp [lessL, lk, St.purge, D.purges, D.purge]) (by simp [lessL]) rfl) ?_
      exact Weak.own1 5 36 9 1 (by kernel_rfl) (by decide) rfl (by simp [lessL, lk, St.purge, St.put, D.purge, rows]) (by simp [lessL, lk, St.purge, D.purges, D.purge]) (by simp [lessL]) rfl)
   | (rw [hsome]
      exact Weak.own1 5 36 9 1 (by kernel_rfl) (by decide) rfl (by simp [lessL, lk, St.purge, St.put, D.purge, rows]) (by simp [lessL, lk, St.purge, D.purges, D.purge]) (by simp [lessL]) rfl)
  clear hsome h0'
  generalize hL : someHosts hosts = L at hl2 ⊢
  rintro k st ⟨i, rfl, hi, rfl⟩
  by_cases hlt : i < L.length
  ·obtain ⟨x, hx⟩ := at_lt hlt
   have h1 : ((i : Int) < (L.length : Int)) = True := eq_true (by omega)
   have hw := i64_succ (show i < 1000000000 by omega)
   have hf := foldl_take (f := meetStep p) (b := []) hx
   have hol := meetFold_len p (L.take i) []
   rw [List.length_nil, List.length_take] at hol
   simp only [go_sem, contS_seq, simprocAttr, rows_len, rows_get hx, h1]
   refine (host_Meet p x).callW (enters_of Tryz.func61 rfl rfl) _ rfl rfl ?_
   rintro _ rfl
   generalize (L.take i).foldl (meetStep p) [] = out at hf hol ⊢
   rcases hm : hostMeet p x with _ | m
   ·simp only [meetD, go_sem, contS_seq, simprocAttr, hw]
    rw [show meetStep p out x = out by simp [meetStep, hm]] at hf
    refine ⟨L.length - (i + 1), _, by omega, ?_, i + 1, rfl, by omega, rfl⟩
    rw [hf]
    exact lessA
   ·simp only [meetD, go_sem, contS_seq, simprocAttr, hw]
    refine (slices_Contains_string out (by omega) m).callW (enters_of Tryz.func62 rfl rfl) _ rfl rfl ?_
    rintro _ rfl
    cases hc : hasStr out m
    ·rw [show meetStep p out x = out ++ [m] by simp [meetStep, hm, hc]] at hf
     simp only [go_sem, contS_seq, simprocAttr, rows_len, hw]
     rw [show strs out ++ [[PD.raw (.string m)]] = strs (out ++ [m]) from rows_one out m, ← hf]
     refine ⟨fun r hr => by rw [List.mem_singleton.1 hr]; rfl, by unfold maxLen; omega, by omega, L.length - (i + 1), _, by omega, ?_, i + 1, rfl, by omega, rfl⟩
     exact lessA
    ·rw [show meetStep p out x = out by simp [meetStep, hm, hc]] at hf
     simp only [go_sem, contS_seq, simprocAttr, hw]
     refine ⟨L.length - (i + 1), _, by omega, ?_, i + 1, rfl, by omega, rfl⟩
     rw [hf]
     exact lessA
  ·have h1 : ((i : Int) < (L.length : Int)) = False := eq_false (by omega)
   rw [List.take_of_length_le (by omega)]
   simp only [go_sem, contS_seq, simprocAttr, rows_len, h1]
   simp only [retK, resD, retL, oneD, simprocAttr, Tryz.results34]
   exact ⟨_, rfl, rfl, by unfold meets; rw [hL]; rfl⟩


def attD (a : List ASpot × ByteArray × Bool) : D := .tup [.pd (.slice (rows ASpot.pd a.1)), str a.2.1, bln a.2.2]

theorem atFold_len {os : List AObj} {g r : AObj} {p : AParent} : ∀ (l : List AListener) (a : List ASpot × ByteArray), (l.foldl (fun a x => atStep labelsAll os g r p x a) a).1.length ≤ a.1.length + l.length
 | [], _ => by simp
 | x :: l, a => by
   have h1 := atFold_len (os := os) (g := g) (r := r) (p := p) l (atStep labelsAll os g r p x a)
   have h2 : (atStep labelsAll os g r p x a).1.length ≤ a.1.length + 1 := by
    unfold atStep
    repeat' split
    all_goals simp
   simp only [List.foldl_cons, List.length_cons]
   omega

theorem lets_of {os : List AObj} {g : AObj} {i : Nat} {x : AListener} (h : gwOk g = true) (hx : g.listeners[i]? = some x) (s : ByteArray) : letsAt os g i s = attLets labelsAll os g x s := by
 unfold letsAt atL
 rw [if_pos h, if_neg (by omega), Int.toNat_natCast, hx]

set_option maxHeartbeats 4000000 in
theorem attach_At (os : List AObj) (hos : os.length ≤ 1000000) (h : ∀ o ∈ os, o.ok) (r : AObj) (hr : r.ok) (p : Int) :
 Pure Tryz.prog 11 [.pd (.slice (rows AObj.pd os)), r.d, int p] (fun d => d = attD (attAt labelsAll os r p)) := by
 have hpa := hr.pa
 refine pure_of_run follows an_zf3ax Tryz.func11 rfl ok_zf3ax.1 ok_zf3ax.2 (by simp [Tryz.ntmps11]) ?_
 rw [run_start]
 unfold attAt isRoute
 by_cases h6 : r.ref.kind = 6
 case neg =>
  have h6' := eq_false h6
  simp only [ac_zf3ax, go_sem, contS_seq, simprocAttr, rows_len, h6']
  simp only [retK, resD, retL, oneD, simprocAttr, Tryz.results11]
  exact ⟨_, rfl, rfl, by rw [if_neg (by simp [h6])]; rfl⟩
 have h6' := eq_true h6
 simp only [ac_zf3ax, go_sem, contS_seq, simprocAttr, rows_len, h6']
 refine (object_May r hr).callW (enters_of Tryz.func29 rfl rfl) _ rfl rfl ?_
 rintro _ rfl
 cases hm : objMay r
 ·simp only [go_sem, contS_seq, simprocAttr]
  simp only [retK, resD, retL, oneD, simprocAttr, Tryz.results11]
  exact ⟨_, rfl, rfl, by rw [if_neg (by simp)]; rfl⟩
 by_cases hi : p < 0
 ·have hi' := eq_true hi
  simp only [go_sem, contS_seq, simprocAttr, rows_len, hi']
  simp only [retK, resD, retL, oneD, simprocAttr, Tryz.results11]
  exact ⟨_, rfl, rfl, by rw [if_neg (by omega)]; rfl⟩
 obtain ⟨n, rfl⟩ : ∃ n : Nat, p = n := ⟨p.toNat, by omega⟩
 have hi' := eq_false hi
 rw [if_pos ⟨by simp [h6], by omega⟩, Int.toNat_natCast]
 by_cases hl : n < r.parents.length
 case neg =>
  have h1 : ((r.parents.length : Int) ≤ (n : Int)) = True := eq_true (by omega)
  have hno : r.parents[n]? = none := List.getElem?_eq_none (by omega)
  simp only [go_sem, contS_seq, simprocAttr, rows_len, hi', h1]
  simp only [retK, resD, retL, oneD, simprocAttr, Tryz.results11]
  exact ⟨_, rfl, rfl, by rw [hno]; rfl⟩
 obtain ⟨x, hx⟩ := at_lt hl
 have h1 : ((r.parents.length : Int) ≤ (n : Int)) = False := eq_false (by omega)
 simp only [hx]
 simp only [go_sem, contS_seq, simprocAttr, rows_len, hi', h1, rows_get hx]
 refine (grant_Near ⟨5, x.space, x.name⟩ r.ref.space).callW (enters_of Tryz.func31 rfl rfl) _ rfl rfl ?_
 rintro _ rfl
 simp only [go_sem, contS_seq, simprocAttr]
 refine (grant_Find os hos (near ⟨5, x.space, x.name⟩ r.ref.space)).callW (enters_of Tryz.func30 rfl rfl) _ rfl rfl ?_
 rintro _ rfl
 rcases hf : found os (near ⟨5, x.space, x.name⟩ r.ref.space) with _ | g
 ·simp only [foundD, go_sem, contS_seq, simprocAttr]
  simp only [retK, resD, retL, oneD, simprocAttr, Tryz.results11]
  exact ⟨_, rfl, rfl, rfl⟩
 have hg := h g (List.mem_of_find?_eq_some hf)
 have hgl := hg.li
 simp only [foundD, go_sem, contS_seq, simprocAttr]
 refine (listen_Ours os hos h g hg).callW (enters_of Tryz.func32 rfl rfl) _ rfl rfl ?_
 rintro _ rfl
 cases ho : ours os g
 ·simp only [go_sem, contS_seq, simprocAttr]
  simp only [retK, resD, retL, oneD, simprocAttr, Tryz.results11]
  exact ⟨_, rfl, rfl, rfl⟩
 have hgw : gwOk g = true := by unfold ours at ho; rw [Bool.and_eq_true] at ho; exact ho.1
 simp only [go_sem, contS_seq, simprocAttr, rows_len]
 obtain ⟨F, hF⟩ : ∃ F : Nat → List ASpot × ByteArray, F = fun i => (g.listeners.take i).foldl (fun a y => atStep labelsAll os g r x y a) ([], noParent) := ⟨_, rfl⟩
 have hF0 : F 0 = ([], noParent) := by rw [hF]; rfl
 have hFl : ∀ i, i ≤ g.listeners.length → (F i).1.length ≤ i := fun i hi => by
  have := atFold_len (os := os) (g := g) (r := r) (p := x) (g.listeners.take i) ([], noParent)
  rw [List.length_nil, List.length_take] at this
  rw [hF]
  simp only
  omega
 have hFs : ∀ i y, g.listeners[i]? = some y → F (i + 1) = atStep labelsAll os g r x y (F i) := fun i y hy => by
  rw [hF]
  exact foldl_take (f := fun a y => atStep labelsAll os g r x y a) hy
 have hFe : F g.listeners.length = atFold labelsAll os g r x g.listeners := by rw [hF]; simp only [List.take_length]; rfl
 rw [← hFe]
 clear hFe hF
 have hn0 : noParent = ⟨#[78, 111, 77, 97, 116, 99, 104, 105, 110, 103, 80, 97, 114, 101, 110, 116]⟩ := rfl
 refine loopS (fun k st => ∃ i : Nat, k = g.listeners.length - i ∧ i ≤ g.listeners.length ∧
  st = ⟨[(0, .pd (.slice (rows AObj.pd os))), (4, .ptr 4 0), (6, .own 46 5 (rows ASpot.pd (F i).1) 100), (7, str (F i).2), (9, .ptr 9 0), (10, .ptr 10 0), (63, .pd (.slice (rows AListener.pd g.listeners))), (64, int g.listeners.length), (65, int i)],
   [(10, g.ds), (9, x.ds), (4, r.ds)], [], .no⟩) g.listeners.length _ ?_ ⟨0, rfl, by omega, rfl⟩ ?_
 ·rw [hF0, hn0]
  exact Weak.own1 6 100 46 5 (by kernel_rfl) (by decide) rfl (by simp [lessL, lk, St.purge, St.put, D.purge, rows]) (by simp [lessL, lk, St.purge, D.purges, D.purge]) (by simp [lessL]) rfl
 rintro k st ⟨i, rfl, hi, rfl⟩
 by_cases hlt : i < g.listeners.length
 ·obtain ⟨y, hy⟩ := at_lt hlt
  have h2 : ((i : Int) < (g.listeners.length : Int)) = True := eq_true (by omega)
  have hw := i64_succ (show i < 1000000000 by omega)
  have hs := hFs i y hy
  have hfl := hFl i hi
  generalize F i = a at hs hfl ⊢
  simp only [go_sem, contS_seq, simprocAttr, rows_len, rows_get hy, h2]
  refine (attach_asked y x).callW (enters_of Tryz.func33 rfl rfl) _ rfl rfl ?_
  rintro _ rfl
  unfold atStep at hs
  cases ha : asked y x
  ·rw [ha, if_pos rfl] at hs
   simp only [go_sem, contS_seq, simprocAttr, hw]
   refine ⟨g.listeners.length - (i + 1), _, by omega, ?_, i + 1, rfl, by omega, rfl⟩
   rw [hs]
   exact lessA
  rw [ha, if_neg (by simp)] at hs
  simp only [go_sem, contS_seq, simprocAttr]
  refine (attach_Meet y.host r.hosts hr.ho).callW (enters_of Tryz.func34 rfl rfl) _ rfl rfl ?_
  rintro _ rfl
  simp only [go_sem, contS_seq, simprocAttr]
  refine (attach_Lets os hos h g hg i r.ref.space).callW (enters_of Tryz.func18 rfl rfl) _ rfl rfl ?_
  rintro _ rfl
  rw [lets_of hgw hy]
  cases hle : attLets labelsAll os g y r.ref.space
  ·rw [hle, if_pos rfl] at hs
   by_cases hnp : a.2 = noParent
   ·rw [if_pos hnp] at hs
    have hnp' := eq_true hnp
    rw [hn0] at hnp'
    simp only [go_sem, contS_seq, simprocAttr, hnp', hw]
    refine ⟨g.listeners.length - (i + 1), _, by omega, ?_, i + 1, rfl, by omega, rfl⟩
    rw [hs]
    unfold noSpace
    exact lessA
   ·rw [if_neg hnp] at hs
    have hnp' := eq_false hnp
    rw [hn0] at hnp'
    simp only [go_sem, contS_seq, simprocAttr, hnp', hw]
    refine ⟨g.listeners.length - (i + 1), _, by omega, ?_, i + 1, rfl, by omega, rfl⟩
    rw [hs]
    exact lessA
  rw [hle, if_neg (by simp)] at hs
  by_cases hme : meets y.host r.hosts = []
  ·rw [if_pos hme] at hs
   have hme' : (((meets y.host r.hosts).length : Int) = 0) = True := eq_true (by rw [hme]; rfl)
   simp only [go_sem, contS_seq, simprocAttr, rows_len, hme', hw]
   refine ⟨g.listeners.length - (i + 1), _, by omega, ?_, i + 1, rfl, by omega, rfl⟩
   rw [hs]
   unfold noHost
   exact lessA
  ·rw [if_neg hme] at hs
   have hme' : (((meets y.host r.hosts).length : Int) = 0) = False := eq_false (fun e => hme (List.length_eq_zero_iff.1 (by omega)))
   simp only [go_sem, contS_seq, simprocAttr, rows_len, hme', hw]
   rw [show rows ASpot.pd a.1 ++ [[PD.raw (Value.int IntKind.i64 g.ref.kind), PD.raw (Value.string g.ref.space), PD.raw (Value.string g.ref.name), pStr y.name, PD.slice (strs (meets y.host r.hosts))]] = rows ASpot.pd (a.1 ++ [⟨g.ref, y.name, meets y.host r.hosts⟩]) from rows_one a.1 ⟨g.ref, y.name, meets y.host r.hosts⟩]
   refine ⟨fun q hq => by rw [List.mem_singleton.1 hq]; rfl, by unfold maxLen; omega, by omega, g.listeners.length - (i + 1), _, by omega, ?_, i + 1, rfl, by omega, rfl⟩
   rw [hs]
   exact lessA
 ·have h2 : ((i : Int) < (g.listeners.length : Int)) = False := eq_false (by omega)
  obtain rfl : i = g.listeners.length := by omega
  generalize F g.listeners.length = a
  simp only [go_sem, contS_seq, simprocAttr, rows_len, h2]
  refine GifP.mk (fun h3 => ?_) (fun h3 => ?_)
  ·have : ¬ a.1 = [] := fun e => by rw [e] at h3; exact absurd h3 (by simp)
   rw [if_neg this]
   simp only [retK, resD, retL, oneD, simprocAttr, Tryz.results11]
   exact ⟨_, rfl, rfl, rfl⟩
  ·have : a.1 = [] := List.length_eq_zero_iff.1 (by omega)
   rw [if_pos this]
   simp only [retK, resD, retL, oneD, simprocAttr, Tryz.results11]
   exact ⟨_, rfl, rfl, rfl⟩


theorem IndexFunc_Spot (p : ASpot → Bool) (g : FuncId) (he : Enters Tryz.prog g) (caps : List (Nat × Nat)) (bs : List (Nat × List D)) (hc : Cl bs caps) (l : List ASpot) (hl : l.length ≤ 1000000)
 (hp : ∀ x ∈ l, PureB Tryz.prog g (ASpot.d x :: capD caps) bs (fun d => d = bln (p x))) :
 PureB Tryz.prog 80 [.pd (.slice (rows ASpot.pd l)), .fn g caps] bs (fun d => d = int (lidx p l 0)) := by
 refine pureB_of_run follows an_zid2e Tryz.func80 rfl ok_zid2e.1 ok_zid2e.2 (by simp [Tryz.ntmps80]) ?_
 rw [run_start]
 simp only [ac_zid2e, go_sem, contS_seq, simprocAttr, rows_len]
 refine loopS (fun k st => ∃ i : Nat, k = l.length - i ∧ i ≤ l.length ∧ lidx p (l.drop i) i = lidx p l 0 ∧
  st = ⟨[(0, .pd (.slice (rows ASpot.pd l))), (1, .fn g caps), (7, int l.length), (8, int i)], bs, [], .no⟩) l.length _ (Weak.refl _ _) ⟨0, rfl, Nat.zero_le _, rfl, rfl⟩ ?_
 rintro k st ⟨i, rfl, hi, hr, rfl⟩
 by_cases hlt : i < l.length
 ·obtain ⟨x, hx⟩ := at_lt hlt
  have hlt' : ((i : Int) < (l.length : Int)) = True := eq_true (by omega)
  have hw := i64_succ (show i < 1000000000 by omega)
  rw [drop_at hx, lidx] at hr
  simp only [go_sem, contS_seq, simprocAttr, hlt', rows_get hx]
  refine (hp x (List.mem_of_getElem? hx)).callW he _ (idr bs) hc.ok (hc.args (by rfl)) hc.see ?_
  rintro d rfl
  simp only [go_sem, contS_seq, simprocAttr]
  refine Gif.mk (fun h => ?_) (fun h => ?_)
  ·rw [if_pos h] at hr
   simp only [retK, resD, retL, oneD, simprocAttr, Tryz.results80]
   exact ⟨_, rfl, rfl, congrArg int hr⟩
  ·rw [if_neg (by simp [h])] at hr
   simp only [go_sem, contS_seq, simprocAttr, hw]
   refine ⟨l.length - (i + 1), _, ?_, ?_, i + 1, rfl, ?_, hr, rfl⟩
   ·omega
   ·exact Weak.less (by simp [lessL, lk]) (lessL_refl hc.nd) (by simp [lessL, lk]) rfl
   ·omega
 ·have hlt' : ((i : Int) < (l.length : Int)) = False := eq_false (by omega)
  rw [List.drop_eq_nil_of_le (by omega), lidx] at hr
  simp only [go_sem, contS_seq, simprocAttr, rows_len, hlt']
  simp only [retK, resD, retL, oneD, simprocAttr, Tryz.results80]
  exact ⟨_, rfl, rfl, congrArg int hr⟩

theorem ContainsFunc_Spot (p : ASpot → Bool) (g : FuncId) (he : Enters Tryz.prog g) (caps : List (Nat × Nat)) (bs : List (Nat × List D)) (hc : Cl bs caps) (l : List ASpot) (hl : l.length ≤ 1000000)
 (hp : ∀ x ∈ l, PureB Tryz.prog g (ASpot.d x :: capD caps) bs (fun d => d = bln (p x))) :
 PureB Tryz.prog 46 [.pd (.slice (rows ASpot.pd l)), .fn g caps] bs (fun d => d = bln (l.any p)) := by
 refine pureB_of_run follows an_z3l61 Tryz.func46 rfl ok_z3l61.1 ok_z3l61.2 (by simp [Tryz.ntmps46]) ?_
 rw [run_start]
 simp only [ac_z3l61, go_sem, contS_seq, simprocAttr, rows_len]
 refine (IndexFunc_Spot p g he caps bs hc l hl hp).callW (enters_of Tryz.func80 rfl rfl) _ (idr bs) hc.ok hc.two hc.see ?_
 rintro d rfl
 simp only [go_sem, contS_seq, simprocAttr]
 simp only [retK, resD, retL, oneD, simprocAttr, Tryz.results46]
 exact ⟨_, rfl, rfl, congrArg bln (lidx_any p l)⟩


theorem eqf_dec {α : Type} [DecidableEq α] {q : α → α → Bool} (h : ∀ x y, q x y = decide (x = y)) : ∀ l m : List α, eqf q l m = decide (l = m)
 | [], [] => rfl
 | [], _ :: _ => rfl
 | _ :: _, [] => rfl
 | x :: l, y :: m => by
   simp only [eqf, h, eqf_dec h l m]
   rw [Bool.eq_iff_iff]
   simp

theorem needSame_dec (a b : ANeed) : needSame a b = decide (a = b) := by
 cases a; cases b
 rw [Bool.eq_iff_iff]
 simp [needSame, and_assoc]

theorem listenerSame_dec (a b : AListener) : listenerSame a b = decide (a = b) := by
 simp only [listenerSame, eqf_dec needSame_dec]
 cases a; cases b
 rw [Bool.eq_iff_iff]
 simp [and_assoc]

theorem matchSame_dec (a b : AMatch) : matchSame a b = decide (a = b) := by
 cases a; cases b
 rw [Bool.eq_iff_iff]
 simp [matchSame, and_assoc]

theorem ruleSame_dec (a b : ARule) : ruleSame a b = decide (a = b) := by
 simp only [ruleSame, eqf_dec matchSame_dec]
 cases a; cases b
 rw [Bool.eq_iff_iff]
 simp [and_assoc]

theorem objSame_iff (a b : AObj) : objSame a b = true ↔ a = b := by
 simp only [objSame, eqf_dec listenerSame_dec, eqf_dec ruleSame_dec]
 cases a; cases b
 simp [and_assoc]
 intro _ _
 constructor
 ·rintro ⟨h1, h2, h3, h4, h5, h6, h7, h8, h9⟩
  exact ⟨h2, h3, h1, h8, h5, h4, h9, h6, h7⟩
 ·rintro ⟨h2, h3, h1, h8, h5, h4, h9, h6, h7⟩
  exact ⟨h1, h2, h3, h4, h5, h6, h7, h8, h9⟩

def AObj.keep (o : AObj) : AObj :=
 if o.ref.kind = 1 ∨ o.ref.kind = 4 then { AObj.zero o.ref with good := o.good }
 else if o.ref.kind = 2 then { AObj.zero o.ref with labels := o.labels }
 else if o.ref.kind = 3 then { AObj.zero o.ref with ports := o.ports }
 else if o.ref.kind = 5 then { AObj.zero o.ref with listeners := o.listeners, cls := o.cls }
 else if o.ref.kind = 6 then { AObj.zero o.ref with parents := o.parents, hosts := o.hosts, rules := o.rules }
 else { AObj.zero o.ref with from_ := o.from_, to_ := o.to_ }

theorem keep_iff (o : AObj) : o.keep = o ↔ o.strip = AObj.zero o.ref := by
 obtain ⟨r, gd, la, po, cl, li, pa, ho, ru, fr, to⟩ := o
 unfold AObj.keep AObj.strip
 simp only [AObj.zero]
 repeat' split
 all_goals
  simp only [AObj.mk.injEq]
  constructor
  ·intro h; simp_all
  ·intro h; simp_all

theorem objMay_keep (o : AObj) : objMay o = (mayRef o.ref && (kindMay o && decide (o.keep = o))) := by
 rw [Bool.eq_iff_iff]
 simp only [objMay, Bool.and_eq_true, objSame_iff, decide_eq_true_eq, keep_iff, and_assoc]


theorem objMay_route {o : AObj} (h : o.ref.kind = 6) : objMay o = true ↔ mayRef o.ref = true ∧ routeMay o.parents o.hosts o.rules = true ∧ ({ AObj.zero o.ref with parents := o.parents, hosts := o.hosts, rules := o.rules } : AObj) = o := by
 have e1 : kindMay o = routeMay o.parents o.hosts o.rules := by simp [kindMay, h]
 have e2 : o.keep = { AObj.zero o.ref with parents := o.parents, hosts := o.hosts, rules := o.rules } := by simp [AObj.keep, h]
 rw [objMay_keep, e1, e2]
 simp only [Bool.and_eq_true, decide_eq_true_eq]

theorem isRoute_iff' {r : AObj} : isRoute r = true ↔ r.ref.kind = 6 ∧ objMay r = true := by simp [isRoute]

abbrev AObj.wide (r : AObj) : AObj := { r with hosts := [] }
abbrev AObj.open_ (r : AObj) (p : AParent) : AObj := { r with parents := [⟨p.space, p.name, ⟨#[]⟩, 0⟩] }

theorem twice_nil {α : Type} (q : α → α → Bool) : twice q [] = false := rfl
theorem twice_one {α : Type} (q : α → α → Bool) (x : α) : twice q [x] = false := by simp [twice, twiceFrom]

theorem wide_route {r : AObj} (h : isRoute r = true) : isRoute r.wide = true := by
 obtain ⟨h6, hm⟩ := isRoute_iff'.1 h
 obtain ⟨h1, h2, h3⟩ := (objMay_route h6).1 hm
 refine isRoute_iff'.2 ⟨h6, (objMay_route (o := r.wide) h6).2 ⟨h1, ?_, ?_⟩⟩
 ·simp only [routeMay, Bool.and_eq_true, Bool.not_eq_true', Bool.or_eq_false_iff] at h2 ⊢
  exact ⟨⟨⟨⟨h2.1.1.1.1, twice_nil _⟩, h2.1.1.2⟩, by simp [every]⟩, h2.2⟩
 ·obtain ⟨rf, gd, la, po, cl, li, pa, ho, ru, fr, to⟩ := r
  simp only [AObj.zero, AObj.mk.injEq] at h3 ⊢
  simp_all

theorem open_route {r : AObj} {p : AParent} (h : isRoute r = true) (hp : p ∈ r.parents) : isRoute (r.open_ p) = true := by
 obtain ⟨h6, hm⟩ := isRoute_iff'.1 h
 obtain ⟨h1, h2, h3⟩ := (objMay_route h6).1 hm
 refine isRoute_iff'.2 ⟨h6, (objMay_route (o := r.open_ p) h6).2 ⟨h1, ?_, ?_⟩⟩
 ·simp only [routeMay, Bool.and_eq_true, Bool.not_eq_true', Bool.or_eq_false_iff] at h2 ⊢
  refine ⟨⟨⟨⟨twice_one _ _, h2.1.1.1.2⟩, ?_⟩, h2.1.2⟩, h2.2⟩
  have hpm : parentMay p = true := by
   have := h2.1.1.2
   simp only [every, Bool.and_eq_true] at this
   exact List.all_eq_true.1 this.2 p hp
  simp only [parentMay, Bool.and_eq_true] at hpm
  simp only [every, List.length_cons, List.length_nil, List.all_cons, List.all_nil, Bool.and_true, parentMay]
  have e0 : labValue ⟨#[]⟩ = true := by simp [labValue]
  simp [hpm.1.1.1, hpm.1.1.2, e0]
 ·obtain ⟨rf, gd, la, po, cl, li, pa, ho, ru, fr, to⟩ := r
  simp only [AObj.zero, AObj.mk.injEq] at h3 ⊢
  simp_all

section
variable (met : List ANeed → List APair → Bool)

theorem attAt_of {os : List AObj} {r g : AObj} {p : AParent} (h1 : isRoute r = true) (h2 : r.parents[0]? = some p) (h3 : found os (near ⟨5, p.space, p.name⟩ r.ref.space) = some g) (h4 : ours os g = true) :
 attAt met os r 0 = ((atFold met os g r p g.listeners).1, if (atFold met os g r p g.listeners).1 = [] then (atFold met os g r p g.listeners).2 else ⟨#[]⟩, true) := by
 unfold attAt
 rw [if_pos ⟨h1, by omega⟩]
 simp only [Int.toNat_zero, h2, h3, h4, if_true]

theorem attAt_off {os : List AObj} {r : AObj} {p : Int} (h : (attAt met os r p).2.2 = false) : (attAt met os r p).1 = [] := by
 unfold attAt at h ⊢
 split
 ·rename_i h1
  rw [if_pos h1] at h
  split
  ·rename_i x hx
   simp only [hx] at h
   split
   ·rename_i g hg
    simp only [hg] at h
    split
    ·rename_i ho
     rw [if_pos ho] at h
     cases h
    ·rfl
   ·rfl
  ·rfl
 ·rfl

theorem attAt_on {os : List AObj} {r : AObj} {p : Int} (h : (attAt met os r p).2.2 = true) : ∃ (x : AParent) (g : AObj), isRoute r = true ∧ 0 ≤ p ∧ r.parents[p.toNat]? = some x ∧ found os (near ⟨5, x.space, x.name⟩ r.ref.space) = some g ∧ ours os g = true ∧
 (attAt met os r p).1 = (atFold met os g r x g.listeners).1 := by
 unfold attAt at h ⊢
 by_cases h1 : isRoute r = true ∧ 0 ≤ p
 ·rw [if_pos h1] at h ⊢
  cases hx : r.parents[p.toNat]? with
  | none => rw [hx] at h; cases h
  | some x =>
    rw [hx] at h
    simp only at h ⊢
    cases hg : found os (near ⟨5, x.space, x.name⟩ r.ref.space) with
    | none => rw [hg] at h; cases h
    | some g =>
      rw [hg] at h
      simp only at h ⊢
      by_cases ho : ours os g = true
      ·rw [if_pos ho]
       exact ⟨x, g, h1.1, h1.2, rfl, hg, ho, rfl⟩
      ·rw [if_neg ho] at h; cases h
 ·rw [if_neg h1] at h; cases h

theorem mem_fold {os : List AObj} {g r : AObj} {p : AParent} {s : ASpot} {l : List AListener} : s ∈ (atFold met os g r p l).1 ↔
 ∃ x ∈ l, asked x p = true ∧ attLets met os g x r.ref.space = true ∧ meets x.host r.hosts ≠ [] ∧ s = ⟨g.ref, x.name, meets x.host r.hosts⟩ := by
 unfold atFold
 rw [mem_atFold]
 simp

theorem one_wide {os : List AObj} {r : AObj} (h : (attAt met os r 0).2.2 = true) : (attAt met os r.wide 0).2.2 = true ∧ ∀ s ∈ (attAt met os r 0).1, (attAt met os r.wide 0).1.any (fun x => x.at_ s.gateway s.listener) = true := by
 obtain ⟨p, g, h1, _, h2, h3, h4, h5⟩ := attAt_on met h
 rw [attAt_of met (r := r.wide) (wide_route h1) h2 h3 h4]
 refine ⟨rfl, fun s hs => ?_⟩
 rw [h5, mem_fold] at hs
 obtain ⟨x, hx, e1, e2, e3, rfl⟩ := hs
 exact List.any_eq_true.2 ⟨⟨g.ref, x.name, meets x.host []⟩, (mem_fold met).2 ⟨x, hx, e1, e2, meets_wide e3, rfl⟩, by simp⟩

theorem one_open {os : List AObj} {r : AObj} {p : AParent} (hp : r.parents[0]? = some p) (h : (attAt met os r 0).2.2 = true) : (attAt met os (r.open_ p) 0).2.2 = true ∧ ∀ s ∈ (attAt met os r 0).1, (attAt met os (r.open_ p) 0).1.any (fun x => x.at_ s.gateway s.listener) = true := by
 obtain ⟨p', g, h1, _, h2, h3, h4, h5⟩ := attAt_on met h
 obtain rfl : p' = p := Option.some.inj (h2.symm.trans hp)
 rw [attAt_of met (r := r.open_ p') (open_route h1 (List.mem_of_getElem? hp)) rfl h3 h4]
 refine ⟨rfl, fun s hs => ?_⟩
 rw [h5, mem_fold] at hs
 obtain ⟨x, hx, _, e2, e3, rfl⟩ := hs
 exact List.any_eq_true.2 ⟨⟨g.ref, x.name, meets x.host r.hosts⟩, (mem_fold met).2 ⟨x, hx, by simp [asked], e2, e3, rfl⟩, by simp⟩

end


theorem gather_1 (s x : ASpot) : PureB Tryz.prog 72 [x.d, .ptr 1000001 0] [(1000001, s.ds)] (fun d => d = bln (x.at_ s.gateway s.listener)) := by
 refine pureB_of_run follows an_zez17 Tryz.func72 rfl ok_zez17.1 ok_zez17.2 (by simp [Tryz.ntmps72]) ?_
 rw [run_start]
 simp only [ac_zez17, go_sem, contS_seq, simprocAttr, eqVs, eqV, eq_Ref]
 refine GifP.mk (fun h => ?_) (fun h => ?_)
 all_goals
  simp only [retK, resD, retL, oneD, simprocAttr, Tryz.results72]
  exact ⟨_, rfl, rfl, congrArg bln (by simp [ASpot.at_, h])⟩

theorem gatherS_len : ∀ (more out : List ASpot), (gatherS out more).length ≤ out.length + more.length
 | [], _ => by simp [gatherS]
 | s :: more, out => by
   have h1 := gatherS_len more (gatherStep out s)
   have h2 : (gatherStep out s).length ≤ out.length + 1 := by
    unfold gatherStep
    split <;> simp
   unfold gatherS at h1 ⊢
   simp only [List.foldl_cons, List.length_cons]
   omega

set_option maxHeartbeats 4000000 in
theorem attach_gather (out more : List ASpot) (hm : out.length + more.length ≤ 1000000) :
 Full Tryz.prog 41 [.own 46 5 (rows ASpot.pd out) 500001, .pd (.slice (rows ASpot.pd more))] [] false
  (fun d bs => (d = .own 46 5 (rows ASpot.pd (gatherS out more)) 500001 ∨ d = .own 46 5 (rows ASpot.pd (gatherS out more)) 20) ∧ bs = []) := by
 refine full_of_run follows an_z49r6 Tryz.func41 rfl ok_z49r6.1 ok_z49r6.2 (by simp [Tryz.ntmps41]) (by simp [Tryz.ntmps41]) (.inl rfl) ?_
 rw [run_start]
 simp only [ac_z49r6, go_sem, contS_seq, simprocAttr, rows_len]
 refine loopS (fun k st => ∃ (i tok : Nat), k = more.length - i ∧ i ≤ more.length ∧ (tok = 500001 ∨ tok = 20) ∧
  st = ⟨[(0, .own 46 5 (rows ASpot.pd (gatherS out (more.take i))) tok), (7, .pd (.slice (rows ASpot.pd more))), (8, int more.length), (9, int i)], [], [], .no⟩) more.length _ (Weak.refl _ _) ⟨0, 500001, rfl, by omega, .inl rfl, rfl⟩ ?_
 rintro k st ⟨i, tok, rfl, hi, htok, rfl⟩
 by_cases hlt : i < more.length
 ·obtain ⟨s, hs⟩ := at_lt hlt
  have h1 : ((i : Int) < (more.length : Int)) = True := eq_true (by omega)
  have hw := i64_succ (show i < 1000000000 by omega)
  have hst : gatherS out (more.take (i + 1)) = gatherStep (gatherS out (more.take i)) s := foldl_take hs
  have hl := gatherS_len (more.take i) out
  rw [List.length_take] at hl
  generalize gatherS out (more.take i) = a at hst hl ⊢
  simp only [go_sem, contS_seq, simprocAttr, rows_len, rows_get hs, h1]
  refine (ContainsFunc_Spot (fun x => x.at_ s.gateway s.listener) 72 (enters_of Tryz.func72 rfl rfl) [(1000001, 0)] [(1000001, s.ds)] (Cl.of rfl rfl rfl rfl rfl) a (by omega) (fun x _ => gather_1 s x)).callW (enters_of Tryz.func46 rfl rfl) _ [(6, 1000001)] rfl rfl rfl ?_
  rintro _ rfl
  unfold gatherStep at hst
  cases hc : a.any fun x => x.at_ s.gateway s.listener
  ·rw [hc, if_neg (by simp)] at hst
   rcases htok with rfl | rfl
   all_goals
    simp only [go_sem, contS_seq, simprocAttr, rows_len, hw]
    rw [show rows ASpot.pd a ++ [[PD.raw (Value.int IntKind.i64 s.gateway.kind), PD.raw (Value.string s.gateway.space), PD.raw (Value.string s.gateway.name), PD.raw (Value.string s.listener), PD.slice (strs s.hosts)]] = rows ASpot.pd (a ++ [s]) from rows_one a s]
    refine ⟨fun q hq => by rw [List.mem_singleton.1 hq]; rfl, by unfold maxLen; omega, by omega, more.length - (i + 1), _, by omega, ?_, i + 1, 20, rfl, by omega, .inr rfl, rfl⟩
    rw [hst]
    exact lessA
  ·rw [hc, if_pos rfl] at hst
   simp only [go_sem, contS_seq, simprocAttr, hw]
   refine ⟨more.length - (i + 1), _, by omega, ?_, i + 1, tok, rfl, by omega, htok, rfl⟩
   rw [hst]
   exact lessA
 ·have h1 : ((i : Int) < (more.length : Int)) = False := eq_false (by omega)
  rw [List.take_of_length_le (by omega)]
  simp only [go_sem, contS_seq, simprocAttr, rows_len, h1]
  simp only [retK, fullK, resD, retL, oneD, simprocAttr, Tryz.results41]
  rcases htok with rfl | rfl
  ·exact ⟨_, [], rfl, trivial, .inl rfl, rfl⟩
  ·exact ⟨_, [], rfl, trivial, .inr rfl, rfl⟩

theorem allUpto_len (os : List AObj) (r : AObj) (B : Nat) (hB : ∀ p, (attAt labelsAll os r p).1.length ≤ B) : ∀ n, (allUpto labelsAll os r n).length ≤ n * B
 | 0 => by simp [allUpto]
 | n + 1 => by
   have h1 := allUpto_len os r B hB n
   have h2 := gatherS_len (attAt labelsAll os r n).1 (allUpto labelsAll os r n)
   have h3 := hB n
   simp only [allUpto]
   rw [Nat.succ_mul]
   omega

theorem ours_few {os : List AObj} {g : AObj} (h : ours os g = true) : g.listeners.length ≤ 8 := by
 have h1 : g.ref.kind = 5 ∧ objMay g = true := by
  simp only [ours, gwOk, Bool.and_eq_true, decide_eq_true_eq] at h
  exact h.1
 have h2 := h1.2
 rw [objMay_keep] at h2
 simp only [Bool.and_eq_true] at h2
 have h3 := h2.2.1
 simp only [kindMay, h1.1] at h3
 simp only [gatewayMay, every, Bool.and_eq_true, decide_eq_true_eq, Int.reduceEq, false_or, or_self, if_false, if_true] at h3
 omega

theorem attAt_few (os : List AObj) (r : AObj) (p : Int) : (attAt labelsAll os r p).1.length ≤ 8 := by
 by_cases ho : (attAt labelsAll os r p).2.2 = true
 ·obtain ⟨x, g, _, _, _, _, h4, h5⟩ := attAt_on labelsAll ho
  rw [h5]
  have h1 := atFold_len (os := os) (g := g) (r := r) (p := x) g.listeners ([], noParent)
  have h2 := ours_few h4
  unfold atFold
  rw [List.length_nil] at h1
  omega
 ·rw [attAt_off labelsAll (by simpa using ho)]
  simp

set_option maxHeartbeats 4000000 in
theorem attach_All (os : List AObj) (hos : os.length ≤ 1000000) (h : ∀ o ∈ os, o.ok) (r : AObj) (hr : r.ok) (hn : r.parents.length ≤ 1000) :
 Pure Tryz.prog 14 [.pd (.slice (rows AObj.pd os)), r.d] (fun d => d = .pd (.slice (rows ASpot.pd (attAll labelsAll os r)))) := by
 refine pure_of_run follows an_z7omx Tryz.func14 rfl ok_z7omx.1 ok_z7omx.2 (by simp [Tryz.ntmps14]) ?_
 rw [run_start]
 simp only [ac_z7omx, go_sem, contS_seq, simprocAttr, rows_len]
 refine loopS (fun k st => ∃ (i tok : Nat), k = r.parents.length - i ∧ i ≤ r.parents.length ∧ (tok = 26 ∨ tok = 27) ∧
  st = ⟨[(0, .pd (.slice (rows AObj.pd os))), (3, .ptr 3 0), (5, .own 46 5 (rows ASpot.pd (allUpto labelsAll os r i)) tok), (12, int r.parents.length), (13, int i)], [(3, r.ds)], [], .no⟩) r.parents.length _ ?_ ⟨0, 26, rfl, by omega, .inl rfl, rfl⟩ ?_
 ·rw [allUpto]
  exact Weak.own1 5 26 46 5 (by kernel_rfl) (by decide) rfl (by simp [lessL, lk, St.purge, St.put, D.purge, rows]) (by simp [lessL, lk, St.purge, D.purges, D.purge]) (by simp [lessL]) rfl
 rintro k st ⟨i, tok, rfl, hi, htok, rfl⟩
 by_cases hlt : i < r.parents.length
 ·have h1 : ((i : Int) < (r.parents.length : Int)) = True := eq_true (by omega)
  have hw := i64_succ (show i < 1000000000 by omega)
  simp only [go_sem, contS_seq, simprocAttr, rows_len, h1]
  refine (attach_At os hos h r hr i).callW (enters_of Tryz.func11 rfl rfl) _ rfl rfl ?_
  rintro _ rfl
  simp only [attD, go_sem, contS_seq, simprocAttr]
  have hb1 := allUpto_len os r 8 (attAt_few os r) i
  have hb2 := attAt_few os r i
  have hbi : i * 8 ≤ 8000 := by omega
  rcases htok with rfl | rfl
  ·refine (attach_gather (allUpto labelsAll os r i) (attAt labelsAll os r i).1 (by omega)).callW (enters_of Tryz.func41 rfl rfl) _ false [] [(26, 500001)] [] [(500001, 26), (20, 27)] rfl rfl rfl ?_
   rintro d bs ⟨hd, rfl⟩
   rcases hd with rfl | rfl
   ·simp only [go_sem, contS_seq, simprocAttr, hw]
    refine ⟨r.parents.length - (i + 1), _, by omega, ?_, i + 1, 26, rfl, by omega, .inl rfl, rfl⟩
    rw [allUpto]
    exact lessA
   ·simp only [go_sem, contS_seq, simprocAttr, hw]
    refine ⟨r.parents.length - (i + 1), _, by omega, ?_, i + 1, 27, rfl, by omega, .inr rfl, rfl⟩
    rw [allUpto]
    exact lessA
  ·refine (attach_gather (allUpto labelsAll os r i) (attAt labelsAll os r i).1 (by omega)).callW (enters_of Tryz.func41 rfl rfl) _ false [] [(27, 500001)] [] [(500001, 26), (20, 27)] rfl rfl rfl ?_
   rintro d bs ⟨hd, rfl⟩
   rcases hd with rfl | rfl
   ·simp only [go_sem, contS_seq, simprocAttr, hw]
    refine ⟨r.parents.length - (i + 1), _, by omega, ?_, i + 1, 26, rfl, by omega, .inl rfl, rfl⟩
    rw [allUpto]
    exact lessA
   ·simp only [go_sem, contS_seq, simprocAttr, hw]
    refine ⟨r.parents.length - (i + 1), _, by omega, ?_, i + 1, 27, rfl, by omega, .inr rfl, rfl⟩
    rw [allUpto]
    exact lessA
 ·have h1 : ((i : Int) < (r.parents.length : Int)) = False := eq_false (by omega)
  obtain rfl : i = r.parents.length := by omega
  simp only [go_sem, contS_seq, simprocAttr, rows_len, h1]
  simp only [retK, resD, retL, oneD, simprocAttr, Tryz.results14]
  exact ⟨_, rfl, rfl, rfl⟩





def few (s : ByteArray) : ByteArray := if s.size ≤ 100 then s else s.extract 0 100

set_option maxRecDepth 100000 in
theorem law1_Few (s : ByteArray) : Pure Tryz.prog 21 [str s] (fun d => d = str (few s)) := by
 refine pure_of_run follows an_zba9k Tryz.func21 rfl ok_zba9k.1 ok_zba9k.2 (by simp [Tryz.ntmps21]) ?_
 rw [run_start]
 by_cases h : 100 < s.size
 ·have h1 : (100 : Int) < (s.size : Int) := by omega
  have h2 : 100 ≤ s.size := by omega
  simp only [ac_zba9k, go_sem, contS_seq, simprocAttr, h1, h2]
  simp only [retK, resD, retL, oneD, simprocAttr, Tryz.results21]
  exact ⟨_, rfl, rfl, by simp [few, show ¬ s.size ≤ 100 by omega, D.pub]⟩
 ·have h1 : ¬ (100 : Int) < (s.size : Int) := by omega
  simp only [ac_zba9k, go_sem, contS_seq, simprocAttr, h1]
  simp only [retK, resD, retL, oneD, simprocAttr, Tryz.results21]
  exact ⟨_, rfl, rfl, by simp [few, show s.size ≤ 100 by omega, D.pub]⟩

def fewRef (r : ARef) : ARef := ⟨r.kind, few r.space, few r.name⟩

set_option maxRecDepth 100000 in
theorem law9_FewRef (r : ARef) : Pure Tryz.prog 20 [r.d] (fun d => d = (fewRef r).d) := by
 refine pure_of_run follows an_zn42u Tryz.func20 rfl ok_zn42u.1 ok_zn42u.2 (by simp [Tryz.ntmps20]) ?_
 rw [run_start]
 simp only [ac_zn42u, go_sem, contS_seq, simprocAttr, go_sem]
 refine (law1_Few r.space).callX (enters_of Tryz.func21 rfl rfl) _ rfl rfl ?_
 rintro d rfl
 simp only [go_sem, contS_seq, simprocAttr, go_sem]
 refine (law1_Few r.name).callX (enters_of Tryz.func21 rfl rfl) _ rfl rfl ?_
 rintro d rfl
 simp only [go_sem, contS_seq, simprocAttr, go_sem]
 simp only [retK, resD, resA, AOp.ex, St.ev, retL, oneD, simprocAttr, ret_zn42u]
 exact ⟨_, rfl, rfl, rfl⟩

end Go.Proofs.YtcnhcamimcpinaaGreatDoor



namespace Go.Proofs.YtcnhcamimcpinaaGreatDoor
open Go

def ac_zyx20 : AC := (sr [oo 1 (.box 71 (tp 0)),oo 2 (.alloc 71 [.pd (.raw (.int .i64 0)),.pd (.raw (.string ⟨#[]⟩))])] [1,2] (sr [fi 3 1 1,lq 4 3,oo 5 (.call 21 [tp 4]),fi 6 1 1,.mk none none (.store 1 (tp 6) (tp 5))] [1,2] (sr [oo 7 (.load (some 2) (tp 1)),.mk none none (.store 2 (tp 2) (tp 7))] [2] .ret)))
def an_zyx20 : Ann := ann (List.range 3) ac_zyx20
theorem ok_zyx20 : okd Tryz.prog an_zyx20 ac_zyx20 Tryz.f48 := ⟨by kernel_rfl, by kernel_rfl⟩
theorem ret_zyx20 (st : St) : resD Tryz.prog st Tryz.f48.results.toList = resA st [.cell 2 (some 2)] := resD_of (by kernel_rfl)

def ac_ztgmw : AC := (sr [oo 2 (.mv (.const (.slice none 0 0)))] [0] (sr [oo 3 (.mv (.const (.slice none 0 0)))] [0,3] (.seq (sr [oo 4 (.mv (ci 0))] [0,3,4] (.block 0 (.loop (.seq (sr [mq 5 4,mq 6 0,oo 7 (.len (tp 6) false),oo 8 (.bin .lss (tp 5) (tp 7)),mq 9 8,og 9 true 10 (.mv (tp 4)),og 9 true 11 (.bin .lss (tp 10) (ci 31)),oo 12 (.pick (tp 9) (tp 11) (cq false))] [0,3,4,12] (.cond (tp 12) .skip (.exit 0))) (.seq (.block 1 (.draw [mq 15 3,mq 16 0,mq 17 4,oo 18 (.idxA 2 (tp 16) (tp 17)),fi 19 0 18,lq 20 19,oo 21 (.call 21 [tp 20]),mq 22 0,mq 23 4,oo 24 (.idxA 2 (tp 22) (tp 23)),fi 25 1 24,lq 26 25,oo 27 (.call 21 [tp 26]),oo 28 (.build [.pd (.raw (.string ⟨#[]⟩)),.pd (.raw (.string ⟨#[]⟩))] [(0,1,tp 21),(1,1,tp 27)]),oo 29 (.bslice 90 2 [tp 28]),oo 30 (.append 90 2 32 (tp 15) (tp 29)),mq 3 30] [0,0,0,6,14,30,62,0,0,384,896,1920,4094,8190,16382,32767,65535] (.take 0 (.take 1 (.take 2 (.take 3 (.take 4 (.take 5 (.take 7 (.take 8 (.take 9 (.take 10 (.take 11 (.alts (.cons 6 false (.alts (.cons 12 false (.take 13 (.alts (.cons 14 false (.alts (.cons 15 true (.take 16 .done) .nil)) .nil))) .nil)) .nil))))))))))))) (some [0,3,4]))) (.region [mq 13 4,oo 14 (.bin .add (tp 13) (ci 1)),mq 4 14] (some [0,3,4]))))))) (sr [mq 31 3,mq 2 31] [2] .ret))))
def an_ztgmw : Ann := ann [0,1,2,3,5,4,6] ac_ztgmw
theorem ok_ztgmw : okd Tryz.prog an_ztgmw ac_ztgmw Tryz.f24 := ⟨by kernel_rfl, by kernel_rfl⟩

def ac_zt3fs : AC := (sr [oo 1 (.box 73 (tp 0)),oo 2 (.alloc 73 [.pd (.raw (.int .i64 0)),.pd (.raw (.string ⟨#[]⟩)),.pd (.raw (.string ⟨#[]⟩)),.nils,.nils])] [1,2] (.seq (.draw [fi 3 0 1,oo 4 (.load (some 2) (tp 3)),oo 5 (.call 48 [tp 4]),fi 6 2 1,lq 7 6,oo 8 (.call 21 [tp 7]),fi 9 3 1,lq 10 9,oo 11 (.call 24 [tp 10]),fi 12 4 1,lq 13 12,oo 14 (.call 24 [tp 13]),oo 15 (.build [.pd (.raw (.int .i64 0)),.pd (.raw (.string ⟨#[]⟩)),.pd (.raw (.string ⟨#[]⟩)),.nils,.nils] [(0,2,tp 5),(2,1,tp 8),(3,1,tp 11),(4,1,tp 14)]),.mk none none (.store 5 (tp 2) (tp 15))] [0,1,3,0,8,31,0,64,255,0,512,2047,4095,8191] (.take 0 (.take 1 (.take 3 (.take 4 (.take 6 (.take 7 (.take 9 (.take 10 (.alts (.cons 2 false (.alts (.cons 5 false (.alts (.cons 8 false (.alts (.cons 11 true (.take 12 (.alts (.cons 13 true .done .nil))) .nil)) .nil)) .nil)) .nil)))))))))) (some [2])) .ret))
def an_zt3fs : Ann := ann (List.range 2) ac_zt3fs
theorem ok_zt3fs : okd Tryz.prog an_zt3fs ac_zt3fs Tryz.f28 := ⟨by kernel_rfl, by kernel_rfl⟩
theorem ret_zt3fs (st : St) : resD Tryz.prog st Tryz.f28.results.toList = resA st [.cell 2 (some 5)] := resD_of (by kernel_rfl)

def ac_z9moo : AC := (sr [oo 2 (.mv (.const (.slice none 0 0)))] [0] (sr [oo 3 (.mv (.const (.slice none 0 0)))] [0,3] (.seq (sr [oo 4 (.mv (ci 0))] [0,3,4] (.block 0 (.loop (.seq (sr [mq 6 4,mq 7 0,oo 8 (.len (tp 7) false),oo 9 (.bin .lss (tp 6) (tp 8)),mq 10 9,og 10 true 11 (.mv (tp 4)),og 10 true 12 (.bin .lss (tp 11) (ci 9)),oo 13 (.pick (tp 10) (tp 12) (cq false))] [0,3,4,13] (.cond (tp 13) .skip (.exit 0))) (.seq (.block 1 (sr [mq 16 0,mq 17 4,oo 18 (.idxA 8 (tp 16) (tp 17)),oo 19 (.load (some 8) (tp 18)),oo 5 (.alloc 95 [.pd (.raw (.int .i64 0)),.pd (.raw (.string ⟨#[]⟩)),.pd (.raw (.string ⟨#[]⟩)),.pd (.raw (.string ⟨#[]⟩)),.pd (.raw (.int .i64 0)),.pd (.raw (.string ⟨#[]⟩)),.pd (.raw (.bool false)),.pd (.raw (.int .i64 0))]),.mk none none (.store 8 (tp 5) (tp 19))] [0,3,4,5] (.seq (.draw [fi 20 1 5,lq 21 20,oo 22 (.call 21 [tp 21]),fi 23 2 5,lq 24 23,oo 25 (.call 21 [tp 24]),fi 26 3 5,lq 27 26,oo 28 (.call 21 [tp 27]),fi 29 5 5,lq 30 29,oo 31 (.call 21 [tp 30]),fi 32 1 5,.mk none none (.store 1 (tp 32) (tp 22)),fi 33 2 5,.mk none none (.store 1 (tp 33) (tp 25)),fi 34 3 5,.mk none none (.store 1 (tp 34) (tp 28)),fi 35 5 5,.mk none none (.store 1 (tp 35) (tp 31))] [0,1,3,0,8,31,0,64,255,0,512,2047,1759,8191,16383,32767,65535,131071,262143,524287] (.take 0 (.take 1 (.take 3 (.take 4 (.take 6 (.take 7 (.take 9 (.take 10 (.alts (.cons 2 false (.take 12 (.alts (.cons 5 false (.alts (.cons 8 false (.alts (.cons 11 false (.alts (.cons 13 true (.take 14 (.alts (.cons 15 true (.take 16 (.alts (.cons 17 true (.take 18 (.alts (.cons 19 true .done .nil))) .nil))) .nil))) .nil)) .nil)) .nil)) .nil))) .nil)))))))))) (some [0,3,4,5])) (.region [mq 36 3,oo 37 (.load (some 8) (tp 5)),oo 38 (.bslice 95 8 [tp 37]),oo 39 (.append 95 8 96 (tp 36) (tp 38)),mq 3 39] (some [0,3,4]))))) (.region [mq 14 4,oo 15 (.bin .add (tp 14) (ci 1)),mq 4 15] (some [0,3,4]))))))) (sr [mq 40 3,mq 2 40] [2] .ret))))
def an_z9moo : Ann := ann [0,1,2,3,5,6,4,7,8] ac_z9moo
theorem ok_z9moo : okd Tryz.prog an_z9moo ac_z9moo Tryz.f27 := ⟨by kernel_rfl, by kernel_rfl⟩

def ac_zpih5 : AC := (sr [oo 2 (.mv (.const (.slice none 0 0)))] [0] (sr [oo 3 (.mv (.const (.slice none 0 0)))] [0,3] (.seq (sr [oo 4 (.mv (ci 0))] [0,3,4] (.block 0 (.loop (.seq (sr [mq 7 4,mq 8 0,oo 9 (.len (tp 8) false),oo 10 (.bin .lss (tp 7) (tp 9)),mq 11 10,og 11 true 12 (.mv (tp 4)),og 11 true 13 (.bin .lss (tp 12) (ci 9)),oo 14 (.pick (tp 11) (tp 13) (cq false))] [0,3,4,14] (.cond (tp 14) .skip (.exit 0))) (.seq (.block 1 (.seq (.draw [mq 17 0,mq 18 4,oo 19 (.idxA 3 (tp 17) (tp 18)),fi 20 0 19,lq 21 20,mq 22 0,mq 23 4,oo 24 (.idxA 3 (tp 22) (tp 23)),fi 25 1 24,lq 26 25,oo 27 (.call 21 [tp 26]),oo 28 (.build [.pd (.raw (.int .i64 0)),.pd (.raw (.string ⟨#[]⟩)),.nils] [(0,1,tp 21),(1,1,tp 27)]),oo 5 (.alloc 93 [.pd (.raw (.int .i64 0)),.pd (.raw (.string ⟨#[]⟩)),.nils]),.mk none none (.store 3 (tp 5) (tp 28))] [0,0,3,7,15,0,0,96,224,480,992,2047,0,8191] (.take 0 (.take 1 (.take 2 (.take 3 (.take 4 (.take 5 (.take 6 (.take 7 (.take 8 (.take 9 (.alts (.cons 10 false (.take 11 (.alts (.cons 12 false (.alts (.cons 13 true .done .nil)) .nil))) (.cons 12 false (.alts (.cons 10 false (.take 11 (.alts (.cons 13 true .done .nil))) .nil)) .nil))))))))))))) (some [0,3,4,5])) (.seq (sr [oo 6 (.mv (ci 0))] [0,3,4,5,6] (.block 2 (.loop (.seq (sr [mq 29 6,mq 30 0,mq 31 4,oo 32 (.idxA 3 (tp 30) (tp 31)),fi 33 2 32,lq 34 33,oo 35 (.len (tp 34) false),oo 36 (.bin .lss (tp 29) (tp 35)),mq 37 36,og 37 true 38 (.mv (tp 6)),og 37 true 39 (.bin .lss (tp 38) (ci 9)),oo 40 (.pick (tp 37) (tp 39) (cq false))] [0,3,4,5,6,40] (.cond (tp 40) .skip (.exit 2))) (.seq (.block 3 (.draw [fi 43 2 5,lq 44 43,mq 45 0,mq 46 4,oo 47 (.idxA 3 (tp 45) (tp 46)),fi 48 2 47,lq 49 48,mq 50 6,oo 51 (.idxA 1 (tp 49) (tp 50)),lq 52 51,oo 53 (.call 21 [tp 52]),oo 54 (.bslice 9 1 [tp 53]),oo 55 (.append 9 1 16 (tp 44) (tp 54)),fi 56 2 5,.mk none none (.store 1 (tp 56) (tp 55))] [0,1,0,0,12,28,60,0,252,508,1020,2044,4095,8191,16383] (.take 0 (.take 1 (.take 2 (.take 3 (.take 4 (.take 5 (.take 6 (.take 7 (.take 8 (.take 9 (.alts (.cons 10 false (.alts (.cons 11 false (.alts (.cons 12 true (.take 13 (.alts (.cons 14 true .done .nil))) .nil)) .nil)) .nil)))))))))))) (some [0,3,4,5,6]))) (.region [mq 41 6,oo 42 (.bin .add (tp 41) (ci 1)),mq 6 42] (some [0,3,4,5,6]))))))) (.region [mq 57 3,oo 58 (.load (some 3) (tp 5)),oo 59 (.bslice 93 3 [tp 58]),oo 60 (.append 93 3 48 (tp 57) (tp 59)),mq 3 60] (some [0,3,4]))))) (.region [mq 15 4,oo 16 (.bin .add (tp 15) (ci 1)),mq 4 16] (some [0,3,4]))))))) (sr [mq 61 3,mq 2 61] [2] .ret))))
def an_zpih5 : Ann := ann [0,1,2,3,5,6,7,9,8,4,10,11] ac_zpih5
theorem ok_zpih5 : okd Tryz.prog an_zpih5 ac_zpih5 Tryz.f26 := ⟨by kernel_rfl, by kernel_rfl⟩

def ac_zg0x2 : AC := (sr [oo 2 (.mv (.const (.slice none 0 0)))] [0] (sr [oo 3 (.mv (.const (.slice none 0 0)))] [0,3] (.seq (sr [oo 4 (.mv (ci 0))] [0,3,4] (.block 0 (.loop (.seq (sr [mq 5 4,mq 6 0,oo 7 (.len (tp 6) false),oo 8 (.bin .lss (tp 5) (tp 7)),mq 9 8,og 9 true 10 (.mv (tp 4)),og 9 true 11 (.bin .lss (tp 10) (ci 5)),oo 12 (.pick (tp 9) (tp 11) (cq false))] [0,3,4,12] (.cond (tp 12) .skip (.exit 0))) (.seq (.block 1 (.draw [mq 15 3,mq 16 0,mq 17 4,oo 18 (.idxA 3 (tp 16) (tp 17)),fi 19 0 18,lq 20 19,mq 21 0,mq 22 4,oo 23 (.idxA 3 (tp 21) (tp 22)),fi 24 1 23,lq 25 24,oo 26 (.call 21 [tp 25]),mq 27 0,mq 28 4,oo 29 (.idxA 3 (tp 27) (tp 28)),fi 30 2 29,lq 31 30,oo 32 (.call 21 [tp 31]),oo 33 (.build [.pd (.raw (.int .i64 0)),.pd (.raw (.string ⟨#[]⟩)),.pd (.raw (.string ⟨#[]⟩))] [(0,1,tp 20),(1,1,tp 26),(2,1,tp 32)]),oo 34 (.bslice 91 3 [tp 33]),oo 35 (.append 91 3 40 (tp 15) (tp 34)),mq 3 35] [0,0,0,6,14,30,0,0,192,448,960,1984,0,0,12288,28672,61440,131008,262142,524286,1048575,2097151] (.take 0 (.take 1 (.take 2 (.take 3 (.take 4 (.take 5 (.take 6 (.take 7 (.take 8 (.take 9 (.take 10 (.take 12 (.take 13 (.take 14 (.take 15 (.take 16 (.alts (.cons 11 false (.alts (.cons 17 false (.take 18 (.alts (.cons 19 false (.alts (.cons 20 true (.take 21 .done) .nil)) .nil))) .nil)) .nil)))))))))))))))))) (some [0,3,4]))) (.region [mq 13 4,oo 14 (.bin .add (tp 13) (ci 1)),mq 4 14] (some [0,3,4]))))))) (sr [mq 36 3,mq 2 36] [2] .ret))))
def an_zg0x2 : Ann := ann [0,1,2,3,5,4,6] ac_zg0x2
theorem ok_zg0x2 : okd Tryz.prog an_zg0x2 ac_zg0x2 Tryz.f25 := ⟨by kernel_rfl, by kernel_rfl⟩

def ac_z8s55 : AC := (sr [oo 1 (.box 33 (tp 0)),oo 2 (.alloc 33 [.pd (.raw (.int .i64 0)),.pd (.raw (.string ⟨#[]⟩)),.pd (.raw (.string ⟨#[]⟩)),.pd (.raw (.bool false)),.nils,.nils,.pd (.raw (.string ⟨#[]⟩)),.nils,.nils,.nils,.nils,.nils,.nils])] [1,2] (.seq (.draw [fi 15 0 1,oo 16 (.load (some 3) (tp 15)),oo 17 (.call 20 [tp 16]),fi 18 3 1,lq 19 18,fi 20 4 1,lq 21 20,oo 22 (.call 24 [tp 21]),fi 23 6 1,lq 24 23,oo 25 (.call 21 [tp 24]),fi 26 11 1,lq 27 26,oo 28 (.call 25 [tp 27]),fi 29 12 1,lq 30 29,oo 31 (.call 25 [tp 30]),oo 32 (.build [.pd (.raw (.int .i64 0)),.pd (.raw (.string ⟨#[]⟩)),.pd (.raw (.string ⟨#[]⟩)),.pd (.raw (.bool false)),.nils,.nils,.pd (.raw (.string ⟨#[]⟩)),.nils,.nils,.nils,.nils,.nils,.nils] [(0,3,tp 17),(3,1,tp 19),(4,1,tp 22),(6,1,tp 25),(11,1,tp 28),(12,1,tp 31)]),oo 3 (.alloc 33 [.pd (.raw (.int .i64 0)),.pd (.raw (.string ⟨#[]⟩)),.pd (.raw (.string ⟨#[]⟩)),.pd (.raw (.bool false)),.nils,.nils,.pd (.raw (.string ⟨#[]⟩)),.nils,.nils,.nils,.nils,.nils,.nils]),.mk none none (.store 13 (tp 3) (tp 32))] [0,1,3,0,8,0,32,103,0,256,999,0,2048,8167,0,16384,65511,131071,0,524287] (.take 0 (.take 1 (.take 3 (.take 4 (.take 5 (.take 6 (.take 8 (.take 9 (.take 11 (.take 12 (.take 14 (.take 15 (.alts (.cons 2 false (.alts (.cons 7 false (.alts (.cons 10 false (.alts (.cons 13 false (.alts (.cons 16 false (.take 17 (.alts (.cons 18 false (.alts (.cons 19 true .done .nil)) .nil))) (.cons 18 false (.alts (.cons 16 false (.take 17 (.alts (.cons 19 true .done .nil))) .nil)) .nil))) (.cons 18 false (.alts (.cons 13 false (.alts (.cons 16 false (.take 17 (.alts (.cons 19 true .done .nil))) .nil)) .nil)) .nil))) (.cons 18 false (.alts (.cons 10 false (.alts (.cons 13 false (.alts (.cons 16 false (.take 17 (.alts (.cons 19 true .done .nil))) .nil)) .nil)) .nil)) .nil))) (.cons 18 false (.alts (.cons 7 false (.alts (.cons 10 false (.alts (.cons 13 false (.alts (.cons 16 false (.take 17 (.alts (.cons 19 true .done .nil))) .nil)) .nil)) .nil)) .nil)) .nil))) (.cons 18 false (.alts (.cons 2 false (.alts (.cons 7 false (.alts (.cons 10 false (.alts (.cons 13 false (.alts (.cons 16 false (.take 17 (.alts (.cons 19 true .done .nil))) .nil)) .nil)) .nil)) .nil)) .nil)) .nil))))))))))))))) (some [1,2,3])) (.seq (sr [oo 4 (.mv (ci 0))] [1,2,3,4] (.block 0 (.loop (.seq (sr [mq 33 4,fi 34 5 1,lq 35 34,oo 36 (.len (tp 35) false),oo 37 (.bin .lss (tp 33) (tp 36)),mq 38 37,og 38 true 39 (.mv (tp 4)),og 38 true 40 (.bin .lss (tp 39) (ci 9)),oo 41 (.pick (tp 38) (tp 40) (cq false))] [1,2,3,4,41] (.cond (tp 41) .skip (.exit 0))) (.seq (.block 1 (.draw [fi 44 5 3,lq 45 44,fi 46 5 1,lq 47 46,mq 48 4,oo 49 (.idxA 1 (tp 47) (tp 48)),lq 50 49,oo 51 (.bslice 3 1 [tp 50]),oo 52 (.append 3 1 8 (tp 45) (tp 51)),fi 53 5 3,.mk none none (.store 1 (tp 53) (tp 52))] [0,1,0,4,0,28,60,124,255,511,1023] (.take 0 (.take 1 (.take 2 (.take 3 (.take 4 (.take 5 (.take 6 (.alts (.cons 7 false (.alts (.cons 8 true (.take 9 (.alts (.cons 10 true .done .nil))) .nil)) .nil))))))))) (some [1,2,3,4]))) (.region [mq 42 4,oo 43 (.bin .add (tp 42) (ci 1)),mq 4 43] (some [1,2,3,4]))))))) (.seq (sr [oo 5 (.mv (ci 0))] [1,2,3,5] (.block 2 (.loop (.seq (sr [mq 54 5,fi 55 7 1,lq 56 55,oo 57 (.len (tp 56) false),oo 58 (.bin .lss (tp 54) (tp 57)),mq 59 58,og 59 true 60 (.mv (tp 5)),og 59 true 61 (.bin .lss (tp 60) (ci 9)),oo 62 (.pick (tp 59) (tp 61) (cq false))] [1,2,3,5,62] (.cond (tp 62) .skip (.exit 2))) (.seq (.block 3 (sr [fi 65 7 1,lq 66 65,mq 67 5,oo 68 (.idxA 9 (tp 66) (tp 67)),oo 69 (.load (some 9) (tp 68)),oo 6 (.alloc 49 [.pd (.raw (.string ⟨#[]⟩)),.pd (.raw (.int .i64 0)),.pd (.raw (.bool false)),.pd (.raw (.string ⟨#[]⟩)),.pd (.raw (.int .i64 0)),.pd (.raw (.string ⟨#[]⟩)),.pd (.raw (.string ⟨#[]⟩)),.pd (.raw (.int .i64 0)),.nils]),.mk none none (.store 9 (tp 6) (tp 69))] [1,2,3,5,6] (.draw [fi 70 7 3,lq 71 70,fi 72 0 6,lq 73 72,oo 74 (.call 21 [tp 73]),fi 75 1 6,lq 76 75,fi 77 2 6,lq 78 77,fi 79 3 6,lq 80 79,oo 81 (.call 21 [tp 80]),fi 82 4 6,oo 83 (.load (some 3) (tp 82)),oo 84 (.call 20 [tp 83]),fi 85 7 6,lq 86 85,fi 87 8 6,lq 88 87,oo 89 (.call 26 [tp 88]),oo 90 (.build [.pd (.raw (.string ⟨#[]⟩)),.pd (.raw (.int .i64 0)),.pd (.raw (.bool false)),.pd (.raw (.string ⟨#[]⟩)),.pd (.raw (.int .i64 0)),.pd (.raw (.string ⟨#[]⟩)),.pd (.raw (.string ⟨#[]⟩)),.pd (.raw (.int .i64 0)),.nils] [(0,1,tp 74),(1,1,tp 76),(2,1,tp 78),(3,1,tp 81),(4,3,tp 84),(7,1,tp 86),(8,1,tp 89)]),oo 91 (.bslice 49 9 [tp 90]),oo 92 (.append 49 9 120 (tp 71) (tp 91)),fi 93 7 3,.mk none none (.store 1 (tp 93) (tp 92))] [0,1,0,4,12,0,32,0,128,0,512,1564,0,4096,15900,0,32768,0,131072,425500,1048572,2097148,4194303,8388607,16777215] (.take 0 (.take 1 (.take 2 (.take 3 (.take 5 (.take 6 (.take 7 (.take 8 (.take 9 (.take 10 (.take 12 (.take 13 (.take 15 (.take 16 (.take 17 (.take 18 (.alts (.cons 4 false (.alts (.cons 11 false (.alts (.cons 14 false (.alts (.cons 19 false (.take 20 (.alts (.cons 21 false (.alts (.cons 22 true (.take 23 (.alts (.cons 24 true .done .nil))) .nil)) .nil))) .nil)) .nil)) .nil)) .nil)))))))))))))))))) (some [1,2,3,5])))) (.region [mq 63 5,oo 64 (.bin .add (tp 63) (ci 1)),mq 5 64] (some [1,2,3,5]))))))) (.seq (sr [oo 7 (.mv (ci 0))] [1,2,3,7] (.block 4 (.loop (.seq (sr [mq 94 7,fi 95 8 1,lq 96 95,oo 97 (.len (tp 96) false),oo 98 (.bin .lss (tp 94) (tp 97)),mq 99 98,og 99 true 100 (.mv (tp 7)),og 99 true 101 (.bin .lss (tp 100) (ci 5)),oo 102 (.pick (tp 99) (tp 101) (cq false))] [1,2,3,7,102] (.cond (tp 102) .skip (.exit 4))) (.seq (.block 5 (sr [fi 105 8 1,lq 106 105,mq 107 7,oo 108 (.idxA 4 (tp 106) (tp 107)),oo 109 (.load (some 4) (tp 108)),oo 8 (.alloc 55 [.pd (.raw (.string ⟨#[]⟩)),.pd (.raw (.string ⟨#[]⟩)),.pd (.raw (.string ⟨#[]⟩)),.pd (.raw (.int .i64 0))]),.mk none none (.store 4 (tp 8) (tp 109))] [1,2,3,7,8] (.draw [fi 110 8 3,lq 111 110,fi 112 0 8,lq 113 112,oo 114 (.call 21 [tp 113]),fi 115 1 8,lq 116 115,oo 117 (.call 21 [tp 116]),fi 118 2 8,lq 119 118,oo 120 (.call 21 [tp 119]),fi 121 3 8,lq 122 121,oo 123 (.build [.pd (.raw (.string ⟨#[]⟩)),.pd (.raw (.string ⟨#[]⟩)),.pd (.raw (.string ⟨#[]⟩)),.pd (.raw (.int .i64 0))] [(0,1,tp 114),(1,1,tp 117),(2,1,tp 120),(3,1,tp 122)]),oo 124 (.bslice 55 4 [tp 123]),oo 125 (.append 55 4 56 (tp 111) (tp 124)),fi 126 8 3,.mk none none (.store 1 (tp 126) (tp 125))] [0,1,0,4,12,0,32,124,0,256,1020,0,2048,8188,16380,32767,65535,131071] (.take 0 (.take 1 (.take 2 (.take 3 (.take 5 (.take 6 (.take 8 (.take 9 (.take 11 (.take 12 (.alts (.cons 4 false (.alts (.cons 7 false (.alts (.cons 10 false (.take 13 (.alts (.cons 14 false (.alts (.cons 15 true (.take 16 (.alts (.cons 17 true .done .nil))) .nil)) .nil))) .nil)) .nil)) .nil)))))))))))) (some [1,2,3,7])))) (.region [mq 103 7,oo 104 (.bin .add (tp 103) (ci 1)),mq 7 104] (some [1,2,3,7]))))))) (.seq (sr [oo 9 (.mv (ci 0))] [1,2,3,9] (.block 6 (.loop (.seq (sr [mq 127 9,fi 128 9 1,lq 129 128,oo 130 (.len (tp 129) false),oo 131 (.bin .lss (tp 127) (tp 130)),mq 132 131,og 132 true 133 (.mv (tp 9)),og 132 true 134 (.bin .lss (tp 133) (ci 5)),oo 135 (.pick (tp 132) (tp 134) (cq false))] [1,2,3,9,135] (.cond (tp 135) .skip (.exit 6))) (.seq (.block 7 (.draw [fi 138 9 3,lq 139 138,fi 140 9 1,lq 141 140,mq 142 9,oo 143 (.idxA 1 (tp 141) (tp 142)),lq 144 143,oo 145 (.call 21 [tp 144]),oo 146 (.bslice 9 1 [tp 145]),oo 147 (.append 9 1 16 (tp 139) (tp 146)),fi 148 9 3,.mk none none (.store 1 (tp 148) (tp 147))] [0,1,0,4,0,28,60,124,252,511,1023,2047] (.take 0 (.take 1 (.take 2 (.take 3 (.take 4 (.take 5 (.take 6 (.alts (.cons 7 false (.alts (.cons 8 false (.alts (.cons 9 true (.take 10 (.alts (.cons 11 true .done .nil))) .nil)) .nil)) .nil))))))))) (some [1,2,3,9]))) (.region [mq 136 9,oo 137 (.bin .add (tp 136) (ci 1)),mq 9 137] (some [1,2,3,9]))))))) (.seq (sr [oo 10 (.mv (ci 0))] [1,2,3,10] (.block 8 (.loop (.seq (sr [mq 149 10,fi 150 10 1,lq 151 150,oo 152 (.len (tp 151) false),oo 153 (.bin .lss (tp 149) (tp 152)),mq 154 153,og 154 true 155 (.mv (tp 10)),og 154 true 156 (.bin .lss (tp 155) (ci 7)),oo 157 (.pick (tp 154) (tp 156) (cq false))] [1,2,3,10,157] (.cond (tp 157) .skip (.exit 8))) (.seq (.block 9 (sr [fi 160 10 1,lq 161 160,mq 162 10,oo 163 (.idxA 3 (tp 161) (tp 162)),fi 164 1 163,lq 165 164,oo 166 (.call 27 [tp 165]),oo 167 (.build [.nils,.nils,.nils] [(1,1,tp 166)]),oo 11 (.alloc 69 [.nils,.nils,.nils]),.mk none none (.store 3 (tp 11) (tp 167))] [1,2,3,10,11] (.seq (sr [oo 12 (.mv (ci 0))] [1,2,3,10,11,12] (.block 10 (.loop (.seq (sr [mq 168 12,fi 169 10 1,lq 170 169,mq 171 10,oo 172 (.idxA 3 (tp 170) (tp 171)),fi 173 0 172,lq 174 173,oo 175 (.len (tp 174) false),oo 176 (.bin .lss (tp 168) (tp 175)),mq 177 176,og 177 true 178 (.mv (tp 12)),og 177 true 179 (.bin .lss (tp 178) (ci 5)),oo 180 (.pick (tp 177) (tp 179) (cq false))] [1,2,3,10,11,12,180] (.cond (tp 180) .skip (.exit 10))) (.seq (.block 11 (.draw [fi 183 0 11,lq 184 183,fi 185 10 1,lq 186 185,mq 187 10,oo 188 (.idxA 3 (tp 186) (tp 187)),fi 189 0 188,lq 190 189,mq 191 12,oo 192 (.idxA 5 (tp 190) (tp 191)),oo 193 (.load (some 5) (tp 192)),oo 194 (.call 28 [tp 193]),oo 195 (.bslice 73 5 [tp 194]),oo 196 (.append 73 5 88 (tp 184) (tp 195)),fi 197 0 11,.mk none none (.store 1 (tp 197) (tp 196))] [0,1,0,4,0,28,60,124,0,508,1020,2044,4092,8191,16383,32767] (.take 0 (.take 1 (.take 2 (.take 3 (.take 4 (.take 5 (.take 6 (.take 7 (.take 8 (.take 9 (.take 10 (.alts (.cons 11 false (.alts (.cons 12 false (.alts (.cons 13 true (.take 14 (.alts (.cons 15 true .done .nil))) .nil)) .nil)) .nil))))))))))))) (some [1,2,3,10,11,12]))) (.region [mq 181 12,oo 182 (.bin .add (tp 181) (ci 1)),mq 12 182] (some [1,2,3,10,11,12]))))))) (.seq (sr [oo 13 (.mv (ci 0))] [1,2,3,10,11,13] (.block 12 (.loop (.seq (sr [mq 198 13,fi 199 10 1,lq 200 199,mq 201 10,oo 202 (.idxA 3 (tp 200) (tp 201)),fi 203 2 202,lq 204 203,oo 205 (.len (tp 204) false),oo 206 (.bin .lss (tp 198) (tp 205)),mq 207 206,og 207 true 208 (.mv (tp 13)),og 207 true 209 (.bin .lss (tp 208) (ci 5)),oo 210 (.pick (tp 207) (tp 209) (cq false))] [1,2,3,10,11,13,210] (.cond (tp 210) .skip (.exit 12))) (.seq (.block 13 (sr [fi 213 10 1,lq 214 213,mq 215 10,oo 216 (.idxA 3 (tp 214) (tp 215)),fi 217 2 216,lq 218 217,mq 219 13,oo 220 (.idxA 5 (tp 218) (tp 219)),oo 221 (.load (some 5) (tp 220)),oo 14 (.alloc 76 [.pd (.raw (.int .i64 0)),.pd (.raw (.string ⟨#[]⟩)),.pd (.raw (.string ⟨#[]⟩)),.pd (.raw (.int .i64 0)),.pd (.raw (.int .i64 0))]),.mk none none (.store 5 (tp 14) (tp 221))] [1,2,3,10,11,13,14] (.draw [fi 222 2 11,lq 223 222,fi 224 0 14,oo 225 (.load (some 3) (tp 224)),oo 226 (.call 20 [tp 225]),fi 227 3 14,lq 228 227,fi 229 4 14,lq 230 229,oo 231 (.build [.pd (.raw (.int .i64 0)),.pd (.raw (.string ⟨#[]⟩)),.pd (.raw (.string ⟨#[]⟩)),.pd (.raw (.int .i64 0)),.pd (.raw (.int .i64 0))] [(0,3,tp 226),(3,1,tp 228),(4,1,tp 230)]),oo 232 (.bslice 76 5 [tp 231]),oo 233 (.append 76 5 56 (tp 223) (tp 232)),fi 234 2 11,.mk none none (.store 1 (tp 234) (tp 233))] [0,1,0,4,12,0,32,0,128,508,1020,2047,4095,8191] (.take 0 (.take 1 (.take 2 (.take 3 (.take 5 (.take 6 (.take 7 (.take 8 (.alts (.cons 4 false (.take 9 (.alts (.cons 10 false (.alts (.cons 11 true (.take 12 (.alts (.cons 13 true .done .nil))) .nil)) .nil))) .nil)))))))))) (some [1,2,3,10,11,13])))) (.region [mq 211 13,oo 212 (.bin .add (tp 211) (ci 1)),mq 13 212] (some [1,2,3,10,11,13]))))))) (.region [fi 235 10 3,lq 236 235,oo 237 (.load (some 3) (tp 11)),oo 238 (.bslice 69 3 [tp 237]),oo 239 (.append 69 3 72 (tp 236) (tp 238)),fi 240 10 3,.mk none none (.store 1 (tp 240) (tp 239))] (some [1,2,3,10])))))) (.region [mq 158 10,oo 159 (.bin .add (tp 158) (ci 1)),mq 10 159] (some [1,2,3,10]))))))) (sr [oo 241 (.load (some 13) (tp 3)),.mk none none (.store 13 (tp 2) (tp 241))] [2] .ret))))))))
def an_z8s55 : Ann := ann [0,1,2,3,5,4,6,7,9,10,8,11,12,14,15,13,16,17,19,18,20,21,23,24,25,27,26,28,29,31,32,30,22,33,34] ac_z8s55
theorem ok_z8s55 : okd Tryz.prog an_z8s55 ac_z8s55 Tryz.f10 := ⟨by kernel_rfl, by kernel_rfl⟩
theorem ret_z8s55 (st : St) : resD Tryz.prog st Tryz.f10.results.toList = resA st [.cell 2 (some 13)] := resD_of (by kernel_rfl)

def ac_zh218 : AC := (sr [oo 2 (.mv (.const (.slice none 0 0)))] [0] (sr [oo 3 (.mv (.const (.slice none 0 0)))] [0,3] (.seq (sr [oo 4 (.mv (ci 0))] [0,3,4] (.block 0 (.loop (.seq (sr [mq 5 4,mq 6 0,oo 7 (.len (tp 6) false),oo 8 (.bin .lss (tp 5) (tp 7)),mq 9 8,og 9 true 10 (.mv (tp 4)),og 9 true 11 (.bin .lss (tp 10) (ci 24)),oo 12 (.pick (tp 9) (tp 11) (cq false))] [0,3,4,12] (.cond (tp 12) .skip (.exit 0))) (.seq (.block 1 (.region [mq 15 3,mq 16 0,mq 17 4,oo 18 (.idxA 13 (tp 16) (tp 17)),oo 19 (.load (some 13) (tp 18)),oo 20 (.call 10 [tp 19]),oo 21 (.bslice 33 13 [tp 20]),oo 22 (.append 33 13 256 (tp 15) (tp 21)),mq 3 22] (some [0,3,4]))) (.region [mq 13 4,oo 14 (.bin .add (tp 13) (ci 1)),mq 4 14] (some [0,3,4]))))))) (sr [mq 23 3,mq 2 23] [2] .ret))))
def an_zh218 : Ann := ann (List.range 7) ac_zh218
theorem ok_zh218 : okd Tryz.prog an_zh218 ac_zh218 Tryz.f9 := ⟨by kernel_rfl, by kernel_rfl⟩

end Go.Proofs.YtcnhcamimcpinaaGreatDoor


namespace Go.Proofs.YtcnhcamimcpinaaGreatDoor
open Go Go.RowKit
set_option linter.unusedSimpArgs false
set_option linter.unusedVariables false
set_option maxRecDepth 100000

theorem Reps.tell {g : Gh} {w : World} {d : D} : ∀ {ds : List D} {vs : List Value} (_ : Reps g w ds vs) (i : Nat) (_ : ∀ v, vs[i]? = some v → Rep g w d v), Reps g w (ds.set i d) vs
 | [], _, h, _, _ => by simpa using h
 | e :: ds, _, h, i, hd => by
   simp only [Reps] at h
   obtain ⟨v, vs', rfl, hv, hs⟩ := h
   cases i with
   | zero => exact ⟨v, vs', rfl, hd v rfl, hs⟩
   | succ i => exact ⟨v, vs', rfl, hv, Reps.tell hs i (fun u hu => hd u (by simpa using hu))⟩

theorem SR.tellB {C : Ctx} {st : St} {g : Gh} {a : Act} {w : World} (h : SR C st g a w) {n : Nat} {ds ds' : List D} (hn : lk st.bs n = some ds) (hd : ∀ vs, Reps g w ds vs → Reps g w ds' vs) : SR C { st with bs := (n, ds') :: st.bs } g a w := by
 have m := h.mem
 refine ⟨h.defers, h.size, h.rep, { m with bxs := fun k es hk => ?_ }, h.x, h.fix⟩
 simp only [lk] at hk
 split at hk
 ·rename_i hkn
  subst hkn
  cases hk
  obtain ⟨b, cs, t, h1, h2, h3⟩ := m.bxs _ ds hn
  exact ⟨b, cs, t, h1, h2, hd _ h3⟩
 ·exact m.bxs k es hk

theorem purges_at : ∀ (t : Nat) (ds : List D) (i : Nat), ds[i]? = some .nils → (D.purges t ds)[i]? = some .nils
 | _, [], _, h => by simp at h
 | t, d :: ds, 0, h => by
   simp only [List.getElem?_cons_zero, Option.some.injEq] at h
   subst h
   simp [D.purges, D.purge]
 | t, d :: ds, i + 1, h => by
   simp only [List.getElem?_cons_succ] at h
   simpa [D.purges] using purges_at t ds i h

theorem lk_purge {st : St} {t n : Nat} {ds : List D} (h : lk st.bs n = some ds) : lk (st.purge t).bs n = some (D.purges t ds) := by
 simp only [St.purge]
 rw [lk_map (fun ds => D.purges t ds) st.bs n, h]; rfl

theorem Weak.ownB0 {P : Program} {st : St} (n i t : Nat) (e : TypeId) {ti : TypeInfo} (hi : P.info? e = some ti) (hpos : 0 < ti.size) {ds : List D} (h : lk st.bs n = some ds) (hn : ds[i]? = some .nils) :
 Weak P st { st.purge t with bs := (n, (D.purges t ds).set i (.own e ti.size [] t)) :: (st.purge t).bs } := by
 intro C g a w hP hs
 subst hP
 have h1 := hs.purge t
 obtain ⟨h2, _⟩ := SR.owned h1 t (by simp) (grownBy_same w none) _ h1.x (fun k e => by cases e) (fun _ h => h) (fun k e => by cases e) e ti hi hpos (.slice none 0 0) 0 [] (World.ownsRow_nil _ _ _ _) (fun b hb => by cases hb) (fun b o _ hb => by cases hb)
 refine ⟨_, h2.tellB (lk_purge h) fun vs hv => ?_⟩
 refine hv.tell i fun v hvi => ?_
 obtain ⟨u, hu, hr⟩ := hv.get i _ (purges_at t ds i hn)
 rw [hvi] at hu
 cases hu
 simp only [Rep] at hr
 rw [hr]
 simp only [Rep]
 exact ⟨.empty _ _, by simp, by simp⟩

theorem Weak.ownB {P : Program} {st st' : St} (n i t : Nat) (e : TypeId) (sz : Nat) (hi : (P.info? e).map (·.size) = some sz) (hpos : 0 < sz) {ds : List D} (h : lk st.bs n = some ds) (hn : ds[i]? = some .nils)
 (hf : lessL st'.fr (st.purge t).fr) (hb : lessL st'.bs ((n, (D.purges t ds).set i (.own e sz [] t)) :: (st.purge t).bs)) (hm : lessL st'.ms st.ms) (hh : st'.hs = st.hs) : Weak P st st' := by
 obtain ⟨ti, h1, rfl⟩ := Option.map_eq_some_iff.1 hi
 exact (Weak.ownB0 n i t e h1 hpos h hn).trans (Weak.less hf hb hm hh)

theorem run_cut {P : Program} {x y : AC} {st s1 : St} {S : List Fr} {K : Exit → St → Prop} (h1 : ∀ K' : Exit → St → Prop, K' .normal s1 → run P x st (contS P [] K')) (h2 : run P y s1 (contS P S K)) : run P (.seq x y) st (contS P S K) := by
 rw [run_seq]; exact h1 (contS P (.seq y :: S) K) h2

theorem few_size (s : ByteArray) : (few s).size ≤ 100 := by
 unfold few
 split
 ·assumption
 ·simp [ByteArray.size_extract]; omega

theorem law3_Few (k : Int) (v : ByteArray) : Pure Tryz.prog 48 [.agg [int k, str v]] (fun d => d = .agg [int k, str (few v)]) := by
 refine pure_of_run follows an_zyx20 Tryz.func48 rfl ok_zyx20.1 ok_zyx20.2 (by simp [Tryz.ntmps48]) ?_
 rw [run_start]
 simp only [ac_zyx20, go_sem, contS_seq, simprocAttr]
 refine (law1_Few v).callW (enters_of Tryz.func21 rfl rfl) _ rfl rfl ?_
 rintro d rfl
 simp only [go_sem, contS_seq, simprocAttr]
 simp only [retK, resD, resA, AOp.ex, St.ev, retL, oneD, simprocAttr, ret_zyx20]
 exact ⟨_, rfl, rfl, rfl⟩

def fewPair (p : APair) : APair := ⟨few p.name, few p.val⟩
def fewPairs (l : List APair) : List APair := (l.take 31).map fewPair

theorem fewPair_ok (p : APair) : (fewPair p).ok := ⟨by have := few_size p.name; simp [fewPair]; omega, by have := few_size p.val; simp [fewPair]; omega⟩

theorem few_step {α β : Type} {f : β → List PD} {g : α → β} {l : List α} {i : Nat} {x : α} (h : l[i]? = some x) : rows f ((l.take i).map g) ++ [f (g x)] = rows f ((l.take (i + 1)).map g) := by
 rw [take_at h, List.map_append]; exact rows_one _ (g x)

theorem few_len {α β : Type} {f : β → List PD} {g : α → β} {l : List α} {i n : Nat} (h : i ≤ n) : (rows f ((l.take i).map g)).length ≤ n := by simp [rows]; omega

theorem few_end {α β : Type} {g : α → β} {l : List α} {i n : Nat} (h : i ≤ n) (hl : i ≤ l.length) (he : ¬ (i < l.length ∧ i < n)) : (l.take i).map g = (l.take n).map g := by
 rcases Nat.lt_or_ge i n with h6 | h6
 ·rw [List.take_of_length_le (by omega), List.take_of_length_le (by omega)]
 ·rw [show i = n by omega]

theorem law5_Few (l : List APair) : Pure Tryz.prog 24 [.pd (.slice (rows APair.pd l))] (fun d => d = .pd (.slice (rows APair.pd (fewPairs l)))) := by
 refine pure_of_run follows an_ztgmw Tryz.func24 rfl ok_ztgmw.1 ok_ztgmw.2 (by simp [Tryz.ntmps24]) ?_
 rw [run_start]
 simp only [ac_ztgmw, go_sem, contS_seq, simprocAttr, rows_len]
 refine loopS (fun k st => ∃ i : Nat, k = 31 - i ∧ i ≤ 31 ∧ i ≤ l.length ∧
  st = ⟨[(0, .pd (.slice (rows APair.pd l))), (3, .own 90 2 (rows APair.pd ((l.take i).map fewPair)) 30), (4, int i)], [], [], .no⟩) 31 _
  ?_ ⟨0, rfl, by omega, by omega, rfl⟩ ?_
 ·exact Weak.own1 3 30 90 2 (by kernel_rfl) (by decide) rfl (by simp [lessL, lk, St.purge, St.put, D.purge, rows]) (by simp [lessL, lk, St.purge, D.purges, D.purge]) (by simp [lessL]) rfl
 rintro k st ⟨i, rfl, hi6, hi, rfl⟩
 have hw := i64_succ (show i < 1000000000 by omega)
 by_cases hlt : i < l.length ∧ i < 31
 ·obtain ⟨x, hx⟩ := at_lt hlt.1
  have h1 : ((i : Int) < (l.length : Int)) = True := eq_true (by omega)
  have h2 : ((i : Int) < 31) = True := eq_true (by omega)
  simp only [go_sem, contS_seq, simprocAttr, go_sem, rows_len, rows_get hx, h1, h2]
  refine (law1_Few x.name).callX (enters_of Tryz.func21 rfl rfl) _ rfl rfl ?_
  rintro d rfl
  simp only [go_sem, contS_seq, simprocAttr, go_sem, rows_len, rows_get hx]
  refine (law1_Few x.val).callX (enters_of Tryz.func21 rfl rfl) _ rfl rfl ?_
  rintro d rfl
  simp only [go_sem, contS_seq, simprocAttr, go_sem, hw]
  have hl := few_len (f := APair.pd) (g := fewPair) (l := l) hi6
  have e1 : rows APair.pd ((l.take i).map fewPair) ++ [[PD.raw (Value.string (few x.name)), PD.raw (Value.string (few x.val))]] = rows APair.pd ((l.take (i + 1)).map fewPair) := few_step hx
  rw [e1]
  refine ⟨by simp, by unfold maxLen; omega, by omega, 31 - (i + 1), _, by omega, ?_, i + 1, rfl, by omega, by omega, rfl⟩
  exact lessA
 ·have h3 := few_end (g := fewPair) hi6 hi hlt
  rw [h3]
  by_cases h1 : i < l.length
  ·have h1' : ((i : Int) < (l.length : Int)) = True := eq_true (by omega)
   have h2 : ((i : Int) < 31) = False := eq_false (by omega)
   simp only [go_sem, contS_seq, simprocAttr, go_sem, rows_len, h1', h2]
   simp only [retK, resD, retL, oneD, simprocAttr, Tryz.results24]
   exact ⟨_, rfl, rfl, rfl⟩
  ·have h1' : ((i : Int) < (l.length : Int)) = False := eq_false (by omega)
   simp only [go_sem, contS_seq, simprocAttr, go_sem, rows_len, h1']
   simp only [retK, resD, retL, oneD, simprocAttr, Tryz.results24]
   exact ⟨_, rfl, rfl, rfl⟩

def fewFilter (f : AFilter) : AFilter := { f with name := few f.name, val := few f.val, host := few f.host, path := few f.path }
def fewFilters (l : List AFilter) : List AFilter := (l.take 9).map fewFilter
def fewSide (s : ASide) : ASide := ⟨s.kind, few s.space, few s.name⟩
def fewSides (l : List ASide) : List ASide := (l.take 5).map fewSide

theorem law7_Few (l : List AFilter) : Pure Tryz.prog 27 [.pd (.slice (rows AFilter.pd l))] (fun d => d = .pd (.slice (rows AFilter.pd (fewFilters l)))) := by
 refine pure_of_run follows an_z9moo Tryz.func27 rfl ok_z9moo.1 ok_z9moo.2 (by simp [Tryz.ntmps27]) ?_
 rw [run_start]
 simp only [ac_z9moo, go_sem, contS_seq, simprocAttr, rows_len]
 refine loopS (fun k st => ∃ i : Nat, k = 9 - i ∧ i ≤ 9 ∧ i ≤ l.length ∧
  st = ⟨[(0, .pd (.slice (rows AFilter.pd l))), (3, .own 95 8 (rows AFilter.pd ((l.take i).map fewFilter)) 39), (4, int i)], [], [], .no⟩) 9 _
  ?_ ⟨0, rfl, by omega, by omega, rfl⟩ ?_
 ·exact Weak.own1 3 39 95 8 (by kernel_rfl) (by decide) rfl (by simp [lessL, lk, St.purge, St.put, D.purge, rows]) (by simp [lessL, lk, St.purge, D.purges, D.purge]) (by simp [lessL]) rfl
 rintro k st ⟨i, rfl, hi6, hi, rfl⟩
 have hw := i64_succ (show i < 1000000000 by omega)
 by_cases hlt : i < l.length ∧ i < 9
 ·obtain ⟨x, hx⟩ := at_lt hlt.1
  have h1 : ((i : Int) < (l.length : Int)) = True := eq_true (by omega)
  have h2 : ((i : Int) < 9) = True := eq_true (by omega)
  simp only [go_sem, contS_seq, simprocAttr, rows_len, rows_get hx, h1, h2]
  refine (law1_Few x.name).callX (enters_of Tryz.func21 rfl rfl) _ rfl rfl ?_
  rintro d rfl
  simp only [go_sem, contS_seq, simprocAttr, rows_len, rows_get hx]
  refine (law1_Few x.val).callX (enters_of Tryz.func21 rfl rfl) _ rfl rfl ?_
  rintro d rfl
  simp only [go_sem, contS_seq, simprocAttr, rows_len, rows_get hx]
  refine (law1_Few x.host).callX (enters_of Tryz.func21 rfl rfl) _ rfl rfl ?_
  rintro d rfl
  simp only [go_sem, contS_seq, simprocAttr, rows_len, rows_get hx]
  refine (law1_Few x.path).callX (enters_of Tryz.func21 rfl rfl) _ rfl rfl ?_
  rintro d rfl
  simp only [go_sem, contS_seq, simprocAttr, rows_len, rows_get hx, hw]
  have hl := few_len (f := AFilter.pd) (g := fewFilter) (l := l) hi6
  have hl' : ((l.take i).map fewFilter).length ≤ i := by simp; omega
  have e1 : rows AFilter.pd ((l.take i).map fewFilter) ++ [[PD.raw (Value.int IntKind.i64 x.kind), PD.raw (Value.string (few x.name)), PD.raw (Value.string (few x.val)), PD.raw (Value.string (few x.host)), PD.raw (Value.int IntKind.i64 x.port), PD.raw (Value.string (few x.path)), PD.raw (Value.bool x.whole), PD.raw (Value.int IntKind.i64 x.code)]] = rows AFilter.pd ((l.take (i + 1)).map fewFilter) := few_step hx
  rw [e1]
  refine ⟨by simp, by unfold maxLen; omega, by omega, 9 - (i + 1), _, by omega, ?_, i + 1, rfl, by omega, by omega, rfl⟩
  exact lessA
 ·have h3 := few_end (g := fewFilter) hi6 hi hlt
  rw [h3]
  by_cases h1 : i < l.length
  ·have h1' : ((i : Int) < (l.length : Int)) = True := eq_true (by omega)
   have h2 : ((i : Int) < 9) = False := eq_false (by omega)
   simp only [go_sem, contS_seq, simprocAttr, rows_len, h1', h2]
   simp only [retK, resD, retL, oneD, simprocAttr, Tryz.results27]
   exact ⟨_, rfl, rfl, rfl⟩
  ·have h1' : ((i : Int) < (l.length : Int)) = False := eq_false (by omega)
   simp only [go_sem, contS_seq, simprocAttr, rows_len, h1']
   simp only [retK, resD, retL, oneD, simprocAttr, Tryz.results27]
   exact ⟨_, rfl, rfl, rfl⟩

theorem law9_sides (l : List ASide) : Pure Tryz.prog 25 [.pd (.slice (rows ASide.pd l))] (fun d => d = .pd (.slice (rows ASide.pd (fewSides l)))) := by
 refine pure_of_run follows an_zg0x2 Tryz.func25 rfl ok_zg0x2.1 ok_zg0x2.2 (by simp [Tryz.ntmps25]) ?_
 rw [run_start]
 simp only [ac_zg0x2, go_sem, contS_seq, simprocAttr, rows_len]
 refine loopS (fun k st => ∃ i : Nat, k = 5 - i ∧ i ≤ 5 ∧ i ≤ l.length ∧
  st = ⟨[(0, .pd (.slice (rows ASide.pd l))), (3, .own 91 3 (rows ASide.pd ((l.take i).map fewSide)) 35), (4, int i)], [], [], .no⟩) 5 _
  ?_ ⟨0, rfl, by omega, by omega, rfl⟩ ?_
 ·exact Weak.own1 3 35 91 3 (by kernel_rfl) (by decide) rfl (by simp [lessL, lk, St.purge, St.put, D.purge, rows]) (by simp [lessL, lk, St.purge, D.purges, D.purge]) (by simp [lessL]) rfl
 rintro k st ⟨i, rfl, hi6, hi, rfl⟩
 have hw := i64_succ (show i < 1000000000 by omega)
 by_cases hlt : i < l.length ∧ i < 5
 ·obtain ⟨x, hx⟩ := at_lt hlt.1
  have h1 : ((i : Int) < (l.length : Int)) = True := eq_true (by omega)
  have h2 : ((i : Int) < 5) = True := eq_true (by omega)
  simp only [go_sem, contS_seq, simprocAttr, rows_len, rows_get hx, h1, h2]
  refine (law1_Few x.space).callX (enters_of Tryz.func21 rfl rfl) _ rfl rfl ?_
  rintro d rfl
  simp only [go_sem, contS_seq, simprocAttr, rows_len, rows_get hx]
  refine (law1_Few x.name).callX (enters_of Tryz.func21 rfl rfl) _ rfl rfl ?_
  rintro d rfl
  simp only [go_sem, contS_seq, simprocAttr, rows_len, rows_get hx, hw]
  have hl := few_len (f := ASide.pd) (g := fewSide) (l := l) hi6
  have hl' : ((l.take i).map fewSide).length ≤ i := by simp; omega
  have e1 : rows ASide.pd ((l.take i).map fewSide) ++ [[PD.raw (Value.int IntKind.i64 x.kind), PD.raw (Value.string (few x.space)), PD.raw (Value.string (few x.name))]] = rows ASide.pd ((l.take (i + 1)).map fewSide) := few_step hx
  rw [e1]
  refine ⟨by simp, by unfold maxLen; omega, by omega, 5 - (i + 1), _, by omega, ?_, i + 1, rfl, by omega, by omega, rfl⟩
  exact lessA
 ·have h3 := few_end (g := fewSide) hi6 hi hlt
  rw [h3]
  by_cases h1 : i < l.length
  ·have h1' : ((i : Int) < (l.length : Int)) = True := eq_true (by omega)
   have h2 : ((i : Int) < 5) = False := eq_false (by omega)
   simp only [go_sem, contS_seq, simprocAttr, rows_len, h1', h2]
   simp only [retK, resD, retL, oneD, simprocAttr, Tryz.results25]
   exact ⟨_, rfl, rfl, rfl⟩
  ·have h1' : ((i : Int) < (l.length : Int)) = False := eq_false (by omega)
   simp only [go_sem, contS_seq, simprocAttr, rows_len, h1']
   simp only [retK, resD, retL, oneD, simprocAttr, Tryz.results25]
   exact ⟨_, rfl, rfl, rfl⟩

def fewMatch (m : AMatch) : AMatch := ⟨m.pkind, few m.pval, few m.method, fewPairs m.head, fewPairs m.query⟩

theorem law6_Few (m : AMatch) : Pure Tryz.prog 28 [m.d] (fun d => d = (fewMatch m).d) := by
 refine pure_of_run follows an_zt3fs Tryz.func28 rfl ok_zt3fs.1 ok_zt3fs.2 (by simp [Tryz.ntmps28]) ?_
 rw [run_start]
 simp only [ac_zt3fs, go_sem, contS_seq, simprocAttr]
 refine (law3_Few m.pkind m.pval).callX (enters_of Tryz.func48 rfl rfl) _ rfl rfl ?_
 rintro d rfl
 simp only [go_sem, contS_seq, simprocAttr]
 refine (law1_Few m.method).callX (enters_of Tryz.func21 rfl rfl) _ rfl rfl ?_
 rintro d rfl
 simp only [go_sem, contS_seq, simprocAttr]
 refine (law5_Few m.head).callX (enters_of Tryz.func24 rfl rfl) _ rfl rfl ?_
 rintro d rfl
 simp only [go_sem, contS_seq, simprocAttr]
 refine (law5_Few m.query).callX (enters_of Tryz.func24 rfl rfl) _ rfl rfl ?_
 rintro d rfl
 simp only [go_sem, contS_seq, simprocAttr]
 simp only [retK, resD, resA, AOp.ex, St.ev, retL, oneD, simprocAttr, ret_zt3fs]
 exact ⟨_, rfl, rfl, rfl⟩

def fewNeed (n : ANeed) : ANeed := ⟨n.kind, few n.name, (n.vals.take 9).map few⟩
def fewNeeds (l : List ANeed) : List ANeed := (l.take 9).map fewNeed

theorem law8_Few (l : List ANeed) : Pure Tryz.prog 26 [.pd (.slice (rows ANeed.pd l))] (fun d => d = .pd (.slice (rows ANeed.pd (fewNeeds l)))) := by
 refine pure_of_run follows an_zpih5 Tryz.func26 rfl ok_zpih5.1 ok_zpih5.2 (by simp [Tryz.ntmps26]) ?_
 rw [run_start]
 simp only [ac_zpih5, go_sem, contS_seq, simprocAttr, rows_len]
 refine loopS (fun k st => ∃ i : Nat, k = 9 - i ∧ i ≤ 9 ∧ i ≤ l.length ∧
  st = ⟨[(0, .pd (.slice (rows ANeed.pd l))), (3, .own 93 3 (rows ANeed.pd ((l.take i).map fewNeed)) 60), (4, int i)], [], [], .no⟩) 9 _
  ?_ ⟨0, rfl, by omega, by omega, rfl⟩ ?_
 ·exact Weak.own1 3 60 93 3 (by kernel_rfl) (by decide) rfl (by simp [lessL, lk, St.purge, St.put, D.purge, rows]) (by simp [lessL, lk, St.purge, D.purges, D.purge]) (by simp [lessL]) rfl
 rintro k st ⟨i, rfl, hi6, hi, rfl⟩
 have hw := i64_succ (show i < 1000000000 by omega)
 by_cases hlt : i < l.length ∧ i < 9
 ·obtain ⟨x, hx⟩ := at_lt hlt.1
  have h1 : ((i : Int) < (l.length : Int)) = True := eq_true (by omega)
  have h2 : ((i : Int) < 9) = True := eq_true (by omega)
  apply run_cut
  ·intro K' hK
   simp only [go_sem, contS_seq, simprocAttr, rows_len, h1, h2]
   exact hK
  apply run_cut
  ·intro K' hK
   rw [run_block]
   apply run_cut
   ·intro K'' hK'
    simp only [go_sem, contS_seq, simprocAttr, rows_len, rows_get hx]
    repeat' (first | exact hK' | (refine (law1_Few x.name).callX (enters_of Tryz.func21 rfl rfl) _ rfl rfl ?_; rintro _ rfl; simp only [go_sem, contS_seq, simprocAttr, rows_len, rows_get hx]) | refine And.intro ?_ ?_)
   simp only [go_sem, contS_seq, simprocAttr]
   refine loopS (fun k st => ∃ j : Nat, k = 9 - j ∧ j ≤ 9 ∧ j ≤ x.vals.length ∧
    st = ⟨[(0, .pd (.slice (rows ANeed.pd l))), (3, .own 93 3 (rows ANeed.pd ((l.take i).map fewNeed)) 60), (4, int i), (5, .ptr 5 0), (6, int j)],
     [(5, [int x.kind, str (few x.name), .own 9 1 (strs ((x.vals.take j).map few)) 55])], [], .no⟩) 9 _
    ?_ ⟨0, rfl, by omega, by omega, rfl⟩ ?_
   ·exact Weak.ownB 5 2 55 9 1 (by kernel_rfl) (by decide) rfl rfl (by simp [lessL, lk, St.purge, D.purge, rows]) (by simp [lessL, lk, St.purge, D.purges, D.purge, rows]) (by simp [lessL]) rfl
   rintro k st ⟨j, rfl, hj6, hj, rfl⟩
   have hwj := i64_succ (show j < 1000000000 by omega)
   by_cases hltj : j < x.vals.length ∧ j < 9
   ·obtain ⟨v, hv⟩ := at_lt hltj.1
    have h1' : ((j : Int) < (x.vals.length : Int)) = True := eq_true (by omega)
    have h2' : ((j : Int) < 9) = True := eq_true (by omega)
    simp only [go_sem, contS_seq, simprocAttr, rows_len, rows_get hx, rows_get hv, h1', h2']
    refine (law1_Few v).callX (enters_of Tryz.func21 rfl rfl) _ rfl rfl ?_
    rintro d rfl
    simp only [go_sem, contS_seq, simprocAttr, rows_get hx, rows_get hv, hwj]
    have e1 : strs ((x.vals.take j).map few) ++ [[PD.raw (Value.string (few v))]] = strs ((x.vals.take (j + 1)).map few) := few_step hv
    have hl : (strs ((x.vals.take j).map few)).length ≤ 9 := few_len hj6
    rw [e1]
    refine ⟨by simp, by unfold maxLen; omega, by omega, 9 - (j + 1), _, by omega, ?_, j + 1, rfl, by omega, by omega, rfl⟩
    exact lessA
   ·have h3 := few_end (g := few) hj6 hj hltj
    rw [h3]
    have hl' : ((l.take i).map fewNeed).length ≤ i := by simp; omega
    have e1 : rows ANeed.pd ((l.take i).map fewNeed) ++ [[pInt x.kind, pStr (few x.name), .slice (strs ((x.vals.take 9).map few))]] = rows ANeed.pd ((l.take (i + 1)).map fewNeed) := few_step hx
    by_cases h1 : j < x.vals.length
    ·have h1' : ((j : Int) < (x.vals.length : Int)) = True := eq_true (by omega)
     have h2' : ((j : Int) < 9) = False := eq_false (by omega)
     simp only [go_sem, contS_seq, simprocAttr, rows_get hx, rows_len, h1', h2']
     refine ⟨by simp, by unfold maxLen; omega, by omega, ?_⟩
     rw [e1]
     exact hK
    ·have h1' : ((j : Int) < (x.vals.length : Int)) = False := eq_false (by omega)
     simp only [go_sem, contS_seq, simprocAttr, rows_get hx, rows_len, h1']
     refine ⟨by simp, by unfold maxLen; omega, by omega, ?_⟩
     rw [e1]
     exact hK
  simp only [go_sem, contS_seq, simprocAttr, hw]
  refine ⟨9 - (i + 1), _, by omega, ?_, i + 1, rfl, by omega, by omega, rfl⟩
  exact lessA
 ·have h3 := few_end (g := fewNeed) hi6 hi hlt
  rw [h3]
  by_cases h1 : i < l.length
  ·have h1' : ((i : Int) < (l.length : Int)) = True := eq_true (by omega)
   have h2 : ((i : Int) < 9) = False := eq_false (by omega)
   simp only [go_sem, contS_seq, simprocAttr, rows_len, h1', h2]
   simp only [retK, resD, retL, oneD, simprocAttr, Tryz.results26]
   exact ⟨_, rfl, rfl, rfl⟩
  ·have h1' : ((i : Int) < (l.length : Int)) = False := eq_false (by omega)
   simp only [go_sem, contS_seq, simprocAttr, rows_len, h1']
   simp only [retK, resD, retL, oneD, simprocAttr, Tryz.results26]
   exact ⟨_, rfl, rfl, rfl⟩


theorem run_cutJ {P : Program} {x y : AC} {st : St} {S : List Fr} {K : Exit → St → Prop} (J : St → Prop) (h1 : ∀ K' : Exit → St → Prop, (∀ s, J s → K' .normal s) → run P x st (contS P [] K')) (h2 : ∀ s, J s → run P y s (contS P S K)) : run P (.seq x y) st (contS P S K) := by
 rw [run_seq]; exact h1 (contS P (.seq y :: S) K) h2

def fewListener (l : AListener) : AListener := ⟨few l.name, l.port, l.tls, few l.host, fewRef l.cert, l.from_, fewNeeds l.needs⟩
def fewParent (p : AParent) : AParent := ⟨few p.space, few p.name, few p.section_, p.port⟩
def fewBackend (b : ABackend) : ABackend := ⟨fewRef b.ref, b.port, b.weight⟩
def fewRule (r : ARule) : ARule := ⟨(r.matches_.take 5).map fewMatch, fewFilters r.filters, (r.backends.take 5).map fewBackend⟩
def fewObj (o : AObj) : AObj := ⟨fewRef o.ref, o.good, fewPairs o.labels, o.ports.take 9, few o.cls, (o.listeners.take 9).map fewListener, (o.parents.take 5).map fewParent, (o.hosts.take 5).map few, (o.rules.take 7).map fewRule, fewSides o.from_, fewSides o.to_⟩

set_option maxHeartbeats 4000000 in
theorem law9_Few (o : AObj) : Pure Tryz.prog 10 [o.d] (fun d => d = (fewObj o).d) := by
 refine pure_of_run follows an_z8s55 Tryz.func10 rfl ok_z8s55.1 ok_z8s55.2 (by simp [Tryz.ntmps10]) ?_
 rw [run_start]
 simp only [ac_z8s55]
 apply run_cut
 ·intro K' hK
  simp only [go_sem, contS_seq, simprocAttr]
  exact hK
 apply run_cut
 ·intro K' hK
  simp only [go_sem, contS_seq, simprocAttr]
  repeat' (first | exact hK | (refine (law9_FewRef o.ref).callX (enters_of Tryz.func20 rfl rfl) _ rfl rfl ?_; rintro _ rfl; simp only [go_sem, contS_seq, simprocAttr]) | (refine (law5_Few o.labels).callX (enters_of Tryz.func24 rfl rfl) _ rfl rfl ?_; rintro _ rfl; simp only [go_sem, contS_seq, simprocAttr]) | (refine (law1_Few o.cls).callX (enters_of Tryz.func21 rfl rfl) _ rfl rfl ?_; rintro _ rfl; simp only [go_sem, contS_seq, simprocAttr]) | (refine (law9_sides o.from_).callX (enters_of Tryz.func25 rfl rfl) _ rfl rfl ?_; rintro _ rfl; simp only [go_sem, contS_seq, simprocAttr]) | (refine (law9_sides o.to_).callX (enters_of Tryz.func25 rfl rfl) _ rfl rfl ?_; rintro _ rfl; simp only [go_sem, contS_seq, simprocAttr]) | refine And.intro ?_ ?_)
 refine run_cutJ (fun s => ∃ i : Nat, s = ⟨[(41, bln false), (1, .ptr 1 0), (2, .ptr 2 0), (3, .ptr 3 0), (4, int i), (41, bln false)], [(1, [int o.ref.kind, str o.ref.space, str o.ref.name, bln o.good, .pd (.slice (rows APair.pd o.labels)), .pd (.slice (ints o.ports)), str o.cls, .pd (.slice (rows AListener.pd o.listeners)), .pd (.slice (rows AParent.pd o.parents)), .pd (.slice (strs o.hosts)), .pd (.slice (rows ARule.pd o.rules)), .pd (.slice (rows ASide.pd o.from_)), .pd (.slice (rows ASide.pd o.to_))]), (2, [int 0, str ⟨#[]⟩, str ⟨#[]⟩, bln false, .nils, .nils, str ⟨#[]⟩, .nils, .nils, .nils, .nils, .nils, .nils]), (3, [int (fewRef o.ref).kind, str (fewRef o.ref).space, str (fewRef o.ref).name, bln o.good, .pd (.slice (rows APair.pd (fewPairs o.labels))), .own 3 1 (rows cInt ((o.ports.take 9).map id)) 52, str (few o.cls), .nils, .nils, .nils, .nils, .pd (.slice (rows ASide.pd (fewSides o.from_))), .pd (.slice (rows ASide.pd (fewSides o.to_)))])], [], .no⟩) ?_ ?_
 ·intro K' hK
  simp only [go_sem, contS_seq, simprocAttr, rows_len]
  refine loopS (fun k st => ∃ i : Nat, k = 9 - i ∧ i ≤ 9 ∧ i ≤ o.ports.length ∧
   st = ⟨[(1, .ptr 1 0), (2, .ptr 2 0), (3, .ptr 3 0), (4, int i)], [(1, [int o.ref.kind, str o.ref.space, str o.ref.name, bln o.good, .pd (.slice (rows APair.pd o.labels)), .pd (.slice (ints o.ports)), str o.cls, .pd (.slice (rows AListener.pd o.listeners)), .pd (.slice (rows AParent.pd o.parents)), .pd (.slice (strs o.hosts)), .pd (.slice (rows ARule.pd o.rules)), .pd (.slice (rows ASide.pd o.from_)), .pd (.slice (rows ASide.pd o.to_))]), (2, [int 0, str ⟨#[]⟩, str ⟨#[]⟩, bln false, .nils, .nils, str ⟨#[]⟩, .nils, .nils, .nils, .nils, .nils, .nils]), (3, [int (fewRef o.ref).kind, str (fewRef o.ref).space, str (fewRef o.ref).name, bln o.good, .pd (.slice (rows APair.pd (fewPairs o.labels))), .own 3 1 (rows cInt ((o.ports.take i).map id)) 52, str (few o.cls), .nils, .nils, .nils, .nils, .pd (.slice (rows ASide.pd (fewSides o.from_))), .pd (.slice (rows ASide.pd (fewSides o.to_)))])], [], .no⟩) 9 _
   ?_ ⟨0, rfl, by omega, by omega, rfl⟩ ?_
  ·exact Weak.ownB 3 5 52 3 1 (by kernel_rfl) (by decide) rfl rfl (by simp [lessL, lk, St.purge, D.purge, rows]) (by simp [lessL, lk, St.purge, D.purges, D.purge, rows]) (by simp [lessL]) rfl
  rintro k st ⟨i, rfl, hi6, hi, rfl⟩
  have hw := i64_succ (show i < 1000000000 by omega)
  by_cases hlt : i < o.ports.length ∧ i < 9
  ·obtain ⟨x, hx⟩ := at_lt hlt.1
   have h1 : ((i : Int) < (o.ports.length : Int)) = True := eq_true (by omega)
   have h2 : ((i : Int) < 9) = True := eq_true (by omega)
   have hl' : ((o.ports.take i).map id).length ≤ i := by simp; omega
   have e1 : rows cInt ((o.ports.take i).map id) ++ [[PD.raw (Value.int IntKind.i64 x)]] = rows cInt ((o.ports.take (i + 1)).map id) := few_step hx
   simp only [go_sem, contS_seq, simprocAttr, rows_len, rows_get hx, h1, h2]
   simp only [go_sem, contS_seq, simprocAttr, hw, e1]
   refine ⟨by simp, by unfold maxLen; omega, by omega, 9 - (i + 1), _, by omega, ?_, i + 1, rfl, by omega, by omega, rfl⟩
   exact lessA
  ·have h3 := few_end (g := id) hi6 hi hlt
   rw [h3]
   by_cases h1 : i < o.ports.length
   ·have h1' : ((i : Int) < (o.ports.length : Int)) = True := eq_true (by omega)
    have h2 : ((i : Int) < 9) = False := eq_false (by omega)
    simp only [go_sem, contS_seq, simprocAttr, rows_len, h1', h2]
    exact hK _ ⟨i, rfl⟩
   ·have h1' : ((i : Int) < (o.ports.length : Int)) = False := eq_false (by omega)
    simp only [go_sem, contS_seq, simprocAttr, rows_len, h1']
    exact hK _ ⟨i, rfl⟩
 rintro s ⟨_, rfl⟩
 refine run_cutJ (fun s => ∃ i : Nat, s = ⟨[(62, bln false), (1, .ptr 1 0), (2, .ptr 2 0), (3, .ptr 3 0), (5, int i), (62, bln false)], [(1, [int o.ref.kind, str o.ref.space, str o.ref.name, bln o.good, .pd (.slice (rows APair.pd o.labels)), .pd (.slice (ints o.ports)), str o.cls, .pd (.slice (rows AListener.pd o.listeners)), .pd (.slice (rows AParent.pd o.parents)), .pd (.slice (strs o.hosts)), .pd (.slice (rows ARule.pd o.rules)), .pd (.slice (rows ASide.pd o.from_)), .pd (.slice (rows ASide.pd o.to_))]), (2, [int 0, str ⟨#[]⟩, str ⟨#[]⟩, bln false, .nils, .nils, str ⟨#[]⟩, .nils, .nils, .nils, .nils, .nils, .nils]), (3, [int (fewRef o.ref).kind, str (fewRef o.ref).space, str (fewRef o.ref).name, bln o.good, .pd (.slice (rows APair.pd (fewPairs o.labels))), .own 3 1 (rows cInt ((o.ports.take 9).map id)) 52, str (few o.cls), .own 49 9 (rows AListener.pd ((o.listeners.take 9).map fewListener)) 92, .nils, .nils, .nils, .pd (.slice (rows ASide.pd (fewSides o.from_))), .pd (.slice (rows ASide.pd (fewSides o.to_)))])], [], .no⟩) ?_ ?_
 ·intro K' hK
  simp only [go_sem, contS_seq, simprocAttr, rows_len]
  refine loopS (fun k st => ∃ i : Nat, k = 9 - i ∧ i ≤ 9 ∧ i ≤ o.listeners.length ∧
   st = ⟨[(1, .ptr 1 0), (2, .ptr 2 0), (3, .ptr 3 0), (5, int i)], [(1, [int o.ref.kind, str o.ref.space, str o.ref.name, bln o.good, .pd (.slice (rows APair.pd o.labels)), .pd (.slice (ints o.ports)), str o.cls, .pd (.slice (rows AListener.pd o.listeners)), .pd (.slice (rows AParent.pd o.parents)), .pd (.slice (strs o.hosts)), .pd (.slice (rows ARule.pd o.rules)), .pd (.slice (rows ASide.pd o.from_)), .pd (.slice (rows ASide.pd o.to_))]), (2, [int 0, str ⟨#[]⟩, str ⟨#[]⟩, bln false, .nils, .nils, str ⟨#[]⟩, .nils, .nils, .nils, .nils, .nils, .nils]), (3, [int (fewRef o.ref).kind, str (fewRef o.ref).space, str (fewRef o.ref).name, bln o.good, .pd (.slice (rows APair.pd (fewPairs o.labels))), .own 3 1 (rows cInt ((o.ports.take 9).map id)) 52, str (few o.cls), .own 49 9 (rows AListener.pd ((o.listeners.take i).map fewListener)) 92, .nils, .nils, .nils, .pd (.slice (rows ASide.pd (fewSides o.from_))), .pd (.slice (rows ASide.pd (fewSides o.to_)))])], [], .no⟩) 9 _
   ?_ ⟨0, rfl, by omega, by omega, rfl⟩ ?_
  ·exact Weak.ownB 3 7 92 49 9 (by kernel_rfl) (by decide) rfl rfl (by simp [lessL, lk, St.purge, D.purge, rows]) (by simp [lessL, lk, St.purge, D.purges, D.purge, rows]) (by simp [lessL]) rfl
  rintro k st ⟨i, rfl, hi6, hi, rfl⟩
  have hw := i64_succ (show i < 1000000000 by omega)
  by_cases hlt : i < o.listeners.length ∧ i < 9
  ·obtain ⟨x, hx⟩ := at_lt hlt.1
   have h1 : ((i : Int) < (o.listeners.length : Int)) = True := eq_true (by omega)
   have h2 : ((i : Int) < 9) = True := eq_true (by omega)
   have hl' : ((o.listeners.take i).map fewListener).length ≤ i := by simp; omega
   have e1 : rows AListener.pd ((o.listeners.take i).map fewListener) ++ [[PD.raw (Value.string (few x.name)), PD.raw (Value.int IntKind.i64 x.port), PD.raw (Value.bool x.tls), PD.raw (Value.string (few x.host)), PD.raw (Value.int IntKind.i64 (fewRef x.cert).kind), PD.raw (Value.string ((fewRef x.cert).space)), PD.raw (Value.string ((fewRef x.cert).name)), PD.raw (Value.int IntKind.i64 x.from_), PD.slice (rows ANeed.pd (fewNeeds x.needs))]] = rows AListener.pd ((o.listeners.take (i + 1)).map fewListener) := few_step hx
   simp only [go_sem, contS_seq, simprocAttr, rows_len, rows_get hx, h1, h2]
   repeat' (first | (refine (law1_Few x.name).callX (enters_of Tryz.func21 rfl rfl) _ rfl rfl ?_; rintro _ rfl; simp only [go_sem, contS_seq, simprocAttr, rows_len, rows_get hx]) | (refine (law1_Few x.host).callX (enters_of Tryz.func21 rfl rfl) _ rfl rfl ?_; rintro _ rfl; simp only [go_sem, contS_seq, simprocAttr, rows_len, rows_get hx]) | (refine (law9_FewRef x.cert).callX (enters_of Tryz.func20 rfl rfl) _ rfl rfl ?_; rintro _ rfl; simp only [go_sem, contS_seq, simprocAttr, rows_len, rows_get hx]) | (refine (law8_Few x.needs).callX (enters_of Tryz.func26 rfl rfl) _ rfl rfl ?_; rintro _ rfl; simp only [go_sem, contS_seq, simprocAttr, rows_len, rows_get hx]))
   simp only [go_sem, contS_seq, simprocAttr, hw, e1]
   refine ⟨by simp, by unfold maxLen; omega, by omega, 9 - (i + 1), _, by omega, ?_, i + 1, rfl, by omega, by omega, rfl⟩
   exact lessA
  ·have h3 := few_end (g := fewListener) hi6 hi hlt
   rw [h3]
   by_cases h1 : i < o.listeners.length
   ·have h1' : ((i : Int) < (o.listeners.length : Int)) = True := eq_true (by omega)
    have h2 : ((i : Int) < 9) = False := eq_false (by omega)
    simp only [go_sem, contS_seq, simprocAttr, rows_len, h1', h2]
    exact hK _ ⟨i, rfl⟩
   ·have h1' : ((i : Int) < (o.listeners.length : Int)) = False := eq_false (by omega)
    simp only [go_sem, contS_seq, simprocAttr, rows_len, h1']
    exact hK _ ⟨i, rfl⟩
 rintro s ⟨_, rfl⟩
 refine run_cutJ (fun s => ∃ i : Nat, s = ⟨[(102, bln false), (1, .ptr 1 0), (2, .ptr 2 0), (3, .ptr 3 0), (7, int i), (102, bln false)], [(1, [int o.ref.kind, str o.ref.space, str o.ref.name, bln o.good, .pd (.slice (rows APair.pd o.labels)), .pd (.slice (ints o.ports)), str o.cls, .pd (.slice (rows AListener.pd o.listeners)), .pd (.slice (rows AParent.pd o.parents)), .pd (.slice (strs o.hosts)), .pd (.slice (rows ARule.pd o.rules)), .pd (.slice (rows ASide.pd o.from_)), .pd (.slice (rows ASide.pd o.to_))]), (2, [int 0, str ⟨#[]⟩, str ⟨#[]⟩, bln false, .nils, .nils, str ⟨#[]⟩, .nils, .nils, .nils, .nils, .nils, .nils]), (3, [int (fewRef o.ref).kind, str (fewRef o.ref).space, str (fewRef o.ref).name, bln o.good, .pd (.slice (rows APair.pd (fewPairs o.labels))), .own 3 1 (rows cInt ((o.ports.take 9).map id)) 52, str (few o.cls), .own 49 9 (rows AListener.pd ((o.listeners.take 9).map fewListener)) 92, .own 55 4 (rows AParent.pd ((o.parents.take 5).map fewParent)) 125, .nils, .nils, .pd (.slice (rows ASide.pd (fewSides o.from_))), .pd (.slice (rows ASide.pd (fewSides o.to_)))])], [], .no⟩) ?_ ?_
 ·intro K' hK
  simp only [go_sem, contS_seq, simprocAttr, rows_len]
  refine loopS (fun k st => ∃ i : Nat, k = 5 - i ∧ i ≤ 5 ∧ i ≤ o.parents.length ∧
   st = ⟨[(1, .ptr 1 0), (2, .ptr 2 0), (3, .ptr 3 0), (7, int i)], [(1, [int o.ref.kind, str o.ref.space, str o.ref.name, bln o.good, .pd (.slice (rows APair.pd o.labels)), .pd (.slice (ints o.ports)), str o.cls, .pd (.slice (rows AListener.pd o.listeners)), .pd (.slice (rows AParent.pd o.parents)), .pd (.slice (strs o.hosts)), .pd (.slice (rows ARule.pd o.rules)), .pd (.slice (rows ASide.pd o.from_)), .pd (.slice (rows ASide.pd o.to_))]), (2, [int 0, str ⟨#[]⟩, str ⟨#[]⟩, bln false, .nils, .nils, str ⟨#[]⟩, .nils, .nils, .nils, .nils, .nils, .nils]), (3, [int (fewRef o.ref).kind, str (fewRef o.ref).space, str (fewRef o.ref).name, bln o.good, .pd (.slice (rows APair.pd (fewPairs o.labels))), .own 3 1 (rows cInt ((o.ports.take 9).map id)) 52, str (few o.cls), .own 49 9 (rows AListener.pd ((o.listeners.take 9).map fewListener)) 92, .own 55 4 (rows AParent.pd ((o.parents.take i).map fewParent)) 125, .nils, .nils, .pd (.slice (rows ASide.pd (fewSides o.from_))), .pd (.slice (rows ASide.pd (fewSides o.to_)))])], [], .no⟩) 5 _
   ?_ ⟨0, rfl, by omega, by omega, rfl⟩ ?_
  ·exact Weak.ownB 3 8 125 55 4 (by kernel_rfl) (by decide) rfl rfl (by simp [lessL, lk, St.purge, D.purge, rows]) (by simp [lessL, lk, St.purge, D.purges, D.purge, rows]) (by simp [lessL]) rfl
  rintro k st ⟨i, rfl, hi6, hi, rfl⟩
  have hw := i64_succ (show i < 1000000000 by omega)
  by_cases hlt : i < o.parents.length ∧ i < 5
  ·obtain ⟨x, hx⟩ := at_lt hlt.1
   have h1 : ((i : Int) < (o.parents.length : Int)) = True := eq_true (by omega)
   have h2 : ((i : Int) < 5) = True := eq_true (by omega)
   have hl' : ((o.parents.take i).map fewParent).length ≤ i := by simp; omega
   have e1 : rows AParent.pd ((o.parents.take i).map fewParent) ++ [[PD.raw (Value.string (few x.space)), PD.raw (Value.string (few x.name)), PD.raw (Value.string (few x.section_)), PD.raw (Value.int IntKind.i64 x.port)]] = rows AParent.pd ((o.parents.take (i + 1)).map fewParent) := few_step hx
   simp only [go_sem, contS_seq, simprocAttr, rows_len, rows_get hx, h1, h2]
   repeat' (first | (refine (law1_Few x.space).callX (enters_of Tryz.func21 rfl rfl) _ rfl rfl ?_; rintro _ rfl; simp only [go_sem, contS_seq, simprocAttr, rows_len, rows_get hx]) | (refine (law1_Few x.name).callX (enters_of Tryz.func21 rfl rfl) _ rfl rfl ?_; rintro _ rfl; simp only [go_sem, contS_seq, simprocAttr, rows_len, rows_get hx]) | (refine (law1_Few x.section_).callX (enters_of Tryz.func21 rfl rfl) _ rfl rfl ?_; rintro _ rfl; simp only [go_sem, contS_seq, simprocAttr, rows_len, rows_get hx]))
   simp only [go_sem, contS_seq, simprocAttr, hw, e1]
   refine ⟨by simp, by unfold maxLen; omega, by omega, 5 - (i + 1), _, by omega, ?_, i + 1, rfl, by omega, by omega, rfl⟩
   exact lessA
  ·have h3 := few_end (g := fewParent) hi6 hi hlt
   rw [h3]
   by_cases h1 : i < o.parents.length
   ·have h1' : ((i : Int) < (o.parents.length : Int)) = True := eq_true (by omega)
    have h2 : ((i : Int) < 5) = False := eq_false (by omega)
    simp only [go_sem, contS_seq, simprocAttr, rows_len, h1', h2]
    exact hK _ ⟨i, rfl⟩
   ·have h1' : ((i : Int) < (o.parents.length : Int)) = False := eq_false (by omega)
    simp only [go_sem, contS_seq, simprocAttr, rows_len, h1']
    exact hK _ ⟨i, rfl⟩
 rintro s ⟨_, rfl⟩
 refine run_cutJ (fun s => ∃ i : Nat, s = ⟨[(135, bln false), (1, .ptr 1 0), (2, .ptr 2 0), (3, .ptr 3 0), (9, int i), (135, bln false)], [(1, [int o.ref.kind, str o.ref.space, str o.ref.name, bln o.good, .pd (.slice (rows APair.pd o.labels)), .pd (.slice (ints o.ports)), str o.cls, .pd (.slice (rows AListener.pd o.listeners)), .pd (.slice (rows AParent.pd o.parents)), .pd (.slice (strs o.hosts)), .pd (.slice (rows ARule.pd o.rules)), .pd (.slice (rows ASide.pd o.from_)), .pd (.slice (rows ASide.pd o.to_))]), (2, [int 0, str ⟨#[]⟩, str ⟨#[]⟩, bln false, .nils, .nils, str ⟨#[]⟩, .nils, .nils, .nils, .nils, .nils, .nils]), (3, [int (fewRef o.ref).kind, str (fewRef o.ref).space, str (fewRef o.ref).name, bln o.good, .pd (.slice (rows APair.pd (fewPairs o.labels))), .own 3 1 (rows cInt ((o.ports.take 9).map id)) 52, str (few o.cls), .own 49 9 (rows AListener.pd ((o.listeners.take 9).map fewListener)) 92, .own 55 4 (rows AParent.pd ((o.parents.take 5).map fewParent)) 125, .own 9 1 (rows cStr ((o.hosts.take 5).map few)) 147, .nils, .pd (.slice (rows ASide.pd (fewSides o.from_))), .pd (.slice (rows ASide.pd (fewSides o.to_)))])], [], .no⟩) ?_ ?_
 ·intro K' hK
  simp only [go_sem, contS_seq, simprocAttr, rows_len]
  refine loopS (fun k st => ∃ i : Nat, k = 5 - i ∧ i ≤ 5 ∧ i ≤ o.hosts.length ∧
   st = ⟨[(1, .ptr 1 0), (2, .ptr 2 0), (3, .ptr 3 0), (9, int i)], [(1, [int o.ref.kind, str o.ref.space, str o.ref.name, bln o.good, .pd (.slice (rows APair.pd o.labels)), .pd (.slice (ints o.ports)), str o.cls, .pd (.slice (rows AListener.pd o.listeners)), .pd (.slice (rows AParent.pd o.parents)), .pd (.slice (strs o.hosts)), .pd (.slice (rows ARule.pd o.rules)), .pd (.slice (rows ASide.pd o.from_)), .pd (.slice (rows ASide.pd o.to_))]), (2, [int 0, str ⟨#[]⟩, str ⟨#[]⟩, bln false, .nils, .nils, str ⟨#[]⟩, .nils, .nils, .nils, .nils, .nils, .nils]), (3, [int (fewRef o.ref).kind, str (fewRef o.ref).space, str (fewRef o.ref).name, bln o.good, .pd (.slice (rows APair.pd (fewPairs o.labels))), .own 3 1 (rows cInt ((o.ports.take 9).map id)) 52, str (few o.cls), .own 49 9 (rows AListener.pd ((o.listeners.take 9).map fewListener)) 92, .own 55 4 (rows AParent.pd ((o.parents.take 5).map fewParent)) 125, .own 9 1 (rows cStr ((o.hosts.take i).map few)) 147, .nils, .pd (.slice (rows ASide.pd (fewSides o.from_))), .pd (.slice (rows ASide.pd (fewSides o.to_)))])], [], .no⟩) 5 _
   ?_ ⟨0, rfl, by omega, by omega, rfl⟩ ?_
  ·exact Weak.ownB 3 9 147 9 1 (by kernel_rfl) (by decide) rfl rfl (by simp [lessL, lk, St.purge, D.purge, rows]) (by simp [lessL, lk, St.purge, D.purges, D.purge, rows]) (by simp [lessL]) rfl
  rintro k st ⟨i, rfl, hi6, hi, rfl⟩
  have hw := i64_succ (show i < 1000000000 by omega)
  by_cases hlt : i < o.hosts.length ∧ i < 5
  ·obtain ⟨x, hx⟩ := at_lt hlt.1
   have h1 : ((i : Int) < (o.hosts.length : Int)) = True := eq_true (by omega)
   have h2 : ((i : Int) < 5) = True := eq_true (by omega)
   have hl' : ((o.hosts.take i).map few).length ≤ i := by simp; omega
   have e1 : rows cStr ((o.hosts.take i).map few) ++ [[PD.raw (Value.string (few x))]] = rows cStr ((o.hosts.take (i + 1)).map few) := few_step hx
   simp only [go_sem, contS_seq, simprocAttr, rows_len, rows_get hx, h1, h2]
   repeat' (first | (refine (law1_Few x).callX (enters_of Tryz.func21 rfl rfl) _ rfl rfl ?_; rintro _ rfl; simp only [go_sem, contS_seq, simprocAttr, rows_len, rows_get hx]))
   simp only [go_sem, contS_seq, simprocAttr, hw, e1]
   refine ⟨by simp, by unfold maxLen; omega, by omega, 5 - (i + 1), _, by omega, ?_, i + 1, rfl, by omega, by omega, rfl⟩
   exact lessA
  ·have h3 := few_end (g := few) hi6 hi hlt
   rw [h3]
   by_cases h1 : i < o.hosts.length
   ·have h1' : ((i : Int) < (o.hosts.length : Int)) = True := eq_true (by omega)
    have h2 : ((i : Int) < 5) = False := eq_false (by omega)
    simp only [go_sem, contS_seq, simprocAttr, rows_len, h1', h2]
    exact hK _ ⟨i, rfl⟩
   ·have h1' : ((i : Int) < (o.hosts.length : Int)) = False := eq_false (by omega)
    simp only [go_sem, contS_seq, simprocAttr, rows_len, h1']
    exact hK _ ⟨i, rfl⟩
 rintro s ⟨_, rfl⟩
 refine run_cutJ (fun s => ∃ i : Nat, s = ⟨[(157, bln false), (1, .ptr 1 0), (2, .ptr 2 0), (3, .ptr 3 0), (10, int i), (157, bln false)], [(1, [int o.ref.kind, str o.ref.space, str o.ref.name, bln o.good, .pd (.slice (rows APair.pd o.labels)), .pd (.slice (ints o.ports)), str o.cls, .pd (.slice (rows AListener.pd o.listeners)), .pd (.slice (rows AParent.pd o.parents)), .pd (.slice (strs o.hosts)), .pd (.slice (rows ARule.pd o.rules)), .pd (.slice (rows ASide.pd o.from_)), .pd (.slice (rows ASide.pd o.to_))]), (2, [int 0, str ⟨#[]⟩, str ⟨#[]⟩, bln false, .nils, .nils, str ⟨#[]⟩, .nils, .nils, .nils, .nils, .nils, .nils]), (3, [int (fewRef o.ref).kind, str (fewRef o.ref).space, str (fewRef o.ref).name, bln o.good, .pd (.slice (rows APair.pd (fewPairs o.labels))), .own 3 1 (rows cInt ((o.ports.take 9).map id)) 52, str (few o.cls), .own 49 9 (rows AListener.pd ((o.listeners.take 9).map fewListener)) 92, .own 55 4 (rows AParent.pd ((o.parents.take 5).map fewParent)) 125, .own 9 1 (rows cStr ((o.hosts.take 5).map few)) 147, .own 69 3 (rows ARule.pd ((o.rules.take 7).map fewRule)) 239, .pd (.slice (rows ASide.pd (fewSides o.from_))), .pd (.slice (rows ASide.pd (fewSides o.to_)))])], [], .no⟩) ?_ ?_
 ·intro K' hK
  simp only [go_sem, contS_seq, simprocAttr, rows_len]
  refine loopS (fun k st => ∃ i : Nat, k = 7 - i ∧ i ≤ 7 ∧ i ≤ o.rules.length ∧
   st = ⟨[(1, .ptr 1 0), (2, .ptr 2 0), (3, .ptr 3 0), (10, int i)], [(1, [int o.ref.kind, str o.ref.space, str o.ref.name, bln o.good, .pd (.slice (rows APair.pd o.labels)), .pd (.slice (ints o.ports)), str o.cls, .pd (.slice (rows AListener.pd o.listeners)), .pd (.slice (rows AParent.pd o.parents)), .pd (.slice (strs o.hosts)), .pd (.slice (rows ARule.pd o.rules)), .pd (.slice (rows ASide.pd o.from_)), .pd (.slice (rows ASide.pd o.to_))]), (2, [int 0, str ⟨#[]⟩, str ⟨#[]⟩, bln false, .nils, .nils, str ⟨#[]⟩, .nils, .nils, .nils, .nils, .nils, .nils]), (3, [int (fewRef o.ref).kind, str (fewRef o.ref).space, str (fewRef o.ref).name, bln o.good, .pd (.slice (rows APair.pd (fewPairs o.labels))), .own 3 1 (rows cInt ((o.ports.take 9).map id)) 52, str (few o.cls), .own 49 9 (rows AListener.pd ((o.listeners.take 9).map fewListener)) 92, .own 55 4 (rows AParent.pd ((o.parents.take 5).map fewParent)) 125, .own 9 1 (rows cStr ((o.hosts.take 5).map few)) 147, .own 69 3 (rows ARule.pd ((o.rules.take i).map fewRule)) 239, .pd (.slice (rows ASide.pd (fewSides o.from_))), .pd (.slice (rows ASide.pd (fewSides o.to_)))])], [], .no⟩) 7 _
   ?_ ⟨0, rfl, by omega, by omega, rfl⟩ ?_
  ·exact Weak.ownB 3 10 239 69 3 (by kernel_rfl) (by decide) rfl rfl (by simp [lessL, lk, St.purge, D.purge, rows]) (by simp [lessL, lk, St.purge, D.purges, D.purge, rows]) (by simp [lessL]) rfl
  rintro k st ⟨i, rfl, hi6, hi, rfl⟩
  have hw := i64_succ (show i < 1000000000 by omega)
  by_cases hlt : i < o.rules.length ∧ i < 7
  ·obtain ⟨x, hx⟩ := at_lt hlt.1
   have h1 : ((i : Int) < (o.rules.length : Int)) = True := eq_true (by omega)
   have h2 : ((i : Int) < 7) = True := eq_true (by omega)
   have hl' : ((o.rules.take i).map fewRule).length ≤ i := by simp; omega
   have e1 : rows ARule.pd ((o.rules.take i).map fewRule) ++ [[PD.slice (rows AMatch.pd ((x.matches_.take 5).map fewMatch)), PD.slice (rows AFilter.pd (fewFilters x.filters)), PD.slice (rows ABackend.pd ((x.backends.take 5).map fewBackend))]] = rows ARule.pd ((o.rules.take (i + 1)).map fewRule) := few_step hx
   apply run_cut
   ·intro K' hK
    simp only [go_sem, contS_seq, simprocAttr, rows_len, h1, h2]
    exact hK
   apply run_cut
   ·intro K' hK
    rw [run_block]
    apply run_cut
    ·intro K' hK
     simp only [go_sem, contS_seq, simprocAttr, rows_len, rows_get hx]
     refine (law7_Few x.filters).callW (enters_of Tryz.func27 rfl rfl) _ rfl rfl ?_
     rintro _ rfl
     simp only [go_sem, contS_seq, simprocAttr]
     exact hK
    refine run_cutJ (fun s => ∃ j : Nat, s = ⟨[(180, bln false), (1, .ptr 1 0), (2, .ptr 2 0), (3, .ptr 3 0), (10, int i), (11, .ptr 11 0), (12, int j), (180, bln false)], [(1, [int o.ref.kind, str o.ref.space, str o.ref.name, bln o.good, .pd (.slice (rows APair.pd o.labels)), .pd (.slice (ints o.ports)), str o.cls, .pd (.slice (rows AListener.pd o.listeners)), .pd (.slice (rows AParent.pd o.parents)), .pd (.slice (strs o.hosts)), .pd (.slice (rows ARule.pd o.rules)), .pd (.slice (rows ASide.pd o.from_)), .pd (.slice (rows ASide.pd o.to_))]), (2, [int 0, str ⟨#[]⟩, str ⟨#[]⟩, bln false, .nils, .nils, str ⟨#[]⟩, .nils, .nils, .nils, .nils, .nils, .nils]), (3, [int (fewRef o.ref).kind, str (fewRef o.ref).space, str (fewRef o.ref).name, bln o.good, .pd (.slice (rows APair.pd (fewPairs o.labels))), .own 3 1 (rows cInt ((o.ports.take 9).map id)) 52, str (few o.cls), .own 49 9 (rows AListener.pd ((o.listeners.take 9).map fewListener)) 92, .own 55 4 (rows AParent.pd ((o.parents.take 5).map fewParent)) 125, .own 9 1 (rows cStr ((o.hosts.take 5).map few)) 147, .own 69 3 (rows ARule.pd ((o.rules.take i).map fewRule)) 239, .pd (.slice (rows ASide.pd (fewSides o.from_))), .pd (.slice (rows ASide.pd (fewSides o.to_)))]), (11, [.own 73 5 (rows AMatch.pd ((x.matches_.take 5).map fewMatch)) 196, .pd (.slice (rows AFilter.pd (fewFilters x.filters))), .nils])], [], .no⟩) ?_ ?_
    ·intro K' hK
     simp only [go_sem, contS_seq, simprocAttr, rows_len, rows_get hx]
     refine loopS (fun k st => ∃ j : Nat, k = 5 - j ∧ j ≤ 5 ∧ j ≤ x.matches_.length ∧
      st = ⟨[(1, .ptr 1 0), (2, .ptr 2 0), (3, .ptr 3 0), (10, int i), (11, .ptr 11 0), (12, int j)], [(1, [int o.ref.kind, str o.ref.space, str o.ref.name, bln o.good, .pd (.slice (rows APair.pd o.labels)), .pd (.slice (ints o.ports)), str o.cls, .pd (.slice (rows AListener.pd o.listeners)), .pd (.slice (rows AParent.pd o.parents)), .pd (.slice (strs o.hosts)), .pd (.slice (rows ARule.pd o.rules)), .pd (.slice (rows ASide.pd o.from_)), .pd (.slice (rows ASide.pd o.to_))]), (2, [int 0, str ⟨#[]⟩, str ⟨#[]⟩, bln false, .nils, .nils, str ⟨#[]⟩, .nils, .nils, .nils, .nils, .nils, .nils]), (3, [int (fewRef o.ref).kind, str (fewRef o.ref).space, str (fewRef o.ref).name, bln o.good, .pd (.slice (rows APair.pd (fewPairs o.labels))), .own 3 1 (rows cInt ((o.ports.take 9).map id)) 52, str (few o.cls), .own 49 9 (rows AListener.pd ((o.listeners.take 9).map fewListener)) 92, .own 55 4 (rows AParent.pd ((o.parents.take 5).map fewParent)) 125, .own 9 1 (rows cStr ((o.hosts.take 5).map few)) 147, .own 69 3 (rows ARule.pd ((o.rules.take i).map fewRule)) 239, .pd (.slice (rows ASide.pd (fewSides o.from_))), .pd (.slice (rows ASide.pd (fewSides o.to_)))]), (11, [.own 73 5 (rows AMatch.pd ((x.matches_.take j).map fewMatch)) 196, .pd (.slice (rows AFilter.pd (fewFilters x.filters))), .nils])], [], .no⟩) 5 _
      ?_ ⟨0, rfl, by omega, by omega, rfl⟩ ?_
     ·exact Weak.ownB 11 0 196 73 5 (by kernel_rfl) (by decide) rfl rfl (by simp [lessL, lk, St.purge, D.purge, rows]) (by simp [lessL, lk, St.purge, D.purges, D.purge, rows]) (by simp [lessL]) rfl
     rintro k st ⟨j, rfl, hj6, hj, rfl⟩
     have hwj := i64_succ (show j < 1000000000 by omega)
     by_cases hltj : j < x.matches_.length ∧ j < 5
     ·obtain ⟨y, hy⟩ := at_lt hltj.1
      have h1' : ((j : Int) < (x.matches_.length : Int)) = True := eq_true (by omega)
      have h2' : ((j : Int) < 5) = True := eq_true (by omega)
      have hlj : ((x.matches_.take j).map fewMatch).length ≤ j := by simp; omega
      have e2 : rows AMatch.pd ((x.matches_.take j).map fewMatch) ++ [[PD.raw (Value.int IntKind.i64 (fewMatch y).pkind), PD.raw (Value.string (fewMatch y).pval), PD.raw (Value.string (fewMatch y).method), PD.slice (rows APair.pd (fewMatch y).head), PD.slice (rows APair.pd (fewMatch y).query)]] = rows AMatch.pd ((x.matches_.take (j + 1)).map fewMatch) := few_step hy
      simp only [go_sem, contS_seq, simprocAttr, rows_len, rows_get hx, rows_get hy, h1', h2']
      repeat' (first | (refine (law6_Few y).callX (enters_of Tryz.func28 rfl rfl) _ rfl rfl ?_; rintro _ rfl; simp only [go_sem, contS_seq, simprocAttr, rows_len, rows_get hx, rows_get hy]))
      simp only [go_sem, contS_seq, simprocAttr, hwj, e2]
      refine ⟨by simp, by unfold maxLen; omega, by omega, 5 - (j + 1), _, by omega, ?_, j + 1, rfl, by omega, by omega, rfl⟩
      exact lessA
     ·have h3 := few_end (g := fewMatch) hj6 hj hltj
      rw [h3]
      by_cases h1 : j < x.matches_.length
      ·have h1' : ((j : Int) < (x.matches_.length : Int)) = True := eq_true (by omega)
       have h2 : ((j : Int) < 5) = False := eq_false (by omega)
       simp only [go_sem, contS_seq, simprocAttr, rows_len, rows_get hx, h1', h2]
       exact hK _ ⟨j, rfl⟩
      ·have h1' : ((j : Int) < (x.matches_.length : Int)) = False := eq_false (by omega)
       simp only [go_sem, contS_seq, simprocAttr, rows_len, rows_get hx, h1']
       exact hK _ ⟨j, rfl⟩
    rintro s ⟨_, rfl⟩
    refine run_cutJ (fun s => ∃ j : Nat, s = ⟨[(210, bln false), (1, .ptr 1 0), (2, .ptr 2 0), (3, .ptr 3 0), (10, int i), (11, .ptr 11 0), (13, int j), (210, bln false)], [(1, [int o.ref.kind, str o.ref.space, str o.ref.name, bln o.good, .pd (.slice (rows APair.pd o.labels)), .pd (.slice (ints o.ports)), str o.cls, .pd (.slice (rows AListener.pd o.listeners)), .pd (.slice (rows AParent.pd o.parents)), .pd (.slice (strs o.hosts)), .pd (.slice (rows ARule.pd o.rules)), .pd (.slice (rows ASide.pd o.from_)), .pd (.slice (rows ASide.pd o.to_))]), (2, [int 0, str ⟨#[]⟩, str ⟨#[]⟩, bln false, .nils, .nils, str ⟨#[]⟩, .nils, .nils, .nils, .nils, .nils, .nils]), (3, [int (fewRef o.ref).kind, str (fewRef o.ref).space, str (fewRef o.ref).name, bln o.good, .pd (.slice (rows APair.pd (fewPairs o.labels))), .own 3 1 (rows cInt ((o.ports.take 9).map id)) 52, str (few o.cls), .own 49 9 (rows AListener.pd ((o.listeners.take 9).map fewListener)) 92, .own 55 4 (rows AParent.pd ((o.parents.take 5).map fewParent)) 125, .own 9 1 (rows cStr ((o.hosts.take 5).map few)) 147, .own 69 3 (rows ARule.pd ((o.rules.take i).map fewRule)) 239, .pd (.slice (rows ASide.pd (fewSides o.from_))), .pd (.slice (rows ASide.pd (fewSides o.to_)))]), (11, [.own 73 5 (rows AMatch.pd ((x.matches_.take 5).map fewMatch)) 196, .pd (.slice (rows AFilter.pd (fewFilters x.filters))), .own 76 5 (rows ABackend.pd ((x.backends.take 5).map fewBackend)) 233])], [], .no⟩) ?_ ?_
    ·intro K' hK
     simp only [go_sem, contS_seq, simprocAttr, rows_len, rows_get hx]
     refine loopS (fun k st => ∃ j : Nat, k = 5 - j ∧ j ≤ 5 ∧ j ≤ x.backends.length ∧
      st = ⟨[(1, .ptr 1 0), (2, .ptr 2 0), (3, .ptr 3 0), (10, int i), (11, .ptr 11 0), (13, int j)], [(1, [int o.ref.kind, str o.ref.space, str o.ref.name, bln o.good, .pd (.slice (rows APair.pd o.labels)), .pd (.slice (ints o.ports)), str o.cls, .pd (.slice (rows AListener.pd o.listeners)), .pd (.slice (rows AParent.pd o.parents)), .pd (.slice (strs o.hosts)), .pd (.slice (rows ARule.pd o.rules)), .pd (.slice (rows ASide.pd o.from_)), .pd (.slice (rows ASide.pd o.to_))]), (2, [int 0, str ⟨#[]⟩, str ⟨#[]⟩, bln false, .nils, .nils, str ⟨#[]⟩, .nils, .nils, .nils, .nils, .nils, .nils]), (3, [int (fewRef o.ref).kind, str (fewRef o.ref).space, str (fewRef o.ref).name, bln o.good, .pd (.slice (rows APair.pd (fewPairs o.labels))), .own 3 1 (rows cInt ((o.ports.take 9).map id)) 52, str (few o.cls), .own 49 9 (rows AListener.pd ((o.listeners.take 9).map fewListener)) 92, .own 55 4 (rows AParent.pd ((o.parents.take 5).map fewParent)) 125, .own 9 1 (rows cStr ((o.hosts.take 5).map few)) 147, .own 69 3 (rows ARule.pd ((o.rules.take i).map fewRule)) 239, .pd (.slice (rows ASide.pd (fewSides o.from_))), .pd (.slice (rows ASide.pd (fewSides o.to_)))]), (11, [.own 73 5 (rows AMatch.pd ((x.matches_.take 5).map fewMatch)) 196, .pd (.slice (rows AFilter.pd (fewFilters x.filters))), .own 76 5 (rows ABackend.pd ((x.backends.take j).map fewBackend)) 233])], [], .no⟩) 5 _
      ?_ ⟨0, rfl, by omega, by omega, rfl⟩ ?_
     ·exact Weak.ownB 11 2 233 76 5 (by kernel_rfl) (by decide) rfl rfl (by simp [lessL, lk, St.purge, D.purge, rows]) (by simp [lessL, lk, St.purge, D.purges, D.purge, rows]) (by simp [lessL]) rfl
     rintro k st ⟨j, rfl, hj6, hj, rfl⟩
     have hwj := i64_succ (show j < 1000000000 by omega)
     by_cases hltj : j < x.backends.length ∧ j < 5
     ·obtain ⟨y, hy⟩ := at_lt hltj.1
      have h1' : ((j : Int) < (x.backends.length : Int)) = True := eq_true (by omega)
      have h2' : ((j : Int) < 5) = True := eq_true (by omega)
      have hlj : ((x.backends.take j).map fewBackend).length ≤ j := by simp; omega
      have e2 : rows ABackend.pd ((x.backends.take j).map fewBackend) ++ [[PD.raw (Value.int IntKind.i64 (fewRef y.ref).kind), PD.raw (Value.string (fewRef y.ref).space), PD.raw (Value.string (fewRef y.ref).name), PD.raw (Value.int IntKind.i64 y.port), PD.raw (Value.int IntKind.i64 y.weight)]] = rows ABackend.pd ((x.backends.take (j + 1)).map fewBackend) := few_step hy
      simp only [go_sem, contS_seq, simprocAttr, rows_len, rows_get hx, rows_get hy, h1', h2']
      repeat' (first | (refine (law9_FewRef y.ref).callX (enters_of Tryz.func20 rfl rfl) _ rfl rfl ?_; rintro _ rfl; simp only [go_sem, contS_seq, simprocAttr, rows_len, rows_get hx, rows_get hy]))
      simp only [go_sem, contS_seq, simprocAttr, hwj, e2]
      refine ⟨by simp, by unfold maxLen; omega, by omega, 5 - (j + 1), _, by omega, ?_, j + 1, rfl, by omega, by omega, rfl⟩
      exact lessA
     ·have h3 := few_end (g := fewBackend) hj6 hj hltj
      rw [h3]
      by_cases h1 : j < x.backends.length
      ·have h1' : ((j : Int) < (x.backends.length : Int)) = True := eq_true (by omega)
       have h2 : ((j : Int) < 5) = False := eq_false (by omega)
       simp only [go_sem, contS_seq, simprocAttr, rows_len, rows_get hx, h1', h2]
       exact hK _ ⟨j, rfl⟩
      ·have h1' : ((j : Int) < (x.backends.length : Int)) = False := eq_false (by omega)
       simp only [go_sem, contS_seq, simprocAttr, rows_len, rows_get hx, h1']
       exact hK _ ⟨j, rfl⟩
    rintro s ⟨_, rfl⟩
    simp only [go_sem, contS_seq, simprocAttr, rows_len, e1]
    refine ⟨by simp, by unfold maxLen; omega, by omega, ?_⟩
    exact hK
   simp only [go_sem, contS_seq, simprocAttr, hw]
   refine ⟨7 - (i + 1), _, by omega, ?_, i + 1, rfl, by omega, by omega, rfl⟩
   exact lessA
  ·have h3 := few_end (g := fewRule) hi6 hi hlt
   rw [h3]
   by_cases h1 : i < o.rules.length
   ·have h1' : ((i : Int) < (o.rules.length : Int)) = True := eq_true (by omega)
    have h2 : ((i : Int) < 7) = False := eq_false (by omega)
    simp only [go_sem, contS_seq, simprocAttr, rows_len, h1', h2]
    exact hK _ ⟨i, rfl⟩
   ·have h1' : ((i : Int) < (o.rules.length : Int)) = False := eq_false (by omega)
    simp only [go_sem, contS_seq, simprocAttr, rows_len, h1']
    exact hK _ ⟨i, rfl⟩
 rintro s ⟨_, rfl⟩
 simp only [go_sem, contS_seq, simprocAttr]
 simp only [retK, resD, resA, AOp.ex, St.ev, retL, oneD, simprocAttr, ret_z8s55, List.map_id]
 exact ⟨_, rfl, rfl, rfl⟩


def fewObjs (l : List AObj) : List AObj := (l.take 24).map fewObj

theorem take_map_mem {α β : Type} {g : α → β} {l : List α} {n : Nat} {y : β} (h : y ∈ (l.take n).map g) : ∃ x, x ∈ l ∧ g x = y := by
 obtain ⟨x, hx, rfl⟩ := List.mem_map.1 h
 exact ⟨x, List.mem_of_mem_take hx, rfl⟩

theorem fewPairs_ok {l : List APair} : ∀ p ∈ fewPairs l, p.ok := fun p hp => by
 obtain ⟨x, _, rfl⟩ := take_map_mem hp
 exact fewPair_ok x

theorem fewPairs_len (l : List APair) : (fewPairs l).length ≤ 1000000 := by simp [fewPairs]; omega

theorem fewMatch_ok (m : AMatch) : (fewMatch m).ok := ⟨fewPairs_len _, fewPairs_len _, fewPairs_ok, fewPairs_ok⟩

theorem fewFilter_ok (f : AFilter) : (fewFilter f).ok := ⟨by have := few_size f.name; simp [fewFilter]; omega, by have := few_size f.val; simp [fewFilter]; omega⟩

theorem fewNeed_ok (n : ANeed) : (fewNeed n).ok := by simp [ANeed.ok, fewNeed]; omega

theorem fewListener_ok (l : AListener) : (fewListener l).ok := ⟨by simp [fewListener, fewNeeds]; omega, fun x hx => by
 obtain ⟨y, _, rfl⟩ := take_map_mem hx
 exact fewNeed_ok y⟩

theorem fewRule_ok (r : ARule) : (fewRule r).ok := ⟨by simp [fewRule]; omega, by simp [fewRule, fewFilters]; omega, by simp [fewRule]; omega, fun x hx => by
 obtain ⟨y, _, rfl⟩ := take_map_mem hx
 exact fewMatch_ok y, fun x hx => by
 obtain ⟨y, _, rfl⟩ := take_map_mem hx
 exact fewFilter_ok y⟩

theorem fewObj_ok (o : AObj) : (fewObj o).ok where
 la := fewPairs_len _
 po := by simp [fewObj]; omega
 li := by simp [fewObj]; omega
 pa := by simp [fewObj]; omega
 ho := by simp [fewObj]; omega
 ru := by simp [fewObj]; omega
 fr := by simp [fewObj, fewSides]; omega
 to := by simp [fewObj, fewSides]; omega
 lis := fun x hx => by
  obtain ⟨y, _, rfl⟩ := take_map_mem hx
  exact fewListener_ok y
 rus := fun x hx => by
  obtain ⟨y, _, rfl⟩ := take_map_mem hx
  exact fewRule_ok y

theorem fewObjs_ok {l : List AObj} : ∀ o ∈ fewObjs l, o.ok := fun o ho => by
 obtain ⟨x, _, rfl⟩ := take_map_mem ho
 exact fewObj_ok x

theorem fewObjs_len (l : List AObj) : (fewObjs l).length ≤ 24 := by simp [fewObjs]; omega

theorem law11_Some (l : List AObj) : Pure Tryz.prog 9 [.pd (.slice (rows AObj.pd l))] (fun d => d = .pd (.slice (rows AObj.pd (fewObjs l)))) := by
 refine pure_of_run follows an_zh218 Tryz.func9 rfl ok_zh218.1 ok_zh218.2 (by simp [Tryz.ntmps9]) ?_
 rw [run_start]
 simp only [ac_zh218, go_sem, contS_seq, simprocAttr, rows_len]
 refine loopS (fun k st => ∃ i : Nat, k = 24 - i ∧ i ≤ 24 ∧ i ≤ l.length ∧
  st = ⟨[(0, .pd (.slice (rows AObj.pd l))), (3, .own 33 13 (rows AObj.pd ((l.take i).map fewObj)) 22), (4, int i)], [], [], .no⟩) 24 _
  ?_ ⟨0, rfl, by omega, by omega, rfl⟩ ?_
 ·exact Weak.own1 3 22 33 13 (by kernel_rfl) (by decide) rfl (by simp [lessL, lk, St.purge, St.put, D.purge, rows]) (by simp [lessL, lk, St.purge, D.purges, D.purge]) (by simp [lessL]) rfl
 rintro k st ⟨i, rfl, hi6, hi, rfl⟩
 have hw := i64_succ (show i < 1000000000 by omega)
 by_cases hlt : i < l.length ∧ i < 24
 ·obtain ⟨x, hx⟩ := at_lt hlt.1
  have h1 : ((i : Int) < (l.length : Int)) = True := eq_true (by omega)
  have h2 : ((i : Int) < 24) = True := eq_true (by omega)
  simp only [go_sem, contS_seq, simprocAttr, rows_len, rows_get hx, h1, h2]
  refine (law9_Few x).callW (enters_of Tryz.func10 rfl rfl) _ rfl rfl ?_
  rintro d rfl
  have hl' : ((l.take i).map fewObj).length ≤ i := by simp; omega
  have e1 : rows AObj.pd ((l.take i).map fewObj) ++ [AObj.pd (fewObj x)] = rows AObj.pd ((l.take (i + 1)).map fewObj) := few_step hx
  simp only [go_sem, contS_seq, simprocAttr, rows_len, hw]
  rw [e1]
  refine ⟨by simp, by unfold maxLen; omega, by omega, 24 - (i + 1), _, by omega, ?_, i + 1, rfl, by omega, by omega, rfl⟩
  exact lessA
 ·have h3 := few_end (g := fewObj) hi6 hi hlt
  rw [h3]
  by_cases h1 : i < l.length
  ·have h1' : ((i : Int) < (l.length : Int)) = True := eq_true (by omega)
   have h2 : ((i : Int) < 24) = False := eq_false (by omega)
   simp only [go_sem, contS_seq, simprocAttr, rows_len, h1', h2]
   simp only [retK, resD, retL, oneD, simprocAttr, Tryz.results9]
   exact ⟨_, rfl, rfl, rfl⟩
  ·have h1' : ((i : Int) < (l.length : Int)) = False := eq_false (by omega)
   simp only [go_sem, contS_seq, simprocAttr, rows_len, h1']
   simp only [retK, resD, retL, oneD, simprocAttr, Tryz.results9]
   exact ⟨_, rfl, rfl, rfl⟩

end Go.Proofs.YtcnhcamimcpinaaGreatDoor



namespace Go.Proofs.YtcnhcamimcpinaaGreatDoor
open Go

def ac_zjxe8 : AC := (sr [oo 4 (.mv (cq false))] [0,1] (.seq (sr [mq 6 0,oo 7 (.len (tp 6) false),mq 8 1,oo 9 (.len (tp 8) false),oo 10 (.bin .neq (tp 7) (tp 9))] [0,1,10] (.cond (tp 10) (sr [oo 4 (.mv (cq false))] [4] .ret) .skip)) (.seq (sr [oo 5 (.mv (ci 0))] [0,1,5] (.block 0 (.loop (.seq (sr [mq 11 5,mq 12 0,oo 13 (.len (tp 12) false),oo 14 (.bin .lss (tp 11) (tp 13))] [0,1,5,14] (.cond (tp 14) .skip (.exit 0))) (.seq (.block 1 (.seq (.draw [mq 17 0,mq 18 5,oo 19 (.idxA 1 (tp 17) (tp 18)),lq 20 19,mq 21 1,mq 22 5,oo 23 (.idxA 1 (tp 21) (tp 22)),lq 24 23,oo 25 (.bin .neq (tp 20) (tp 24))] [0,0,3,7,0,0,48,112,255] (.take 0 (.take 1 (.take 2 (.take 3 (.take 4 (.take 5 (.take 6 (.take 7 (.take 8 .done))))))))) (some [0,1,5,25])) (.cond (tp 25) (sr [oo 4 (.mv (cq false))] [4] .ret) .skip))) (.region [mq 15 5,oo 16 (.bin .add (tp 15) (ci 1)),mq 5 16] (some [0,1,5]))))))) (sr [oo 4 (.mv (cq true))] [4] .ret))))
def an_zjxe8 : Ann := ann [0,1,2,3,4,6,7,5,8] ac_zjxe8
theorem ok_zjxe8 : okd Tryz.prog an_zjxe8 ac_zjxe8 Tryz.f40 := ⟨by kernel_rfl, by kernel_rfl⟩

end Go.Proofs.YtcnhcamimcpinaaGreatDoor


namespace Go.Proofs.YtcnhcamimcpinaaGreatDoor
open Go Go.RowKit
set_option linter.unusedSimpArgs false
set_option linter.unusedVariables false
set_option maxRecDepth 100000

theorem res_no {p : Prop} [Decidable p] (h : ¬p) : bln false = bln (decide p) := by rw [decide_eq_false h]
theorem res_yes {p : Prop} [Decidable p] (h : p) : bln true = bln (decide p) := by rw [decide_eq_true h]
theorem take_step {α : Type} {l m : List α} {i : Nat} {x y : α} (h : l.take i = m.take i) (hx : l[i]? = some x) (hy : m[i]? = some y) (e : x = y) : l.take (i + 1) = m.take (i + 1) := by
 rw [take_at hx, take_at hy, h, e]
theorem take_end {α : Type} {l m : List α} {i : Nat} (h : l.take i = m.take i) (hl : l.length = m.length) (hi : ¬ i < l.length) : l = m := by
 rwa [List.take_of_length_le (by omega), List.take_of_length_le (by omega)] at h

set_option maxHeartbeats 2000000 in
theorem ref1_Same (a b : List ByteArray) (ha : a.length ≤ 1000000) : Pure Tryz.prog 40 [.pd (.slice (rows cStr a)), .pd (.slice (rows cStr b))] (fun d => d = bln (decide (a = b))) := by
 refine pure_of_run follows an_zjxe8 Tryz.func40 rfl ok_zjxe8.1 ok_zjxe8.2 (by simp [Tryz.ntmps40]) ?_
 rw [run_start]
 simp only [ac_zjxe8, go_sem, contS_seq, simprocAttr, rows_len]
 refine GifP.mk (fun hl => ?_) (fun hl => ?_)
 rotate_left
 ·simp only [retK, resD, retL, oneD, simprocAttr, Tryz.results40]
  exact ⟨_, rfl, rfl, res_no (fun e => hl (by rw [e]))⟩
 have hL : a.length = b.length := by omega
 refine loopS (fun k st => ∃ i : Nat, k = a.length - i ∧ i ≤ a.length ∧ a.take i = b.take i ∧ st = ⟨[(0, .pd (.slice (rows cStr a))), (1, .pd (.slice (rows cStr b))), (5, int i)], [], [], .no⟩) a.length _ ?_ ⟨0, rfl, by omega, rfl, rfl⟩ ?_
 ·exact lessA
 rintro k st ⟨i, rfl, hi, hT, rfl⟩
 have hw := i64_succ (show i < 1000000000 by omega)
 by_cases hlt : i < a.length
 ·obtain ⟨x, hx⟩ := at_lt hlt
  obtain ⟨y, hy⟩ := at_lt (show i < b.length by omega)
  have h1 : ((i : Int) < (a.length : Int)) = True := eq_true (by omega)
  simp only [go_sem, contS_seq, simprocAttr, rows_len, rows_get hx, rows_get hy, h1, hw]
  ·repeat' (first | refine GifP.mk (fun _ => ?_) (fun _ => ?_) | refine Gif.mk (fun _ => ?_) (fun _ => ?_) | refine And.intro ?_ ?_)
   all_goals first
    | (refine ⟨a.length - (i + 1), _, by omega, ?_, i + 1, rfl, by omega, take_step hT hx hy (by first | assumption | (cases x; cases y; simp_all)), rfl⟩; exact lessA)
    | (simp only [retK, resD, retL, oneD, simprocAttr, Tryz.results40]; exact ⟨_, rfl, rfl, res_no (fun e => by subst e; have hxy := Option.some.inj (hx.symm.trans hy); subst hxy; first | contradiction | simp_all)⟩)
 have h1 : ((i : Int) < (a.length : Int)) = False := eq_false (by omega)
 have hE := take_end hT (by omega) hlt
 clear hT hi hw
 simp only [go_sem, contS_seq, simprocAttr, rows_len, h1]
 clear h1 hlt i
 simp only [retK, resD, retL, oneD, simprocAttr, Tryz.results40]
 exact ⟨_, rfl, rfl, res_yes hE⟩


abbrev tA : ByteArray := ⟨#[97]⟩
abbrev tC : ByteArray := ⟨#[99]⟩
abbrev tR : ByteArray := ⟨#[114]⟩
abbrev tZ : ByteArray := ⟨#[122]⟩
abbrev tWeb : ByteArray := ⟨#[119, 101, 98]⟩
abbrev tApp : ByteArray := ⟨#[97, 112, 112]⟩
abbrev tGw : ByteArray := ⟨#[103, 119]⟩
abbrev tAT : ByteArray := ⟨#[97, 46, 116, 101, 115, 116]⟩
abbrev tBX : ByteArray := ⟨#[98, 46, 120]⟩
abbrev tST : ByteArray := ⟨#[42, 46, 116, 101, 115, 116]⟩
abbrev eL : List AObj := [⟨⟨1, ⟨#[]⟩, tC⟩, true, [], [], ⟨#[]⟩, [], [], [], [], [], []⟩, ⟨⟨5, tWeb, tGw⟩, false, [], [], tC, [⟨tA, 80, false, ⟨#[]⟩, ⟨0, ⟨#[]⟩, ⟨#[]⟩⟩, 0, []⟩], [], [], [], [], []⟩]
abbrev eR : AObj := ⟨⟨6, tApp, tR⟩, false, [], [], ⟨#[]⟩, [], [⟨tWeb, tGw, ⟨#[]⟩, 0⟩, ⟨tWeb, tGw, tZ, 0⟩], [], [], [], []⟩

theorem eR_ok : eR.ok := by constructor <;> simp
theorem eL_oks : ∀ o ∈ eL, o.ok := fun o h => by
 rcases List.mem_cons.1 h with rfl | h
 ·constructor <;> simp
 ·rw [List.mem_singleton.1 h]
  constructor <;> simp
  constructor <;> simp

theorem e_at0 : (attAt labelsAll eL eR 0).2 = (noSpace, true) := by decide +kernel
theorem e_at1 : (attAt labelsAll eL eR 1).2 = (noParent, true) := by decide +kernel
theorem e_m1 : meets tST [tAT, tBX] = [tAT] := by decide +kernel
theorem e_m2 : meets tAT [] = [tAT] := by decide +kernel

theorem awake13 : Pure Tryz.prog 16 [] (fun d => d = bln true) := by
 have c1 := attach_At eL (by simp) eL_oks eR eR_ok 0
 unfold attD at c1
 rw [e_at0] at c1
 have c2 := attach_At eL (by simp) eL_oks eR eR_ok 1
 unfold attD at c2
 rw [e_at1] at c2
 have c3 := attach_Meet tST [tAT, tBX] (by simp)
 rw [e_m1] at c3
 have c4 := attach_Meet tAT [] (by simp)
 rw [e_m2] at c4
 have c5 := ref1_Same [tAT] [tAT] (by simp)
 rw [decide_eq_true rfl] at c5
 generalize rows ASpot.pd (attAt labelsAll eL eR 0).1 = s1 at c1
 generalize rows ASpot.pd (attAt labelsAll eL eR 1).1 = s2 at c2
 unfold noSpace at c1
 unfold noParent at c2
 refine pure_of_run follows an_z11cc Tryz.func16 rfl ok_z11cc.1 ok_z11cc.2 (by simp [Tryz.ntmps16]) ?_
 rw [run_start]
 simp only [ac_z11cc, go_sem, contS_seq, simprocAttr]
 refine c1.callW (enters_of Tryz.func11 rfl rfl) _ rfl rfl ?_
 rintro _ rfl
 simp only [go_sem, contS_seq, simprocAttr]
 refine c2.callW (enters_of Tryz.func11 rfl rfl) _ rfl rfl ?_
 rintro _ rfl
 simp only [go_sem, contS_seq, simprocAttr]
 refine c3.callW (enters_of Tryz.func34 rfl rfl) _ rfl rfl ?_
 rintro _ rfl
 simp only [go_sem, contS_seq, simprocAttr]
 refine c5.callW (enters_of Tryz.func40 rfl rfl) _ rfl rfl ?_
 rintro _ rfl
 simp only [go_sem, contS_seq, simprocAttr]
 refine c4.callW (enters_of Tryz.func34 rfl rfl) _ rfl rfl ?_
 rintro _ rfl
 simp only [go_sem, contS_seq, simprocAttr]
 refine c5.callW (enters_of Tryz.func40 rfl rfl) _ rfl rfl ?_
 rintro _ rfl
 simp only [go_sem, contS_seq, simprocAttr]
 simp only [retK, resD, retL, oneD, simprocAttr, Tryz.results16]
 exact ⟨_, rfl, rfl, rfl⟩


theorem fewObj_pa (o : AObj) : (fewObj o).parents.length ≤ 1000 := by
 simp only [fewObj, List.length_map, List.length_take]
 omega

end Go.Proofs.YtcnhcamimcpinaaGreatDoor


