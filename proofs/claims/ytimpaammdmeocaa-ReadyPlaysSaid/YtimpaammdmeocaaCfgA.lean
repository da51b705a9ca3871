/- Configurations: the plain ones, what may be, and where they lie in memory. Conditions: none. -/
import Derived.Test.YtimpaammdmeocaaSbX
import Derived.Test.YtimpaammdmeocaaSbY
import Derived.Test.YtimpaammdmeocaaSbW
namespace Go.Sb
open Go
set_option linter.unusedSimpArgs false
set_option linter.unusedVariables false
/-- an operation -/
structure POp where
  k : Int
  a : Int
  b : Int
deriving DecidableEq
structure PTask where
  pr : Int
  th : Int
  pe : Int
  de : Int
  fr : Int
  fl : Int
  ops : List POp
deriving DecidableEq
structure PCfg where
  sets : Int
  ways : Int
  hit : Int
  miss : Int
  mail : List Int
  groups : Int
  counts : List Int
  ceils : List Int
  tasks : List PTask
  lines : List Int
deriving DecidableEq
abbrev encI : Int → List Value := fun z => [.int .i64 z]
abbrev encO (o : POp) : List Value := [.int .i64 o.k, .int .i64 o.a, .int .i64 o.b]
abbrev encT (p : PTask × Sl) : List Value := [.int .i64 p.1.pr, .int .i64 p.1.th, .int .i64 p.1.pe, .int .i64 p.1.de, .int .i64 p.1.fr, .int .i64 p.1.fl, .slice p.2.p p.2.n p.2.c]
/-! ### what may be -/
def inB (n a b : Int) : Bool := decide (n ≥ a) && decide (n ≤ b)
def allB (l : List Int) (a b : Int) : Bool := l.all fun n => inB n a b
/-- how many numbers a kind has -/
def numsOf (k : Int) : Int := if k = 3 ∨ k = 4 then 0 else if k = 9 ∨ k = 11 ∨ k = 12 ∨ k = 13 then 2 else if k < 1 ∨ k > 15 then -1 else 1
def opA (o : POp) (bx gr ct ce : Int) : Bool :=
  if o.k = 1 then inB o.a 1 1000 else if o.k = 2 then inB o.a 0 255 else if o.k = 3 ∨ o.k = 4 then o.a == 0 else
  if o.k = 5 ∨ o.k = 6 then inB o.a 0 (IntKind.i64.wrap (ce - 1)) else if o.k = 7 ∨ o.k = 8 then inB o.a 1 4096 else
  if o.k = 9 ∨ o.k = 10 then inB o.a 0 (IntKind.i64.wrap (bx - 1)) else if o.k = 11 ∨ o.k = 12 ∨ o.k = 13 then inB o.a 0 (IntKind.i64.wrap (gr - 1)) else
  inB o.a 0 (IntKind.i64.wrap (ct - 1))
def opB (o : POp) : Bool := if o.k = 9 ∨ o.k = 11 ∨ o.k = 12 ∨ o.k = 13 then inB o.b 0 255 else o.b == 0
def opE (o : POp) (bx gr ct ce : Int) : Int := if numsOf o.k < 0 then 1 else if opA o bx gr ct ce && opB o then 0 else 5
abbrev NSt := Int × Int × List Int
def nmid (s : NSt) (o : POp) : Option NSt :=
  if o.k = 3 then some (IntKind.i64.wrap (s.1 + 1), s.2.1, s.2.2) else
  if o.k = 4 then some (IntKind.i64.wrap (s.1 - 1), s.2.1, s.2.2) else
  if o.k = 5 then (if s.2.2.contains o.a then none else some (s.1, s.2.1, s.2.2 ++ [o.a])) else
  if o.k = 6 then (if s.2.2.getLast? = some o.a then some (s.1, s.2.1, s.2.2.dropLast) else none) else
  if o.k = 7 then some (s.1, IntKind.i64.wrap (s.2.1 + o.a), s.2.2) else
  if o.k = 8 then some (s.1, IntKind.i64.wrap (s.2.1 - o.a), s.2.2) else some s
def nok (s : NSt) : Option NSt := if decide (s.1 < 0) || decide (s.2.1 < 0) then none else some s
def nstep (s : NSt) (o : POp) : Option NSt := match nmid s o with
  | some s => nok s
  | none => none
def nestF (s : NSt) : List POp → Option NSt
  | [] => some s
  | o :: l => match nstep s o with
    | some s => nestF s l
    | none => none
def progF (bx gr ct ce : Int) (s : NSt) : List POp → Int
  | [] => if decide (s.1 > 0) || decide (0 < s.2.2.length) then 9 else 0
  | o :: l => if opE o bx gr ct ce ≠ 0 then opE o bx gr ct ce else match nstep s o with
    | some s => progF bx gr ct ce s l
    | none => 9
def progE (l : List POp) (bx gr ct ce : Int) : Int := if l.length = 0 then 1 else if l.length > 64 then 4 else progF bx gr ct ce (0, 0, []) l
def taskN (t : PTask) : Bool := inB t.pr 0 63 && inB t.th t.pr 63 && inB t.pe 1 1048576 && inB t.de 1 t.pe && inB t.fr 0 4096 && inB t.fl 0 1048576
def lowB (C : PCfg) (t : PTask) (o : POp) : Bool := o.k == 5 && decide (C.ceils.getD o.a.toNat 0 < t.pr)
def taskE (C : PCfg) (t : PTask) (ahead : List PTask) : Int :=
  if !taskN t then 5 else
  let e := progE t.ops C.mail.length C.groups C.counts.length C.ceils.length
  if e ≠ 0 then e else if t.ops.any (lowB C t) then 9 else if ahead.any (fun x => x.pr == t.pr) then 10 else 0
def tasksE (C : PCfg) (k : Nat) : List PTask → Int
  | [] => 0
  | t :: l => if taskE C t (C.tasks.take k) ≠ 0 then taskE C t (C.tasks.take k) else tasksE C (k + 1) l
def machB (C : PCfg) : Bool := inB C.sets 1 16 && inB C.ways 1 4 && inB C.hit 1 100 && inB C.miss C.hit 100
def manyB (C : PCfg) : Bool := decide (C.mail.length > 4) || decide (C.groups > 4) || decide (C.counts.length > 4) || decide (C.ceils.length > 4) || decide (C.tasks.length > 8) || decide (C.lines.length > 8)
def rowsB (C : PCfg) : Bool := allB C.mail 1 8 && allB C.counts 1 8 && allB C.ceils 0 63 && allB C.lines 0 ((C.tasks.length : Int) - 1)
def checkN (C : PCfg) : Int :=
  if !machB C then 5 else if manyB C then 4 else if C.tasks.length = 0 ∨ C.groups < 0 then 1 else if !rowsB C then 5 else tasksE C 0 C.tasks
theorem opE_cases (o : POp) (bx gr ct ce : Int) : opE o bx gr ct ce = 0 ∨ opE o bx gr ct ce = 1 ∨ opE o bx gr ct ce = 5 := by
  unfold opE
  split
  · exact .inr (.inl rfl)
  · split
    · exact .inl rfl
    · exact .inr (.inr rfl)
/-! ### where it lies -/
/-- a configuration that can be read -/
structure CRd (h : Hp) (C : PCfg) (sm sc se st sl : Sl) (ts : List (PTask × Sl)) : Prop where
  mail : RdI h.size h .i64 sm C.mail
  counts : RdI h.size h .i64 sc C.counts
  ceils : RdI h.size h .i64 se C.ceils
  lines : RdI h.size h .i64 sl C.lines
  rows : RdE h.size h encT 7 st ts
  cap : st.n ≤ st.c
  tasks : ts.map (·.1) = C.tasks
  ops : ∀ p ∈ ts, RdE h.size h encO 3 p.2 p.1.ops ∧ p.2.n ≤ p.2.c
section
variable {h0 h : Hp} {R : List As} {C : PCfg} {sm sc se st sl : Sl} {ts : List (PTask × Sl)}
theorem CRd.now (hc : CRd h0 C sm sc se st sl ts) (hs : Sep h0 h R) : CRd h C sm sc se st sl ts :=
  ⟨hc.mail.now hs, hc.counts.now hs, hc.ceils.now hs, hc.lines.now hs, hc.rows.now hs, hc.cap, hc.tasks, fun p hp => ⟨(hc.ops p hp).1.now hs, (hc.ops p hp).2⟩⟩
/-- the cells of a configuration -/
abbrev cfgC (C : PCfg) (sm sc se st sl : Sl) : List Value := [.int .i64 C.sets, .int .i64 C.ways, .int .i64 C.hit, .int .i64 C.miss, .slice sm.p sm.n sm.c, .int .i64 C.groups, .slice sc.p sc.n sc.c, .slice se.p se.n se.c, .slice st.p st.n st.c, .slice sl.p sl.n sl.c]
theorem CRd.len (hc : CRd h0 C sm sc se st sl ts) : sm.n = C.mail.length ∧ sc.n = C.counts.length ∧ se.n = C.ceils.length ∧ sl.n = C.lines.length ∧ st.n = C.tasks.length ∧ ts.length = C.tasks.length :=
  ⟨hc.mail.n, hc.counts.n, hc.ceils.n, hc.lines.n, by rw [hc.rows.n, ← hc.tasks, List.length_map], by rw [← hc.tasks, List.length_map]⟩
theorem CRd.at (hc : CRd h0 C sm sc se st sl ts) {i : Nat} (hi : i < ts.length) : C.tasks[i]? = some (ts[i]'hi).1 := by
  rw [← hc.tasks, List.getElem?_map, List.getElem?_eq_getElem hi]; rfl
/-- an argument's element, by its number -/
theorem RdE.ix {X α : Type} {enc : X → List Value} {sz : Nat} {s : Sl} {xs : List X} {L : List As} {K : Addr → M α} {Q : α → Hp → Prop} (hr : RdE h0.size h0 enc sz s xs) (hs : Sep h0 h L) {j : Nat} (hj : j < xs.length) (hk : ∀ a, Arg h enc (xs[j]'hj) a → K a h Q) : mIdx s (j : Int) sz K h Q := hs.argEn hr hj hk
/-- what comes first of an argument -/
theorem RdE.pre {X : Type} {B : Nat} {enc : X → List Value} {sz : Nat} {s : Sl} {xs : List X} {α : Type} {K : Sl → M α} {Q : α → Hp → Prop} {g : Hp} (hr : RdE B g enc sz s xs) (hc : s.n ≤ s.c) {hi mx : Int} (h2 : 0 ≤ hi) (h3 : hi ≤ xs.length) (hmx : mx = s.c)
    (hK : ∀ x : Sl, RdE B g enc sz x (xs.take hi.toNat) → x.n ≤ x.c → K x h Q) : mSlc s sz 0 hi mx K h Q := by
  have hn := hr.n
  refine ⟨Int.le_refl _, h2, by omega, by omega, hK _ ⟨?_, ?_⟩ ?_⟩
  · show hi.toNat - (0 : Int).toNat = _
    rw [List.length_take]; omega
  · intro i z hz
    have hil := (List.getElem?_eq_some_iff.1 hz).1
    rw [List.length_take] at hil
    rw [List.getElem?_take, if_pos (by omega)] at hz
    obtain ⟨a, e1, e2, e3⟩ := hr.at_ _ z hz
    simp only []
    rw [if_neg (by rw [hmx]; simp; omega), e1, Option.map_some]
    refine ⟨_, rfl, by rw [add_block]; exact e2, ?_⟩
    simpa [Addr.add_zero'] using e3
  · show hi.toNat - (0 : Int).toNat ≤ mx.toNat - (0 : Int).toNat
    omega
theorem wrapS (n : Nat) (h : n < 9223372036854775807) : IntKind.i64.wrap ((n : Int) + 1) = ((n + 1 : Nat) : Int) := by rw [wrap64 _ (by omega)]; omega
end
end Go.Sb
