/- Configurations as bytes: the plain text of it. Conditions: none. -/
import Derived.Test.YtimpaammdmeocaaCfgA
import Derived.Test.YtimpaammdmeocaaSbW
namespace Go.Sb
open Go
set_option linter.unusedSimpArgs false
set_option linter.unusedVariables false
def okN (n : Int) : Prop := 0 ≤ n ∧ n ≤ 2147483647
def numF : Nat → Nat → List Int
  | 0, n => [(n : Int)]
  | f + 1, n => if 127 < n then ((n % 128 + 128 : Nat) : Int) :: numF f (n / 128) else [(n : Int)]
def numZ (n : Nat) : List Int := numF 4 n
def wrN (b : List Int) (n : Int) : List Int := if n < 0 ∨ n > 2147483647 then b else b ++ numZ n.toNat
def rdF : Nat → Nat → Nat → List Int → Option (Nat × Nat)
  | 0, _, _, _ => none
  | _ + 1, _, _, [] => none
  | f + 1, i, acc, c :: l => if c ≤ 127 then (if (0 < c ∨ i = 0) ∧ acc + (c.toNat % 128) * 128 ^ i ≤ 2147483647 then some (acc + (c.toNat % 128) * 128 ^ i, i + 1) else none) else rdF f (i + 1) (acc + (c.toNat % 128) * 128 ^ i) l
def readO (l : List Int) : Option (Nat × Nat) := rdF 5 0 0 l
def isB (l : List Int) : Prop := ∀ z ∈ l, 0 ≤ z ∧ z ≤ 255
theorem numF_len : ∀ f n, (numF f n).length ≤ f + 1 ∧ 1 ≤ (numF f n).length
  | 0, n => by simp [numF]
  | f + 1, n => by
    unfold numF
    split
    · have := numF_len f (n / 128)
      simp; omega
    · simp
theorem numF_B : ∀ f n, n < 128 ^ (f + 1) → isB (numF f n)
  | 0, n, h => by intro z hz; simp [numF] at hz; simp at h; omega
  | f + 1, n, h => by
    intro z hz
    unfold numF at hz
    split at hz
    · rcases List.mem_cons.1 hz with rfl | hz
      · omega
      · exact numF_B f (n / 128) (by rw [Nat.pow_succ] at h; omega) z hz
    · simp at hz; omega
theorem numF_small {n : Nat} (h : n ≤ 127) : ∀ f, numF f n = [(n : Int)]
  | 0 => rfl
  | f + 1 => by unfold numF; rw [if_neg (by omega)]
theorem pow7 (i : Nat) : (128 : Nat) ^ i = 2 ^ (7 * i) := by rw [Nat.pow_mul]
theorem rd_enc : ∀ (f i acc n : Nat) (rest : List Int), n < 128 ^ (f + 1) → (0 < n ∨ i = 0) → acc + n * 128 ^ i ≤ 2147483647 → rdF (f + 1) i acc (numF f n ++ rest) = some (acc + n * 128 ^ i, i + (numF f n).length)
  | 0, i, acc, n, rest, h1, h2, h3 => by
    simp only [Nat.zero_add, Nat.pow_one] at h1
    have e : ((n : Int)).toNat % 128 = n := by rw [Int.toNat_natCast]; exact Nat.mod_eq_of_lt h1
    simp only [numF, List.cons_append, List.nil_append, rdF, e]
    rw [if_pos (by omega), if_pos ⟨by omega, h3⟩]
    rfl
  | f + 1, i, acc, n, rest, h1, h2, h3 => by
    unfold numF
    split
    · rename_i hn
      rw [List.cons_append]
      simp only [rdF]
      rw [if_neg (by omega)]
      have e : (((n % 128 + 128 : Nat) : Int)).toNat % 128 = n % 128 := by rw [Int.toNat_natCast]; omega
      rw [e]
      have hs : acc + n % 128 * 128 ^ i + n / 128 * 128 ^ (i + 1) = acc + n * 128 ^ i := by
        have hd : n % 128 + 128 * (n / 128) = n := Nat.mod_add_div n 128
        have h2 : n / 128 * 128 ^ (i + 1) = 128 * (n / 128) * 128 ^ i := by rw [Nat.pow_succ, Nat.mul_comm (128 ^ i) 128, ← Nat.mul_assoc, Nat.mul_comm (n / 128) 128]
        rw [h2, Nat.add_assoc, ← Nat.add_mul, hd]
      have := rd_enc f (i + 1) (acc + n % 128 * 128 ^ i) (n / 128) rest (by rw [Nat.pow_succ] at h1; omega) (.inl (by omega)) (by rw [hs]; exact h3)
      rw [this, hs, List.length_cons]
      congr 2
      omega
    · rename_i hn
      have e : ((n : Int)).toNat % 128 = n := by rw [Int.toNat_natCast]; omega
      simp only [List.cons_append, List.nil_append, rdF, e]
      rw [if_pos (by omega), if_pos ⟨by omega, h3⟩]
      rfl
theorem enc_rd : ∀ (f i acc : Nat) (l : List Int) (m k : Nat), isB l → rdF (f + 1) i acc l = some (m, k) → ∃ n, m = acc + n * 128 ^ i ∧ (0 < n ∨ i = 0) ∧ i + (numF f n).length = k ∧ (∃ r, l = numF f n ++ r) ∧ m ≤ 2147483647
  | f, i, acc, [], m, k, hb, h => by simp [rdF] at h
  | f, i, acc, c :: l, m, k, hb, h => by
    have hc := hb c (by simp)
    simp only [rdF] at h
    by_cases hc7 : c ≤ 127
    · rw [if_pos hc7] at h
      split at h
      · rename_i hh
        cases h
        have e : c.toNat % 128 = c.toNat := Nat.mod_eq_of_lt (by omega)
        rw [e] at hh ⊢
        have hs := numF_small (n := c.toNat) (by omega) f
        refine ⟨c.toNat, rfl, by omega, by rw [hs]; rfl, ⟨l, by rw [hs, Int.toNat_of_nonneg hc.1]; rfl⟩, hh.2⟩
      · cases h
    · rw [if_neg hc7] at h
      cases f with
      | zero => simp [rdF] at h
      | succ f =>
        obtain ⟨n, h1, h2, h3, ⟨r, h4⟩, h5⟩ := enc_rd f (i + 1) _ l m k (fun z hz => hb z (by simp [hz])) h
        have hn : 0 < n := by omega
        refine ⟨c.toNat % 128 + 128 * n, ?_, .inl (by omega), ?_, ⟨r, ?_⟩, h5⟩
        · rw [h1, Nat.pow_succ, Nat.add_mul, Nat.add_assoc, Nat.mul_comm (128 ^ i) 128, ← Nat.mul_assoc, Nat.mul_comm n 128]
        · unfold numF
          rw [if_pos (by omega), List.length_cons, show (c.toNat % 128 + 128 * n) / 128 = n by omega]
          omega
        · unfold numF
          rw [if_pos (by omega), show (c.toNat % 128 + 128 * n) / 128 = n by omega, h4, List.cons_append]
          congr 1
          omega
theorem read_enc {n : Nat} (hn : n ≤ 2147483647) (rest : List Int) : readO (numZ n ++ rest) = some (n, (numZ n).length) := by
  have := rd_enc 4 0 0 n rest (by omega) (.inr rfl) (by omega)
  simpa [readO, numZ] using this
theorem enc_read {l : List Int} {n k : Nat} (hb : isB l) (h : readO l = some (n, k)) : n ≤ 2147483647 ∧ (numZ n).length = k ∧ l = numZ n ++ l.drop k := by
  obtain ⟨m, h1, _, h3, ⟨r, h4⟩, h5⟩ := enc_rd 4 0 0 l n k hb h
  have : m = n := by omega
  subst this
  refine ⟨h5, by unfold numZ; omega, ?_⟩
  have hk : (numF 4 m).length = k := by omega
  unfold numZ
  rw [h4, ← hk, List.drop_left]
/-! ### sums and rows -/
def sumB (l : List Int) : Int := (l.foldl (· + ·) 0) % 251
def wrL (b : List Int) (l : List Int) : List Int := l.foldl wrN b
def wrList (b : List Int) (l : List Int) : List Int := wrL b ((l.length : Int) :: l)
def numZs (l : List Int) : List Int := l.flatMap fun n => numZ n.toNat
theorem wrN_ok {b : List Int} {n : Int} (h : okN n) : wrN b n = b ++ numZ n.toNat := by unfold wrN; rw [if_neg (by unfold okN at h; omega)]
theorem wrL_ok : ∀ (l : List Int) (b : List Int), (∀ n ∈ l, okN n) → wrL b l = b ++ numZs l
  | [], b, _ => by simp [wrL, numZs]
  | n :: l, b, h => by
    show wrL (wrN b n) l = _
    rw [wrL_ok l _ fun m hm => h m (by simp [hm]), wrN_ok (h n (by simp))]
    simp [numZs]
def encOps (b : List Int) (l : List POp) : List Int := l.foldl (fun b o => wrL b [o.k, o.a, o.b]) b
def encTask (b : List Int) (t : PTask) : List Int := encOps (wrL b [t.pr, t.th, t.pe, t.de, t.fr, t.fl, (t.ops.length : Int)]) t.ops
def encBody (C : PCfg) : List Int :=
  wrList (C.tasks.foldl encTask (wrN (wrList (wrList (wrN (wrList (wrL [83, 66] [C.sets, C.ways, C.hit, C.miss]) C.mail) C.groups) C.counts) C.ceils) (C.tasks.length : Int))) C.lines
def encCfg (C : PCfg) : List Int := encBody C ++ [sumB (encBody C)]
/-! ### reading -/
abbrev Cur := List Int × Bool
def cNum (s : Cur) : Int × Cur := if s.2 then (0, s) else match readO s.1 with
  | some (n, k) => ((n : Int), (s.1.drop k, false))
  | none => (0, (s.1, true))
def cMany (s : Cur) : Int × Cur := if (cNum s).2.2 || decide ((cNum s).1 > (cNum s).2.1.length) then (0, ((cNum s).2.1, true)) else cNum s
def cNums : Nat → Cur → List Int × Cur
  | 0, s => ([], s)
  | k + 1, s => ((cNum s).1 :: (cNums k (cNum s).2).1, (cNums k (cNum s).2).2)
def cList (s : Cur) : List Int × Cur := cNums (cMany s).1.toNat (cMany s).2
def cOp (s : Cur) : POp × Cur := (⟨(cNum s).1, (cNum (cNum s).2).1, (cNum (cNum (cNum s).2).2).1⟩, (cNum (cNum (cNum s).2).2).2)
def cOps : Nat → Cur → List POp × Cur
  | 0, s => ([], s)
  | k + 1, s => ((cOp s).1 :: (cOps k (cOp s).2).1, (cOps k (cOp s).2).2)
def cTask (s : Cur) : PTask × Cur :=
  let q := cNums 6 s
  let o := cOps (cMany q.2).1.toNat (cMany q.2).2
  (⟨q.1.getD 0 0, q.1.getD 1 0, q.1.getD 2 0, q.1.getD 3 0, q.1.getD 4 0, q.1.getD 5 0, o.1⟩, o.2)
def cTasks : Nat → Cur → List PTask × Cur
  | 0, s => ([], s)
  | k + 1, s => ((cTask s).1 :: (cTasks k (cTask s).2).1, (cTasks k (cTask s).2).2)
def c0Cfg : PCfg := ⟨0, 0, 0, 0, [], 0, [], [], [], []⟩
def cCfg (s : Cur) : PCfg × Cur :=
  let m := cNums 4 s
  let a := cList m.2
  let g := cNum a.2
  let c := cList g.2
  let e := cList c.2
  let t := cTasks (cMany e.2).1.toNat (cMany e.2).2
  let l := cList t.2
  (⟨m.1.getD 0 0, m.1.getD 1 0, m.1.getD 2 0, m.1.getD 3 0, a.1, g.1, c.1, e.1, t.1, l.1⟩, l.2)
def begO (l : List Int) : Cur := if l.take 2 = [83, 66] then (l.drop 2, false) else (l, true)
def parseC (raw : List Int) : PCfg × Int :=
  if raw.length = 0 ∨ sumB raw.dropLast ≠ raw.getLastD 0 then (c0Cfg, 2) else
  let r := cCfg (begO raw.dropLast)
  if r.2.2 || decide (0 < r.2.1.length) then (c0Cfg, 2) else if checkN r.1 ≠ 0 then (c0Cfg, checkN r.1) else (r.1, 0)
/-! ### what is read of what is written -/
theorem num_fwd {n : Int} (h : okN n) (l : List Int) : cNum (numZ n.toNat ++ l, false) = (n, (l, false)) := by
  unfold cNum
  simp only [Bool.false_eq_true, if_false]
  rw [read_enc (by unfold okN at h; omega)]
  simp only [List.drop_left, Int.toNat_of_nonneg h.1]
theorem nums_fwd : ∀ (xs : List Int) (l : List Int), (∀ n ∈ xs, okN n) → cNums xs.length (numZs xs ++ l, false) = (xs, (l, false))
  | [], l, _ => rfl
  | x :: xs, l, h => by
    have e : numZs (x :: xs) ++ l = numZ x.toNat ++ (numZs xs ++ l) := by simp [numZs]
    rw [e, List.length_cons]
    unfold cNums
    rw [num_fwd (h x (by simp)), nums_fwd xs l fun n hn => h n (by simp [hn])]
theorem numZs_len : ∀ xs : List Int, xs.length ≤ (numZs xs).length
  | [] => Nat.le_refl _
  | x :: xs => by
    have := numZs_len xs
    have h2 := (numF_len 4 x.toNat).2
    simp only [numZs, List.flatMap_cons, List.length_append, List.length_cons] at this ⊢
    unfold numZ at *
    omega
theorem many_fwd {k : Nat} (h : k ≤ 2147483647) {l : List Int} (hl : k ≤ l.length) : cMany (numZ k ++ l, false) = ((k : Int), (l, false)) := by
  have := num_fwd (n := (k : Int)) ⟨by omega, by omega⟩ l
  rw [Int.toNat_natCast] at this
  unfold cMany
  rw [this]
  rw [if_neg (by simp; omega)]
def encL (xs : List Int) : List Int := numZ xs.length ++ numZs xs
theorem list_fwd (xs : List Int) (l : List Int) (h : ∀ n ∈ xs, okN n) (hk : xs.length ≤ 2147483647) : cList (encL xs ++ l, false) = (xs, (l, false)) := by
  unfold cList encL
  rw [List.append_assoc, many_fwd hk (by have := numZs_len xs; simp; omega), Int.toNat_natCast]
  exact nums_fwd xs l h
def okO (o : POp) : Prop := okN o.k ∧ okN o.a ∧ okN o.b
def opsZ (l : List POp) : List Int := l.flatMap fun o => numZs [o.k, o.a, o.b]
theorem op_fwd {o : POp} (h : okO o) (l : List Int) : cOp (numZs [o.k, o.a, o.b] ++ l, false) = (o, (l, false)) := by
  obtain ⟨h1, h2, h3⟩ := h
  have e : numZs [o.k, o.a, o.b] ++ l = numZ o.k.toNat ++ (numZ o.a.toNat ++ (numZ o.b.toNat ++ l)) := by simp [numZs]
  unfold cOp
  rw [e, num_fwd h1, num_fwd h2, num_fwd h3]
theorem ops_fwd : ∀ (xs : List POp) (l : List Int), (∀ o ∈ xs, okO o) → cOps xs.length (opsZ xs ++ l, false) = (xs, (l, false))
  | [], l, _ => rfl
  | x :: xs, l, h => by
    have e : opsZ (x :: xs) ++ l = numZs [x.k, x.a, x.b] ++ (opsZ xs ++ l) := by simp [opsZ]
    rw [e, List.length_cons]
    unfold cOps
    rw [op_fwd (h x (by simp)), ops_fwd xs l fun o ho => h o (by simp [ho])]
theorem opsZ_len : ∀ xs : List POp, xs.length ≤ (opsZ xs).length
  | [] => Nat.le_refl _
  | x :: xs => by
    have := opsZ_len xs
    have h2 := numZs_len [x.k, x.a, x.b]
    simp only [opsZ, List.flatMap_cons, List.length_append, List.length_cons, List.length_nil] at this h2 ⊢
    omega
def okT (t : PTask) : Prop := (∀ n ∈ [t.pr, t.th, t.pe, t.de, t.fr, t.fl], okN n) ∧ (∀ o ∈ t.ops, okO o) ∧ t.ops.length ≤ 2147483647
def taskZ (t : PTask) : List Int := numZs [t.pr, t.th, t.pe, t.de, t.fr, t.fl] ++ (numZ t.ops.length ++ opsZ t.ops)
theorem task_fwd {t : PTask} (h : okT t) (l : List Int) : cTask (taskZ t ++ l, false) = (t, (l, false)) := by
  obtain ⟨h1, h2, h3⟩ := h
  have e : taskZ t ++ l = numZs [t.pr, t.th, t.pe, t.de, t.fr, t.fl] ++ (numZ t.ops.length ++ (opsZ t.ops ++ l)) := by simp [taskZ]
  unfold cTask
  have h6 := nums_fwd [t.pr, t.th, t.pe, t.de, t.fr, t.fl] (numZ t.ops.length ++ (opsZ t.ops ++ l)) h1
  rw [e]
  simp only [List.length_cons, List.length_nil] at h6
  rw [h6]
  simp only []
  rw [many_fwd h3 (by have := opsZ_len t.ops; simp; omega), Int.toNat_natCast]
  simp only []
  rw [ops_fwd t.ops l h2]
  rfl
def tasksZ (l : List PTask) : List Int := l.flatMap taskZ
theorem tasks_fwd : ∀ (xs : List PTask) (l : List Int), (∀ o ∈ xs, okT o) → cTasks xs.length (tasksZ xs ++ l, false) = (xs, (l, false))
  | [], l, _ => rfl
  | x :: xs, l, h => by
    have e : tasksZ (x :: xs) ++ l = taskZ x ++ (tasksZ xs ++ l) := by simp [tasksZ]
    rw [e, List.length_cons]
    unfold cTasks
    rw [task_fwd (h x (by simp)), tasks_fwd xs l fun o ho => h o (by simp [ho])]
theorem tasksZ_len : ∀ xs : List PTask, xs.length ≤ (tasksZ xs).length
  | [] => Nat.le_refl _
  | x :: xs => by
    have := tasksZ_len xs
    have h2 := numZs_len [x.pr, x.th, x.pe, x.de, x.fr, x.fl]
    simp only [tasksZ, taskZ, List.flatMap_cons, List.length_append, List.length_cons, List.length_nil] at this h2 ⊢
    omega
/-- every number of a configuration has bytes -/
structure okC (C : PCfg) : Prop where
  m : ∀ n ∈ [C.sets, C.ways, C.hit, C.miss], okN n
  mail : ∀ n ∈ C.mail, okN n
  groups : okN C.groups
  counts : ∀ n ∈ C.counts, okN n
  ceils : ∀ n ∈ C.ceils, okN n
  tasks : ∀ t ∈ C.tasks, okT t
  lines : ∀ n ∈ C.lines, okN n
  lens : C.mail.length ≤ 1000 ∧ C.counts.length ≤ 1000 ∧ C.ceils.length ≤ 1000 ∧ C.tasks.length ≤ 1000 ∧ C.lines.length ≤ 1000
def bodyZ (C : PCfg) : List Int := numZs [C.sets, C.ways, C.hit, C.miss] ++ (encL C.mail ++ (numZ C.groups.toNat ++ (encL C.counts ++ (encL C.ceils ++ (numZ C.tasks.length ++ (tasksZ C.tasks ++ encL C.lines))))))
theorem cfg_fwd {C : PCfg} (h : okC C) : cCfg (bodyZ C, false) = (C, ([], false)) := by
  obtain ⟨l1, l2, l3, l4, l5⟩ := h.lens
  unfold cCfg bodyZ
  have h6 := nums_fwd [C.sets, C.ways, C.hit, C.miss] (encL C.mail ++ (numZ C.groups.toNat ++ (encL C.counts ++ (encL C.ceils ++ (numZ C.tasks.length ++ (tasksZ C.tasks ++ encL C.lines)))))) h.m
  simp only [List.length_cons, List.length_nil] at h6
  rw [h6]
  simp only []
  rw [list_fwd C.mail _ h.mail (by omega)]
  simp only []
  rw [num_fwd h.groups]
  simp only []
  rw [list_fwd C.counts _ h.counts (by omega)]
  simp only []
  rw [list_fwd C.ceils _ h.ceils (by omega)]
  simp only []
  rw [many_fwd (by omega) (by have := tasksZ_len C.tasks; simp; omega), Int.toNat_natCast]
  simp only []
  rw [tasks_fwd C.tasks _ h.tasks]
  simp only []
  have := list_fwd C.lines [] h.lines (by omega)
  rw [List.append_nil] at this
  rw [this]
  rfl
/-! ### what is written of what is read -/
theorem isB_drop {l : List Int} (h : isB l) (k : Nat) : isB (l.drop k) := fun z hz => h z (List.mem_of_mem_drop hz)
structure NumInv (s : Cur) (n : Int) (s' : Cur) : Prop where
  odd : s.2 = false
  ok : okN n
  eq : s.1 = numZ n.toNat ++ s'.1
  bytes : isB s'.1
theorem num_inv {s : Cur} (hb : isB s.1) (h : (cNum s).2.2 = false) : NumInv s (cNum s).1 (cNum s).2 := by
  unfold cNum at h ⊢
  split at h
  · rename_i h2; rw [h2] at h; cases h
  · rename_i h2
    cases hr : readO s.1 with
    | none => rw [hr] at h; cases h
    | some p =>
      obtain ⟨n, k⟩ := p
      rw [if_neg h2]
      obtain ⟨h3, h4, h5⟩ := enc_read hb hr
      exact ⟨by simpa using h2, ⟨by simp only []; omega, by simp only []; omega⟩, by simpa using h5, isB_drop hb k⟩
theorem num_odd {s : Cur} (h : s.2 = true) : (cNum s).2.2 = true := by unfold cNum; rw [if_pos h]; exact h
theorem many_inv {s : Cur} (hb : isB s.1) (h : (cMany s).2.2 = false) : NumInv s (cMany s).1 (cMany s).2 := by
  unfold cMany at h ⊢
  split at h
  · cases h
  · rename_i h2
    rw [if_neg h2]
    exact num_inv hb h
theorem nums_inv : ∀ (k : Nat) (s : Cur), isB s.1 → (cNums k s).2.2 = false → s.2 = false ∧ (∀ n ∈ (cNums k s).1, okN n) ∧ s.1 = numZs (cNums k s).1 ++ (cNums k s).2.1 ∧ isB (cNums k s).2.1 ∧ (cNums k s).1.length = k
  | 0, s, hb, h => ⟨h, by simp [cNums], by simp [cNums, numZs], hb, rfl⟩
  | k + 1, s, hb, h => by
    unfold cNums at h ⊢
    simp only at h ⊢
    have h1 : (cNum s).2.2 = false := by
      cases hq : (cNum s).2.2 with
      | false => rfl
      | true =>
        exfalso
        have : ∀ (k : Nat) (s : Cur), s.2 = true → (cNums k s).2.2 = true := by
          intro k
          induction k with
          | zero => intro s h; exact h
          | succ k ih => intro s h; exact ih _ (num_odd h)
        rw [this k _ hq] at h
        cases h
    have i1 := num_inv hb h1
    obtain ⟨_, a2, a3, a4, a5⟩ := nums_inv k _ i1.bytes h
    refine ⟨i1.odd, ?_, ?_, a4, by simp [a5]⟩
    · intro n hn
      rcases List.mem_cons.1 hn with rfl | hn
      · exact i1.ok
      · exact a2 n hn
    · rw [i1.eq]
      simp only [numZs, List.flatMap_cons, List.append_assoc]
      congr 1
theorem list_inv {s : Cur} (hb : isB s.1) (h : (cList s).2.2 = false) : s.2 = false ∧ (∀ n ∈ (cList s).1, okN n) ∧ s.1 = encL (cList s).1 ++ (cList s).2.1 ∧ isB (cList s).2.1 := by
  have hm : (cMany s).2.2 = false := by
    cases hq : (cMany s).2.2 with
    | false => rfl
    | true =>
      exfalso
      have : (cMany s).1 = 0 := by
        unfold cMany at hq ⊢
        split
        · rfl
        · rename_i h2
          rw [if_neg h2] at hq
          rw [hq] at h2
          simp at h2
      unfold cList at h
      rw [this] at h
      have h : (cMany s).2.2 = false := h
      rw [hq] at h
      cases h
  have i1 := many_inv hb hm
  obtain ⟨_, a2, a3, a4, a5⟩ := nums_inv (cMany s).1.toNat (cMany s).2 i1.bytes h
  refine ⟨i1.odd, a2, ?_, a4⟩
  unfold encL
  rw [i1.eq, a3]
  unfold cList
  rw [a5, List.append_assoc]
theorem op_inv {s : Cur} (hb : isB s.1) (h : (cOp s).2.2 = false) : s.2 = false ∧ okO (cOp s).1 ∧ s.1 = numZs [(cOp s).1.k, (cOp s).1.a, (cOp s).1.b] ++ (cOp s).2.1 ∧ isB (cOp s).2.1 := by
  unfold cOp at h ⊢
  simp only at h ⊢
  have h2 : (cNum (cNum s).2).2.2 = false := by
    cases hq : (cNum (cNum s).2).2.2 with
    | false => rfl
    | true => rw [num_odd hq] at h; cases h
  have h1 : (cNum s).2.2 = false := by
    cases hq : (cNum s).2.2 with
    | false => rfl
    | true => rw [num_odd hq] at h2; cases h2
  have i1 := num_inv hb h1
  have i2 := num_inv i1.bytes h2
  have i3 := num_inv i2.bytes h
  refine ⟨i1.odd, ⟨i1.ok, i2.ok, i3.ok⟩, ?_, i3.bytes⟩
  rw [i1.eq]
  simp only [numZs, List.flatMap_cons, List.flatMap_nil, List.append_nil, List.append_assoc]
  congr 1
  rw [i2.eq]
  congr 1
  rw [i3.eq]
theorem op_odd {s : Cur} (h : s.2 = true) : (cOp s).2.2 = true := num_odd (num_odd (num_odd h))
theorem ops_inv : ∀ (k : Nat) (s : Cur), isB s.1 → (cOps k s).2.2 = false → s.2 = false ∧ (∀ o ∈ (cOps k s).1, okO o) ∧ s.1 = opsZ (cOps k s).1 ++ (cOps k s).2.1 ∧ isB (cOps k s).2.1 ∧ (cOps k s).1.length = k
  | 0, s, hb, h => ⟨h, by simp [cOps], by simp [cOps, opsZ], hb, rfl⟩
  | k + 1, s, hb, h => by
    unfold cOps at h ⊢
    simp only at h ⊢
    have h1 : (cOp s).2.2 = false := by
      cases hq : (cOp s).2.2 with
      | false => rfl
      | true =>
        exfalso
        have : ∀ (k : Nat) (s : Cur), s.2 = true → (cOps k s).2.2 = true := by
          intro k
          induction k with
          | zero => intro s h; exact h
          | succ k ih => intro s h; exact ih _ (op_odd h)
        rw [this k _ hq] at h
        cases h
    obtain ⟨b1, b2, b3, b4⟩ := op_inv hb h1
    obtain ⟨_, a2, a3, a4, a5⟩ := ops_inv k _ b4 h
    refine ⟨b1, ?_, ?_, a4, by simp [a5]⟩
    · intro n hn
      rcases List.mem_cons.1 hn with rfl | hn
      · exact b2
      · exact a2 n hn
    · rw [b3]
      simp only [opsZ, List.flatMap_cons, List.append_assoc]
      congr 1
theorem many_zero {s : Cur} (h : (cMany s).2.2 = true) : (cMany s).1 = 0 := by
  unfold cMany at h ⊢
  split
  · rfl
  · rename_i h2
    rw [if_neg h2] at h
    rw [h] at h2
    simp at h2
theorem six {l : List Int} (h : l.length = 6) : l = [l.getD 0 0, l.getD 1 0, l.getD 2 0, l.getD 3 0, l.getD 4 0, l.getD 5 0] := by
  match l, h with
  | [a, b, c, d, e, f], _ => rfl
theorem four {l : List Int} (h : l.length = 4) : l = [l.getD 0 0, l.getD 1 0, l.getD 2 0, l.getD 3 0] := by
  match l, h with
  | [a, b, c, d], _ => rfl
theorem task_inv {s : Cur} (hb : isB s.1) (hl : s.1.length ≤ 1000000) (h : (cTask s).2.2 = false) : s.2 = false ∧ okT (cTask s).1 ∧ s.1 = taskZ (cTask s).1 ++ (cTask s).2.1 ∧ isB (cTask s).2.1 := by
  unfold cTask at h ⊢
  simp only at h ⊢
  have h2 : (cMany (cNums 6 s).2).2.2 = false := by
    cases hq : (cMany (cNums 6 s).2).2.2 with
    | false => rfl
    | true =>
      rw [many_zero hq] at h
      have h : (cMany (cNums 6 s).2).2.2 = false := h
      rw [hq] at h; cases h
  have h1 : (cNums 6 s).2.2 = false := by
    cases hq : (cNums 6 s).2.2 with
    | false => rfl
    | true =>
      have : (cMany (cNums 6 s).2).2.2 = true := by
        unfold cMany
        rw [if_pos (by rw [num_odd hq]; rfl)]
      rw [this] at h2; cases h2
  obtain ⟨b1, b2, b3, b4, b5⟩ := nums_inv 6 s hb h1
  have i2 := many_inv b4 h2
  obtain ⟨_, a2, a3, a4, a5⟩ := ops_inv _ _ i2.bytes h
  rw [six b5] at b2
  refine ⟨b1, ⟨b2, a2, ?_⟩, ?_, a4⟩
  · have := i2.ok
    unfold okN at this
    show (cOps (cMany (cNums 6 s).2).1.toNat (cMany (cNums 6 s).2).2).1.length ≤ _
    rw [a5]; omega
  · unfold taskZ
    simp only []
    rw [← six b5, a5, List.append_assoc, List.append_assoc, ← a3, ← i2.eq]
    exact b3
theorem task_odd {s : Cur} (h : s.2 = true) : (cTask s).2.2 = true := by
  have e1 : ∀ (k : Nat) (s : Cur), s.2 = true → (cNums k s).2.2 = true := by
    intro k
    induction k with
    | zero => intro s h; exact h
    | succ k ih => intro s h; exact ih _ (num_odd h)
  have e2 : ∀ (k : Nat) (s : Cur), s.2 = true → (cOps k s).2.2 = true := by
    intro k
    induction k with
    | zero => intro s h; exact h
    | succ k ih => intro s h; exact ih _ (op_odd h)
  unfold cTask
  refine e2 _ _ ?_
  unfold cMany
  rw [if_pos (by rw [num_odd (e1 6 s h)]; rfl)]
theorem tasks_inv : ∀ (k : Nat) (s : Cur), isB s.1 → s.1.length ≤ 1000000 → (cTasks k s).2.2 = false → s.2 = false ∧ (∀ o ∈ (cTasks k s).1, okT o) ∧ s.1 = tasksZ (cTasks k s).1 ++ (cTasks k s).2.1 ∧ isB (cTasks k s).2.1 ∧ (cTasks k s).1.length = k
  | 0, s, hb, hl, h => ⟨h, by simp [cTasks], by simp [cTasks, tasksZ], hb, rfl⟩
  | k + 1, s, hb, hl, h => by
    unfold cTasks at h ⊢
    simp only at h ⊢
    have h1 : (cTask s).2.2 = false := by
      cases hq : (cTask s).2.2 with
      | false => rfl
      | true =>
        exfalso
        have : ∀ (k : Nat) (s : Cur), s.2 = true → (cTasks k s).2.2 = true := by
          intro k
          induction k with
          | zero => intro s h; exact h
          | succ k ih => intro s h; exact ih _ (task_odd h)
        rw [this k _ hq] at h
        cases h
    obtain ⟨b1, b2, b3, b4⟩ := task_inv hb hl h1
    have hl' : (cTask s).2.1.length ≤ 1000000 := by
      have := congrArg List.length b3
      rw [List.length_append] at this
      omega
    obtain ⟨_, a2, a3, a4, a5⟩ := tasks_inv k _ b4 hl' h
    refine ⟨b1, ?_, ?_, a4, by simp [a5]⟩
    · intro n hn
      rcases List.mem_cons.1 hn with rfl | hn
      · exact b2
      · exact a2 n hn
    · rw [b3]
      simp only [tasksZ, List.flatMap_cons, List.append_assoc]
      congr 1
theorem cfg_inv {s : Cur} (hb : isB s.1) (hl : s.1.length ≤ 1000000) (h : (cCfg s).2.2 = false) : s.2 = false ∧ s.1 = bodyZ (cCfg s).1 ++ (cCfg s).2.1 := by
  unfold cCfg at h ⊢
  simp only at h ⊢
  have shorter : ∀ {a b c : List Int}, a = b ++ c → c.length ≤ a.length := by
    intro a b c e; rw [e, List.length_append]; omega
  generalize hm : cNums 4 s = m at h ⊢
  generalize ha : cList m.2 = a at h ⊢
  generalize hg : cNum a.2 = g at h ⊢
  generalize hc : cList g.2 = c at h ⊢
  generalize he : cList c.2 = e at h ⊢
  generalize ht : cTasks (cMany e.2).1.toNat (cMany e.2).2 = t at h ⊢
  have listOdd : ∀ s : Cur, s.2 = true → (cList s).2.2 = true := by
    intro s h
    have e1 : ∀ (k : Nat) (s : Cur), s.2 = true → (cNums k s).2.2 = true := by
      intro k
      induction k with
      | zero => intro s h; exact h
      | succ k ih => intro s h; exact ih _ (num_odd h)
    unfold cList
    refine e1 _ _ ?_
    unfold cMany
    rw [if_pos (by rw [num_odd h]; rfl)]
  have manyOdd : ∀ s : Cur, s.2 = true → (cMany s).2.2 = true := by
    intro s h
    unfold cMany
    rw [if_pos (by rw [num_odd h]; rfl)]
  have tasksOdd : ∀ (k : Nat) (s : Cur), s.2 = true → (cTasks k s).2.2 = true := by
    intro k
    induction k with
    | zero => intro s h; exact h
    | succ k ih => intro s h; exact ih _ (task_odd h)
  have ft : t.2.2 = false := by
    cases hq : t.2.2 with
    | false => rfl
    | true => rw [listOdd _ hq] at h; cases h
  have fm2 : (cMany e.2).2.2 = false := by
    cases hq : (cMany e.2).2.2 with
    | false => rfl
    | true => rw [← ht, tasksOdd _ _ hq] at ft; cases ft
  have fe : e.2.2 = false := by
    cases hq : e.2.2 with
    | false => rfl
    | true => rw [manyOdd _ hq] at fm2; cases fm2
  have fc : c.2.2 = false := by
    cases hq : c.2.2 with
    | false => rfl
    | true => rw [← he, listOdd _ hq] at fe; cases fe
  have fg : g.2.2 = false := by
    cases hq : g.2.2 with
    | false => rfl
    | true => rw [← hc, listOdd _ hq] at fc; cases fc
  have fa : a.2.2 = false := by
    cases hq : a.2.2 with
    | false => rfl
    | true => rw [← hg, num_odd hq] at fg; cases fg
  have fm : m.2.2 = false := by
    cases hq : m.2.2 with
    | false => rfl
    | true => rw [← ha, listOdd _ hq] at fa; cases fa
  obtain ⟨m1, m2, m3, m4, m5⟩ := nums_inv 4 s hb (by rw [hm]; exact fm)
  rw [hm] at m2 m3 m4 m5
  obtain ⟨_, a2, a3, a4⟩ := list_inv m4 (by rw [ha]; exact fa)
  rw [ha] at a2 a3 a4
  have ig := num_inv a4 (by rw [hg]; exact fg)
  rw [hg] at ig
  obtain ⟨_, c2, c3, c4⟩ := list_inv ig.bytes (by rw [hc]; exact fc)
  rw [hc] at c2 c3 c4
  obtain ⟨_, e2, e3, e4⟩ := list_inv c4 (by rw [he]; exact fe)
  rw [he] at e2 e3 e4
  have im := many_inv e4 fm2
  have hle : (cMany e.2).2.1.length ≤ 1000000 := by
    have s1 := shorter m3
    have s2 := shorter a3
    have s3 := shorter ig.eq
    have s4 := shorter c3
    have s5 := shorter e3
    have s6 := shorter im.eq
    omega
  obtain ⟨_, t2, t3, t4, t5⟩ := tasks_inv _ _ im.bytes hle (by rw [ht]; exact ft)
  rw [ht] at t2 t3 t4 t5
  obtain ⟨_, l2, l3, l4⟩ := list_inv t4 h
  refine ⟨m1, ?_⟩
  unfold bodyZ
  simp only []
  rw [← four m5, t5]
  simp only [List.append_assoc]
  rw [← l3, ← t3, ← im.eq, ← e3, ← c3, ← ig.eq, ← a3]
  exact m3
end Go.Sb
