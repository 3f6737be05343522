/- Segtree: the tree's functions at given numbers, forced, so that the kernel may run them. -/
import Derived.Test.YtggndcaehjdklaaS6
namespace Go.Proofs.Ytggndcaehjdklaa
open Go Go.RowKit

section
variable {α : Type}
def forceN (n : Nat) (k : Nat → α) : α := match n with | 0 => k 0 | m + 1 => k (m + 1)
theorem forceN_eq {n : Nat} {k : Nat → α} : forceN n k = k n := by cases n <;> rfl
def forceI (x : Int) (k : Int → α) : α := match x with | .ofNat n => forceN n fun n => k (.ofNat n) | .negSucc n => forceN n fun n => k (.negSucc n)
theorem forceI_eq {x : Int} {k : Int → α} : forceI x k = k x := by cases x <;> simp [forceI, forceN_eq]
def forceB (b : Bool) (k : Bool → α) : α := match b with | true => k true | false => k false
theorem forceB_eq {b : Bool} {k : Bool → α} : forceB b k = k b := by cases b <;> rfl
def forceG (a : Agg) (k : Agg → α) : α := forceI a.c fun c => forceI a.s fun s => forceI a.mn fun mn => forceI a.mx fun mx => k ⟨c, s, mn, mx⟩
theorem forceG_eq {a : Agg} {k : Agg → α} : forceG a k = k a := by simp only [forceG, forceI_eq]
def forceO (n : Node) (k : Node → α) : α := forceI n.l fun l => forceI n.r fun r => forceG n.a fun a => forceB n.k fun b => k ⟨l, r, a, b⟩
theorem forceO_eq {n : Node} {k : Node → α} : forceO n k = k n := by simp only [forceO, forceI_eq, forceG_eq, forceB_eq]
def forceL : List Node → (List Node → α) → α
  | [], k => k []
  | n :: l, k => forceO n fun n => forceL l fun l => k (n :: l)
theorem forceL_eq {l : List Node} : ∀ {k : List Node → α}, forceL l k = k l := by
  induction l with
  | nil => intro k; rfl
  | cons n l ih => intro k; simp only [forceL, forceO_eq, ih]
def forceA (A : Ar) (k : Ar → α) : α := forceL A.nodes fun l => forceI A.limit fun m => k ⟨l, m⟩
theorem forceA_eq {A : Ar} {k : Ar → α} : forceA A k = k A := by simp only [forceA, forceL_eq, forceI_eq]
def forcePs : List (Int × Int) → (List (Int × Int) → α) → α
  | [], k => k []
  | p :: l, k => forceI p.1 fun a => forceI p.2 fun b => forcePs l fun l => k ((a, b) :: l)
theorem forcePs_eq {l : List (Int × Int)} : ∀ {k : List (Int × Int) → α}, forcePs l k = k l := by
  induction l with
  | nil => intro k; rfl
  | cons n l ih => intro k; simp only [forcePs, forceI_eq, ih]
end

def putV (key : Int) (a : Agg) : Nat → Ar → Int → Int × Ar
  | 0, A, i => forceI (if i = 0 then A.next else i) fun j => forceA (if i = 0 then A.alloc else A) fun B => forceA (B.pushed j) fun C => forceA (C.set j ⟨0, 0, a, false⟩) fun D => (j, D)
  | h + 1, A, i => forceI (if i = 0 then A.next else i) fun j => forceA (if i = 0 then A.alloc else A) fun B => forceO (B.node j) fun n => forceA (B.pushed j) fun C =>
    match rgt key (h + 1) with
    | true => forceI (putV key a h C n.r).1 fun p => forceA (putV key a h C n.r).2 fun D => forceA (D.joined j { n with r := p }) fun F => (j, F)
    | false => forceI (putV key a h C n.l).1 fun p => forceA (putV key a h C n.l).2 fun D => forceA (D.joined j { n with l := p }) fun F => (j, F)
theorem putV_eq (key : Int) (a : Agg) (h : Nat) : ∀ (A : Ar) (i : Int), putV key a h A i = A.put key a h i := by
  induction h with
  | zero => intro A i; simp only [putV, Ar.put, forceI_eq, forceA_eq]
  | succ h ih =>
    intro A i
    simp only [putV, Ar.put, forceI_eq, forceA_eq, forceO_eq, ih]
    cases rgt key (h + 1) <;> rfl
def foldV (s t : Int) : Nat → Ar → Int → Int → Agg × Ar
  | h, A, i, lo =>
    if i = 0 then (.z, A) else if outB lo h s t then (.z, A) else if insB lo h s t then ((A.get i).a, A) else
    match h with
    | 0 => (.z, A)
    | h + 1 => forceO (A.node i) fun n => forceA (A.pushed i) fun B => forceI (lo + pw h) fun lo2 =>
      forceG (foldV s t h B n.l lo).1 fun g => forceA (foldV s t h B n.l lo).2 fun C => forceG (foldV s t h C n.r lo2).1 fun g2 => forceA (foldV s t h C n.r lo2).2 fun D => (g.merge g2, D)
theorem foldV_eq (s t : Int) (h : Nat) : ∀ (A : Ar) (i lo : Int), foldV s t h A i lo = A.fold s t h i lo := by
  induction h with
  | zero => intro A i lo; simp only [foldV, Ar.fold]
  | succ h ih => intro A i lo; simp only [foldV, Ar.fold, forceI_eq, forceA_eq, forceO_eq, forceG_eq, ih]
def cutV (s t : Int) : Nat → Ar → Int → Int → Ar
  | h, A, i, lo =>
    if i = 0 then A else if outB lo h s t then A else if insB lo h s t then A.kill i else
    match h with
    | 0 => A
    | h + 1 => forceO (A.node i) fun n => forceA (A.pushed i) fun B => forceI (lo + pw h) fun lo2 => forceA (cutV s t h B n.l lo) fun C => forceA (cutV s t h C n.r lo2) fun D => D.joined i n
theorem cutV_eq (s t : Int) (h : Nat) : ∀ (A : Ar) (i lo : Int), cutV s t h A i lo = A.cut s t h i lo := by
  induction h with
  | zero => intro A i lo; simp only [cutV, Ar.cut]
  | succ h ih => intro A i lo; simp only [cutV, Ar.cut, forceI_eq, forceA_eq, forceO_eq, ih]
def walkV : Nat → Ar → Int → Int → List (Int × Int) × Ar
  | h, A, i, lo =>
    if i = 0 then ([], A) else if (A.get i).a.c = 0 then ([], A) else
    match h with
    | 0 => ([(lo, (A.get i).a.s)], A)
    | h + 1 => forceO (A.node i) fun n => forceA (A.pushed i) fun B => forceI (lo + pw h) fun lo2 =>
      forcePs (walkV h B n.l lo).1 fun g => forceA (walkV h B n.l lo).2 fun C => forcePs (walkV h C n.r lo2).1 fun g2 => forceA (walkV h C n.r lo2).2 fun D => (g ++ g2, D)
theorem walkV_eq (h : Nat) : ∀ (A : Ar) (i lo : Int), walkV h A i lo = A.walk h i lo := by
  induction h with
  | zero => intro A i lo; simp only [walkV, Ar.walk]
  | succ h ih => intro A i lo; simp only [walkV, Ar.walk, forceI_eq, forceA_eq, forceO_eq, forcePs_eq, ih]

def putTV (A : Ar) (r key v : Int) : Int × Ar := if A.full r key then (r, A) else putV key ⟨1, v, v, v⟩ 32 A r
theorem putTV_eq {A : Ar} {r key v : Int} : putTV A r key v = A.putT r key v := by simp only [putTV, Ar.putT, putV_eq]
/-- What the law's own first call finds. -/
def aliveV : Bool :=
  forceI (putTV ⟨[], 34⟩ 0 2 5).1 fun r1 => forceA (putTV ⟨[], 34⟩ 0 2 5).2 fun A1 =>
  forceI (putTV A1 r1 3 (-1)).1 fun r2 => forceA (putTV A1 r1 3 (-1)).2 fun A2 =>
  forceI (putTV A2 r2 2147483648 1).1 fun r3 => forceA (putTV A2 r2 2147483648 1).2 fun A3 =>
  forceG (foldV 0 9 32 A3 r3 0).1 fun g4 => forceA (foldV 0 9 32 A3 r3 0).2 fun A4 =>
  forceG (foldV 3 3 32 A4 r3 0).1 fun g5 => forceA (foldV 3 3 32 A4 r3 0).2 fun A5 =>
  forcePs (walkV 32 A5 r3 0).1 fun ps => forceA (walkV 32 A5 r3 0).2 fun A6 =>
  forceG (foldV 3 4294967295 32 A6 r3 0).1 fun g7 => forceA (foldV 3 4294967295 32 A6 r3 0).2 fun B7 => forceA (cutV 3 4294967295 32 B7 r3 0) fun A7 =>
  forceG (foldV 3 3 32 A7 r3 0).1 fun g8 => forceA (foldV 3 3 32 A7 r3 0).2 fun A8 =>
  forceG (foldV 2 2 32 A8 r3 0).1 fun g9 => forceA (foldV 2 2 32 A8 r3 0).2 fun B9 => forceA (cutV 2 2 32 B9 r3 0) fun A9 =>
  forceG (foldV 2 2 32 A9 r3 0).1 fun g10 =>
  (Ar.putE ⟨[], 34⟩ 0 2 == 0 && ((A1.nodes.length : Int) == 33 && (A1.putE r1 3 == 0 && ((A2.nodes.length : Int) == 34 && (A2.putE r2 2147483648 == 6 && (
    (g4.c == 2 && (g4.s == 4 && (g4.mn == -1 && g4.mx == 5))) && ((g5.s == -1 && g5.c == 1) && ((ps.length : Int) == 2 && (g7.c == 1 && (!(g8.c == 1) && (g9.c == 1 && !(g10.c == 1))))))))))))
theorem aliveV_true : aliveV = true := by decide +kernel
set_option maxRecDepth 100000 in
theorem alive_facts : ∀ P1 P2 P3 A4 A5 A6 A7 A8 A9, P1 = Ar.putT ⟨[], 34⟩ 0 2 5 → P2 = P1.2.putT P1.1 3 (-1) → P3 = P2.2.putT P2.1 2147483648 1 → A4 = P3.2.foldT P3.1 0 9 → A5 = A4.foldT P3.1 3 3 → A6 = A5.walked P3.1 → A7 = A6.killT P3.1 3 4294967295 → A8 = A7.foldT P3.1 3 3 → A9 = A8.killT P3.1 2 2 →
    Ar.putE ⟨[], 34⟩ 0 2 = 0 ∧ (P1.2.nodes.length : Int) = 33 ∧ P1.2.putE P1.1 3 = 0 ∧ (P2.2.nodes.length : Int) = 34 ∧ P2.2.putE P2.1 2147483648 = 6 ∧
    ((P3.2.foldA P3.1 0 9).c = 2 ∧ (P3.2.foldA P3.1 0 9).s = 4 ∧ (P3.2.foldA P3.1 0 9).mn = -1 ∧ (P3.2.foldA P3.1 0 9).mx = 5) ∧ ((A4.foldA P3.1 3 3).s = -1 ∧ (A4.foldA P3.1 3 3).c = 1) ∧ ((A5.pairs P3.1).length : Int) = 2 ∧
    (A6.foldA P3.1 3 4294967295).c = 1 ∧ ¬ (A7.foldA P3.1 3 3).c = 1 ∧ (A8.foldA P3.1 2 2).c = 1 ∧ ¬ (A9.foldA P3.1 2 2).c = 1 := by
  intro P1 P2 P3 A4 A5 A6 A7 A8 A9 e1 e2 e3 e4 e5 e6 e7 e8 e9
  have h := aliveV_true
  simp only [aliveV, forceI_eq, forceA_eq, forceG_eq, forcePs_eq, putTV_eq, foldV_eq, cutV_eq, walkV_eq] at h
  simp only [Ar.foldT, Ar.killT, Ar.walked] at e4 e5 e6 e7 e8 e9
  simp only [← e1, ← e2, ← e3, ← e4, ← e5, ← e6, ← e7, ← e8, ← e9] at h
  simp only [Ar.foldA, Ar.pairs]
  simpa only [Bool.and_eq_true, beq_iff_eq, Bool.not_eq_true', beq_eq_false_iff_ne, ne_eq] using h
end Go.Proofs.Ytggndcaehjdklaa
