/- Segtree: the plain functions. -/
import Derived.Test.YtggndcaehjdklaaZ6
import Derived.IntWalk
namespace Go.Proofs.Ytggndcaehjdklaa
open Go Go.RowKit

structure Agg where
  c : Int
  s : Int
  mn : Int
  mx : Int
  deriving DecidableEq
def Agg.l (a : Agg) : List Value := [.int .i64 a.c, .int .i64 a.s, .int .i64 a.mn, .int .i64 a.mx]
def Agg.z : Agg := ⟨0, 0, 0, 0⟩
def wr (a : Int) : Int := IntKind.i64.wrap a
def Agg.merge (a b : Agg) : Agg :=
  if a.c < 1 then (if b.c < 1 then .z else b) else if b.c < 1 then a else ⟨wr (a.c + b.c), wr (a.s + b.s), if b.mn < a.mn then b.mn else a.mn, if a.mx < b.mx then b.mx else a.mx⟩
theorem merge_zz {a b : Agg} (h1 : a.c < 1) (h2 : b.c < 1) : a.merge b = .z := by simp only [Agg.merge, h1, h2, if_true]
theorem merge_zb {a b : Agg} (h1 : a.c < 1) (h2 : ¬ b.c < 1) : a.merge b = b := by simp only [Agg.merge, h1, h2, if_true, if_false]
theorem merge_az {a b : Agg} (h1 : ¬ a.c < 1) (h2 : b.c < 1) : a.merge b = a := by simp only [Agg.merge, h1, h2, if_true, if_false]
theorem merge_ab {a b : Agg} (h1 : ¬ a.c < 1) (h2 : ¬ b.c < 1) : a.merge b = ⟨wr (a.c + b.c), wr (a.s + b.s), if b.mn < a.mn then b.mn else a.mn, if a.mx < b.mx then b.mx else a.mx⟩ := by simp only [Agg.merge, h1, h2, if_false]
structure Node where
  l : Int
  r : Int
  a : Agg
  k : Bool
  deriving DecidableEq
def Node.c (n : Node) : List Value := [.int .i32 n.l, .int .i32 n.r, .int .i64 n.a.c, .int .i64 n.a.s, .int .i64 n.a.mn, .int .i64 n.a.mx, .bool n.k]
def Node.z : Node := ⟨0, 0, .z, false⟩
structure Ar where
  nodes : List Node
  limit : Int
def Ar.cells (A : Ar) : List Value := A.nodes.flatMap Node.c
def Node.ok (n : Node) : Prop := (0 ≤ n.l ∧ n.l ≤ 4194304) ∧ (0 ≤ n.r ∧ n.r ≤ 4194304)
def Ar.ok (A : Ar) : Prop := (1 ≤ A.limit ∧ A.limit ≤ 4194304 ∧ (A.nodes.length : Int) ≤ A.limit) ∧ ∀ n ∈ A.nodes, n.ok
def Ar.has (A : Ar) (i : Int) : Bool := decide (1 ≤ i) && decide (i ≤ A.nodes.length)
def Ar.get (A : Ar) (i : Int) : Node := if A.has i then A.nodes.getD (i.toNat - 1) .z else .z
def Ar.err (A : Ar) (i : Int) : Int := if A.has i then 0 else 4
def Ar.set (A : Ar) (i : Int) (n : Node) : Ar := if A.has i then { A with nodes := A.nodes.set (i.toNat - 1) n } else A
def Ar.new (A : Ar) : Ar := { A with nodes := A.nodes ++ [.z] }

theorem has_lo {A : Ar} {i : Int} (h : i < 1) : A.has i = false := by simp [Ar.has]; omega
theorem has_hi {A : Ar} {i : Int} (h : 1 ≤ i) : A.has i = decide (i ≤ A.nodes.length) := by simp [Ar.has, h]
theorem cells_len (l : List Node) : (l.flatMap Node.c).length = l.length * 7 := by
  induction l with
  | nil => rfl
  | cons n l ih => simp [Node.c, ih]; omega
theorem Ar.cells_len (A : Ar) : A.cells.length = A.nodes.length * 7 := Ytggndcaehjdklaa.cells_len _
theorem slc_app (pre x post : List Value) (o k : Nat) (ho : o = pre.length) (hk : k = x.length) : Z.slc (pre ++ (x ++ post)) o k = some x := by
  subst ho; subst hk
  rw [Z.slc_mk (by simp)]
  simp
theorem ovw_app (pre x y post : List Value) (o : Nat) (ho : o = pre.length) (hk : x.length = y.length) : Z.ovw (pre ++ (x ++ post)) o y = some (pre ++ (y ++ post)) := by
  subst ho
  induction pre with
  | nil =>
    simp only [List.nil_append, List.length_nil]
    induction x generalizing y with
    | nil => cases y with
      | nil => cases post <;> rfl
      | cons => simp at hk
    | cons a x ih => cases y with
      | nil => simp at hk
      | cons b y => simp only [List.cons_append, Z.ovw]; rw [ih y (by simpa using hk)]
  | cons a pre ih => simp only [List.cons_append, List.length_cons, Z.ovw, ih]
theorem split_node {l : List Node} {j : Nat} (h : j < l.length) : l.flatMap Node.c = (l.take j).flatMap Node.c ++ ((l.getD j .z).c ++ (l.drop (j + 1)).flatMap Node.c) := by
  have e : l.getD j .z = l[j] := by simp [List.getD, h]
  rw [e]
  conv => lhs; rw [← List.take_append_drop j l, List.drop_eq_getElem_cons h]
  simp only [List.flatMap_append, List.flatMap_cons]
theorem slc_node (A : Ar) (sp : List Value) {j : Nat} (h : j < A.nodes.length) : Z.slc (A.cells ++ sp) (j * 7) 7 = some (A.nodes.getD j .z).c := by
  unfold Ar.cells
  rw [split_node h]
  simp only [List.append_assoc]
  exact slc_app _ _ _ _ _ (by rw [Ytggndcaehjdklaa.cells_len]; simp; omega) rfl
theorem ovw_node (A : Ar) (sp : List Value) (n : Node) {j : Nat} (h : j < A.nodes.length) : Z.ovw (A.cells ++ sp) (j * 7) n.c = some (({ A with nodes := A.nodes.set j n } : Ar).cells ++ sp) := by
  unfold Ar.cells
  rw [split_node h, split_node (l := A.nodes.set j n) (j := j) (by simpa using h)]
  simp only [List.append_assoc, List.take_set_of_le (Nat.le_refl j), List.drop_set_of_lt (Nat.lt_succ_self j)]
  have : (A.nodes.set j n).getD j .z = n := by simp [List.getD, h]
  rw [this]
  exact ovw_app _ _ _ _ _ (by rw [Ytggndcaehjdklaa.cells_len]; simp; omega) rfl
theorem get_in {A : Ar} {i : Int} (h : 1 ≤ i ∧ i ≤ A.nodes.length) : A.get i = A.nodes.getD (i - 1).toNat .z := by
  have : (i - 1).toNat = i.toNat - 1 := by omega
  simp [Ar.get, Ar.has, h, this]
theorem get_out {A : Ar} {i : Int} (h : ¬ (1 ≤ i ∧ i ≤ A.nodes.length)) : A.get i = .z := by
  have : A.has i = false := by simp only [Ar.has, Bool.and_eq_false_iff, decide_eq_false_iff_not]; omega
  simp [Ar.get, this]
theorem err_in {A : Ar} {i : Int} (h : 1 ≤ i ∧ i ≤ A.nodes.length) : A.err i = 0 := by simp [Ar.err, Ar.has, h]
theorem err_out {A : Ar} {i : Int} (h : ¬ (1 ≤ i ∧ i ≤ A.nodes.length)) : A.err i = 4 := by
  have : A.has i = false := by simp only [Ar.has, Bool.and_eq_false_iff, decide_eq_false_iff_not]; omega
  simp [Ar.err, this]
theorem set_in {A : Ar} {i : Int} {n : Node} (h : 1 ≤ i ∧ i ≤ A.nodes.length) : A.set i n = { A with nodes := A.nodes.set (i - 1).toNat n } := by
  have : (i - 1).toNat = i.toNat - 1 := by omega
  simp [Ar.set, Ar.has, h, this]
theorem set_out {A : Ar} {i : Int} {n : Node} (h : ¬ (1 ≤ i ∧ i ≤ A.nodes.length)) : A.set i n = A := by
  have : A.has i = false := by simp only [Ar.has, Bool.and_eq_false_iff, decide_eq_false_iff_not]; omega
  simp [Ar.set, this]
theorem has_of {A : Ar} {i : Int} (h : A.has i = true) : 1 ≤ i ∧ i ≤ A.nodes.length := by simpa [Ar.has] using h
theorem has_not {A : Ar} {i : Int} (h : A.has i = false) : ¬ (1 ≤ i ∧ i ≤ A.nodes.length) := by
  simp only [Ar.has, Bool.and_eq_false_iff, decide_eq_false_iff_not] at h; omega
theorem set_len {A : Ar} {i : Int} {n : Node} : (A.set i n).nodes.length = A.nodes.length := by unfold Ar.set; split <;> simp
theorem set_limit {A : Ar} {i : Int} {n : Node} : (A.set i n).limit = A.limit := by unfold Ar.set; split <;> rfl
theorem set_ok {A : Ar} {i : Int} {n : Node} (h : A.ok) (hn : n.ok) : (A.set i n).ok := by
  unfold Ar.ok at *; rw [set_len, set_limit]; refine ⟨h.1, ?_⟩
  unfold Ar.set
  split
  · intro m hm
    rcases List.mem_or_eq_of_mem_set hm with h' | h'
    · exact h.2 m h'
    · rw [h']; exact hn
  · exact h.2
theorem z_ok : Node.z.ok := by simp [Node.ok, Node.z]
theorem get_ok {A : Ar} (h : A.ok) (i : Int) : (A.get i).ok := by
  unfold Ar.get
  split
  · rw [List.getD_eq_getElem?_getD]
    cases e : A.nodes[i.toNat - 1]? with
    | none => exact z_ok
    | some n => exact h.2 n (List.mem_of_getElem? e)
  · exact z_ok
theorem new_ok {A : Ar} (h : A.ok) (hr : (A.nodes.length : Int) < A.limit) : A.new.ok := by
  obtain ⟨⟨h1, h2, h3⟩, h4⟩ := h
  refine ⟨⟨h1, h2, by simp [Ar.new]; omega⟩, ?_⟩
  intro m hm
  simp only [Ar.new, List.mem_append, List.mem_singleton] at hm
  rcases hm with h | h
  · exact h4 m h
  · rw [h]; exact z_ok
theorem new_cells {A : Ar} : A.new.cells = A.cells ++ [.int .i32 0, .int .i32 0, .int .i64 0, .int .i64 0, .int .i64 0, .int .i64 0, .bool false] := by simp [Ar.new, Ar.cells]; rfl
theorem new_len {A : Ar} : A.new.nodes.length = A.nodes.length + 1 := by simp [Ar.new]

/-- An arena in memory. -/
def Arena (ab : Nat) (A : Ar) : Z.SP := Z.ex fun v => Z.sep [Z.cl ab 66 [v, .int .i64 A.limit], Z.Own 69 7 v A.nodes.length A.cells]

/-! ### the tree's functions -/
def Ar.kill (A : Ar) (i : Int) : Ar := if i = 0 then A else A.set i { A.get i with a := .z, k := true }
theorem kill_z {A : Ar} {i : Int} (h : i = 0) : A.kill i = A := by simp [Ar.kill, h]
theorem kill_nz {A : Ar} {i : Int} (h : ¬ i = 0) : A.kill i = A.set i { A.get i with a := .z, k := true } := by simp [Ar.kill, h]
def Ar.node (A : Ar) (i : Int) : Node := { A.get i with k := false }
def Ar.pushed (A : Ar) (i : Int) : Ar := if (A.get i).k then ((A.kill (A.get i).l).kill (A.get i).r).set i (A.node i) else A
theorem pushed_t {A : Ar} {i : Int} (h : (A.get i).k = true) : A.pushed i = ((A.kill (A.get i).l).kill (A.get i).r).set i (A.node i) := by simp [Ar.pushed, h]
theorem pushed_f {A : Ar} {i : Int} (h : (A.get i).k = false) : A.pushed i = A := by simp [Ar.pushed, h]
theorem node_f {A : Ar} {i : Int} (h : (A.get i).k = false) : A.node i = A.get i := by
  unfold Ar.node; rw [← h]
def Ar.joined (A : Ar) (i : Int) (n : Node) : Ar := A.set i { n with a := (A.get n.l).a.merge (A.get n.r).a }
def Ar.alloc (A : Ar) : Ar := if (A.nodes.length : Int) < A.limit then A.new else A
def Ar.next (A : Ar) : Int := if (A.nodes.length : Int) < A.limit then A.nodes.length + 1 else 0
def pw (h : Nat) : Int := 2 ^ h
def rgt (key : Int) (h : Nat) : Bool := decide (key / pw (h - 1) % 2 = 1)
def Node.child (n : Node) (key : Int) (h : Nat) : Int := if rgt key h then n.r else n.l
/-- How many nodes a key's way lacks, from a node of height h on. -/
def Ar.miss (A : Ar) (key : Int) : Nat → Int → Int
  | 0, i => if i = 0 then 1 else 0
  | h + 1, i => if i = 0 then h + 2 else A.miss key h ((A.get i).child key (h + 1))
def Ar.put (key : Int) (a : Agg) : Nat → Ar → Int → Int × Ar
  | 0, A, i =>
    let j := if i = 0 then A.next else i
    let B := if i = 0 then A.alloc else A
    (j, (B.pushed j).set j ⟨0, 0, a, false⟩)
  | h + 1, A, i =>
    let j := if i = 0 then A.next else i
    let B := if i = 0 then A.alloc else A
    let n := B.node j
    if rgt key (h + 1) then
      let p := Ar.put key a h (B.pushed j) n.r
      (j, p.2.joined j { n with r := p.1 })
    else
      let p := Ar.put key a h (B.pushed j) n.l
      (j, p.2.joined j { n with l := p.1 })
def outB (lo : Int) (h : Nat) (s t : Int) : Bool := decide (t < lo) || (decide (lo + pw h - 1 < s) || decide (t < s))
def insB (lo : Int) (h : Nat) (s t : Int) : Bool := decide (s ≤ lo) && decide (lo + pw h - 1 ≤ t)
/-- What is told of the keys from s to t below a node; the arena behind it. -/
def Ar.fold (s t : Int) : Nat → Ar → Int → Int → Agg × Ar
  | h, A, i, lo =>
    if i = 0 then (.z, A) else if outB lo h s t then (.z, A) else if insB lo h s t then ((A.get i).a, A) else
    match h with
    | 0 => (.z, A)
    | h + 1 =>
      let p := Ar.fold s t h (A.pushed i) (A.node i).l lo
      let q := Ar.fold s t h p.2 (A.node i).r (lo + pw h)
      (p.1.merge q.1, q.2)
def Ar.cut (s t : Int) : Nat → Ar → Int → Int → Ar
  | h, A, i, lo =>
    if i = 0 then A else if outB lo h s t then A else if insB lo h s t then A.kill i else
    match h with
    | 0 => A
    | h + 1 => (Ar.cut s t h (Ar.cut s t h (A.pushed i) (A.node i).l lo) (A.node i).r (lo + pw h)).joined i (A.node i)

theorem insB_t {lo s t : Int} {h : Nat} (e : s ≤ lo) : insB lo h s t = decide (lo + pw h - 1 ≤ t) := by unfold insB; rw [decide_eq_true e, Bool.true_and]
theorem insB_f {lo s t : Int} {h : Nat} (e : ¬ s ≤ lo) : insB lo h s t = false := by unfold insB; rw [decide_eq_false e, Bool.false_and]
theorem outB_1 {lo s t : Int} {h : Nat} (e : t < lo) : outB lo h s t = true := by unfold outB; rw [decide_eq_true e, Bool.true_or]
theorem outB_2 {lo s t : Int} {h : Nat} (_e : ¬ t < lo) (e2 : lo + pw h - 1 < s) : outB lo h s t = true := by unfold outB; rw [decide_eq_true e2, Bool.true_or, Bool.or_true]
theorem outB_3 {lo s t : Int} {h : Nat} (e : ¬ t < lo) (e2 : ¬ lo + pw h - 1 < s) : outB lo h s t = decide (t < s) := by unfold outB; rw [decide_eq_false e, decide_eq_false e2, Bool.false_or, Bool.false_or]
theorem pw_pos (h : Nat) : 1 ≤ pw h := by
  unfold pw
  induction h with
  | zero => simp
  | succ h ih => rw [Int.pow_succ]; omega
theorem pw_succ (h : Nat) : pw (h + 1) = 2 * pw h := by unfold pw; rw [Int.pow_succ]; omega
theorem pw_le {h k : Nat} (hk : h ≤ k) : pw h ≤ pw k := by
  induction hk with
  | refl => exact Int.le_refl _
  | step _ ih => rw [pw_succ]; have := pw_pos h; omega
theorem pw_32 : pw 32 = 4294967296 := by unfold pw; rfl
theorem pw_bd {h : Nat} (hh : h ≤ 32) : 1 ≤ pw h ∧ pw h ≤ 4294967296 := ⟨pw_pos h, by rw [← pw_32]; exact pw_le hh⟩
theorem shl_u64 {h : Nat} (hh : h ≤ 32) : IntKind.u64.wrap (1 * 2 ^ (min (h : Int).toNat IntKind.u64.bits)) = pw h := by
  have h1 := pw_bd hh
  have e : min (h : Int).toNat IntKind.u64.bits = h := by simp [IntKind.bits]; omega
  rw [e, Int.one_mul]
  have : (2 : Int) ^ h = pw h := rfl
  rw [this]
  exact IntWalk.u64_in _ (by omega)
theorem shl_u32 {h : Nat} (hh : h ≤ 31) : IntKind.u32.wrap (1 * 2 ^ (min (h : Int).toNat IntKind.u32.bits)) = pw h := by
  have h1 : pw h ≤ pw 31 := pw_le hh
  have h2 : pw 31 = 2147483648 := by unfold pw; rfl
  have h3 := pw_pos h
  have e : min (h : Int).toNat IntKind.u32.bits = h := by simp [IntKind.bits]; omega
  rw [e, Int.one_mul]
  have : (2 : Int) ^ h = pw h := rfl
  rw [this]
  exact IntWalk.u32_in _ (by omega)
theorem shr_u32 {key : Int} {h : Nat} (h1 : 1 ≤ h) (h2 : h ≤ 32) : key.fdiv (2 ^ (min ((h : Int) - 1).toNat IntKind.u32.bits)) = key / pw (h - 1) := by
  have e : min ((h : Int) - 1).toNat IntKind.u32.bits = h - 1 := by simp [IntKind.bits]; omega
  rw [e, Int.fdiv_eq_ediv_of_nonneg _ (Int.le_of_lt (by have := pw_pos (h - 1); unfold pw at this; omega))]
  rfl
theorem and_one {x : Int} (h : 0 ≤ x ∧ x < 4294967296) : Z.bitsOf .and .u32 x 1 = x % 2 := by
  obtain ⟨n, rfl⟩ := Int.eq_ofNat_of_zero_le h.1
  simp only [Z.bitsOf]
  have hn : n < 2 ^ 32 := by omega
  have e1 : (BitVec.ofInt IntKind.u32.bits (n : Int)).toNat = n := by
    show (BitVec.ofInt 32 (n : Int)).toNat = n
    rw [BitVec.toNat_ofInt]; omega
  have e2 : (BitVec.ofInt IntKind.u32.bits (1 : Int)).toNat = 1 := by rfl
  have e3 : ((BitVec.ofInt IntKind.u32.bits (n : Int)) &&& (BitVec.ofInt IntKind.u32.bits (1 : Int))).toNat = n % 2 := by
    rw [BitVec.toNat_and, e1, e2, Nat.and_one_is_mod]
  rw [e3]
  have := IntWalk.u32_in ((n % 2 : Nat) : Int) (by omega)
  rw [this]; omega
theorem div_bd {key : Int} (hk : 0 ≤ key ∧ key < 4294967296) (h : Nat) : 0 ≤ key / pw h ∧ key / pw h < 4294967296 := by
  have hp := pw_pos h
  refine ⟨Int.ediv_nonneg hk.1 (by omega), ?_⟩
  exact Int.lt_of_le_of_lt (Int.ediv_le_self _ hk.1) hk.2

theorem alloc_ok {A : Ar} (h : A.ok) : A.alloc.ok := by
  unfold Ar.alloc; split
  · exact new_ok h (by assumption)
  · exact h
theorem next_bd {A : Ar} (h : A.ok) : 0 ≤ A.next ∧ A.next ≤ 4194304 := by
  obtain ⟨⟨h1, h2, h3⟩, _⟩ := h
  unfold Ar.next; split <;> omega
theorem kill_ok {A : Ar} {i : Int} (h : A.ok) : (A.kill i).ok := by
  unfold Ar.kill; split
  · exact h
  · exact set_ok h (get_ok h i)
theorem node_ok {A : Ar} {i : Int} (h : A.ok) : (A.node i).ok := get_ok h i
theorem pushed_ok {A : Ar} {i : Int} (h : A.ok) : (A.pushed i).ok := by
  unfold Ar.pushed; split
  · exact set_ok (kill_ok (kill_ok h)) (node_ok h)
  · exact h
theorem joined_ok {A : Ar} {i : Int} {n : Node} (h : A.ok) (hn : n.ok) : (A.joined i n).ok := set_ok h hn
theorem put_ok (key : Int) (a : Agg) (h : Nat) : ∀ (A : Ar) (i : Int), A.ok → (0 ≤ i ∧ i ≤ 4194304) → (0 ≤ (A.put key a h i).1 ∧ (A.put key a h i).1 ≤ 4194304) ∧ (A.put key a h i).2.ok := by
  induction h with
  | zero =>
    intro A i hA hi
    simp only [Ar.put]
    split
    · exact ⟨next_bd hA, set_ok (pushed_ok (alloc_ok hA)) (by simp [Node.ok])⟩
    · exact ⟨hi, set_ok (pushed_ok hA) (by simp [Node.ok])⟩
  | succ h ih =>
    intro A i hA hi
    have key2 : ∀ (B : Ar) (j : Int), B.ok → (0 ≤ j ∧ j ≤ 4194304) → ∀ (x : Int × Ar), x = (if rgt key (h + 1) then
      (j, ((B.pushed j).put key a h (B.node j).r).2.joined j { B.node j with r := ((B.pushed j).put key a h (B.node j).r).1 })
      else (j, ((B.pushed j).put key a h (B.node j).l).2.joined j { B.node j with l := ((B.pushed j).put key a h (B.node j).l).1 })) → (0 ≤ x.1 ∧ x.1 ≤ 4194304) ∧ x.2.ok := by
      intro B j hB hj x hx
      subst hx
      have hn := node_ok (i := j) hB
      have hp := pushed_ok (i := j) hB
      split
      · obtain ⟨g1, g2⟩ := ih _ _ hp hn.2
        exact ⟨hj, joined_ok g2 ⟨hn.1, g1⟩⟩
      · obtain ⟨g1, g2⟩ := ih _ _ hp hn.1
        exact ⟨hj, joined_ok g2 ⟨g1, hn.2⟩⟩
    by_cases e : i = 0
    · exact key2 A.alloc A.next (alloc_ok hA) (next_bd hA) _ (by simp only [Ar.put, e, if_true])
    · exact key2 A i hA hi _ (by simp only [Ar.put, e, if_false])
theorem put_0z {key i : Int} {a : Agg} {A : Ar} (e : i = 0) : A.put key a 0 i = (A.next, (A.alloc.pushed A.next).set A.next ⟨0, 0, ⟨a.c, a.s, a.mn, a.mx⟩, false⟩) := by simp only [Ar.put, e, if_true]
theorem put_0n {key i : Int} {a : Agg} {A : Ar} (e : ¬ i = 0) : A.put key a 0 i = (i, (A.pushed i).set i ⟨0, 0, ⟨a.c, a.s, a.mn, a.mx⟩, false⟩) := by simp only [Ar.put, e, if_false]
theorem put_sr {key i : Int} {a : Agg} {A : Ar} {h : Nat} (e : ¬ i = 0) (r : rgt key (h + 1) = true) : A.put key a (h + 1) i =
    (i, ((A.pushed i).put key a h (A.node i).r).2.joined i ⟨(A.node i).l, ((A.pushed i).put key a h (A.node i).r).1, ⟨(A.node i).a.c, (A.node i).a.s, (A.node i).a.mn, (A.node i).a.mx⟩, (A.node i).k⟩) := by simp only [Ar.put, e, if_false, r, if_true]
theorem put_sl {key i : Int} {a : Agg} {A : Ar} {h : Nat} (e : ¬ i = 0) (r : rgt key (h + 1) = false) : A.put key a (h + 1) i =
    (i, ((A.pushed i).put key a h (A.node i).l).2.joined i ⟨((A.pushed i).put key a h (A.node i).l).1, (A.node i).r, ⟨(A.node i).a.c, (A.node i).a.s, (A.node i).a.mn, (A.node i).a.mx⟩, (A.node i).k⟩) := by simp only [Ar.put, e, if_false, r]; rfl
theorem put_zr {key i : Int} {a : Agg} {A : Ar} {h : Nat} (e : i = 0) (r : rgt key (h + 1) = true) : A.put key a (h + 1) i =
    (A.next, ((A.alloc.pushed A.next).put key a h (A.alloc.node A.next).r).2.joined A.next ⟨(A.alloc.node A.next).l, ((A.alloc.pushed A.next).put key a h (A.alloc.node A.next).r).1, ⟨(A.alloc.node A.next).a.c, (A.alloc.node A.next).a.s, (A.alloc.node A.next).a.mn, (A.alloc.node A.next).a.mx⟩, (A.alloc.node A.next).k⟩) := by simp only [Ar.put, e, if_true, r]
theorem put_zl {key i : Int} {a : Agg} {A : Ar} {h : Nat} (e : i = 0) (r : rgt key (h + 1) = false) : A.put key a (h + 1) i =
    (A.next, ((A.alloc.pushed A.next).put key a h (A.alloc.node A.next).l).2.joined A.next ⟨((A.alloc.pushed A.next).put key a h (A.alloc.node A.next).l).1, (A.alloc.node A.next).r, ⟨(A.alloc.node A.next).a.c, (A.alloc.node A.next).a.s, (A.alloc.node A.next).a.mn, (A.alloc.node A.next).a.mx⟩, (A.alloc.node A.next).k⟩) := by simp only [Ar.put, e, if_true, r]; rfl
theorem miss_z {A : Ar} {key : Int} {h : Nat} : A.miss key h 0 = h + 1 := by cases h <;> simp [Ar.miss]; omega
theorem miss_n {A : Ar} {key i : Int} {h : Nat} (e : ¬ i = 0) : A.miss key (h + 1) i = A.miss key h ((A.get i).child key (h + 1)) := by simp [Ar.miss, e]
theorem child_ok {n : Node} {key : Int} {h : Nat} (hn : n.ok) : 0 ≤ n.child key h ∧ n.child key h ≤ 4194304 := by
  unfold Node.child; split
  · exact hn.2
  · exact hn.1

theorem miss_0 {A : Ar} {key i : Int} {h : Nat} (e : i = 0) : A.miss key h i = h + 1 := by subst e; exact miss_z
theorem miss_p {A : Ar} {key i : Int} {h : Nat} (h0 : 0 < h) (e : ¬ i = 0) : A.miss key h i = A.miss key (h - 1) ((A.get i).child key h) := by
  cases h with
  | zero => omega
  | succ h => exact miss_n e
theorem miss_e {A : Ar} {key i : Int} {h : Nat} (h0 : ¬ 0 < h) (e : ¬ i = 0) : A.miss key h i = 0 := by
  have : h = 0 := by omega
  subst this; simp [Ar.miss, e]
def Ar.full (A : Ar) (r key : Int) : Bool := decide (A.limit - A.nodes.length < A.miss key 32 r)
def Ar.putE (A : Ar) (r key : Int) : Int := if A.full r key then 6 else 0
def Ar.putT (A : Ar) (r key v : Int) : Int × Ar := if A.full r key then (r, A) else A.put key ⟨1, v, v, v⟩ 32 r
theorem putE_t {A : Ar} {r key : Int} (h : A.miss key 32 r > A.limit - A.nodes.length) : A.putE r key = 6 := by simp [Ar.putE, Ar.full, h]
theorem putE_f {A : Ar} {r key : Int} (h : ¬ A.miss key 32 r > A.limit - A.nodes.length) : A.putE r key = 0 := by simp [Ar.putE, Ar.full, h]
theorem putT_t {A : Ar} {r key v : Int} (h : A.miss key 32 r > A.limit - A.nodes.length) : A.putT r key v = (r, A) := by simp [Ar.putT, Ar.full, h]
theorem putT_f {A : Ar} {r key v : Int} (h : ¬ A.miss key 32 r > A.limit - A.nodes.length) : A.putT r key v = A.put key ⟨1, v, v, v⟩ 32 r := by simp [Ar.putT, Ar.full, h]
theorem putT_ok {A : Ar} {r key v : Int} (hA : A.ok) (hi : 0 ≤ r ∧ r ≤ 4194304) : (0 ≤ (A.putT r key v).1 ∧ (A.putT r key v).1 ≤ 4194304) ∧ (A.putT r key v).2.ok := by
  unfold Ar.putT; split
  · exact ⟨hi, hA⟩
  · exact put_ok _ _ _ _ _ hA hi
theorem fold_z {A : Ar} {s t i lo : Int} {h : Nat} (e : i = 0) : A.fold s t h i lo = (⟨0, 0, 0, 0⟩, A) := by cases h <;> simp [Ar.fold, e, Agg.z]
theorem fold_o {A : Ar} {s t i lo : Int} {h : Nat} (o : outB lo h s t = true) : A.fold s t h i lo = (⟨0, 0, 0, 0⟩, A) := by
  cases h <;> simp [Ar.fold, o, Agg.z]
theorem fold_i {A : Ar} {s t i lo : Int} {h : Nat} (e : ¬ i = 0) (o : outB lo h s t = false) (n : insB lo h s t = true) : A.fold s t h i lo = ((A.get i).a, A) := by
  cases h <;> simp [Ar.fold, e, o, n]
theorem fold_s {A : Ar} {s t i lo : Int} {h : Nat} (e : ¬ i = 0) (o : outB lo (h + 1) s t = false) (n : insB lo (h + 1) s t = false) :
    A.fold s t (h + 1) i lo = (((A.pushed i).fold s t h (A.node i).l lo).1.merge ((((A.pushed i).fold s t h (A.node i).l lo).2.fold s t h (A.node i).r (lo + pw h)).1), (((A.pushed i).fold s t h (A.node i).l lo).2.fold s t h (A.node i).r (lo + pw h)).2) := by
  simp [Ar.fold, e, o, n]
theorem io_0 {lo s t : Int} (o : outB lo 0 s t = false) (n : insB lo 0 s t = false) : False := by
  have e : pw 0 = 1 := rfl
  simp only [outB, insB, e, Bool.or_eq_false_iff, Bool.and_eq_false_iff, decide_eq_false_iff_not] at o n
  omega
theorem fold_ok (s t : Int) (h : Nat) : ∀ (A : Ar) (i lo : Int), A.ok → (A.fold s t h i lo).2.ok := by
  induction h with
  | zero => intro A i lo hA; simp only [Ar.fold]; (repeat' split) <;> try exact hA
  | succ h ih => intro A i lo hA; simp only [Ar.fold]; (repeat' split) <;> first | exact hA | exact ih _ _ _ (ih _ _ _ (pushed_ok hA))
theorem cut_z {A : Ar} {s t i lo : Int} {h : Nat} (e : i = 0) : A.cut s t h i lo = A := by cases h <;> simp [Ar.cut, e]
theorem cut_o {A : Ar} {s t i lo : Int} {h : Nat} (o : outB lo h s t = true) : A.cut s t h i lo = A := by cases h <;> simp [Ar.cut, o]
theorem cut_i {A : Ar} {s t i lo : Int} {h : Nat} (e : ¬ i = 0) (o : outB lo h s t = false) (n : insB lo h s t = true) : A.cut s t h i lo = A.kill i := by
  cases h <;> simp [Ar.cut, e, o, n]
theorem cut_s {A : Ar} {s t i lo : Int} {h : Nat} (e : ¬ i = 0) (o : outB lo (h + 1) s t = false) (n : insB lo (h + 1) s t = false) :
    A.cut s t (h + 1) i lo = (((A.pushed i).cut s t h (A.node i).l lo).cut s t h (A.node i).r (lo + pw h)).joined i ⟨(A.node i).l, (A.node i).r, ⟨(A.node i).a.c, (A.node i).a.s, (A.node i).a.mn, (A.node i).a.mx⟩, (A.node i).k⟩ := by
  simp [Ar.cut, e, o, n]
theorem cut_ok (s t : Int) (h : Nat) : ∀ (A : Ar) (i lo : Int), A.ok → (A.cut s t h i lo).ok := by
  induction h with
  | zero => intro A i lo hA; simp only [Ar.cut]; (repeat' split) <;> first | exact hA | exact kill_ok hA
  | succ h ih => intro A i lo hA; simp only [Ar.cut]; (repeat' split) <;> first | exact hA | exact kill_ok hA | exact joined_ok (ih _ _ _ (ih _ _ _ (pushed_ok hA))) (node_ok hA)

def Ar.walk : Nat → Ar → Int → Int → List (Int × Int) × Ar
  | h, A, i, lo =>
    if i = 0 then ([], A) else if (A.get i).a.c = 0 then ([], A) else
    match h with
    | 0 => ([(lo, (A.get i).a.s)], A)
    | h + 1 =>
      let p := Ar.walk h (A.pushed i) (A.node i).l lo
      let q := Ar.walk h p.2 (A.node i).r (lo + pw h)
      (p.1 ++ q.1, q.2)
theorem walk_z {A : Ar} {i lo : Int} {h : Nat} (e : i = 0) : A.walk h i lo = ([], A) := by cases h <;> simp [Ar.walk, e]
theorem walk_c {A : Ar} {i lo : Int} {h : Nat} (e : (A.get i).a.c = 0) : A.walk h i lo = ([], A) := by cases h <;> simp [Ar.walk, e]
theorem walk_l {A : Ar} {i lo : Int} (e : ¬ i = 0) (e2 : ¬ (A.get i).a.c = 0) : A.walk 0 i lo = ([(lo, (A.get i).a.s)], A) := by simp [Ar.walk, e, e2]
theorem walk_s {A : Ar} {i lo : Int} {h : Nat} (e : ¬ i = 0) (e2 : ¬ (A.get i).a.c = 0) : A.walk (h + 1) i lo =
    (((A.pushed i).walk h (A.node i).l lo).1 ++ (((A.pushed i).walk h (A.node i).l lo).2.walk h (A.node i).r (lo + pw h)).1, (((A.pushed i).walk h (A.node i).l lo).2.walk h (A.node i).r (lo + pw h)).2) := by simp [Ar.walk, e, e2]
theorem walk_ok (h : Nat) : ∀ (A : Ar) (i lo : Int), A.ok → (A.walk h i lo).2.ok := by
  induction h with
  | zero => intro A i lo hA; simp only [Ar.walk]; (repeat' split) <;> exact hA
  | succ h ih => intro A i lo hA; simp only [Ar.walk]; (repeat' split) <;> first | exact hA | exact ih _ _ _ (ih _ _ _ (pushed_ok hA))
end Go.Proofs.Ytggndcaehjdklaa
