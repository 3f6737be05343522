/- Segtree: the plain law: what the tree holds is what the map holds. -/
import Derived.Test.YtggndcaehjdklaaS9
namespace Go.Proofs.Ytggndcaehjdklaa
open Go Go.RowKit

/-! ### reading behind a change -/
theorem has_iff {A : Ar} {j : Int} : A.has j = true ↔ 1 ≤ j ∧ j ≤ A.nodes.length := by simp [Ar.has]
theorem has_set {A : Ar} {i j : Int} {n : Node} : (A.set i n).has j = A.has j := by
  unfold Ar.has; rw [set_len]
theorem get_eqn (A : Ar) (j : Int) (h : 1 ≤ j) : A.get j = (A.nodes[j.toNat - 1]?).getD .z := by
  unfold Ar.get
  split
  · rw [List.getD_eq_getElem?_getD]
  · rename_i hh
    have : ¬ (1 ≤ j ∧ j ≤ A.nodes.length) := fun h' => hh (has_iff.2 h')
    rw [List.getElem?_eq_none (by omega)]; rfl
theorem get_lo {A : Ar} {j : Int} (h : j < 1) : A.get j = .z := get_out (by omega)
theorem get_set_ne {A : Ar} {i j : Int} {n : Node} (h : j ≠ i) : (A.set i n).get j = A.get j := by
  rcases Int.lt_or_le j 1 with hj | hj
  · rw [get_lo hj, get_lo hj]
  · rw [get_eqn _ _ hj, get_eqn _ _ hj]
    unfold Ar.set
    split
    · rename_i hh
      have := has_of hh
      rw [List.getElem?_set_ne (by omega)]
    · rfl
theorem get_set_eq {A : Ar} {i : Int} {n : Node} (h : A.has i = true) : (A.set i n).get i = n := by
  have hh := has_of h
  rw [get_eqn _ _ hh.1]
  unfold Ar.set
  rw [if_pos h, List.getElem?_set_self (by omega)]; rfl
theorem get_new {A : Ar} {j : Int} : A.new.get j = A.get j := by
  rcases Int.lt_or_le j 1 with hj | hj
  · rw [get_lo hj, get_lo hj]
  · rw [get_eqn _ _ hj, get_eqn _ _ hj]
    unfold Ar.new
    rw [List.getElem?_append]
    split
    · rfl
    · rename_i hh
      rw [List.getElem?_eq_none (l := A.nodes) (by omega)]
      cases hk : j.toNat - 1 - A.nodes.length with
      | zero => rfl
      | succ k => rfl
theorem has_new {A : Ar} {j : Int} (h : A.has j = true) : A.new.has j = true := by
  rw [has_iff] at *; rw [new_len]; omega

/-! ### the tree -/
inductive PT where
  | nil
  | nd (j : Int) (l r : PT) (a : Agg)
def PT.root : PT → Int
  | .nil => 0
  | .nd j _ _ _ => j
def PT.agg : PT → Agg
  | .nil => .z
  | .nd _ _ _ a => a
def PT.ids : PT → List Int
  | .nil => []
  | .nd j l r _ => j :: (l.ids ++ r.ids)
def Rep (A : Ar) : PT → Prop
  | .nil => True
  | .nd j l r a => A.has j = true ∧ A.get j = ⟨l.root, r.root, a, false⟩ ∧ Rep A l ∧ Rep A r
theorem Rep.frame {A B : Ar} {t : PT} (h : Rep A t) (hf : ∀ j ∈ t.ids, B.get j = A.get j ∧ B.has j = true) : Rep B t := by
  induction t with
  | nil => trivial
  | nd j l r a ihl ihr =>
    obtain ⟨h1, h2, h3, h4⟩ := h
    refine ⟨(hf j (by simp [PT.ids])).2, by rw [(hf j (by simp [PT.ids])).1]; exact h2, ihl h3 (fun i hi => hf i (by simp [PT.ids, hi])), ihr h4 (fun i hi => hf i (by simp [PT.ids, hi]))⟩
theorem Rep.has {A : Ar} {t : PT} (h : Rep A t) : ∀ j ∈ t.ids, A.has j = true := by
  induction t with
  | nil => simp [PT.ids]
  | nd j l r a ihl ihr =>
    obtain ⟨h1, h2, h3, h4⟩ := h
    intro i hi
    simp only [PT.ids, List.mem_cons, List.mem_append] at hi
    rcases hi with rfl | hi | hi
    · exact h1
    · exact ihl h3 i hi
    · exact ihr h4 i hi
theorem Rep.agg {A : Ar} {t : PT} (h : Rep A t) : (A.get t.root).a = t.agg := by
  cases t with
  | nil => rw [show PT.nil.root = 0 from rfl, get_lo (by omega)]; rfl
  | nd j l r a => rw [show (PT.nd j l r a).root = j from rfl, h.2.1]; rfl
theorem Rep.nz {A : Ar} {j : Int} {l r : PT} {a : Agg} (h : Rep A (.nd j l r a)) : ¬ j = 0 := by
  have := has_of h.1; omega
theorem Rep.pushed {A : Ar} {j : Int} {l r : PT} {a : Agg} (h : Rep A (.nd j l r a)) : A.pushed j = A := pushed_f (by rw [h.2.1])
theorem Rep.node {A : Ar} {j : Int} {l r : PT} {a : Agg} (h : Rep A (.nd j l r a)) : A.node j = ⟨l.root, r.root, a, false⟩ := by
  rw [node_f (by rw [h.2.1]), h.2.1]

def pput (key : Int) (a : Agg) : Nat → Int → PT → PT × Int
  | 0, N, .nil => (.nd (N + 1) .nil .nil a, N + 1)
  | 0, N, .nd j _ _ _ => (.nd j .nil .nil a, N)
  | h + 1, N, .nil => match rgt key (h + 1) with
    | true => (.nd (N + 1) .nil (pput key a h (N + 1) .nil).1 (Agg.z.merge (pput key a h (N + 1) .nil).1.agg), (pput key a h (N + 1) .nil).2)
    | false => (.nd (N + 1) (pput key a h (N + 1) .nil).1 .nil ((pput key a h (N + 1) .nil).1.agg.merge .z), (pput key a h (N + 1) .nil).2)
  | h + 1, N, .nd j l r _ => match rgt key (h + 1) with
    | true => (.nd j l (pput key a h N r).1 (l.agg.merge (pput key a h N r).1.agg), (pput key a h N r).2)
    | false => (.nd j (pput key a h N l).1 r ((pput key a h N l).1.agg.merge r.agg), (pput key a h N l).2)

/-- What putting comes to. -/
structure PutOK (A : Ar) (t : PT) (h : Nat) (x : Int × Ar) (q : PT × Int) : Prop where
  root : x.1 = q.1.root
  rep : Rep x.2 q.1
  len : (x.2.nodes.length : Int) = q.2
  limit : x.2.limit = A.limit
  lo : (A.nodes.length : Int) ≤ q.2
  hi : q.2 ≤ A.nodes.length + h + 1
  nodup : q.1.ids.Nodup
  ids : ∀ j ∈ q.1.ids, j ∈ t.ids ∨ ((A.nodes.length : Int) < j ∧ j ≤ q.2)
  get : ∀ j : Int, j ≤ A.nodes.length → j ∉ t.ids → x.2.get j = A.get j

theorem Rep.le {A : Ar} {t : PT} (h : Rep A t) {j : Int} (hj : j ∈ t.ids) : 1 ≤ j ∧ j ≤ A.nodes.length := has_of (h.has j hj)

/-- A node whose one child has been put anew. -/
theorem put_join {A : Ar} {j : Int} {l r : PT} {a0 : Agg} {h : Nat} (hR : Rep A (.nd j l r a0)) (hn : (PT.nd j l r a0).ids.Nodup) {x : Int × Ar} {q : PT × Int} (b : Bool)
    (hp : PutOK A (if b then r else l) h x q) : PutOK A (.nd j l r a0) (h + 1)
      (j, x.2.joined j (if b then { A.node j with r := x.1 } else { A.node j with l := x.1 }))
      ((if b then .nd j l q.1 (l.agg.merge q.1.agg) else .nd j q.1 r (q.1.agg.merge r.agg)), q.2) := by
  have hnode := hR.node
  obtain ⟨hj, hg, hl, hr⟩ := id hR
  have hjb := has_of hj
  simp only [PT.ids, List.nodup_cons, List.nodup_append, List.mem_append, not_or] at hn
  obtain ⟨⟨hjl, hjr⟩, hnl, hnr, hlr⟩ := hn
  have hhas : ∀ i, A.has i = true → x.2.has i = true := fun i hi => by
    have := has_of hi; have := hp.lo; have := hp.len
    rw [has_iff]; omega
  have hqj : j ∉ q.1.ids := fun hc => by
    rcases hp.ids j hc with h1 | h1
    · cases b
      · exact hjl h1
      · exact hjr h1
    · omega
  have hjt : j ∉ (if b then r else l).ids := by cases b <;> assumption
  have hfr : ∀ (s : PT), Rep A s → (∀ i ∈ s.ids, i ∉ (if b then r else l).ids) → Rep x.2 s := fun s hs hd =>
    hs.frame fun i hi => ⟨hp.get i (hs.le hi).2 (hd i hi), hhas i (hs.has i hi)⟩
  have hset : ∀ (n : Node) (s : PT), Rep x.2 s → j ∉ s.ids → Rep (x.2.set j n) s := fun n s hs hd =>
    hs.frame fun i hi => ⟨get_set_ne (fun e => hd (e ▸ hi)), by rw [has_set]; exact hs.has i hi⟩
  have hlen : ∀ n, ((x.2.set j n).nodes.length : Int) = q.2 := fun n => by rw [set_len]; exact hp.len
  have hget : ∀ n (i : Int), i ≤ A.nodes.length → i ∉ (PT.nd j l r a0).ids → (x.2.set j n).get i = A.get i := fun n i hi hni => by
    simp only [PT.ids, List.mem_cons, List.mem_append, not_or] at hni
    rw [get_set_ne hni.1]
    exact hp.get i hi (by cases b <;> first | exact hni.2.1 | exact hni.2.2)
  cases b with
  | true =>
    simp only [if_true] at *
    have h1 := hfr l hl (fun i hi hi' => hlr i hi i hi' rfl)
    have e1 : (x.2.get l.root).a = l.agg := h1.agg
    have e2 : (x.2.get x.1).a = q.1.agg := by rw [hp.root]; exact hp.rep.agg
    have e3 : x.2.joined j { A.node j with r := x.1 } = x.2.set j ⟨l.root, q.1.root, l.agg.merge q.1.agg, false⟩ := by
      unfold Ar.joined; rw [hnode]; simp only; rw [e1, e2, hp.root]
    rw [e3]
    refine ⟨rfl, ⟨by rw [has_set]; exact hhas j hj, get_set_eq (hhas j hj), hset _ l h1 hjl, hset _ q.1 hp.rep hqj⟩, hlen _, by rw [set_limit]; exact hp.limit, hp.lo, by have := hp.hi; omega, ?_, ?_, hget _⟩
    · simp only [PT.ids, List.nodup_cons, List.nodup_append, List.mem_append, not_or]
      refine ⟨⟨hjl, hqj⟩, hnl, hp.nodup, fun i hi k hk e => ?_⟩
      subst e
      rcases hp.ids i hk with h2 | h2
      · exact hlr i hi i h2 rfl
      · have := (hl.le hi).2; omega
    · intro i hi
      simp only [PT.ids, List.mem_cons, List.mem_append] at hi ⊢
      rcases hi with rfl | hi | hi
      · exact .inl (.inl rfl)
      · exact .inl (.inr (.inl hi))
      · rcases hp.ids i hi with h2 | h2
        · exact .inl (.inr (.inr h2))
        · exact .inr h2
  | false =>
    simp only [Bool.false_eq_true, if_false] at *
    have h1 := hfr r hr (fun i hi hi' => hlr i hi' i hi rfl)
    have e1 : (x.2.get r.root).a = r.agg := h1.agg
    have e2 : (x.2.get x.1).a = q.1.agg := by rw [hp.root]; exact hp.rep.agg
    have e3 : x.2.joined j { A.node j with l := x.1 } = x.2.set j ⟨q.1.root, r.root, q.1.agg.merge r.agg, false⟩ := by
      unfold Ar.joined; rw [hnode]; simp only; rw [e1, e2, hp.root]
    rw [e3]
    refine ⟨rfl, ⟨by rw [has_set]; exact hhas j hj, get_set_eq (hhas j hj), hset _ q.1 hp.rep hqj, hset _ r h1 hjr⟩, hlen _, by rw [set_limit]; exact hp.limit, hp.lo, by have := hp.hi; omega, ?_, ?_, hget _⟩
    · simp only [PT.ids, List.nodup_cons, List.nodup_append, List.mem_append, not_or]
      refine ⟨⟨hqj, hjr⟩, hp.nodup, hnr, fun i hi k hk e => ?_⟩
      subst e
      rcases hp.ids i hi with h2 | h2
      · exact hlr i h2 i hk rfl
      · have := (hr.le hk).2; omega
    · intro i hi
      simp only [PT.ids, List.mem_cons, List.mem_append] at hi ⊢
      rcases hi with rfl | hi | hi
      · exact .inl (.inl rfl)
      · rcases hp.ids i hi with h2 | h2
        · exact .inl (.inr (.inl h2))
        · exact .inr h2
      · exact .inl (.inr (.inr hi))

theorem put_nd {A : Ar} {key j : Int} {a a0 : Agg} {h : Nat} {l r : PT} (hR : Rep A (.nd j l r a0)) (hn : (PT.nd j l r a0).ids.Nodup) (N : Int)
    (hp : PutOK A (if rgt key (h + 1) then r else l) h (A.put key a h (if rgt key (h + 1) then r else l).root) (pput key a h N (if rgt key (h + 1) then r else l))) :
    PutOK A (.nd j l r a0) (h + 1) (A.put key a (h + 1) j) (pput key a (h + 1) N (.nd j l r a0)) := by
  have hj := put_join hR hn (rgt key (h + 1)) hp
  cases e : rgt key (h + 1) with
  | true =>
    simp only [e, if_true, pput] at hj ⊢
    rw [put_sr hR.nz e, hR.pushed, show (A.node j).r = r.root by rw [hR.node]]
    exact hj
  | false =>
    simp only [e, Bool.false_eq_true, if_false, pput] at hj ⊢
    rw [put_sl hR.nz e, hR.pushed, show (A.node j).l = l.root by rw [hR.node]]
    exact hj
theorem put_rep (key : Int) (a : Agg) (h : Nat) : ∀ (A : Ar) (t : PT), Rep A t → t.ids.Nodup → (A.nodes.length : Int) + h + 1 ≤ A.limit → PutOK A t h (A.put key a h t.root) (pput key a h A.nodes.length t) := by
  induction h with
  | zero =>
    intro A t hR hn hroom
    cases t with
    | nil =>
      have hlt : (A.nodes.length : Int) < A.limit := by omega
      have e1 : A.next = A.nodes.length + 1 := by simp [Ar.next, hlt]
      have e2 : A.alloc = A.new := by simp [Ar.alloc, hlt]
      have hh : A.new.has (A.nodes.length + 1) = true := by rw [has_iff, new_len]; omega
      have eg : A.new.get (A.nodes.length + 1) = .z := by rw [get_new]; exact get_out (by omega)
      rw [show PT.nil.root = 0 from rfl, put_0z rfl, e1, e2, pushed_f (by rw [eg]; rfl)]
      refine ⟨rfl, ⟨by rw [has_set]; exact hh, get_set_eq hh, trivial, trivial⟩, by rw [set_len, new_len]; rfl, by rw [set_limit]; rfl, by simp only [pput]; omega, by simp only [pput]; omega, by simp [pput, PT.ids], ?_, ?_⟩
      · intro j hj; simp [pput, PT.ids] at hj ⊢; omega
      · intro j hj _; rw [get_set_ne (by omega), get_new]
    | nd j l r a0 =>
      have hjb := has_of hR.1
      rw [show (PT.nd j l r a0).root = j from rfl, put_0n hR.nz, hR.pushed]
      refine ⟨rfl, ⟨by rw [has_set]; exact hR.1, get_set_eq hR.1, trivial, trivial⟩, by rw [set_len]; rfl, by rw [set_limit], by simp only [pput]; omega, by simp only [pput]; omega, by simp [pput, PT.ids], ?_, ?_⟩
      · intro i hi; simp [pput, PT.ids] at hi ⊢; simp [hi]
      · intro i hi hni; simp only [PT.ids, List.mem_cons, not_or] at hni; exact get_set_ne hni.1
  | succ h ih =>
    intro A t hR hn hroom
    cases t with
    | nd j l r a0 =>
      refine put_nd hR hn _ ?_
      obtain ⟨_, _, hl, hr⟩ := hR
      simp only [PT.ids, List.nodup_cons, List.nodup_append] at hn
      cases rgt key (h + 1)
      · exact ih A l hl hn.2.1 (by omega)
      · exact ih A r hr hn.2.2.1 (by omega)
    | nil =>
      have hlt : (A.nodes.length : Int) < A.limit := by omega
      have e1 : A.next = A.nodes.length + 1 := by simp [Ar.next, hlt]
      have e2 : A.alloc = A.new := by simp [Ar.alloc, hlt]
      have hh : A.new.has (A.nodes.length + 1) = true := by rw [has_iff, new_len]; omega
      have eg : A.new.get (A.nodes.length + 1) = .z := by rw [get_new]; exact get_out (by omega)
      have hR1 : Rep A.new (.nd (A.nodes.length + 1) .nil .nil .z) := ⟨hh, eg, trivial, trivial⟩
      have hl1 : (A.new.nodes.length : Int) = A.nodes.length + 1 := by rw [new_len]; omega
      have hp := ih A.new .nil trivial (by simp [PT.ids]) (by rw [hl1]; show _ ≤ A.limit; omega)
      have hq := put_nd (key := key) (a := a) (h := h) hR1 (by simp [PT.ids]) A.new.nodes.length (by simp only [ite_self]; exact hp)
      have ep : A.put key a (h + 1) PT.nil.root = A.new.put key a (h + 1) (A.nodes.length + 1) := by
        have hz : ¬ ((A.nodes.length : Int) + 1 = 0) := by omega
        simp only [Ar.put, show PT.nil.root = 0 from rfl, if_true, e1, e2, hz, if_false]
      have eq : pput key a (h + 1) A.nodes.length .nil = pput key a (h + 1) A.new.nodes.length (.nd (A.nodes.length + 1) .nil .nil .z) := by
        simp only [pput, hl1]; cases rgt key (h + 1) <;> rfl
      have e2q : (pput key a (h + 1) A.new.nodes.length (.nd (A.nodes.length + 1) .nil .nil .z)).2 = (pput key a h A.new.nodes.length .nil).2 := by
        simp only [pput]; cases rgt key (h + 1) <;> rfl
      rw [ep, eq]
      have h1 := hp.lo; have h2 := hp.hi
      rw [← e2q] at h1 h2
      refine ⟨hq.root, hq.rep, hq.len, hq.limit, by omega, by omega, hq.nodup, ?_, ?_⟩
      · intro j hj
        rcases hq.ids j hj with h3 | h3
        · simp [PT.ids] at h3; right; omega
        · right; omega
      · intro j hj _
        rw [hq.get j (by omega) (by simp [PT.ids]; omega), get_new]

/-! ### what a tree holds -/
def toL : Nat → PT → Int → List (Int × Int)
  | _, .nil, _ => []
  | 0, .nd _ _ _ a, lo => [(lo, a.s)]
  | h + 1, .nd _ l r _, lo => toL h l lo ++ toL h r (lo + pw h)
def lget (k : Int) : List (Int × Int) → Option Int
  | [] => none
  | (k', v) :: m => if k = k' then some v else lget k m
def ins (k v : Int) : List (Int × Int) → List (Int × Int)
  | [] => [(k, v)]
  | (k', v') :: m => if k < k' then (k, v) :: (k', v') :: m else if k = k' then (k, v) :: m else (k', v') :: ins k v m
def PT.isN : PT → Bool
  | .nil => true
  | .nd _ _ _ _ => false
/-- A tree as the law builds it. -/
def WF : Nat → PT → Prop
  | _, .nil => True
  | 0, .nd _ l r a => l = .nil ∧ r = .nil ∧ a = ⟨1, a.s, a.s, a.s⟩
  | h + 1, .nd _ l r a => WF h l ∧ WF h r ∧ a = l.agg.merge r.agg ∧ (l.isN = true → r.isN = false)
theorem toL_nil {h : Nat} {lo : Int} : toL h .nil lo = [] := by cases h <;> rfl
theorem toL_bd (h : Nat) : ∀ (t : PT) (lo : Int), ∀ p ∈ toL h t lo, lo ≤ p.1 ∧ p.1 < lo + pw h := by
  induction h with
  | zero =>
    intro t lo p hp
    cases t with
    | nil => simp [toL] at hp
    | nd j l r a => simp [toL] at hp; subst hp; have := pw_pos 0; simp; omega
  | succ h ih =>
    intro t lo p hp
    cases t with
    | nil => simp [toL] at hp
    | nd j l r a =>
      simp only [toL, List.mem_append] at hp
      have := pw_succ h; have := pw_pos h
      rcases hp with hp | hp
      · have := ih _ _ p hp; omega
      · have := ih _ _ p hp; omega
theorem toL_sorted (h : Nat) : ∀ (t : PT) (lo : Int), (toL h t lo).Pairwise fun p q => p.1 < q.1 := by
  induction h with
  | zero => intro t lo; cases t <;> simp [toL]
  | succ h ih =>
    intro t lo
    cases t with
    | nil => simp [toL]
    | nd j l r a =>
      simp only [toL]
      rw [List.pairwise_append]
      refine ⟨ih _ _, ih _ _, fun p hp q hq => ?_⟩
      have h1 := toL_bd h _ _ p hp; have h2 := toL_bd h _ _ q hq
      omega
theorem lget_append {k : Int} {X Y : List (Int × Int)} : lget k (X ++ Y) = (lget k X).or (lget k Y) := by
  induction X with
  | nil => rfl
  | cons p X ih => obtain ⟨k', v⟩ := p; simp only [List.cons_append, lget]; split <;> simp [ih]
theorem lget_none {k : Int} {X : List (Int × Int)} (h : ∀ p ∈ X, p.1 ≠ k) : lget k X = none := by
  induction X with
  | nil => rfl
  | cons p X ih =>
    obtain ⟨k', v⟩ := p
    have := h (k', v) (by simp)
    simp only [lget]; rw [if_neg (fun e => this e.symm)]
    exact ih (fun q hq => h q (by simp [hq]))
theorem lget_mem {k v : Int} {X : List (Int × Int)} (hs : X.Pairwise fun p q => p.1 < q.1) (h : (k, v) ∈ X) : lget k X = some v := by
  induction X with
  | nil => simp at h
  | cons p X ih =>
    obtain ⟨k', v'⟩ := p
    rw [List.pairwise_cons] at hs
    rcases List.mem_cons.1 h with e | h
    · cases e; simp [lget]
    · have := hs.1 _ h
      simp only [lget]; rw [if_neg (by simp at this; omega)]
      exact ih hs.2 h
theorem ins_hi {k v : Int} {X Y : List (Int × Int)} (h : ∀ p ∈ X, p.1 < k) : ins k v (X ++ Y) = X ++ ins k v Y := by
  induction X with
  | nil => rfl
  | cons p X ih =>
    obtain ⟨k', v'⟩ := p
    have := h (k', v') (by simp)
    simp only [List.cons_append, ins]
    rw [if_neg (by simp at this; omega), if_neg (by simp at this; omega), ih (fun q hq => h q (by simp [hq]))]
theorem ins_lo {k v : Int} {X Y : List (Int × Int)} (h : ∀ p ∈ Y, k < p.1) : ins k v (X ++ Y) = ins k v X ++ Y := by
  induction X with
  | nil =>
    cases Y with
    | nil => rfl
    | cons p Y => obtain ⟨k', v'⟩ := p; have := h (k', v') (by simp); simp at this; simp [ins, this]
  | cons p X ih =>
    obtain ⟨k', v'⟩ := p
    simp only [List.cons_append, ins]
    split
    · rfl
    · split
      · rfl
      · rw [ih]; rfl
theorem lget_ins {k v k' : Int} {X : List (Int × Int)} : lget k' (ins k v X) = if k' = k then some v else lget k' X := by
  induction X with
  | nil => simp [ins, lget]
  | cons p X ih =>
    obtain ⟨a, b⟩ := p
    simp only [ins]
    split
    · simp [lget]
    · split
      · rename_i h1 h2; subst h2; simp only [lget]; split <;> rfl
      · simp only [lget, ih]; split
        · rename_i h1 h2 h3; subst h3; rw [if_neg (fun e => h2 e.symm)]
        · rfl
theorem ins_len {k v : Int} {X : List (Int × Int)} (hs : X.Pairwise fun p q => p.1 < q.1) : (ins k v X).length = if (lget k X).isSome then X.length else X.length + 1 := by
  induction X with
  | nil => simp [ins, lget]
  | cons p X ih =>
    obtain ⟨a, b⟩ := p
    rw [List.pairwise_cons] at hs
    simp only [ins]
    split
    · rename_i h1
      have : lget k ((a, b) :: X) = none := lget_none (fun p hp => by
        rcases List.mem_cons.1 hp with rfl | h
        · simp; omega
        · have := hs.1 p h; simp at this; omega)
      rw [this]; simp
    · split
      · rename_i h2; subst h2; simp [lget]
      · rename_i h1 h2
        simp only [List.length_cons, lget, if_neg h2, ih hs.2]
        split <;> rfl
theorem mget_mput {k v k' : Int} {m : List (Int × Int)} : Z.mget k' (Z.mput k v m) = if k' = k then some v else Z.mget k' m := by
  induction m with
  | nil => simp [Z.mput, Z.mget]
  | cons p X ih =>
    obtain ⟨a, b⟩ := p
    simp only [Z.mput]
    split
    · rename_i h2; subst h2; simp only [Z.mget]; split <;> rfl
    · simp only [Z.mget, ih]; split
      · rename_i h2 h3; subst h3; rw [if_neg (fun e => h2 e.symm)]
      · rfl
theorem mput_length {k v : Int} {m : List (Int × Int)} : (Z.mput k v m).length = if (Z.mget k m).isSome then m.length else m.length + 1 := by
  induction m with
  | nil => simp [Z.mput, Z.mget]
  | cons p X ih =>
    obtain ⟨a, b⟩ := p
    simp only [Z.mput]
    split
    · rename_i h2; subst h2; simp [Z.mget]
    · rename_i h2
      simp only [List.length_cons, Z.mget, if_neg h2, ih]
      split <;> rfl
theorem mput_mem {k v : Int} {m : List (Int × Int)} {p : Int × Int} (h : p ∈ Z.mput k v m) : p = (k, v) ∨ p ∈ m := by
  induction m with
  | nil => simp [Z.mput] at h; exact .inl h
  | cons q X ih =>
    obtain ⟨a, b⟩ := q
    simp only [Z.mput] at h
    split at h
    · rcases List.mem_cons.1 h with h | h
      · exact .inl h
      · exact .inr (by simp [h])
    · rcases List.mem_cons.1 h with h | h
      · exact .inr (by simp [h])
      · rcases ih h with h | h
        · exact .inl h
        · exact .inr (by simp [h])
/-- No key twice. -/
def ND (m : List (Int × Int)) : Prop := m.Pairwise fun p q => p.1 ≠ q.1
theorem mput_nd {k v : Int} {m : List (Int × Int)} (h : ND m) : ND (Z.mput k v m) := by
  unfold ND at *
  induction m with
  | nil => simp [Z.mput]
  | cons q X ih =>
    obtain ⟨a, b⟩ := q
    rw [List.pairwise_cons] at h
    simp only [Z.mput]
    split
    · rename_i h2; subst h2; rw [List.pairwise_cons]; exact h
    · rename_i h2
      rw [List.pairwise_cons]
      refine ⟨fun p hp => ?_, ih h.2⟩
      rcases mput_mem hp with rfl | hp
      · exact fun e => h2 e.symm
      · exact h.1 p hp
theorem mget_mem {k v : Int} {m : List (Int × Int)} (hs : ND m) (h : (k, v) ∈ m) : Z.mget k m = some v := by
  unfold ND at hs
  induction m with
  | nil => simp at h
  | cons p X ih =>
    obtain ⟨k', v'⟩ := p
    rw [List.pairwise_cons] at hs
    rcases List.mem_cons.1 h with e | h
    · cases e; simp [Z.mget]
    · have := hs.1 _ h
      simp only [Z.mget]; rw [if_neg (fun e => this e.symm)]
      exact ih hs.2 h

theorem rgt_iff {lo key : Int} {h : Nat} (hm : lo % pw (h + 1) = 0) (h1 : lo ≤ key) (h2 : key < lo + pw (h + 1)) : (rgt key (h + 1) = true ↔ lo + pw h ≤ key) := by
  have hp := pw_pos h
  rw [pw_succ] at hm h2
  obtain ⟨m, e⟩ := Int.dvd_of_emod_eq_zero hm
  have e2 : lo = pw h * (2 * m) := by rw [e, Int.mul_comm 2 (pw h), Int.mul_assoc]
  obtain ⟨d, hd⟩ : ∃ d, key = d + pw h * (2 * m) := ⟨key - lo, by omega⟩
  have e3 : key / pw h = d / pw h + 2 * m := by rw [hd, Int.add_mul_ediv_left _ _ (by omega)]
  simp only [rgt, decide_eq_true_eq, Nat.add_sub_cancel]
  rw [e3]
  by_cases hlt : d < pw h
  · rw [Int.ediv_eq_zero_of_lt (by omega) hlt]
    constructor
    · intro hx; omega
    · intro hx; omega
  · have : d / pw h = 1 := by
      rw [show d = (d - pw h) + pw h * 1 by omega, Int.add_mul_ediv_left _ _ (by omega), Int.ediv_eq_zero_of_lt (by omega) (by omega)]
      rfl
    rw [this]
    constructor
    · intro _; omega
    · intro _; omega
theorem pput_isN {key : Int} {a : Agg} {h : Nat} {N : Int} {t : PT} : (pput key a h N t).1.isN = false := by
  cases h with
  | zero => cases t <;> rfl
  | succ h => cases t <;> (simp only [pput]; cases rgt key (h + 1) <;> rfl)
theorem pput_spec (key v : Int) (h : Nat) : ∀ (N : Int) (t : PT) (lo : Int), WF h t → lo ≤ key → key < lo + pw h → lo % pw h = 0 →
    WF h (pput key ⟨1, v, v, v⟩ h N t).1 ∧ toL h (pput key ⟨1, v, v, v⟩ h N t).1 lo = ins key v (toL h t lo) := by
  induction h with
  | zero =>
    intro N t lo hw h1 h2 _
    have : pw 0 = 1 := rfl
    have e : key = lo := by omega
    subst e
    cases t with
    | nil => exact ⟨⟨rfl, rfl, rfl⟩, rfl⟩
    | nd j l r a => exact ⟨⟨rfl, rfl, rfl⟩, by simp [pput, toL, ins]⟩
  | succ h ih =>
    intro N t lo hw h1 h2 hm
    have hr := rgt_iff hm h1 h2
    have hp := pw_pos h
    have hs := pw_succ h
    have hm1 : lo % pw h = 0 := by
      rw [hs] at hm
      obtain ⟨m, e⟩ := Int.dvd_of_emod_eq_zero hm
      exact Int.emod_eq_zero_of_dvd ⟨2 * m, by rw [e, Int.mul_comm 2 (pw h), Int.mul_assoc]⟩
    have hm2 : (lo + pw h) % pw h = 0 := by rw [Int.add_emod_right]; exact hm1
    have key2 : ∀ (N j : Int) (l r : PT) (a : Agg), WF h l → WF h r → WF (h + 1) (pput key ⟨1, v, v, v⟩ (h + 1) N (.nd j l r a)).1 ∧ toL (h + 1) (pput key ⟨1, v, v, v⟩ (h + 1) N (.nd j l r a)).1 lo = ins key v (toL h l lo ++ toL h r (lo + pw h)) := by
      intro N j l r a hl hrr
      cases e : rgt key (h + 1) with
      | true =>
        have hk := hr.1 e
        obtain ⟨w1, w2⟩ := ih N r (lo + pw h) hrr hk (by omega) hm2
        simp only [pput, e, toL, WF]
        refine ⟨⟨hl, w1, trivial, fun _ => pput_isN⟩, ?_⟩
        rw [w2, ins_hi]
        intro p hp'
        have := toL_bd h l lo p hp'; omega
      | false =>
        have hk : ¬ lo + pw h ≤ key := fun hc => by rw [hr.2 hc] at e; cases e
        obtain ⟨w1, w2⟩ := ih N l lo hl h1 (by omega) hm1
        simp only [pput, e, toL, WF]
        refine ⟨⟨w1, hrr, trivial, fun hc => by rw [pput_isN] at hc; cases hc⟩, ?_⟩
        rw [w2, ins_lo]
        intro p hp'
        have := toL_bd h r (lo + pw h) p hp'; omega
    cases t with
    | nd j l r a => exact key2 N j l r a hw.1 hw.2.1
    | nil =>
      have hn : WF h .nil := by cases h <;> trivial
      have := key2 (N + 1) (N + 1) .nil .nil .z hn hn
      have eq : (pput key ⟨1, v, v, v⟩ (h + 1) N .nil).1 = (pput key ⟨1, v, v, v⟩ (h + 1) (N + 1) (.nd (N + 1) .nil .nil .z)).1 := by
        simp only [pput]; cases rgt key (h + 1) <;> rfl
      rw [eq]
      simpa [toL_nil, toL] using this
theorem merge_c {a b : Agg} (ha : 0 ≤ a.c) (hb : 0 ≤ b.c) (h : a.c + b.c ≤ 1000000) : (a.merge b).c = a.c + b.c := by
  unfold Agg.merge
  split
  · split
    · show (0 : Int) = _; omega
    · omega
  · split
    · omega
    · exact IntWalk.i64_in _ (by omega)
theorem agg_c (h : Nat) : ∀ (t : PT) (lo : Int), WF h t → (toL h t lo).length ≤ 1000000 → t.agg.c = (toL h t lo).length ∧ (t.isN = false → 1 ≤ t.agg.c) := by
  induction h with
  | zero =>
    intro t lo hw _
    cases t with
    | nil => exact ⟨rfl, fun h => by cases h⟩
    | nd j l r a => obtain ⟨_, _, e⟩ := hw; simp only [PT.agg, toL]; rw [e]; exact ⟨rfl, fun _ => by simp⟩
  | succ h ih =>
    intro t lo hw hl
    cases t with
    | nil => exact ⟨rfl, fun h => by cases h⟩
    | nd j l r a =>
      obtain ⟨wl, wr', e, hn⟩ := hw
      simp only [toL, List.length_append] at hl ⊢
      obtain ⟨l1, l2⟩ := ih l lo wl (by omega)
      obtain ⟨r1, r2⟩ := ih r (lo + pw h) wr' (by omega)
      have hc : a.c = l.agg.c + r.agg.c := by rw [e]; exact merge_c (by omega) (by omega) (by omega)
      refine ⟨by show a.c = _; omega, fun _ => ?_⟩
      show 1 ≤ a.c
      cases hb : l.isN with
      | true => have := r2 (hn hb); omega
      | false => have := l2 hb; omega
theorem fold_nk (s t : Int) (h : Nat) : ∀ (A : Ar) (T : PT) (lo : Int), Rep A T → (A.fold s t h T.root lo).2 = A := by
  induction h with
  | zero => intro A T lo _; simp only [Ar.fold]; (repeat' split) <;> rfl
  | succ h ih =>
    intro A T lo hR
    cases T with
    | nil => rw [fold_z (i := PT.nil.root) rfl]
    | nd j l r a =>
      have hp := hR.pushed; have hn := hR.node
      obtain ⟨_, _, hl, hr⟩ := id hR
      rw [show (PT.nd j l r a).root = j from rfl]
      cases ho : outB lo (h + 1) s t with
      | true => rw [fold_o ho]
      | false =>
        cases hi : insB lo (h + 1) s t with
        | true => rw [fold_i hR.nz ho hi]
        | false => rw [fold_s hR.nz ho hi, hp, hn]; simp only; rw [ih A l lo hl, ih A r _ hr]
def pick (o : Option Int) : Agg := match o with | some v => ⟨1, v, v, v⟩ | none => .z
theorem merge_zr {a : Agg} (h : a = .z ∨ 1 ≤ a.c) : Agg.merge .z a = a := by
  rcases h with rfl | h
  · rfl
  · rw [merge_zb (by decide) (by omega)]
theorem merge_zl {a : Agg} (h : a = .z ∨ 1 ≤ a.c) : Agg.merge a .z = a := by
  rcases h with rfl | h
  · rfl
  · rw [merge_az (by omega) (by decide)]
theorem pick_ok (o : Option Int) : pick o = .z ∨ 1 ≤ (pick o).c := by cases o <;> simp [pick]
theorem fold_get (k : Int) (h : Nat) : ∀ (A : Ar) (T : PT) (lo : Int), Rep A T → WF h T → (A.fold k k h T.root lo).1 = pick (lget k (toL h T lo)) := by
  induction h with
  | zero =>
    intro A T lo hR hw
    cases T with
    | nil => rw [fold_z (i := PT.nil.root) rfl]; rfl
    | nd j l r a =>
      obtain ⟨_, _, e⟩ := hw
      rw [show (PT.nd j l r a).root = j from rfl]
      cases ho : outB lo 0 k k with
      | true =>
        rw [fold_o ho]
        have hk : ¬ k = lo := by
          have e1 : pw 0 = 1 := rfl
          intro hk; subst hk
          simp [outB, e1] at ho
        simp [toL, lget, hk, pick, Agg.z]
      | false =>
        cases hi : insB lo 0 k k with
        | false => exact (io_0 ho hi).elim
        | true =>
          rw [fold_i hR.nz ho hi, hR.2.1]
          have hk : k = lo := by
            have e1 : pw 0 = 1 := rfl
            simp [insB, e1] at hi; omega
          simp only [toL, lget, hk, if_true, pick]
          exact e
  | succ h ih =>
    intro A T lo hR hw
    cases T with
    | nil => rw [fold_z (i := PT.nil.root) rfl]; rfl
    | nd j l r a =>
      have hp := hR.pushed; have hn := hR.node
      obtain ⟨_, _, hl, hr⟩ := id hR
      obtain ⟨wl, wr', _, _⟩ := hw
      have hpw := pw_pos h; have hps := pw_succ h
      rw [show (PT.nd j l r a).root = j from rfl]
      cases ho : outB lo (h + 1) k k with
      | true =>
        rw [fold_o ho]
        have hk : k < lo ∨ lo + pw (h + 1) - 1 < k := by
          simp only [outB, Bool.or_eq_true, decide_eq_true_eq] at ho
          omega
        rw [lget_none]
        · rfl
        · intro p hp'
          have := toL_bd (h + 1) (.nd j l r a) lo p hp'
          omega
      | false =>
        have hi : insB lo (h + 1) k k = false := by
          simp only [outB, Bool.or_eq_false_iff, decide_eq_false_iff_not] at ho
          simp only [insB, Bool.and_eq_false_iff, decide_eq_false_iff_not]
          omega
        rw [fold_s hR.nz ho hi, hp, hn]
        simp only
        rw [fold_nk k k h A l lo hl, ih A l lo hl wl, ih A r _ hr wr']
        simp only [toL, lget_append]
        by_cases hk : k < lo + pw h
        · have : lget k (toL h r (lo + pw h)) = none := lget_none fun p hp' => by have := toL_bd h r _ p hp'; omega
          rw [this, Option.or_none]
          exact merge_zl (pick_ok _)
        · have : lget k (toL h l lo) = none := lget_none fun p hp' => by have := toL_bd h l _ p hp'; omega
          rw [this, Option.none_or]
          exact merge_zr (pick_ok _)
theorem walk_toL (h : Nat) : ∀ (A : Ar) (T : PT) (lo : Int), Rep A T → WF h T → (toL h T lo).length ≤ 1000000 → A.walk h T.root lo = (toL h T lo, A) := by
  induction h with
  | zero =>
    intro A T lo hR hw hlen
    cases T with
    | nil => rw [walk_z (i := PT.nil.root) rfl]; rfl
    | nd j l r a =>
      have hc := (agg_c 0 _ lo hw hlen).2 rfl
      rw [show (PT.nd j l r a).root = j from rfl, walk_l hR.nz (by rw [hR.2.1]; show ¬ a.c = 0; have : 1 ≤ a.c := hc; omega), hR.2.1]
      rfl
  | succ h ih =>
    intro A T lo hR hw hlen
    cases T with
    | nil => rw [walk_z (i := PT.nil.root) rfl]; rfl
    | nd j l r a =>
      have hc := (agg_c (h + 1) _ lo hw hlen).2 rfl
      have hp := hR.pushed; have hn := hR.node
      obtain ⟨_, _, hl, hr⟩ := id hR
      obtain ⟨wl, wr', _, _⟩ := hw
      simp only [toL, List.length_append] at hlen ⊢
      rw [show (PT.nd j l r a).root = j from rfl, walk_s hR.nz (by rw [hR.2.1]; show ¬ a.c = 0; have : 1 ≤ a.c := hc; omega), hp, hn]
      simp only
      rw [ih A l lo hl wl (by omega), ih A r _ hr wr' (by omega)]
theorem miss_le (A : Ar) (key : Int) (h : Nat) : ∀ i, A.miss key h i ≤ h + 1 := by
  induction h with
  | zero => intro i; simp only [Ar.miss]; split <;> omega
  | succ h ih =>
    intro i; simp only [Ar.miss]
    split
    · omega
    · have := ih ((A.get i).child key (h + 1)); omega

/-- What stands behind i puttings. -/
structure Inv (ks vs : List Int) (i : Nat) (T : PT) : Prop where
  root : T.root = (stp ks vs i).1
  rep : Rep (stp ks vs i).2 T
  nodup : T.ids.Nodup
  wf : WF 32 T
  len : (stp ks vs i).2.nodes.length ≤ 33 * i
  limit : (stp ks vs i).2.limit = 1048576
  same : ∀ k, lget k (toL 32 T 0) = Z.mget k (mp ks vs i)
  count : (toL 32 T 0).length = (mp ks vs i).length
theorem mp_nd (ks vs : List Int) : ∀ i, ND (mp ks vs i)
  | 0 => List.Pairwise.nil
  | i + 1 => mput_nd (mp_nd ks vs i)
theorem step_ok {ks vs : List Int} (hkb : ∀ i, 0 ≤ ks.getD i 0 ∧ ks.getD i 0 < 4294967296) {i : Nat} (hi : i < 40) {T : PT} (H : Inv ks vs i T) :
    (∃ T', Inv ks vs (i + 1) T') ∧ (stp ks vs i).2.putE (stp ks vs i).1 (ks.getD i 0) = 0 ∧ (stp ks vs i).2.nodes.length ≤ (stp ks vs (i + 1)).2.nodes.length ∧ (stp ks vs (i + 1)).2.nodes.length ≤ (stp ks vs i).2.nodes.length + 33 := by
  have hlen := H.len
  have hlim := H.limit
  have hm := miss_le (stp ks vs i).2 (ks.getD i 0) 32 (stp ks vs i).1
  have hnf : ¬ (stp ks vs i).2.miss (ks.getD i 0) 32 (stp ks vs i).1 > (stp ks vs i).2.limit - (stp ks vs i).2.nodes.length := by omega
  have e : stp ks vs (i + 1) = (stp ks vs i).2.put (ks.getD i 0) ⟨1, vs.getD i 0, vs.getD i 0, vs.getD i 0⟩ 32 (stp ks vs i).1 := putT_f hnf
  have hp := put_rep (ks.getD i 0) ⟨1, vs.getD i 0, vs.getD i 0, vs.getD i 0⟩ 32 (stp ks vs i).2 T H.rep H.nodup (by omega)
  rw [H.root, ← e] at hp
  have hk := hkb i
  have hw := pput_spec (ks.getD i 0) (vs.getD i 0) 32 (stp ks vs i).2.nodes.length T 0 H.wf hk.1 (by rw [pw_32]; omega) (by simp)
  have h1 := hp.len; have h2 := hp.lo; have h3 := hp.hi
  have hs := toL_sorted 32 T 0
  refine ⟨⟨_, hp.root.symm, hp.rep, hp.nodup, hw.1, by omega, by rw [hp.limit]; exact hlim, fun k => ?_, ?_⟩, putE_f hnf, by omega, by omega⟩
  · rw [hw.2, lget_ins]
    show _ = Z.mget k (Z.mput _ _ _)
    rw [mget_mput, H.same]
  · rw [hw.2, ins_len hs, H.same, H.count]
    show _ = (Z.mput _ _ _).length
    rw [mput_length]
theorem inv_all {ks vs : List Int} (hkb : ∀ i, 0 ≤ ks.getD i 0 ∧ ks.getD i 0 < 4294967296) : ∀ i, i ≤ 40 → ∃ T, Inv ks vs i T
  | 0, _ => ⟨.nil, rfl, trivial, by simp [PT.ids], trivial, by simp [stp, ini], rfl, fun k => by rw [toL_nil]; rfl, by rw [toL_nil]; rfl⟩
  | i + 1, h => by
    obtain ⟨T, H⟩ := inv_all hkb i (by omega)
    exact (step_ok hkb (by omega) H).1
theorem lf (ks vs : List Int) (n : Nat) (hn : n ≤ 40) (hkb : ∀ i, 0 ≤ ks.getD i 0 ∧ ks.getD i 0 < 4294967296) : LF ks vs n := by
  obtain ⟨T, H⟩ := inv_all (vs := vs) hkb n hn
  have hml := mp_len ks vs n
  have hlen : (toL 32 T 0).length ≤ 1000000 := by rw [H.count]; omega
  have hwalk := walk_toL 32 (stp ks vs n).2 T 0 H.rep H.wf hlen
  rw [H.root] at hwalk
  have hpairs : (stp ks vs n).2.pairs (stp ks vs n).1 = toL 32 T 0 := by unfold Ar.pairs; rw [hwalk]
  have hget : ∀ k, (stp ks vs n).2.foldA (stp ks vs n).1 k k = pick (Z.mget k (mp ks vs n)) := fun k => by
    unfold Ar.foldA
    rw [← H.root, fold_get k 32 _ T 0 H.rep H.wf, H.same]
  have hs := toL_sorted 32 T 0
  refine ⟨fun i hi => ?_, fun s t => ?_, ?_, fun i k v hm => ?_, fun x _ => ?_, ?_, fun i k v hp => ?_, fun i k v k' v' h1 h2 => ?_, ?_⟩
  · obtain ⟨T', H'⟩ := inv_all (vs := vs) hkb i (by omega)
    exact (step_ok hkb (by omega) H').2
  · unfold Ar.foldT; rw [← H.root]; exact fold_nk s t 32 _ T 0 H.rep
  · unfold Ar.walked; rw [hwalk]
  · rw [hget, mget_mem (mp_nd ks vs n) (List.mem_of_getElem? hm)]; exact ⟨rfl, rfl⟩
  · rw [hget]
    cases Z.mget x (mp ks vs n) <;> rfl
  · rw [hpairs, H.count]
  · rw [hpairs] at hp
    rw [← H.same]; exact lget_mem hs (List.mem_of_getElem? hp)
  · rw [hpairs] at h1 h2
    have := List.pairwise_iff_getElem.1 hs
    obtain ⟨g1, e1⟩ := List.getElem?_eq_some_iff.1 h1
    obtain ⟨g2, e2⟩ := List.getElem?_eq_some_iff.1 h2
    have := this i (i + 1) g1 g2 (by omega)
    rw [e1, e2] at this; exact this
  · unfold Ar.foldA
    rw [← H.root]
    cases T with
    | nil =>
      rw [fold_z (i := PT.nil.root) rfl]
      have := H.count; rw [toL_nil] at this
      simp at this; rw [← this]; rfl
    | nd j l r a =>
      rw [show (PT.nd j l r a).root = j from rfl, fold_i H.rep.nz (by simp [outB, pw_32]) (by simp [insB, pw_32]), H.rep.2.1]
      have := (agg_c 32 _ 0 H.wf hlen).1
      rw [← H.count]; exact this
end Go.Proofs.Ytggndcaehjdklaa
