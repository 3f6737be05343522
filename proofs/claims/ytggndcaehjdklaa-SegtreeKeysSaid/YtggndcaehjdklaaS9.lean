/- Segtree: the law's walk. -/
import Derived.Test.YtggndcaehjdklaaS8
namespace Go.Proofs.Ytggndcaehjdklaa
open Go Go.RowKit

def ini : Ar := ⟨[], 1048576⟩
def stp (ks vs : List Int) : Nat → Int × Ar
  | 0 => (0, ini)
  | i + 1 => (stp ks vs i).2.putT (stp ks vs i).1 (ks.getD i 0) (vs.getD i 0)
def mp (ks vs : List Int) : Nat → List (Int × Int)
  | 0 => []
  | i + 1 => Z.mput (ks.getD i 0) (vs.getD i 0) (mp ks vs i)
theorem stp_ok (ks vs : List Int) : ∀ i, (0 ≤ (stp ks vs i).1 ∧ (stp ks vs i).1 ≤ 4194304) ∧ (stp ks vs i).2.ok
  | 0 => ⟨by simp [stp], by simp [stp, ini], by simp [stp, ini]⟩
  | i + 1 => putT_ok (stp_ok ks vs i).2 (stp_ok ks vs i).1
/-- What the plain law says. -/
structure LF (ks vs : List Int) (n : Nat) : Prop where
  step : ∀ i, i < n → (stp ks vs i).2.putE (stp ks vs i).1 (ks.getD i 0) = 0 ∧ (stp ks vs i).2.nodes.length ≤ (stp ks vs (i + 1)).2.nodes.length ∧ (stp ks vs (i + 1)).2.nodes.length ≤ (stp ks vs i).2.nodes.length + 33
  fold : ∀ s t, (stp ks vs n).2.foldT (stp ks vs n).1 s t = (stp ks vs n).2
  walked : (stp ks vs n).2.walked (stp ks vs n).1 = (stp ks vs n).2
  get : ∀ (i : Nat) k v, (mp ks vs n)[i]? = some (k, v) → ((stp ks vs n).2.foldA (stp ks vs n).1 k k).s = v ∧ ((stp ks vs n).2.foldA (stp ks vs n).1 k k).c = 1
  ask : ∀ x, 0 ≤ x ∧ x < 4294967296 → decide (((stp ks vs n).2.foldA (stp ks vs n).1 x x).c = 1) = (Z.mget x (mp ks vs n)).isSome
  len : ((stp ks vs n).2.pairs (stp ks vs n).1).length = (mp ks vs n).length
  pair : ∀ (i : Nat) k v, ((stp ks vs n).2.pairs (stp ks vs n).1)[i]? = some (k, v) → Z.mget k (mp ks vs n) = some v
  sorted : ∀ (i : Nat) k v k' v', ((stp ks vs n).2.pairs (stp ks vs n).1)[i]? = some (k, v) → ((stp ks vs n).2.pairs (stp ks vs n).1)[i + 1]? = some (k', v') → k < k'
  count : ((stp ks vs n).2.foldA (stp ks vs n).1 0 4294967295).c = (mp ks vs n).length
theorem mput_len (k v : Int) (m : List (Int × Int)) : (Z.mput k v m).length ≤ m.length + 1 := by
  induction m with
  | nil => simp [Z.mput]
  | cons p m ih => obtain ⟨k', v'⟩ := p; simp only [Z.mput]; split <;> simp <;> omega
theorem mp_len (ks vs : List Int) : ∀ i, (mp ks vs i).length ≤ i
  | 0 => by simp [mp]
  | i + 1 => by have := mp_len ks vs i; have := mput_len (ks.getD i 0) (vs.getD i 0) (mp ks vs i); simp only [mp]; omega
theorem getmap {ik : IntKind} {l : List Int} {i : Nat} (h : i < l.length) : (l.map (Value.int ik))[i]? = some (.int ik (l.getD i 0)) := by
  simp [List.getElem?_eq_getElem h, List.getD]
theorem xor_bd (x y : Int) : 0 ≤ Z.bitsOf .xor .u32 x y ∧ Z.bitsOf .xor .u32 x y < 4294967296 := by
  unfold Z.bitsOf
  rw [IntKind.wrap_u32]; omega
theorem split_pair {l : List (Int × Int)} {j : Nat} {p : Int × Int} (h : l[j]? = some p) : pcells l = pcells (l.take j) ++ ([.int .u32 p.1, .int .i64 p.2] ++ pcells (l.drop (j + 1))) := by
  have hj : j < l.length := by
    rcases Nat.lt_or_ge j l.length with h' | h'
    · exact h'
    · rw [List.getElem?_eq_none h'] at h; cases h
  have e : l[j] = p := by rw [List.getElem?_eq_getElem hj] at h; exact Option.some.inj h
  conv => lhs; rw [← List.take_append_drop j l, List.drop_eq_getElem_cons hj]
  simp only [pcells, List.flatMap_append, List.flatMap_cons, e]
theorem slc_pair {l : List (Int × Int)} {j : Nat} {p : Int × Int} (sp : List Value) (h : l[j]? = some p) : Z.slc (pcells l ++ sp) (j * 2) 2 = some [.int .u32 p.1, .int .i64 p.2] := by
  have hj : j ≤ l.length := by
    rcases Nat.lt_or_ge j l.length with h' | h'
    · omega
    · rw [List.getElem?_eq_none h'] at h; cases h
  rw [split_pair h]
  simp only [List.append_assoc]
  exact slc_app _ _ _ _ _ (by rw [pcells_len]; simp; omega) rfl
theorem cell_pair {l : List (Int × Int)} {j : Nat} {p : Int × Int} (sp : List Value) (h : l[j]? = some p) : (pcells l ++ sp)[j * 2]? = some (.int .u32 p.1) := by
  have hj : j ≤ l.length := by
    rcases Nat.lt_or_ge j l.length with h' | h'
    · omega
    · rw [List.getElem?_eq_none h'] at h; cases h
  have e : (pcells (l.take j)).length = j * 2 := by rw [pcells_len]; simp; omega
  rw [split_pair h, List.append_assoc, List.getElem?_append_right (by omega), e]
  simp

section
attribute [local irreducible] Ar.putT Ar.putE Ar.foldA Ar.foldT Ar.killT Ar.walked Ar.pairs

set_option maxHeartbeats 4000000 in
set_option maxRecDepth 100000 in
theorem law_spec (w0 : World) (p1 p2 : Option Addr) (n1 n2 cap1 cap2 : Nat) (ks vs : List Int) (hk : ks.length = n1) (hv : vs.length = n2) (hp1 : 0 < n1 → ∃ b o, p1 = some ⟨b, o, none⟩ ∧ Z.Ro w0 b o (ks.map (Value.int .u32))) (hp2 : 0 < n2 → ∃ b o, p2 = some ⟨b, o, none⟩ ∧ Z.Ro w0 b o (vs.map (Value.int .i64))) (hkb : ∀ i, 0 ≤ ks.getD i 0 ∧ ks.getD i 0 < 4294967296) (hl0 : n1 ≤ 40 → LF ks vs n1) : Z.FnD Try.prog w0 3 [.slice p1 n1 cap1, .slice p2 n2 cap2] [] (.bool true) [] := by
  refine Z.Fn.fnD ?_
  refine Z.fn_enter (n := 153) Try.func3 rfl (by rfl) (by rfl) (fun Fr => ?_)
  refine Z.j_app (by repeat (first | exact Z.App.nil | apply Z.App.cons)) ?_
  refine Z.j_seq ?_
  refine Z.j_region ?_
  refine Z.s_val (Z.pv_assign rfl) ?_
  refine Z.j_nil ?_
  refine Z.j_then ?_
  refine Z.j_seq ?_
  refine Z.j_seq ?_
  refine Z.j_region ?_
  refine Z.s_callD rfl rfl rfl isFn4 (by repeat (first | with_reducible exact Z.Takes.nil | (apply Z.Takes.cons; (repeat (first | with_reducible exact Z.Take.here | apply Z.Take.there))))) (by repeat (first | exact Z.App.nil | apply Z.App.cons)) (alive_spec _) ?_
  refine Z.s_val (Z.pv_not rfl) ?_
  refine Z.j_nil ?_
  refine Z.j_then ?_
  refine Z.j_cond rfl (fun hc21 => ?_) (fun hc21 => ?_)
  · exfalso; first | (cases hc21; done) | try (with_reducible first | replace hc21 := of_decide_eq_true hc21 | replace hc21 := of_decide_eq_false hc21 | replace hc21 := Z.nd_true hc21 | replace hc21 := Z.nd_false hc21 | replace hc21 := Z.nn_true hc21 | replace hc21 := Z.nn_false hc21 | replace hc21 := Z.nb_true hc21 | replace hc21 := Z.nb_false hc21); first | omega | (simp_all; done)
  · try (with_reducible first | replace hc21 := of_decide_eq_true hc21 | replace hc21 := of_decide_eq_false hc21 | replace hc21 := Z.nd_true hc21 | replace hc21 := Z.nd_false hc21 | replace hc21 := Z.nn_true hc21 | replace hc21 := Z.nn_false hc21 | replace hc21 := Z.nb_true hc21 | replace hc21 := Z.nb_false hc21)
    first
    | (exfalso; first | (cases hc21; done) | omega)
    | skip
      refine Z.j_skip ?_
      refine Z.j_then ?_
      refine Z.j_seq ?_
      refine Z.j_seq ?_
      refine Z.j_region ?_
      refine Z.s_val (Z.pv_move rfl) ?_
      refine Z.s_val (Z.pv_len rfl Try.underlying22) ?_
      refine Z.s_val (Z.pv_gtr rfl rfl) ?_
      refine Z.s_val (Z.pv_move rfl) ?_
      refine Z.s_split 25 rfl (fun hg25 => ?_) (fun hg25 => ?_)
      · try (with_reducible first | replace hg25 := of_decide_eq_true hg25 | replace hg25 := of_decide_eq_false hg25 | replace hg25 := Z.nd_true hg25 | replace hg25 := Z.nd_false hg25 | replace hg25 := Z.nn_true hg25 | replace hg25 := Z.nn_false hg25 | replace hg25 := Z.nb_true hg25 | replace hg25 := Z.nb_false hg25)
        first
        | (exfalso; first | (cases hg25; done) | omega)
        | skip
          refine Z.s_skip ?_
          refine Z.s_skip ?_
          refine Z.s_skip ?_
          refine Z.s_skip ?_
          refine Z.s_skip ?_
          refine Z.s_val (Z.pv_pick rfl rfl) ?_
          refine Z.j_nil ?_
          refine Z.j_then ?_
          refine Z.j_cond rfl (fun hc31 => ?_) (fun hc31 => ?_)
          · try (with_reducible first | replace hc31 := of_decide_eq_true hc31 | replace hc31 := of_decide_eq_false hc31 | replace hc31 := Z.nd_true hc31 | replace hc31 := Z.nd_false hc31 | replace hc31 := Z.nn_true hc31 | replace hc31 := Z.nn_false hc31 | replace hc31 := Z.nb_true hc31 | replace hc31 := Z.nb_false hc31)
            first
            | (exfalso; first | (cases hc31; done) | omega)
            | skip
              refine Z.j_seq ?_
              refine Z.j_region ?_
              refine Z.s_val (Z.pv_assign rfl) ?_
              refine Z.j_nil ?_
              refine Z.j_then ?_
              refine Z.j_ret ?_
              refine Z.j_then_ret ?_
              refine Z.j_done_ret (Z.rv1 (Z.rv_tmp (t := 4) rfl)) ?_
              exact Z.post_of ⟨by first | rfl | (congr 1; exact decide_eq_true (by omega)) | (congr 1; simp_all; done), rfl⟩ (by repeat (first | with_reducible exact Z.Takes.nil | (apply Z.Takes.cons; (repeat (first | with_reducible exact Z.Take.here | apply Z.Take.there))))) (by repeat (first | with_reducible exact Z.Drop.nil | apply Z.Drop.cons))
          · try (with_reducible first | replace hc31 := of_decide_eq_true hc31 | replace hc31 := of_decide_eq_false hc31 | replace hc31 := Z.nd_true hc31 | replace hc31 := Z.nd_false hc31 | replace hc31 := Z.nn_true hc31 | replace hc31 := Z.nn_false hc31 | replace hc31 := Z.nb_true hc31 | replace hc31 := Z.nb_false hc31)
            first
            | (exfalso; first | (cases hc31; done) | omega)
            | skip
              have hl := hl0 (by omega)
              refine Z.j_skip ?_
              refine Z.j_then ?_
              refine Z.j_seq ?_
              refine Z.j_region ?_
              refine Z.s_call rfl rfl rfl isFn5 (by repeat (first | with_reducible exact Z.Takes.nil | (apply Z.Takes.cons; (repeat (first | with_reducible exact Z.Take.here | apply Z.Take.there))))) (new_spec _ _ (by omega)) ?_
              rintro _ _ ⟨tb, ab, rfl, rfl⟩
              refine Z.j_app (by repeat (first | exact Z.App.nil | apply Z.App.cons)) ?_
              refine Z.s_val (Z.pv_move rfl) ?_
              refine Z.s_val (Z.pv_extract rfl rfl) ?_
              refine Z.s_val (Z.pv_extract rfl rfl) ?_
              refine Z.s_val (Z.pv_assign rfl) ?_
              refine Z.s_val (Z.pv_assign rfl) ?_
              refine Z.j_nil ?_
              refine Z.j_then ?_
              refine Z.j_seq ?_
              refine Z.j_region ?_
              refine Z.s_makeMap (Value.int .u32) (Value.int .i64) (fun b36 => ?_)
              refine Z.s_val (Z.pv_assign rfl) ?_
              refine Z.j_nil ?_
              refine Z.j_then ?_
              refine Z.j_seq ?_
              refine Z.j_region ?_
              refine Z.s_val (Z.pv_assign rfl) ?_
              refine Z.j_nil ?_
              refine Z.j_then ?_
              refine Z.j_seq ?_
              refine Z.j_seq ?_
              refine Z.j_region ?_
              refine Z.s_val (Z.pv_move rfl) ?_
              refine Z.s_val (Z.pv_len rfl Try.underlying22) ?_
              refine Z.s_val (Z.pv_move rfl) ?_
              refine Z.j_nil ?_
              refine Z.j_then ?_
              refine Z.j_block ?_
              refine Z.j_cast (A := Z.cl tb 52 [.pointer (some ⟨ab, 0, none⟩), .int .i32 0]) (B := Z.cl tb 52 [.pointer (some ⟨ab, 0, none⟩), .int .i32 (stp ks vs 0).1]) (by repeat (first | with_reducible exact Z.Take.here | apply Z.Take.there)) rfl ?_
              refine Z.j_cast (A := Arena ab ⟨[], 1048576⟩) (B := Arena ab (stp ks vs 0).2) (by repeat (first | with_reducible exact Z.Take.here | apply Z.Take.there)) rfl ?_
              refine Z.j_cast (A := Z.MapP b36 (Value.int .u32) (Value.int .i64) []) (B := Z.MapP b36 (Value.int .u32) (Value.int .i64) (mp ks vs 0)) (by repeat (first | with_reducible exact Z.Take.here | apply Z.Take.there)) rfl ?_
              refine Z.j_initF (E' := [(0, .slice p1 n1 cap1), (1, .slice p2 n2 cap2), (5, .pointer (some ⟨tb, 0, none⟩)), (7, .map (some b36)), (8, .int .i64 (stp ks vs (0)).2.nodes.length), (37, .slice p1 n1 cap1), (38, .int .i64 n1), (39, .int .i64 ((0) : Nat))]) (As := [Z.cl tb 52 [.pointer (some ⟨ab, 0, none⟩), .int .i32 (stp ks vs (0)).1], Arena ab (stp ks vs (0)).2, Z.MapP b36 (Value.int .u32) (Value.int .i64) (mp ks vs (0))]) (Fr := Fr) (by repeat (first | exact trivial | refine ⟨rfl, ?_⟩)) (by repeat (first | with_reducible exact Z.Takes.nil | (apply Z.Takes.cons; (repeat (first | with_reducible exact Z.Take.here | apply Z.Take.there))))) (by repeat (first | with_reducible exact Z.Drop.nil | apply Z.Drop.cons)) ?_
              refine Z.j_loop (X := { x : (Nat) // (x) ≤ n1 }) (fun (x : { x : (Nat) // (x) ≤ n1 }) => [(0, .slice p1 n1 cap1), (1, .slice p2 n2 cap2), (5, .pointer (some ⟨tb, 0, none⟩)), (7, .map (some b36)), (8, .int .i64 (stp ks vs (x.1)).2.nodes.length), (37, .slice p1 n1 cap1), (38, .int .i64 n1), (39, .int .i64 ((x.1) : Nat))]) (fun x => (fun (x : { x : (Nat) // (x) ≤ n1 }) => [Z.cl tb 52 [.pointer (some ⟨ab, 0, none⟩), .int .i32 (stp ks vs (x.1)).1], Arena ab (stp ks vs (x.1)).2, Z.MapP b36 (Value.int .u32) (Value.int .i64) (mp ks vs (x.1))]) x ++ Fr) (fun (x : { x : (Nat) // (x) ≤ n1 }) => n1 - (x.1)) ⟨(0), by omega⟩ (fun x => ?_)
              obtain ⟨i, hinv⟩ := x
              have hinv' : i ≤ n1 := hinv
              obtain hi := hinv'
              show Z.J _ _ _ ([(0, .slice p1 n1 cap1), (1, .slice p2 n2 cap2), (5, .pointer (some ⟨tb, 0, none⟩)), (7, .map (some b36)), (8, .int .i64 (stp ks vs i).2.nodes.length), (37, .slice p1 n1 cap1), (38, .int .i64 n1), (39, .int .i64 (i : Nat))]) ([Z.cl tb 52 [.pointer (some ⟨ab, 0, none⟩), .int .i32 (stp ks vs i).1], Arena ab (stp ks vs i).2, Z.MapP b36 (Value.int .u32) (Value.int .i64) (mp ks vs i)] ++ Fr) _
              refine Z.j_app (by repeat (first | exact Z.App.nil | apply Z.App.cons)) ?_
              refine Z.j_seq ?_
              refine Z.j_region ?_
              refine Z.s_val (Z.pv_lss rfl rfl) ?_
              refine Z.j_nil ?_
              refine Z.j_then ?_
              refine Z.j_seq ?_
              refine Z.j_cond rfl (fun hc40 => ?_) (fun hc40 => ?_)
              · try (with_reducible first | replace hc40 := of_decide_eq_true hc40 | replace hc40 := of_decide_eq_false hc40 | replace hc40 := Z.nd_true hc40 | replace hc40 := Z.nd_false hc40 | replace hc40 := Z.nn_true hc40 | replace hc40 := Z.nn_false hc40 | replace hc40 := Z.nb_true hc40 | replace hc40 := Z.nb_false hc40)
                first
                | (exfalso; first | (cases hc40; done) | omega)
                | skip
                  obtain ⟨g1, g2, g3⟩ := hl.step i (by omega)
                  obtain ⟨hr1, hA1⟩ := stp_ok ks vs i
                  obtain ⟨hr2, hA2⟩ := stp_ok ks vs (i + 1)
                  have eS : Ar.putT (stp ks vs i).2 (stp ks vs i).1 (ks.getD i 0) (vs.getD i 0) = stp ks vs (i + 1) := rfl
                  have eN1 : ((Ar.putT (stp ks vs i).2 (stp ks vs i).1 (ks.getD i 0) (vs.getD i 0)).2.nodes.length : Int) = (stp ks vs (i + 1)).2.nodes.length := by rw [eS]
                  have hlm := hA2.1.2
                  obtain ⟨b1, o1, e1, hro1⟩ := hp1 (by omega)
                  obtain ⟨b2, o2, e2, hro2⟩ := hp2 (by omega)
                  have hki := hkb i
                  refine Z.j_skip ?_
                  refine Z.j_then ?_
                  refine Z.j_seq ?_
                  refine Z.j_block ?_
                  refine Z.j_seq ?_
                  refine Z.j_region ?_
                  refine Z.s_val (Z.pv_move rfl) ?_
                  refine Z.s_val (Z.pv_indexAddr (o' := o1 + i) (b := b1) (o := o1) (len := n1) (cap := cap1) (by show some (Value.slice p1 n1 cap1) = _; rw [e1]) rfl Try.underlying22 Try.sizeOf30 (by omega) (by simp)) ?_
                  refine Z.s_val (Z.pv_load1r (v := .int .u32 (ks.getD i 0)) (b := b1) (o := o1) (j := i) rfl hro1 rfl Try.isAgg30 (getmap (by omega))) ?_
                  refine Z.s_val (Z.pv_assign rfl) ?_
                  refine Z.s_val (Z.pv_assign rfl) ?_
                  refine Z.j_nil ?_
                  refine Z.j_then ?_
                  refine Z.j_seq ?_
                  refine Z.j_seq ?_
                  refine Z.j_region ?_
                  refine Z.s_val (Z.pv_move rfl) ?_
                  refine Z.s_val (Z.pv_move rfl) ?_
                  refine Z.s_val (Z.pv_move rfl) ?_
                  refine Z.s_val (Z.pv_move rfl) ?_
                  refine Z.s_val (Z.pv_indexAddr (o' := o2 + i) (b := b2) (o := o2) (len := n2) (cap := cap2) (by show some (Value.slice p2 n2 cap2) = _; rw [e2]) rfl Try.underlying23 Try.sizeOf2 (by omega) (by simp)) ?_
                  refine Z.s_val (Z.pv_load1r (v := .int .i64 (vs.getD i 0)) (b := b2) (o := o2) (j := i) rfl hro2 rfl Try.isAgg2 (getmap (by omega))) ?_
                  refine Z.s_callD rfl rfl rfl isFn6 (by repeat (first | with_reducible exact Z.Takes.nil | (apply Z.Takes.cons; (repeat (first | with_reducible exact Z.Take.here | apply Z.Take.there))))) (by repeat (first | exact Z.App.nil | apply Z.App.cons)) (put_spec _ _ _ _ _ _ _ (by assumption) (by omega) (by omega)) ?_
                  refine Z.s_val (Z.pv_neq rfl rfl) ?_
                  refine Z.s_val (Z.pv_move rfl) ?_
                  refine Z.s_split 52 rfl (fun hg52 => ?_) (fun hg52 => ?_)
                  · try (with_reducible first | replace hg52 := of_decide_eq_true hg52 | replace hg52 := of_decide_eq_false hg52 | replace hg52 := Z.nd_true hg52 | replace hg52 := Z.nd_false hg52 | replace hg52 := Z.nn_true hg52 | replace hg52 := Z.nn_false hg52 | replace hg52 := Z.nb_true hg52 | replace hg52 := Z.nb_false hg52)
                    first
                    | (exfalso; first | (cases hg52; done) | omega)
                    | skip
                      refine Z.s_skip ?_
                      refine Z.s_skip ?_
                      refine Z.s_skip ?_
                      refine Z.s_skip ?_
                      refine Z.s_val (Z.pv_pick rfl rfl) ?_
                      refine Z.s_val (Z.pv_move rfl) ?_
                      refine Z.s_split 58 rfl (fun hg58 => ?_) (fun hg58 => ?_)
                      · try (with_reducible first | replace hg58 := of_decide_eq_true hg58 | replace hg58 := of_decide_eq_false hg58 | replace hg58 := Z.nd_true hg58 | replace hg58 := Z.nd_false hg58 | replace hg58 := Z.nn_true hg58 | replace hg58 := Z.nn_false hg58 | replace hg58 := Z.nb_true hg58 | replace hg58 := Z.nb_false hg58)
                        first
                        | (exfalso; first | (cases hg58; done) | omega)
                        | skip
                          refine Z.s_skip ?_
                          refine Z.s_skip ?_
                          refine Z.s_skip ?_
                          refine Z.s_skip ?_
                          refine Z.s_skip ?_
                          refine Z.s_val (Z.pv_pick rfl rfl) ?_
                          refine Z.j_nil ?_
                          refine Z.j_then ?_
                          refine Z.j_cond rfl (fun hc64 => ?_) (fun hc64 => ?_)
                          · exfalso; first | (cases hc64; done) | try (with_reducible first | replace hc64 := of_decide_eq_true hc64 | replace hc64 := of_decide_eq_false hc64 | replace hc64 := Z.nd_true hc64 | replace hc64 := Z.nd_false hc64 | replace hc64 := Z.nn_true hc64 | replace hc64 := Z.nn_false hc64 | replace hc64 := Z.nb_true hc64 | replace hc64 := Z.nb_false hc64); first | omega | (simp_all; done)
                          · try (with_reducible first | replace hc64 := of_decide_eq_true hc64 | replace hc64 := of_decide_eq_false hc64 | replace hc64 := Z.nd_true hc64 | replace hc64 := Z.nd_false hc64 | replace hc64 := Z.nn_true hc64 | replace hc64 := Z.nn_false hc64 | replace hc64 := Z.nb_true hc64 | replace hc64 := Z.nb_false hc64)
                            first
                            | (exfalso; first | (cases hc64; done) | omega)
                            | skip
                              refine Z.j_skip ?_
                              refine Z.j_then ?_
                              refine Z.j_seq ?_
                              refine Z.j_region ?_
                              refine Z.s_val (Z.pv_move rfl) ?_
                              refine Z.s_callD rfl rfl rfl isFn7 (by repeat (first | with_reducible exact Z.Takes.nil | (apply Z.Takes.cons; (repeat (first | with_reducible exact Z.Take.here | apply Z.Take.there))))) (by repeat (first | exact Z.App.nil | apply Z.App.cons)) (nodes_spec _ _ _ _ _) ?_
                              refine Z.s_val (Z.pv_assign rfl) ?_
                              refine Z.j_nil ?_
                              refine Z.j_then ?_
                              refine Z.j_region ?_
                              refine Z.s_val (Z.pv_move rfl) ?_
                              refine Z.s_val (Z.pv_move rfl) ?_
                              refine Z.s_val (Z.pv_move rfl) ?_
                              refine Z.s_val (Z.pv_move rfl) ?_
                              refine Z.s_val (Z.pv_indexAddr (o' := o2 + i) (b := b2) (o := o2) (len := n2) (cap := cap2) (by show some (Value.slice p2 n2 cap2) = _; rw [e2]) rfl Try.underlying23 Try.sizeOf2 (by omega) (by simp)) ?_
                              refine Z.s_val (Z.pv_load1r (v := .int .i64 (vs.getD i 0)) (b := b2) (o := o2) (j := i) rfl hro2 rfl Try.isAgg2 (getmap (by omega))) ?_
                              refine Z.s_mapUpdate (k := ks.getD i 0) (v := vs.getD i 0) rfl rfl rfl Try.underlying29 kU32 (by repeat (first | with_reducible exact Z.Take.here | apply Z.Take.there)) ?_
                              refine Z.j_nil ?_
                              refine Z.j_blk ?_
                              refine Z.j_then ?_
                              refine Z.j_region ?_
                              refine Z.s_val (Z.pv_add rfl rfl (by first | exact IntWalk.i64_in _ (by omega) | rfl)) ?_
                              refine Z.s_val (Z.pv_move rfl) ?_
                              refine Z.j_nil ?_
                              refine Z.j_then ?_
                              rw [eS]
                              have eM : Z.mput (ks.getD i 0) (vs.getD i 0) (mp ks vs i) = mp ks vs (i + 1) := rfl
                              rw [eM]
                              (exact Z.j_nextF (X := { x : (Nat) // (x) ≤ n1 }) (EE := (fun (x : { x : (Nat) // (x) ≤ n1 }) => [(0, .slice p1 n1 cap1), (1, .slice p2 n2 cap2), (5, .pointer (some ⟨tb, 0, none⟩)), (7, .map (some b36)), (8, .int .i64 (stp ks vs (x.1)).2.nodes.length), (37, .slice p1 n1 cap1), (38, .int .i64 n1), (39, .int .i64 ((x.1) : Nat))])) (LL := (fun (x : { x : (Nat) // (x) ≤ n1 }) => [Z.cl tb 52 [.pointer (some ⟨ab, 0, none⟩), .int .i32 (stp ks vs (x.1)).1], Arena ab (stp ks vs (x.1)).2, Z.MapP b36 (Value.int .u32) (Value.int .i64) (mp ks vs (x.1))])) (μ := (fun (x : { x : (Nat) // (x) ≤ n1 }) => n1 - (x.1))) (x := ⟨(i), hinv⟩) ⟨(i + 1), by omega⟩ (by show n1 - (i + 1) < n1 - i; omega) (by repeat (first | exact trivial | refine ⟨rfl, ?_⟩)) (by repeat (first | with_reducible exact Z.Takes.nil | (apply Z.Takes.cons; (repeat (first | with_reducible exact Z.Take.here | apply Z.Take.there))))) (by repeat (first | with_reducible exact Z.Drop.nil | apply Z.Drop.cons)))
                      · try (with_reducible first | replace hg58 := of_decide_eq_true hg58 | replace hg58 := of_decide_eq_false hg58 | replace hg58 := Z.nd_true hg58 | replace hg58 := Z.nd_false hg58 | replace hg58 := Z.nn_true hg58 | replace hg58 := Z.nn_false hg58 | replace hg58 := Z.nb_true hg58 | replace hg58 := Z.nb_false hg58)
                        first
                        | (exfalso; first | (cases hg58; done) | omega)
                        | skip
                          refine Z.s_val (Z.pv_move rfl) ?_
                          refine Z.s_callD rfl rfl rfl isFn7 (by repeat (first | with_reducible exact Z.Takes.nil | (apply Z.Takes.cons; (repeat (first | with_reducible exact Z.Take.here | apply Z.Take.there))))) (by repeat (first | exact Z.App.nil | apply Z.App.cons)) (nodes_spec _ _ _ _ _) ?_
                          refine Z.s_val (Z.pv_move rfl) ?_
                          refine Z.s_val (Z.pv_add rfl rfl (by first | exact IntWalk.i64_in _ (by omega) | rfl)) ?_
                          refine Z.s_val (Z.pv_gtr rfl rfl) ?_
                          refine Z.s_val (Z.pv_pick rfl rfl) ?_
                          refine Z.j_nil ?_
                          refine Z.j_then ?_
                          refine Z.j_cond rfl (fun hc64 => ?_) (fun hc64 => ?_)
                          · exfalso; first | (cases hc64; done) | try (with_reducible first | replace hc64 := of_decide_eq_true hc64 | replace hc64 := of_decide_eq_false hc64 | replace hc64 := Z.nd_true hc64 | replace hc64 := Z.nd_false hc64 | replace hc64 := Z.nn_true hc64 | replace hc64 := Z.nn_false hc64 | replace hc64 := Z.nb_true hc64 | replace hc64 := Z.nb_false hc64); first | omega | (simp_all; done)
                          · try (with_reducible first | replace hc64 := of_decide_eq_true hc64 | replace hc64 := of_decide_eq_false hc64 | replace hc64 := Z.nd_true hc64 | replace hc64 := Z.nd_false hc64 | replace hc64 := Z.nn_true hc64 | replace hc64 := Z.nn_false hc64 | replace hc64 := Z.nb_true hc64 | replace hc64 := Z.nb_false hc64)
                            first
                            | (exfalso; first | (cases hc64; done) | omega)
                            | skip
                              refine Z.j_skip ?_
                              refine Z.j_then ?_
                              refine Z.j_seq ?_
                              refine Z.j_region ?_
                              refine Z.s_val (Z.pv_move rfl) ?_
                              refine Z.s_callD rfl rfl rfl isFn7 (by repeat (first | with_reducible exact Z.Takes.nil | (apply Z.Takes.cons; (repeat (first | with_reducible exact Z.Take.here | apply Z.Take.there))))) (by repeat (first | exact Z.App.nil | apply Z.App.cons)) (nodes_spec _ _ _ _ _) ?_
                              refine Z.s_val (Z.pv_assign rfl) ?_
                              refine Z.j_nil ?_
                              refine Z.j_then ?_
                              refine Z.j_region ?_
                              refine Z.s_val (Z.pv_move rfl) ?_
                              refine Z.s_val (Z.pv_move rfl) ?_
                              refine Z.s_val (Z.pv_move rfl) ?_
                              refine Z.s_val (Z.pv_move rfl) ?_
                              refine Z.s_val (Z.pv_indexAddr (o' := o2 + i) (b := b2) (o := o2) (len := n2) (cap := cap2) (by show some (Value.slice p2 n2 cap2) = _; rw [e2]) rfl Try.underlying23 Try.sizeOf2 (by omega) (by simp)) ?_
                              refine Z.s_val (Z.pv_load1r (v := .int .i64 (vs.getD i 0)) (b := b2) (o := o2) (j := i) rfl hro2 rfl Try.isAgg2 (getmap (by omega))) ?_
                              refine Z.s_mapUpdate (k := ks.getD i 0) (v := vs.getD i 0) rfl rfl rfl Try.underlying29 kU32 (by repeat (first | with_reducible exact Z.Take.here | apply Z.Take.there)) ?_
                              refine Z.j_nil ?_
                              refine Z.j_blk ?_
                              refine Z.j_then ?_
                              refine Z.j_region ?_
                              refine Z.s_val (Z.pv_add rfl rfl (by first | exact IntWalk.i64_in _ (by omega) | rfl)) ?_
                              refine Z.s_val (Z.pv_move rfl) ?_
                              refine Z.j_nil ?_
                              refine Z.j_then ?_
                              rw [eS]
                              have eM : Z.mput (ks.getD i 0) (vs.getD i 0) (mp ks vs i) = mp ks vs (i + 1) := rfl
                              rw [eM]
                              (exact Z.j_nextF (X := { x : (Nat) // (x) ≤ n1 }) (EE := (fun (x : { x : (Nat) // (x) ≤ n1 }) => [(0, .slice p1 n1 cap1), (1, .slice p2 n2 cap2), (5, .pointer (some ⟨tb, 0, none⟩)), (7, .map (some b36)), (8, .int .i64 (stp ks vs (x.1)).2.nodes.length), (37, .slice p1 n1 cap1), (38, .int .i64 n1), (39, .int .i64 ((x.1) : Nat))])) (LL := (fun (x : { x : (Nat) // (x) ≤ n1 }) => [Z.cl tb 52 [.pointer (some ⟨ab, 0, none⟩), .int .i32 (stp ks vs (x.1)).1], Arena ab (stp ks vs (x.1)).2, Z.MapP b36 (Value.int .u32) (Value.int .i64) (mp ks vs (x.1))])) (μ := (fun (x : { x : (Nat) // (x) ≤ n1 }) => n1 - (x.1))) (x := ⟨(i), hinv⟩) ⟨(i + 1), by omega⟩ (by show n1 - (i + 1) < n1 - i; omega) (by repeat (first | exact trivial | refine ⟨rfl, ?_⟩)) (by repeat (first | with_reducible exact Z.Takes.nil | (apply Z.Takes.cons; (repeat (first | with_reducible exact Z.Take.here | apply Z.Take.there))))) (by repeat (first | with_reducible exact Z.Drop.nil | apply Z.Drop.cons)))
                  · try (with_reducible first | replace hg52 := of_decide_eq_true hg52 | replace hg52 := of_decide_eq_false hg52 | replace hg52 := Z.nd_true hg52 | replace hg52 := Z.nd_false hg52 | replace hg52 := Z.nn_true hg52 | replace hg52 := Z.nn_false hg52 | replace hg52 := Z.nb_true hg52 | replace hg52 := Z.nb_false hg52)
                    first
                    | (exfalso; first | (cases hg52; done) | omega)
                    | skip
                      refine Z.s_val (Z.pv_move rfl) ?_
                      refine Z.s_callD rfl rfl rfl isFn7 (by repeat (first | with_reducible exact Z.Takes.nil | (apply Z.Takes.cons; (repeat (first | with_reducible exact Z.Take.here | apply Z.Take.there))))) (by repeat (first | exact Z.App.nil | apply Z.App.cons)) (nodes_spec _ _ _ _ _) ?_
                      refine Z.s_val (Z.pv_move rfl) ?_
                      refine Z.s_val (Z.pv_lss rfl rfl) ?_
                      refine Z.s_val (Z.pv_pick rfl rfl) ?_
                      refine Z.s_val (Z.pv_move rfl) ?_
                      refine Z.s_split 58 rfl (fun hg58 => ?_) (fun hg58 => ?_)
                      · try (with_reducible first | replace hg58 := of_decide_eq_true hg58 | replace hg58 := of_decide_eq_false hg58 | replace hg58 := Z.nd_true hg58 | replace hg58 := Z.nd_false hg58 | replace hg58 := Z.nn_true hg58 | replace hg58 := Z.nn_false hg58 | replace hg58 := Z.nb_true hg58 | replace hg58 := Z.nb_false hg58)
                        first
                        | (exfalso; first | (cases hg58; done) | omega)
                        | skip
                          refine Z.s_skip ?_
                          refine Z.s_skip ?_
                          refine Z.s_skip ?_
                          refine Z.s_skip ?_
                          refine Z.s_skip ?_
                          refine Z.s_val (Z.pv_pick rfl rfl) ?_
                          refine Z.j_nil ?_
                          refine Z.j_then ?_
                          refine Z.j_cond rfl (fun hc64 => ?_) (fun hc64 => ?_)
                          · exfalso; first | (cases hc64; done) | try (with_reducible first | replace hc64 := of_decide_eq_true hc64 | replace hc64 := of_decide_eq_false hc64 | replace hc64 := Z.nd_true hc64 | replace hc64 := Z.nd_false hc64 | replace hc64 := Z.nn_true hc64 | replace hc64 := Z.nn_false hc64 | replace hc64 := Z.nb_true hc64 | replace hc64 := Z.nb_false hc64); first | omega | (simp_all; done)
                          · try (with_reducible first | replace hc64 := of_decide_eq_true hc64 | replace hc64 := of_decide_eq_false hc64 | replace hc64 := Z.nd_true hc64 | replace hc64 := Z.nd_false hc64 | replace hc64 := Z.nn_true hc64 | replace hc64 := Z.nn_false hc64 | replace hc64 := Z.nb_true hc64 | replace hc64 := Z.nb_false hc64)
                            first
                            | (exfalso; first | (cases hc64; done) | omega)
                            | skip
                              refine Z.j_skip ?_
                              refine Z.j_then ?_
                              refine Z.j_seq ?_
                              refine Z.j_region ?_
                              refine Z.s_val (Z.pv_move rfl) ?_
                              refine Z.s_callD rfl rfl rfl isFn7 (by repeat (first | with_reducible exact Z.Takes.nil | (apply Z.Takes.cons; (repeat (first | with_reducible exact Z.Take.here | apply Z.Take.there))))) (by repeat (first | exact Z.App.nil | apply Z.App.cons)) (nodes_spec _ _ _ _ _) ?_
                              refine Z.s_val (Z.pv_assign rfl) ?_
                              refine Z.j_nil ?_
                              refine Z.j_then ?_
                              refine Z.j_region ?_
                              refine Z.s_val (Z.pv_move rfl) ?_
                              refine Z.s_val (Z.pv_move rfl) ?_
                              refine Z.s_val (Z.pv_move rfl) ?_
                              refine Z.s_val (Z.pv_move rfl) ?_
                              refine Z.s_val (Z.pv_indexAddr (o' := o2 + i) (b := b2) (o := o2) (len := n2) (cap := cap2) (by show some (Value.slice p2 n2 cap2) = _; rw [e2]) rfl Try.underlying23 Try.sizeOf2 (by omega) (by simp)) ?_
                              refine Z.s_val (Z.pv_load1r (v := .int .i64 (vs.getD i 0)) (b := b2) (o := o2) (j := i) rfl hro2 rfl Try.isAgg2 (getmap (by omega))) ?_
                              refine Z.s_mapUpdate (k := ks.getD i 0) (v := vs.getD i 0) rfl rfl rfl Try.underlying29 kU32 (by repeat (first | with_reducible exact Z.Take.here | apply Z.Take.there)) ?_
                              refine Z.j_nil ?_
                              refine Z.j_blk ?_
                              refine Z.j_then ?_
                              refine Z.j_region ?_
                              refine Z.s_val (Z.pv_add rfl rfl (by first | exact IntWalk.i64_in _ (by omega) | rfl)) ?_
                              refine Z.s_val (Z.pv_move rfl) ?_
                              refine Z.j_nil ?_
                              refine Z.j_then ?_
                              rw [eS]
                              have eM : Z.mput (ks.getD i 0) (vs.getD i 0) (mp ks vs i) = mp ks vs (i + 1) := rfl
                              rw [eM]
                              (exact Z.j_nextF (X := { x : (Nat) // (x) ≤ n1 }) (EE := (fun (x : { x : (Nat) // (x) ≤ n1 }) => [(0, .slice p1 n1 cap1), (1, .slice p2 n2 cap2), (5, .pointer (some ⟨tb, 0, none⟩)), (7, .map (some b36)), (8, .int .i64 (stp ks vs (x.1)).2.nodes.length), (37, .slice p1 n1 cap1), (38, .int .i64 n1), (39, .int .i64 ((x.1) : Nat))])) (LL := (fun (x : { x : (Nat) // (x) ≤ n1 }) => [Z.cl tb 52 [.pointer (some ⟨ab, 0, none⟩), .int .i32 (stp ks vs (x.1)).1], Arena ab (stp ks vs (x.1)).2, Z.MapP b36 (Value.int .u32) (Value.int .i64) (mp ks vs (x.1))])) (μ := (fun (x : { x : (Nat) // (x) ≤ n1 }) => n1 - (x.1))) (x := ⟨(i), hinv⟩) ⟨(i + 1), by omega⟩ (by show n1 - (i + 1) < n1 - i; omega) (by repeat (first | exact trivial | refine ⟨rfl, ?_⟩)) (by repeat (first | with_reducible exact Z.Takes.nil | (apply Z.Takes.cons; (repeat (first | with_reducible exact Z.Take.here | apply Z.Take.there))))) (by repeat (first | with_reducible exact Z.Drop.nil | apply Z.Drop.cons)))
                      · try (with_reducible first | replace hg58 := of_decide_eq_true hg58 | replace hg58 := of_decide_eq_false hg58 | replace hg58 := Z.nd_true hg58 | replace hg58 := Z.nd_false hg58 | replace hg58 := Z.nn_true hg58 | replace hg58 := Z.nn_false hg58 | replace hg58 := Z.nb_true hg58 | replace hg58 := Z.nb_false hg58)
                        first
                        | (exfalso; first | (cases hg58; done) | omega)
                        | skip
                          refine Z.s_val (Z.pv_move rfl) ?_
                          refine Z.s_callD rfl rfl rfl isFn7 (by repeat (first | with_reducible exact Z.Takes.nil | (apply Z.Takes.cons; (repeat (first | with_reducible exact Z.Take.here | apply Z.Take.there))))) (by repeat (first | exact Z.App.nil | apply Z.App.cons)) (nodes_spec _ _ _ _ _) ?_
                          refine Z.s_val (Z.pv_move rfl) ?_
                          refine Z.s_val (Z.pv_add rfl rfl (by first | exact IntWalk.i64_in _ (by omega) | rfl)) ?_
                          refine Z.s_val (Z.pv_gtr rfl rfl) ?_
                          refine Z.s_val (Z.pv_pick rfl rfl) ?_
                          refine Z.j_nil ?_
                          refine Z.j_then ?_
                          refine Z.j_cond rfl (fun hc64 => ?_) (fun hc64 => ?_)
                          · exfalso; first | (cases hc64; done) | try (with_reducible first | replace hc64 := of_decide_eq_true hc64 | replace hc64 := of_decide_eq_false hc64 | replace hc64 := Z.nd_true hc64 | replace hc64 := Z.nd_false hc64 | replace hc64 := Z.nn_true hc64 | replace hc64 := Z.nn_false hc64 | replace hc64 := Z.nb_true hc64 | replace hc64 := Z.nb_false hc64); first | omega | (simp_all; done)
                          · try (with_reducible first | replace hc64 := of_decide_eq_true hc64 | replace hc64 := of_decide_eq_false hc64 | replace hc64 := Z.nd_true hc64 | replace hc64 := Z.nd_false hc64 | replace hc64 := Z.nn_true hc64 | replace hc64 := Z.nn_false hc64 | replace hc64 := Z.nb_true hc64 | replace hc64 := Z.nb_false hc64)
                            first
                            | (exfalso; first | (cases hc64; done) | omega)
                            | skip
                              refine Z.j_skip ?_
                              refine Z.j_then ?_
                              refine Z.j_seq ?_
                              refine Z.j_region ?_
                              refine Z.s_val (Z.pv_move rfl) ?_
                              refine Z.s_callD rfl rfl rfl isFn7 (by repeat (first | with_reducible exact Z.Takes.nil | (apply Z.Takes.cons; (repeat (first | with_reducible exact Z.Take.here | apply Z.Take.there))))) (by repeat (first | exact Z.App.nil | apply Z.App.cons)) (nodes_spec _ _ _ _ _) ?_
                              refine Z.s_val (Z.pv_assign rfl) ?_
                              refine Z.j_nil ?_
                              refine Z.j_then ?_
                              refine Z.j_region ?_
                              refine Z.s_val (Z.pv_move rfl) ?_
                              refine Z.s_val (Z.pv_move rfl) ?_
                              refine Z.s_val (Z.pv_move rfl) ?_
                              refine Z.s_val (Z.pv_move rfl) ?_
                              refine Z.s_val (Z.pv_indexAddr (o' := o2 + i) (b := b2) (o := o2) (len := n2) (cap := cap2) (by show some (Value.slice p2 n2 cap2) = _; rw [e2]) rfl Try.underlying23 Try.sizeOf2 (by omega) (by simp)) ?_
                              refine Z.s_val (Z.pv_load1r (v := .int .i64 (vs.getD i 0)) (b := b2) (o := o2) (j := i) rfl hro2 rfl Try.isAgg2 (getmap (by omega))) ?_
                              refine Z.s_mapUpdate (k := ks.getD i 0) (v := vs.getD i 0) rfl rfl rfl Try.underlying29 kU32 (by repeat (first | with_reducible exact Z.Take.here | apply Z.Take.there)) ?_
                              refine Z.j_nil ?_
                              refine Z.j_blk ?_
                              refine Z.j_then ?_
                              refine Z.j_region ?_
                              refine Z.s_val (Z.pv_add rfl rfl (by first | exact IntWalk.i64_in _ (by omega) | rfl)) ?_
                              refine Z.s_val (Z.pv_move rfl) ?_
                              refine Z.j_nil ?_
                              refine Z.j_then ?_
                              rw [eS]
                              have eM : Z.mput (ks.getD i 0) (vs.getD i 0) (mp ks vs i) = mp ks vs (i + 1) := rfl
                              rw [eM]
                              (exact Z.j_nextF (X := { x : (Nat) // (x) ≤ n1 }) (EE := (fun (x : { x : (Nat) // (x) ≤ n1 }) => [(0, .slice p1 n1 cap1), (1, .slice p2 n2 cap2), (5, .pointer (some ⟨tb, 0, none⟩)), (7, .map (some b36)), (8, .int .i64 (stp ks vs (x.1)).2.nodes.length), (37, .slice p1 n1 cap1), (38, .int .i64 n1), (39, .int .i64 ((x.1) : Nat))])) (LL := (fun (x : { x : (Nat) // (x) ≤ n1 }) => [Z.cl tb 52 [.pointer (some ⟨ab, 0, none⟩), .int .i32 (stp ks vs (x.1)).1], Arena ab (stp ks vs (x.1)).2, Z.MapP b36 (Value.int .u32) (Value.int .i64) (mp ks vs (x.1))])) (μ := (fun (x : { x : (Nat) // (x) ≤ n1 }) => n1 - (x.1))) (x := ⟨(i), hinv⟩) ⟨(i + 1), by omega⟩ (by show n1 - (i + 1) < n1 - i; omega) (by repeat (first | exact trivial | refine ⟨rfl, ?_⟩)) (by repeat (first | with_reducible exact Z.Takes.nil | (apply Z.Takes.cons; (repeat (first | with_reducible exact Z.Take.here | apply Z.Take.there))))) (by repeat (first | with_reducible exact Z.Drop.nil | apply Z.Drop.cons)))
              · try (with_reducible first | replace hc40 := of_decide_eq_true hc40 | replace hc40 := of_decide_eq_false hc40 | replace hc40 := Z.nd_true hc40 | replace hc40 := Z.nd_false hc40 | replace hc40 := Z.nn_true hc40 | replace hc40 := Z.nn_false hc40 | replace hc40 := Z.nb_true hc40 | replace hc40 := Z.nb_false hc40)
                first
                | (exfalso; first | (cases hc40; done) | omega)
                | skip
                  refine Z.j_exit ?_
                  refine Z.j_then_exit ?_
                  refine Z.j_then_exit ?_
                  refine Z.j_blk_here rfl ?_
                  refine Z.j_then ?_
                  refine Z.j_seq ?_
                  refine Z.j_seq ?_
                  refine Z.j_region ?_
                  refine Z.s_val (Z.pv_move rfl) ?_
                  refine Z.s_range rfl Try.underlying29 (by repeat (first | with_reducible exact Z.Take.here | apply Z.Take.there)) (fun r75 bs75 clock75 hk75 => ?_)
                  refine Z.j_nil ?_
                  refine Z.j_then ?_
                  refine Z.j_block ?_
                  have eN : n1 = i := by omega
                  subst eN
                  obtain ⟨hrN, hAN⟩ := stp_ok ks vs n1
                  have hln := hl.len
                  have hml := mp_len ks vs n1
                  have hcn := hl.count
                  refine Z.j_initF (E' := [(5, .pointer (some ⟨tb, 0, none⟩)), (7, .map (some b36)), (75, .pointer (some ⟨r75, 0, none⟩))]) (As := [Z.It r75 b36 clock75 (#[]), Z.MapB b36 (Value.int .u32) (Value.int .i64) (mp ks vs n1) bs75 clock75, Z.cl tb 52 [.pointer (some ⟨ab, 0, none⟩), .int .i32 (stp ks vs n1).1], Arena ab (stp ks vs n1).2]) (Fr := Fr) (by repeat (first | exact trivial | refine ⟨rfl, ?_⟩)) (by repeat (first | with_reducible exact Z.Takes.nil | (apply Z.Takes.cons; (repeat (first | with_reducible exact Z.Take.here | apply Z.Take.there))))) (by repeat (first | with_reducible exact Z.Drop.nil | apply Z.Drop.cons)) ?_
                  refine Z.j_loop (X := { x : (Array Nat) // True }) (fun (x : { x : (Array Nat) // True }) => [(5, .pointer (some ⟨tb, 0, none⟩)), (7, .map (some b36)), (75, .pointer (some ⟨r75, 0, none⟩))]) (fun x => (fun (x : { x : (Array Nat) // True }) => [Z.It r75 b36 clock75 (x.1), Z.MapB b36 (Value.int .u32) (Value.int .i64) (mp ks vs n1) bs75 clock75, Z.cl tb 52 [.pointer (some ⟨ab, 0, none⟩), .int .i32 (stp ks vs n1).1], Arena ab (stp ks vs n1).2]) x ++ Fr) (fun (x : { x : (Array Nat) // True }) => Z.mleft bs75 (x.1)) ⟨(#[]), trivial⟩ (fun x => ?_)
                  obtain ⟨seen, hinv⟩ := x
                  have hinv' : True := hinv
                  obtain _ := hinv'
                  show Z.J _ _ _ ([(5, .pointer (some ⟨tb, 0, none⟩)), (7, .map (some b36)), (75, .pointer (some ⟨r75, 0, none⟩))]) ([Z.It r75 b36 clock75 seen, Z.MapB b36 (Value.int .u32) (Value.int .i64) (mp ks vs n1) bs75 clock75, Z.cl tb 52 [.pointer (some ⟨ab, 0, none⟩), .int .i32 (stp ks vs n1).1], Arena ab (stp ks vs n1).2] ++ Fr) _
                  refine Z.j_app (by repeat (first | exact Z.App.nil | apply Z.App.cons)) ?_
                  refine Z.j_seq ?_
                  refine Z.j_region ?_
                  refine Z.s_next rfl hk75 (by repeat (first | with_reducible exact Z.Take.here | apply Z.Take.there)) (fun _ => (by repeat (first | with_reducible exact Z.Upd.here | apply Z.Upd.there))) (fun hall76 => ?_) (fun ix76 ky76 vl76 y76 hm76 hy76 hns76 hlt76 => ?_)
                  · skip
                    refine Z.s_val (Z.pv_extract rfl rfl) ?_
                    refine Z.j_nil ?_
                    refine Z.j_then ?_
                    refine Z.j_seq ?_
                    refine Z.j_cond rfl (fun hc77 => ?_) (fun hc77 => ?_)
                    · exfalso; first | (cases hc77; done) | (simp at hc77; done) | (simp at hc77; omega)
                    · try (with_reducible first | replace hc77 := of_decide_eq_true hc77 | replace hc77 := of_decide_eq_false hc77 | replace hc77 := Z.nd_true hc77 | replace hc77 := Z.nd_false hc77 | replace hc77 := Z.nn_true hc77 | replace hc77 := Z.nn_false hc77 | replace hc77 := Z.nb_true hc77 | replace hc77 := Z.nb_false hc77)
                      first
                      | (exfalso; first | (cases hc77; done) | omega)
                      | skip
                        refine Z.j_exit ?_
                        refine Z.j_then_exit ?_
                        refine Z.j_then_exit ?_
                        refine Z.j_blk_here rfl ?_
                        refine Z.j_then ?_
                        refine Z.j_seq ?_
                        refine Z.j_region ?_
                        refine Z.s_val (Z.pv_move rfl) ?_
                        refine Z.s_call rfl rfl rfl isFn10 (by repeat (first | with_reducible exact Z.Takes.nil | (apply Z.Takes.cons; (repeat (first | with_reducible exact Z.Take.here | apply Z.Take.there))))) (pairs_spec _ _ _ _ _ _ hAN hrN (by omega) (by omega)) ?_
                        rintro v108 _ rfl
                        refine Z.j_app (by repeat (first | exact Z.App.nil | apply Z.App.cons)) ?_
                        refine Z.s_val (Z.pv_assign rfl) ?_
                        rw [hl.walked]
                        refine Z.j_nil ?_
                        refine Z.j_then ?_
                        refine Z.j_seq ?_
                        refine Z.j_seq ?_
                        refine Z.j_region ?_
                        refine Z.s_val (Z.pv_move rfl) ?_
                        refine Z.s_val (Z.pv_lenO rfl (by repeat (first | with_reducible exact Z.Take.here | apply Z.Take.there)) Try.underlying36) ?_
                        refine Z.s_val (Z.pv_move rfl) ?_
                        refine Z.j_nil ?_
                        refine Z.j_then ?_
                        refine Z.j_block ?_
                        refine Z.j_initF (E' := [(5, .pointer (some ⟨tb, 0, none⟩)), (7, .map (some b36)), (17, v108), (109, v108), (110, .int .i64 (Ar.pairs (stp ks vs n1).2 (stp ks vs n1).1).length), (111, .int .i64 ((0) : Nat))]) (As := [Z.Own 39 2 v108 (Ar.pairs (stp ks vs n1).2 (stp ks vs n1).1).length (pcells (Ar.pairs (stp ks vs n1).2 (stp ks vs n1).1)), Z.MapB b36 (Value.int .u32) (Value.int .i64) (mp ks vs n1) bs75 clock75, Z.cl tb 52 [.pointer (some ⟨ab, 0, none⟩), .int .i32 (stp ks vs n1).1], Arena ab (stp ks vs n1).2]) (Fr := Fr) (by repeat (first | exact trivial | refine ⟨rfl, ?_⟩)) (by repeat (first | with_reducible exact Z.Takes.nil | (apply Z.Takes.cons; (repeat (first | with_reducible exact Z.Take.here | apply Z.Take.there))))) (by repeat (first | with_reducible exact Z.Drop.nil | apply Z.Drop.cons)) ?_
                        refine Z.j_loop (X := { x : (Nat) // (x) ≤ (Ar.pairs (stp ks vs n1).2 (stp ks vs n1).1).length }) (fun (x : { x : (Nat) // (x) ≤ (Ar.pairs (stp ks vs n1).2 (stp ks vs n1).1).length }) => [(5, .pointer (some ⟨tb, 0, none⟩)), (7, .map (some b36)), (17, v108), (109, v108), (110, .int .i64 (Ar.pairs (stp ks vs n1).2 (stp ks vs n1).1).length), (111, .int .i64 ((x.1) : Nat))]) (fun x => (fun (x : { x : (Nat) // (x) ≤ (Ar.pairs (stp ks vs n1).2 (stp ks vs n1).1).length }) => [Z.Own 39 2 v108 (Ar.pairs (stp ks vs n1).2 (stp ks vs n1).1).length (pcells (Ar.pairs (stp ks vs n1).2 (stp ks vs n1).1)), Z.MapB b36 (Value.int .u32) (Value.int .i64) (mp ks vs n1) bs75 clock75, Z.cl tb 52 [.pointer (some ⟨ab, 0, none⟩), .int .i32 (stp ks vs n1).1], Arena ab (stp ks vs n1).2]) x ++ Fr) (fun (x : { x : (Nat) // (x) ≤ (Ar.pairs (stp ks vs n1).2 (stp ks vs n1).1).length }) => (Ar.pairs (stp ks vs n1).2 (stp ks vs n1).1).length - (x.1)) ⟨(0), by omega⟩ (fun x => ?_)
                        obtain ⟨i, hinv⟩ := x
                        have hinv' : i ≤ (Ar.pairs (stp ks vs n1).2 (stp ks vs n1).1).length := hinv
                        obtain hi := hinv'
                        show Z.J _ _ _ ([(5, .pointer (some ⟨tb, 0, none⟩)), (7, .map (some b36)), (17, v108), (109, v108), (110, .int .i64 (Ar.pairs (stp ks vs n1).2 (stp ks vs n1).1).length), (111, .int .i64 (i : Nat))]) ([Z.Own 39 2 v108 (Ar.pairs (stp ks vs n1).2 (stp ks vs n1).1).length (pcells (Ar.pairs (stp ks vs n1).2 (stp ks vs n1).1)), Z.MapB b36 (Value.int .u32) (Value.int .i64) (mp ks vs n1) bs75 clock75, Z.cl tb 52 [.pointer (some ⟨ab, 0, none⟩), .int .i32 (stp ks vs n1).1], Arena ab (stp ks vs n1).2] ++ Fr) _
                        refine Z.j_app (by repeat (first | exact Z.App.nil | apply Z.App.cons)) ?_
                        refine Z.j_seq ?_
                        refine Z.j_region ?_
                        refine Z.s_val (Z.pv_lss rfl rfl) ?_
                        refine Z.j_nil ?_
                        refine Z.j_then ?_
                        refine Z.j_seq ?_
                        refine Z.j_cond rfl (fun hc112 => ?_) (fun hc112 => ?_)
                        · try (with_reducible first | replace hc112 := of_decide_eq_true hc112 | replace hc112 := of_decide_eq_false hc112 | replace hc112 := Z.nd_true hc112 | replace hc112 := Z.nd_false hc112 | replace hc112 := Z.nn_true hc112 | replace hc112 := Z.nn_false hc112 | replace hc112 := Z.nb_true hc112 | replace hc112 := Z.nb_false hc112)
                          first
                          | (exfalso; first | (cases hc112; done) | omega)
                          | skip
                            have hi2 : i < (Ar.pairs (stp ks vs n1).2 (stp ks vs n1).1).length := by omega
                            obtain ⟨⟨pk, pv⟩, hpi⟩ : ∃ p, (Ar.pairs (stp ks vs n1).2 (stp ks vs n1).1)[i]? = some p := ⟨_, List.getElem?_eq_getElem hi2⟩
                            have hpm := hl.pair i pk pv hpi
                            obtain ⟨⟨qk, qv⟩, hpj⟩ : ∃ p, (Ar.pairs (stp ks vs n1).2 (stp ks vs n1).1)[i - 1]? = some p := ⟨_, List.getElem?_eq_getElem (by omega)⟩
                            have hsd : 0 < i → qk < pk := fun h => hl.sorted (i - 1) qk qv pk pv hpj (by rw [show i - 1 + 1 = i by omega]; exact hpi)
                            refine Z.j_skip ?_
                            refine Z.j_then ?_
                            refine Z.j_seq ?_
                            refine Z.j_block ?_
                            refine Z.j_seq ?_
                            refine Z.j_unown (T := 39) (k := 2) (by repeat (first | with_reducible exact Z.Take.here | apply Z.Take.there)) (fun e1 e2 e3 => by exfalso; omega) (fun nb cap sp e1 e2 e3 => ?_)
                            refine Z.j_region ?_
                            refine Z.s_val (Z.pv_move rfl) ?_
                            refine Z.s_val (Z.pv_indexAddr (o' := i * 2) (b := nb) (o := 0) (len := (Ar.pairs (stp ks vs n1).2 (stp ks vs n1).1).length) (cap := cap) (by show some v108 = _; rw [e1]) rfl Try.underlying36 Try.sizeOf39 (by omega) (by simp)) ?_
                            refine Z.s_val (Z.pv_loadA rfl (by repeat (first | with_reducible exact Z.Take.here | apply Z.Take.there)) Try.isAgg39 Try.sizeOf39 (slc_pair sp hpi)) ?_
                            refine Z.s_alloc Try.zeroValue39 (fun b19 => ?_)
                            refine Z.s_val (Z.pv_assign rfl) ?_
                            refine Z.s_storeA rfl rfl Try.sizeOf39 rfl (by repeat (first | with_reducible exact Z.Upd.here | apply Z.Upd.there)) (by rfl) ?_
                            refine Z.j_nil ?_
                            refine Z.j_then ?_
                            refine Z.j_seq ?_
                            by_cases hd125 : 0 < (i : Int)
                            · skip
                              refine Z.j_draw (vals := [_, _, _, _, _, _, _, _, _, _, _, _, _, _, _, _, _, _, _, _, _, _]) 22 (by kernel_rfl) (by kernel_rfl) rfl (by rfl) (Z.heads_cons (Z.hq_val (Z.pv_move (by rfl))) (Z.heads_cons (Z.hq_val (Z.pv_fieldAddr (o' := 0) (by rfl) Try.underlying39 (by rfl) (by exact Try.sizeOf30) (by rfl))) (Z.heads_cons (Z.hq_val (Z.pv_load1 (by rfl) (by repeat (first | with_reducible exact Z.Take.here | apply Z.Take.there)) Try.isAgg30 (by rfl))) (Z.heads_cons (Z.hq_val (Z.pv_is (Z.pv_lookupB hk75 (by rfl) (by rfl) Try.underlying29 kU32 Try.zeroValue2 (by repeat (first | with_reducible exact Z.Take.here | apply Z.Take.there))) (by rw [hpm]))) (Z.heads_cons (Z.hq_val (Z.pv_fieldAddr (o' := 1) (by rfl) Try.underlying39 (by rfl) (by exact Try.sizeOf2) (by rfl))) (Z.heads_cons (Z.hq_val (Z.pv_load1 (by rfl) (by repeat (first | with_reducible exact Z.Take.here | apply Z.Take.there)) Try.isAgg2 (by rfl))) (Z.heads_cons (Z.hq_val (Z.pv_is (Z.pv_neq (by rfl) (by rfl)) (show _ = Value.bool false by simp))) (Z.heads_cons (Z.hq_val (Z.pv_move (by rfl))) (Z.heads_cons (Z.hq_val (Z.pv_move (by rfl))) (Z.heads_cons (Z.hq_val (Z.pv_is (Z.pv_gtr (by rfl) (by rfl)) (Z.bool_t hd125))) (Z.heads_cons (Z.hq_val (Z.pv_move (by rfl))) (Z.heads_cons (Z.hq_val (Z.pv_move (by rfl))) (Z.heads_cons (Z.hq_val (Z.pv_move (by rfl))) (Z.heads_cons (Z.hq_val (Z.pv_sub (by rfl) (by rfl) (by first | exact IntWalk.i64_in _ (by omega) | rfl))) (Z.heads_cons (Z.hq_val (Z.pv_indexAddr (o' := (i - 1) * 2) (b := nb) (o := 0) (len := (Ar.pairs (stp ks vs n1).2 (stp ks vs n1).1).length) (cap := cap) (by show some v108 = _; rw [e1]) (by rfl) Try.underlying36 (by exact Try.sizeOf39) (by omega) (by omega))) (Z.heads_cons (Z.hq_val (Z.pv_fieldAddr (by rfl) Try.underlying39 (by rfl) (by exact Try.sizeOf30) (by rfl))) (Z.heads_cons (Z.hq_val (Z.pv_load1 (by rfl) (by repeat (first | with_reducible exact Z.Take.here | apply Z.Take.there)) Try.isAgg30 (cell_pair sp hpj))) (Z.heads_cons (Z.hq_val (Z.pv_fieldAddr (o' := 0) (by rfl) Try.underlying39 (by rfl) (by exact Try.sizeOf30) (by rfl))) (Z.heads_cons (Z.hq_val (Z.pv_load1 (by rfl) (by repeat (first | with_reducible exact Z.Take.here | apply Z.Take.there)) Try.isAgg30 (by rfl))) (Z.heads_cons (Z.hq_val (Z.pv_geq (by rfl) (by rfl))) (Z.heads_cons (Z.hq_val (Z.pv_pick (by rfl) (by rfl))) (Z.heads_cons (Z.hq_val (Z.pv_pick (by rfl) (by rfl))) Z.heads_nil)))))))))))))))))))))) ?_
                              refine Z.j_nil ?_
                              refine Z.j_then ?_
                              refine Z.j_cond rfl (fun hc137 => ?_) (fun hc137 => ?_)
                              · exfalso; first | (cases hc137; done) | try (with_reducible first | replace hc137 := of_decide_eq_true hc137 | replace hc137 := of_decide_eq_false hc137 | replace hc137 := Z.nd_true hc137 | replace hc137 := Z.nd_false hc137 | replace hc137 := Z.nn_true hc137 | replace hc137 := Z.nn_false hc137 | replace hc137 := Z.nb_true hc137 | replace hc137 := Z.nb_false hc137); first | omega | (simp_all; done)
                              · try (with_reducible first | replace hc137 := of_decide_eq_true hc137 | replace hc137 := of_decide_eq_false hc137 | replace hc137 := Z.nd_true hc137 | replace hc137 := Z.nd_false hc137 | replace hc137 := Z.nn_true hc137 | replace hc137 := Z.nn_false hc137 | replace hc137 := Z.nb_true hc137 | replace hc137 := Z.nb_false hc137)
                                first
                                | (exfalso; first | (cases hc137; done) | omega)
                                | skip
                                  refine Z.j_skip ?_
                                  refine Z.j_blk ?_
                                  refine Z.j_then ?_
                                  refine Z.j_region ?_
                                  refine Z.s_val (Z.pv_add rfl rfl (by first | exact IntWalk.i64_in _ (by omega) | rfl)) ?_
                                  refine Z.s_val (Z.pv_move rfl) ?_
                                  refine Z.j_nil ?_
                                  refine Z.j_then ?_
                                  refine Z.j_own (T := 39) (k := 2) (m := (Ar.pairs (stp ks vs n1).2 (stp ks vs n1).1).length) (cap := cap) (c := pcells (Ar.pairs (stp ks vs n1).2 (stp ks vs n1).1)) (sp := sp) (by repeat (first | with_reducible exact Z.Take.here | apply Z.Take.there)) e2 e3 ?_
                                  rw [← e1]
                                  (exact Z.j_nextF (X := { x : (Nat) // (x) ≤ (Ar.pairs (stp ks vs n1).2 (stp ks vs n1).1).length }) (EE := (fun (x : { x : (Nat) // (x) ≤ (Ar.pairs (stp ks vs n1).2 (stp ks vs n1).1).length }) => [(5, .pointer (some ⟨tb, 0, none⟩)), (7, .map (some b36)), (17, v108), (109, v108), (110, .int .i64 (Ar.pairs (stp ks vs n1).2 (stp ks vs n1).1).length), (111, .int .i64 ((x.1) : Nat))])) (LL := (fun (x : { x : (Nat) // (x) ≤ (Ar.pairs (stp ks vs n1).2 (stp ks vs n1).1).length }) => [Z.Own 39 2 v108 (Ar.pairs (stp ks vs n1).2 (stp ks vs n1).1).length (pcells (Ar.pairs (stp ks vs n1).2 (stp ks vs n1).1)), Z.MapB b36 (Value.int .u32) (Value.int .i64) (mp ks vs n1) bs75 clock75, Z.cl tb 52 [.pointer (some ⟨ab, 0, none⟩), .int .i32 (stp ks vs n1).1], Arena ab (stp ks vs n1).2])) (μ := (fun (x : { x : (Nat) // (x) ≤ (Ar.pairs (stp ks vs n1).2 (stp ks vs n1).1).length }) => (Ar.pairs (stp ks vs n1).2 (stp ks vs n1).1).length - (x.1))) (x := ⟨(i), hinv⟩) ⟨(i + 1), by omega⟩ (by show (Ar.pairs (stp ks vs n1).2 (stp ks vs n1).1).length - (i + 1) < (Ar.pairs (stp ks vs n1).2 (stp ks vs n1).1).length - i; omega) (by repeat (first | exact trivial | refine ⟨rfl, ?_⟩)) (by repeat (first | with_reducible exact Z.Takes.nil | (apply Z.Takes.cons; (repeat (first | with_reducible exact Z.Take.here | apply Z.Take.there))))) (by repeat (first | with_reducible exact Z.Drop.nil | apply Z.Drop.cons)))
                            · skip
                              refine Z.j_draw (vals := [_, _, _, _, _, _, _, _, _, _, _, _, _, _, _, _, _, _, _, _, _, _]) 22 (by kernel_rfl) (by kernel_rfl) rfl (by rfl) (Z.heads_cons (Z.hq_val (Z.pv_move (by rfl))) (Z.heads_cons (Z.hq_val (Z.pv_fieldAddr (o' := 0) (by rfl) Try.underlying39 (by rfl) (by exact Try.sizeOf30) (by rfl))) (Z.heads_cons (Z.hq_val (Z.pv_load1 (by rfl) (by repeat (first | with_reducible exact Z.Take.here | apply Z.Take.there)) Try.isAgg30 (by rfl))) (Z.heads_cons (Z.hq_val (Z.pv_is (Z.pv_lookupB hk75 (by rfl) (by rfl) Try.underlying29 kU32 Try.zeroValue2 (by repeat (first | with_reducible exact Z.Take.here | apply Z.Take.there))) (by rw [hpm]))) (Z.heads_cons (Z.hq_val (Z.pv_fieldAddr (o' := 1) (by rfl) Try.underlying39 (by rfl) (by exact Try.sizeOf2) (by rfl))) (Z.heads_cons (Z.hq_val (Z.pv_load1 (by rfl) (by repeat (first | with_reducible exact Z.Take.here | apply Z.Take.there)) Try.isAgg2 (by rfl))) (Z.heads_cons (Z.hq_val (Z.pv_is (Z.pv_neq (by rfl) (by rfl)) (show _ = Value.bool false by simp))) (Z.heads_cons (Z.hq_val (Z.pv_move (by rfl))) (Z.heads_cons (Z.hq_val (Z.pv_move (by rfl))) (Z.heads_cons (Z.hq_val (Z.pv_is (Z.pv_gtr (by rfl) (by rfl)) (Z.bool_f hd125))) (Z.heads_cons (Z.hq_val (Z.pv_move (by rfl))) (Z.heads_cons Z.hq_skip (Z.heads_cons Z.hq_skip (Z.heads_cons Z.hq_skip (Z.heads_cons Z.hq_skip (Z.heads_cons Z.hq_skip (Z.heads_cons Z.hq_skip (Z.heads_cons Z.hq_skip (Z.heads_cons Z.hq_skip (Z.heads_cons Z.hq_skip (Z.heads_cons (Z.hq_val (Z.pv_pick (by rfl) (by rfl))) (Z.heads_cons (Z.hq_val (Z.pv_pick (by rfl) (by rfl))) Z.heads_nil)))))))))))))))))))))) ?_
                              refine Z.j_nil ?_
                              refine Z.j_then ?_
                              refine Z.j_cond rfl (fun hc137 => ?_) (fun hc137 => ?_)
                              · exfalso; first | (cases hc137; done) | try (with_reducible first | replace hc137 := of_decide_eq_true hc137 | replace hc137 := of_decide_eq_false hc137 | replace hc137 := Z.nd_true hc137 | replace hc137 := Z.nd_false hc137 | replace hc137 := Z.nn_true hc137 | replace hc137 := Z.nn_false hc137 | replace hc137 := Z.nb_true hc137 | replace hc137 := Z.nb_false hc137); first | omega | (simp_all; done)
                              · try (with_reducible first | replace hc137 := of_decide_eq_true hc137 | replace hc137 := of_decide_eq_false hc137 | replace hc137 := Z.nd_true hc137 | replace hc137 := Z.nd_false hc137 | replace hc137 := Z.nn_true hc137 | replace hc137 := Z.nn_false hc137 | replace hc137 := Z.nb_true hc137 | replace hc137 := Z.nb_false hc137)
                                first
                                | (exfalso; first | (cases hc137; done) | omega)
                                | skip
                                  refine Z.j_skip ?_
                                  refine Z.j_blk ?_
                                  refine Z.j_then ?_
                                  refine Z.j_region ?_
                                  refine Z.s_val (Z.pv_add rfl rfl (by first | exact IntWalk.i64_in _ (by omega) | rfl)) ?_
                                  refine Z.s_val (Z.pv_move rfl) ?_
                                  refine Z.j_nil ?_
                                  refine Z.j_then ?_
                                  refine Z.j_own (T := 39) (k := 2) (m := (Ar.pairs (stp ks vs n1).2 (stp ks vs n1).1).length) (cap := cap) (c := pcells (Ar.pairs (stp ks vs n1).2 (stp ks vs n1).1)) (sp := sp) (by repeat (first | with_reducible exact Z.Take.here | apply Z.Take.there)) e2 e3 ?_
                                  rw [← e1]
                                  (exact Z.j_nextF (X := { x : (Nat) // (x) ≤ (Ar.pairs (stp ks vs n1).2 (stp ks vs n1).1).length }) (EE := (fun (x : { x : (Nat) // (x) ≤ (Ar.pairs (stp ks vs n1).2 (stp ks vs n1).1).length }) => [(5, .pointer (some ⟨tb, 0, none⟩)), (7, .map (some b36)), (17, v108), (109, v108), (110, .int .i64 (Ar.pairs (stp ks vs n1).2 (stp ks vs n1).1).length), (111, .int .i64 ((x.1) : Nat))])) (LL := (fun (x : { x : (Nat) // (x) ≤ (Ar.pairs (stp ks vs n1).2 (stp ks vs n1).1).length }) => [Z.Own 39 2 v108 (Ar.pairs (stp ks vs n1).2 (stp ks vs n1).1).length (pcells (Ar.pairs (stp ks vs n1).2 (stp ks vs n1).1)), Z.MapB b36 (Value.int .u32) (Value.int .i64) (mp ks vs n1) bs75 clock75, Z.cl tb 52 [.pointer (some ⟨ab, 0, none⟩), .int .i32 (stp ks vs n1).1], Arena ab (stp ks vs n1).2])) (μ := (fun (x : { x : (Nat) // (x) ≤ (Ar.pairs (stp ks vs n1).2 (stp ks vs n1).1).length }) => (Ar.pairs (stp ks vs n1).2 (stp ks vs n1).1).length - (x.1))) (x := ⟨(i), hinv⟩) ⟨(i + 1), by omega⟩ (by show (Ar.pairs (stp ks vs n1).2 (stp ks vs n1).1).length - (i + 1) < (Ar.pairs (stp ks vs n1).2 (stp ks vs n1).1).length - i; omega) (by repeat (first | exact trivial | refine ⟨rfl, ?_⟩)) (by repeat (first | with_reducible exact Z.Takes.nil | (apply Z.Takes.cons; (repeat (first | with_reducible exact Z.Take.here | apply Z.Take.there))))) (by repeat (first | with_reducible exact Z.Drop.nil | apply Z.Drop.cons)))
                        · try (with_reducible first | replace hc112 := of_decide_eq_true hc112 | replace hc112 := of_decide_eq_false hc112 | replace hc112 := Z.nd_true hc112 | replace hc112 := Z.nd_false hc112 | replace hc112 := Z.nn_true hc112 | replace hc112 := Z.nn_false hc112 | replace hc112 := Z.nb_true hc112 | replace hc112 := Z.nb_false hc112)
                          first
                          | (exfalso; first | (cases hc112; done) | omega)
                          | skip
                            refine Z.j_exit ?_
                            refine Z.j_then_exit ?_
                            refine Z.j_then_exit ?_
                            refine Z.j_blk_here rfl ?_
                            refine Z.j_then ?_
                            refine Z.j_seq ?_
                            refine Z.j_region ?_
                            refine Z.s_val (Z.pv_move rfl) ?_
                            refine Z.s_val (Z.pv_lenO rfl (by repeat (first | with_reducible exact Z.Take.here | apply Z.Take.there)) Try.underlying36) ?_
                            refine Z.s_val (Z.pv_move rfl) ?_
                            refine Z.s_val (Z.pv_lenMB hk75 rfl Try.underlying29 (by repeat (first | with_reducible exact Z.Take.here | apply Z.Take.there))) ?_
                            refine Z.s_val (Z.pv_eql rfl rfl) ?_
                            refine Z.s_val (Z.pv_move rfl) ?_
                            refine Z.s_split 144 rfl (fun hg144 => ?_) (fun hg144 => ?_)
                            · try (with_reducible first | replace hg144 := of_decide_eq_true hg144 | replace hg144 := of_decide_eq_false hg144 | replace hg144 := Z.nd_true hg144 | replace hg144 := Z.nd_false hg144 | replace hg144 := Z.nn_true hg144 | replace hg144 := Z.nn_false hg144 | replace hg144 := Z.nb_true hg144 | replace hg144 := Z.nb_false hg144)
                              first
                              | (exfalso; first | (cases hg144; done) | omega)
                              | skip
                                refine Z.s_val (Z.pv_move rfl) ?_
                                refine Z.s_val (Z.pv_build rfl Try.zeroValue44 pl44 rfl) ?_
                                refine Z.s_callD rfl rfl rfl isFn11 (by repeat (first | with_reducible exact Z.Takes.nil | (apply Z.Takes.cons; (repeat (first | with_reducible exact Z.Take.here | apply Z.Take.there))))) (by repeat (first | exact Z.App.nil | apply Z.App.cons)) (Fold_spec _ _ _ _ _ _ _ (by assumption) (by omega)) ?_
                                refine Z.s_val (Z.pv_field1 rfl Try.underlying41 rfl Try.isAgg3 rfl) ?_
                                refine Z.s_val (Z.pv_move rfl) ?_
                                refine Z.s_val (Z.pv_lenMB hk75 rfl Try.underlying29 (by repeat (first | with_reducible exact Z.Take.here | apply Z.Take.there))) ?_
                                refine Z.s_val (Z.pv_eql rfl rfl) ?_
                                refine Z.s_val (Z.pv_pick rfl rfl) ?_
                                refine Z.s_val (Z.pv_assign rfl) ?_
                                refine Z.j_nil ?_
                                refine Z.j_then ?_
                                refine Z.j_ret ?_
                                refine Z.j_done_ret (Z.rv1 (Z.rv_tmp (t := 4) rfl)) ?_
                                exact Z.post_of ⟨by first | rfl | (congr 1; exact decide_eq_true (by omega)) | (congr 1; simp_all; done), rfl⟩ (by repeat (first | with_reducible exact Z.Takes.nil | (apply Z.Takes.cons; (repeat (first | with_reducible exact Z.Take.here | apply Z.Take.there))))) (by repeat (first | with_reducible exact Z.Drop.nil | apply Z.Drop.cons))
                            · try (with_reducible first | replace hg144 := of_decide_eq_true hg144 | replace hg144 := of_decide_eq_false hg144 | replace hg144 := Z.nd_true hg144 | replace hg144 := Z.nd_false hg144 | replace hg144 := Z.nn_true hg144 | replace hg144 := Z.nn_false hg144 | replace hg144 := Z.nb_true hg144 | replace hg144 := Z.nb_false hg144)
                              first
                              | (exfalso; first | (cases hg144; done) | omega)
                              | skip
                                refine Z.s_skip ?_
                                refine Z.s_skip ?_
                                refine Z.s_skip ?_
                                refine Z.s_skip ?_
                                refine Z.s_skip ?_
                                refine Z.s_skip ?_
                                refine Z.s_skip ?_
                                refine Z.s_val (Z.pv_pick rfl rfl) ?_
                                refine Z.s_val (Z.pv_assign rfl) ?_
                                refine Z.j_nil ?_
                                refine Z.j_then ?_
                                refine Z.j_ret ?_
                                refine Z.j_done_ret (Z.rv1 (Z.rv_tmp (t := 4) rfl)) ?_
                                exact Z.post_of ⟨by first | rfl | (congr 1; exact decide_eq_true (by omega)) | (congr 1; simp_all; done), rfl⟩ (by repeat (first | with_reducible exact Z.Takes.nil | (apply Z.Takes.cons; (repeat (first | with_reducible exact Z.Take.here | apply Z.Take.there))))) (by repeat (first | with_reducible exact Z.Drop.nil | apply Z.Drop.cons))
                  · skip
                    refine Z.s_val (Z.pv_extract rfl rfl) ?_
                    refine Z.j_nil ?_
                    refine Z.j_then ?_
                    refine Z.j_seq ?_
                    refine Z.j_cond rfl (fun hc77 => ?_) (fun hc77 => ?_)
                    · try (with_reducible first | replace hc77 := of_decide_eq_true hc77 | replace hc77 := of_decide_eq_false hc77 | replace hc77 := Z.nd_true hc77 | replace hc77 := Z.nd_false hc77 | replace hc77 := Z.nn_true hc77 | replace hc77 := Z.nn_false hc77 | replace hc77 := Z.nb_true hc77 | replace hc77 := Z.nb_false hc77)
                      first
                      | (exfalso; first | (cases hc77; done) | omega)
                      | skip
                        obtain ⟨g1, g2⟩ := hl.get ix76 ky76 vl76 hm76
                        have hx := xor_bd ky76 1
                        have g3 := hl.ask _ hx
                        refine Z.j_skip ?_
                        refine Z.j_then ?_
                        refine Z.j_block ?_
                        refine Z.j_seq ?_
                        refine Z.j_region ?_
                        refine Z.s_val (Z.pv_entry rfl hk75 hm76 hy76 (by repeat (first | with_reducible exact Z.Take.here | apply Z.Take.there)) (by repeat (first | with_reducible exact Z.Take.here | apply Z.Take.there))) ?_
                        refine Z.s_val (Z.pv_extract rfl rfl) ?_
                        refine Z.s_val (Z.pv_extract rfl rfl) ?_
                        refine Z.s_val (Z.pv_assign rfl) ?_
                        refine Z.s_val (Z.pv_assign rfl) ?_
                        refine Z.j_nil ?_
                        refine Z.j_then ?_
                        refine Z.j_seq ?_
                        refine Z.j_seq ?_
                        refine Z.j_region ?_
                        refine Z.s_val (Z.pv_move rfl) ?_
                        refine Z.s_val (Z.pv_move rfl) ?_
                        refine Z.s_callD rfl rfl rfl isFn8 (by repeat (first | with_reducible exact Z.Takes.nil | (apply Z.Takes.cons; (repeat (first | with_reducible exact Z.Take.here | apply Z.Take.there))))) (by repeat (first | exact Z.App.nil | apply Z.App.cons)) (Get_spec _ _ _ _ _ _ (by assumption) (by omega)) ?_
                        refine Z.s_val (Z.pv_move rfl) ?_
                        refine Z.s_val (Z.pv_extract rfl rfl) ?_
                        refine Z.s_val (Z.pv_extract rfl rfl) ?_
                        refine Z.s_val (Z.pv_assign rfl) ?_
                        refine Z.s_val (Z.pv_assign rfl) ?_
                        rw [hl.fold]
                        refine Z.j_nil ?_
                        refine Z.j_then ?_
                        refine Z.j_seq ?_
                        refine Z.j_region ?_
                        refine Z.s_val (Z.pv_move rfl) ?_
                        refine Z.s_val (Z.pv_not rfl) ?_
                        refine Z.s_val (Z.pv_move rfl) ?_
                        refine Z.s_split 89 rfl (fun hg89 => ?_) (fun hg89 => ?_)
                        · try (with_reducible first | replace hg89 := of_decide_eq_true hg89 | replace hg89 := of_decide_eq_false hg89 | replace hg89 := Z.nd_true hg89 | replace hg89 := Z.nd_false hg89 | replace hg89 := Z.nn_true hg89 | replace hg89 := Z.nn_false hg89 | replace hg89 := Z.nb_true hg89 | replace hg89 := Z.nb_false hg89)
                          first
                          | (exfalso; first | (cases hg89; done) | omega)
                          | skip
                            refine Z.s_skip ?_
                            refine Z.s_skip ?_
                            refine Z.s_skip ?_
                            refine Z.s_val (Z.pv_pick rfl rfl) ?_
                            refine Z.j_nil ?_
                            refine Z.j_then ?_
                            refine Z.j_cond rfl (fun hc93 => ?_) (fun hc93 => ?_)
                            · exfalso; first | (cases hc93; done) | try (with_reducible first | replace hc93 := of_decide_eq_true hc93 | replace hc93 := of_decide_eq_false hc93 | replace hc93 := Z.nd_true hc93 | replace hc93 := Z.nd_false hc93 | replace hc93 := Z.nn_true hc93 | replace hc93 := Z.nn_false hc93 | replace hc93 := Z.nb_true hc93 | replace hc93 := Z.nb_false hc93); first | omega | (simp_all; done)
                            · try (with_reducible first | replace hc93 := of_decide_eq_true hc93 | replace hc93 := of_decide_eq_false hc93 | replace hc93 := Z.nd_true hc93 | replace hc93 := Z.nd_false hc93 | replace hc93 := Z.nn_true hc93 | replace hc93 := Z.nn_false hc93 | replace hc93 := Z.nb_true hc93 | replace hc93 := Z.nb_false hc93)
                              first
                              | (exfalso; first | (cases hc93; done) | omega)
                              | skip
                                refine Z.j_skip ?_
                                refine Z.j_then ?_
                                refine Z.j_seq ?_
                                refine Z.j_region ?_
                                refine Z.s_val (Z.pv_move rfl) ?_
                                refine Z.s_val (Z.pv_move rfl) ?_
                                refine Z.s_val (Z.pv_bits rfl rfl rfl) ?_
                                refine Z.s_callD rfl rfl rfl isFn8 (by repeat (first | with_reducible exact Z.Takes.nil | (apply Z.Takes.cons; (repeat (first | with_reducible exact Z.Take.here | apply Z.Take.there))))) (by repeat (first | exact Z.App.nil | apply Z.App.cons)) (Get_spec _ _ _ _ _ _ (by assumption) (by omega)) ?_
                                refine Z.s_val (Z.pv_move rfl) ?_
                                refine Z.s_val (Z.pv_extract rfl rfl) ?_
                                refine Z.s_val (Z.pv_extract rfl rfl) ?_
                                refine Z.s_val (Z.pv_assign rfl) ?_
                                refine Z.s_val (Z.pv_assign rfl) ?_
                                rw [hl.fold]
                                refine Z.j_nil ?_
                                refine Z.j_then ?_
                                refine Z.j_seq ?_
                                refine Z.j_region ?_
                                refine Z.s_val (Z.pv_move rfl) ?_
                                refine Z.s_val (Z.pv_move rfl) ?_
                                refine Z.s_val (Z.pv_move rfl) ?_
                                refine Z.s_val (Z.pv_bits rfl rfl rfl) ?_
                                refine Z.s_callD rfl rfl rfl isFn9 (by repeat (first | with_reducible exact Z.Takes.nil | (apply Z.Takes.cons; (repeat (first | with_reducible exact Z.Take.here | apply Z.Take.there))))) (by repeat (first | exact Z.App.nil | apply Z.App.cons)) (has_spec _ _ _ _ _ _ hk75) ?_
                                refine Z.s_val (Z.pv_neqb rfl rfl Try.underlying4) ?_
                                refine Z.j_nil ?_
                                refine Z.j_then ?_
                                refine Z.j_cond rfl (fun hc106 => ?_) (fun hc106 => ?_)
                                · try (with_reducible first | replace hc106 := of_decide_eq_true hc106 | replace hc106 := of_decide_eq_false hc106 | replace hc106 := Z.nd_true hc106 | replace hc106 := Z.nd_false hc106 | replace hc106 := Z.nn_true hc106 | replace hc106 := Z.nn_false hc106 | replace hc106 := Z.nb_true hc106 | replace hc106 := Z.nb_false hc106)
                                  rw [g3] at hc106; simp at hc106
                                · try (with_reducible first | replace hc106 := of_decide_eq_true hc106 | replace hc106 := of_decide_eq_false hc106 | replace hc106 := Z.nd_true hc106 | replace hc106 := Z.nd_false hc106 | replace hc106 := Z.nn_true hc106 | replace hc106 := Z.nn_false hc106 | replace hc106 := Z.nb_true hc106 | replace hc106 := Z.nb_false hc106)
                                  first
                                  | (exfalso; first | (cases hc106; done) | omega)
                                  | skip
                                    refine Z.j_skip ?_
                                    refine Z.j_blk ?_
                                    refine Z.j_then ?_
                                    (exact Z.j_nextF (X := { x : (Array Nat) // True }) (EE := (fun (x : { x : (Array Nat) // True }) => [(5, .pointer (some ⟨tb, 0, none⟩)), (7, .map (some b36)), (75, .pointer (some ⟨r75, 0, none⟩))])) (LL := (fun (x : { x : (Array Nat) // True }) => [Z.It r75 b36 clock75 (x.1), Z.MapB b36 (Value.int .u32) (Value.int .i64) (mp ks vs n1) bs75 clock75, Z.cl tb 52 [.pointer (some ⟨ab, 0, none⟩), .int .i32 (stp ks vs n1).1], Arena ab (stp ks vs n1).2])) (μ := (fun (x : { x : (Array Nat) // True }) => Z.mleft bs75 (x.1))) (x := ⟨(seen), hinv⟩) ⟨(seen.push y76), trivial⟩ (by show Z.mleft bs75 (seen.push y76) < Z.mleft bs75 seen; omega) (by repeat (first | exact trivial | refine ⟨rfl, ?_⟩)) (by repeat (first | with_reducible exact Z.Takes.nil | (apply Z.Takes.cons; (repeat (first | with_reducible exact Z.Take.here | apply Z.Take.there))))) (by repeat (first | with_reducible exact Z.Drop.nil | apply Z.Drop.cons)))
                        · try (with_reducible first | replace hg89 := of_decide_eq_true hg89 | replace hg89 := of_decide_eq_false hg89 | replace hg89 := Z.nd_true hg89 | replace hg89 := Z.nd_false hg89 | replace hg89 := Z.nn_true hg89 | replace hg89 := Z.nn_false hg89 | replace hg89 := Z.nb_true hg89 | replace hg89 := Z.nb_false hg89)
                          first
                          | (exfalso; first | (cases hg89; done) | omega)
                          | skip
                            refine Z.s_val (Z.pv_move rfl) ?_
                            refine Z.s_val (Z.pv_move rfl) ?_
                            refine Z.s_val (Z.pv_neq rfl rfl) ?_
                            refine Z.s_val (Z.pv_pick rfl rfl) ?_
                            refine Z.j_nil ?_
                            refine Z.j_then ?_
                            refine Z.j_cond rfl (fun hc93 => ?_) (fun hc93 => ?_)
                            · exfalso; first | (cases hc93; done) | try (with_reducible first | replace hc93 := of_decide_eq_true hc93 | replace hc93 := of_decide_eq_false hc93 | replace hc93 := Z.nd_true hc93 | replace hc93 := Z.nd_false hc93 | replace hc93 := Z.nn_true hc93 | replace hc93 := Z.nn_false hc93 | replace hc93 := Z.nb_true hc93 | replace hc93 := Z.nb_false hc93); first | omega | (simp_all; done)
                            · try (with_reducible first | replace hc93 := of_decide_eq_true hc93 | replace hc93 := of_decide_eq_false hc93 | replace hc93 := Z.nd_true hc93 | replace hc93 := Z.nd_false hc93 | replace hc93 := Z.nn_true hc93 | replace hc93 := Z.nn_false hc93 | replace hc93 := Z.nb_true hc93 | replace hc93 := Z.nb_false hc93)
                              first
                              | (exfalso; first | (cases hc93; done) | omega)
                              | skip
                                refine Z.j_skip ?_
                                refine Z.j_then ?_
                                refine Z.j_seq ?_
                                refine Z.j_region ?_
                                refine Z.s_val (Z.pv_move rfl) ?_
                                refine Z.s_val (Z.pv_move rfl) ?_
                                refine Z.s_val (Z.pv_bits rfl rfl rfl) ?_
                                refine Z.s_callD rfl rfl rfl isFn8 (by repeat (first | with_reducible exact Z.Takes.nil | (apply Z.Takes.cons; (repeat (first | with_reducible exact Z.Take.here | apply Z.Take.there))))) (by repeat (first | exact Z.App.nil | apply Z.App.cons)) (Get_spec _ _ _ _ _ _ (by assumption) (by omega)) ?_
                                refine Z.s_val (Z.pv_move rfl) ?_
                                refine Z.s_val (Z.pv_extract rfl rfl) ?_
                                refine Z.s_val (Z.pv_extract rfl rfl) ?_
                                refine Z.s_val (Z.pv_assign rfl) ?_
                                refine Z.s_val (Z.pv_assign rfl) ?_
                                rw [hl.fold]
                                refine Z.j_nil ?_
                                refine Z.j_then ?_
                                refine Z.j_seq ?_
                                refine Z.j_region ?_
                                refine Z.s_val (Z.pv_move rfl) ?_
                                refine Z.s_val (Z.pv_move rfl) ?_
                                refine Z.s_val (Z.pv_move rfl) ?_
                                refine Z.s_val (Z.pv_bits rfl rfl rfl) ?_
                                refine Z.s_callD rfl rfl rfl isFn9 (by repeat (first | with_reducible exact Z.Takes.nil | (apply Z.Takes.cons; (repeat (first | with_reducible exact Z.Take.here | apply Z.Take.there))))) (by repeat (first | exact Z.App.nil | apply Z.App.cons)) (has_spec _ _ _ _ _ _ hk75) ?_
                                refine Z.s_val (Z.pv_neqb rfl rfl Try.underlying4) ?_
                                refine Z.j_nil ?_
                                refine Z.j_then ?_
                                refine Z.j_cond rfl (fun hc106 => ?_) (fun hc106 => ?_)
                                · try (with_reducible first | replace hc106 := of_decide_eq_true hc106 | replace hc106 := of_decide_eq_false hc106 | replace hc106 := Z.nd_true hc106 | replace hc106 := Z.nd_false hc106 | replace hc106 := Z.nn_true hc106 | replace hc106 := Z.nn_false hc106 | replace hc106 := Z.nb_true hc106 | replace hc106 := Z.nb_false hc106)
                                  rw [g3] at hc106; simp at hc106
                                · try (with_reducible first | replace hc106 := of_decide_eq_true hc106 | replace hc106 := of_decide_eq_false hc106 | replace hc106 := Z.nd_true hc106 | replace hc106 := Z.nd_false hc106 | replace hc106 := Z.nn_true hc106 | replace hc106 := Z.nn_false hc106 | replace hc106 := Z.nb_true hc106 | replace hc106 := Z.nb_false hc106)
                                  first
                                  | (exfalso; first | (cases hc106; done) | omega)
                                  | skip
                                    refine Z.j_skip ?_
                                    refine Z.j_blk ?_
                                    refine Z.j_then ?_
                                    (exact Z.j_nextF (X := { x : (Array Nat) // True }) (EE := (fun (x : { x : (Array Nat) // True }) => [(5, .pointer (some ⟨tb, 0, none⟩)), (7, .map (some b36)), (75, .pointer (some ⟨r75, 0, none⟩))])) (LL := (fun (x : { x : (Array Nat) // True }) => [Z.It r75 b36 clock75 (x.1), Z.MapB b36 (Value.int .u32) (Value.int .i64) (mp ks vs n1) bs75 clock75, Z.cl tb 52 [.pointer (some ⟨ab, 0, none⟩), .int .i32 (stp ks vs n1).1], Arena ab (stp ks vs n1).2])) (μ := (fun (x : { x : (Array Nat) // True }) => Z.mleft bs75 (x.1))) (x := ⟨(seen), hinv⟩) ⟨(seen.push y76), trivial⟩ (by show Z.mleft bs75 (seen.push y76) < Z.mleft bs75 seen; omega) (by repeat (first | exact trivial | refine ⟨rfl, ?_⟩)) (by repeat (first | with_reducible exact Z.Takes.nil | (apply Z.Takes.cons; (repeat (first | with_reducible exact Z.Take.here | apply Z.Take.there))))) (by repeat (first | with_reducible exact Z.Drop.nil | apply Z.Drop.cons)))
                    · exfalso; first | (cases hc77; done) | (simp at hc77; done) | (simp at hc77; omega)
      · try (with_reducible first | replace hg25 := of_decide_eq_true hg25 | replace hg25 := of_decide_eq_false hg25 | replace hg25 := Z.nd_true hg25 | replace hg25 := Z.nd_false hg25 | replace hg25 := Z.nn_true hg25 | replace hg25 := Z.nn_false hg25 | replace hg25 := Z.nb_true hg25 | replace hg25 := Z.nb_false hg25)
        first
        | (exfalso; first | (cases hg25; done) | omega)
        | skip
          refine Z.s_val (Z.pv_move rfl) ?_
          refine Z.s_val (Z.pv_len rfl Try.underlying23) ?_
          refine Z.s_val (Z.pv_move rfl) ?_
          refine Z.s_val (Z.pv_len rfl Try.underlying22) ?_
          refine Z.s_val (Z.pv_lss rfl rfl) ?_
          refine Z.s_val (Z.pv_pick rfl rfl) ?_
          refine Z.j_nil ?_
          refine Z.j_then ?_
          refine Z.j_cond rfl (fun hc31 => ?_) (fun hc31 => ?_)
          · try (with_reducible first | replace hc31 := of_decide_eq_true hc31 | replace hc31 := of_decide_eq_false hc31 | replace hc31 := Z.nd_true hc31 | replace hc31 := Z.nd_false hc31 | replace hc31 := Z.nn_true hc31 | replace hc31 := Z.nn_false hc31 | replace hc31 := Z.nb_true hc31 | replace hc31 := Z.nb_false hc31)
            first
            | (exfalso; first | (cases hc31; done) | omega)
            | skip
              refine Z.j_seq ?_
              refine Z.j_region ?_
              refine Z.s_val (Z.pv_assign rfl) ?_
              refine Z.j_nil ?_
              refine Z.j_then ?_
              refine Z.j_ret ?_
              refine Z.j_then_ret ?_
              refine Z.j_done_ret (Z.rv1 (Z.rv_tmp (t := 4) rfl)) ?_
              exact Z.post_of ⟨by first | rfl | (congr 1; exact decide_eq_true (by omega)) | (congr 1; simp_all; done), rfl⟩ (by repeat (first | with_reducible exact Z.Takes.nil | (apply Z.Takes.cons; (repeat (first | with_reducible exact Z.Take.here | apply Z.Take.there))))) (by repeat (first | with_reducible exact Z.Drop.nil | apply Z.Drop.cons))
          · try (with_reducible first | replace hc31 := of_decide_eq_true hc31 | replace hc31 := of_decide_eq_false hc31 | replace hc31 := Z.nd_true hc31 | replace hc31 := Z.nd_false hc31 | replace hc31 := Z.nn_true hc31 | replace hc31 := Z.nn_false hc31 | replace hc31 := Z.nb_true hc31 | replace hc31 := Z.nb_false hc31)
            first
            | (exfalso; first | (cases hc31; done) | omega)
            | skip
              have hl := hl0 (by omega)
              refine Z.j_skip ?_
              refine Z.j_then ?_
              refine Z.j_seq ?_
              refine Z.j_region ?_
              refine Z.s_call rfl rfl rfl isFn5 (by repeat (first | with_reducible exact Z.Takes.nil | (apply Z.Takes.cons; (repeat (first | with_reducible exact Z.Take.here | apply Z.Take.there))))) (new_spec _ _ (by omega)) ?_
              rintro _ _ ⟨tb, ab, rfl, rfl⟩
              refine Z.j_app (by repeat (first | exact Z.App.nil | apply Z.App.cons)) ?_
              refine Z.s_val (Z.pv_move rfl) ?_
              refine Z.s_val (Z.pv_extract rfl rfl) ?_
              refine Z.s_val (Z.pv_extract rfl rfl) ?_
              refine Z.s_val (Z.pv_assign rfl) ?_
              refine Z.s_val (Z.pv_assign rfl) ?_
              refine Z.j_nil ?_
              refine Z.j_then ?_
              refine Z.j_seq ?_
              refine Z.j_region ?_
              refine Z.s_makeMap (Value.int .u32) (Value.int .i64) (fun b36 => ?_)
              refine Z.s_val (Z.pv_assign rfl) ?_
              refine Z.j_nil ?_
              refine Z.j_then ?_
              refine Z.j_seq ?_
              refine Z.j_region ?_
              refine Z.s_val (Z.pv_assign rfl) ?_
              refine Z.j_nil ?_
              refine Z.j_then ?_
              refine Z.j_seq ?_
              refine Z.j_seq ?_
              refine Z.j_region ?_
              refine Z.s_val (Z.pv_move rfl) ?_
              refine Z.s_val (Z.pv_len rfl Try.underlying22) ?_
              refine Z.s_val (Z.pv_move rfl) ?_
              refine Z.j_nil ?_
              refine Z.j_then ?_
              refine Z.j_block ?_
              refine Z.j_cast (A := Z.cl tb 52 [.pointer (some ⟨ab, 0, none⟩), .int .i32 0]) (B := Z.cl tb 52 [.pointer (some ⟨ab, 0, none⟩), .int .i32 (stp ks vs 0).1]) (by repeat (first | with_reducible exact Z.Take.here | apply Z.Take.there)) rfl ?_
              refine Z.j_cast (A := Arena ab ⟨[], 1048576⟩) (B := Arena ab (stp ks vs 0).2) (by repeat (first | with_reducible exact Z.Take.here | apply Z.Take.there)) rfl ?_
              refine Z.j_cast (A := Z.MapP b36 (Value.int .u32) (Value.int .i64) []) (B := Z.MapP b36 (Value.int .u32) (Value.int .i64) (mp ks vs 0)) (by repeat (first | with_reducible exact Z.Take.here | apply Z.Take.there)) rfl ?_
              refine Z.j_initF (E' := [(0, .slice p1 n1 cap1), (1, .slice p2 n2 cap2), (5, .pointer (some ⟨tb, 0, none⟩)), (7, .map (some b36)), (8, .int .i64 (stp ks vs (0)).2.nodes.length), (37, .slice p1 n1 cap1), (38, .int .i64 n1), (39, .int .i64 ((0) : Nat))]) (As := [Z.cl tb 52 [.pointer (some ⟨ab, 0, none⟩), .int .i32 (stp ks vs (0)).1], Arena ab (stp ks vs (0)).2, Z.MapP b36 (Value.int .u32) (Value.int .i64) (mp ks vs (0))]) (Fr := Fr) (by repeat (first | exact trivial | refine ⟨rfl, ?_⟩)) (by repeat (first | with_reducible exact Z.Takes.nil | (apply Z.Takes.cons; (repeat (first | with_reducible exact Z.Take.here | apply Z.Take.there))))) (by repeat (first | with_reducible exact Z.Drop.nil | apply Z.Drop.cons)) ?_
              refine Z.j_loop (X := { x : (Nat) // (x) ≤ n1 }) (fun (x : { x : (Nat) // (x) ≤ n1 }) => [(0, .slice p1 n1 cap1), (1, .slice p2 n2 cap2), (5, .pointer (some ⟨tb, 0, none⟩)), (7, .map (some b36)), (8, .int .i64 (stp ks vs (x.1)).2.nodes.length), (37, .slice p1 n1 cap1), (38, .int .i64 n1), (39, .int .i64 ((x.1) : Nat))]) (fun x => (fun (x : { x : (Nat) // (x) ≤ n1 }) => [Z.cl tb 52 [.pointer (some ⟨ab, 0, none⟩), .int .i32 (stp ks vs (x.1)).1], Arena ab (stp ks vs (x.1)).2, Z.MapP b36 (Value.int .u32) (Value.int .i64) (mp ks vs (x.1))]) x ++ Fr) (fun (x : { x : (Nat) // (x) ≤ n1 }) => n1 - (x.1)) ⟨(0), by omega⟩ (fun x => ?_)
              obtain ⟨i, hinv⟩ := x
              have hinv' : i ≤ n1 := hinv
              obtain hi := hinv'
              show Z.J _ _ _ ([(0, .slice p1 n1 cap1), (1, .slice p2 n2 cap2), (5, .pointer (some ⟨tb, 0, none⟩)), (7, .map (some b36)), (8, .int .i64 (stp ks vs i).2.nodes.length), (37, .slice p1 n1 cap1), (38, .int .i64 n1), (39, .int .i64 (i : Nat))]) ([Z.cl tb 52 [.pointer (some ⟨ab, 0, none⟩), .int .i32 (stp ks vs i).1], Arena ab (stp ks vs i).2, Z.MapP b36 (Value.int .u32) (Value.int .i64) (mp ks vs i)] ++ Fr) _
              refine Z.j_app (by repeat (first | exact Z.App.nil | apply Z.App.cons)) ?_
              refine Z.j_seq ?_
              refine Z.j_region ?_
              refine Z.s_val (Z.pv_lss rfl rfl) ?_
              refine Z.j_nil ?_
              refine Z.j_then ?_
              refine Z.j_seq ?_
              refine Z.j_cond rfl (fun hc40 => ?_) (fun hc40 => ?_)
              · try (with_reducible first | replace hc40 := of_decide_eq_true hc40 | replace hc40 := of_decide_eq_false hc40 | replace hc40 := Z.nd_true hc40 | replace hc40 := Z.nd_false hc40 | replace hc40 := Z.nn_true hc40 | replace hc40 := Z.nn_false hc40 | replace hc40 := Z.nb_true hc40 | replace hc40 := Z.nb_false hc40)
                first
                | (exfalso; first | (cases hc40; done) | omega)
                | skip
                  obtain ⟨g1, g2, g3⟩ := hl.step i (by omega)
                  obtain ⟨hr1, hA1⟩ := stp_ok ks vs i
                  obtain ⟨hr2, hA2⟩ := stp_ok ks vs (i + 1)
                  have eS : Ar.putT (stp ks vs i).2 (stp ks vs i).1 (ks.getD i 0) (vs.getD i 0) = stp ks vs (i + 1) := rfl
                  have eN1 : ((Ar.putT (stp ks vs i).2 (stp ks vs i).1 (ks.getD i 0) (vs.getD i 0)).2.nodes.length : Int) = (stp ks vs (i + 1)).2.nodes.length := by rw [eS]
                  have hlm := hA2.1.2
                  obtain ⟨b1, o1, e1, hro1⟩ := hp1 (by omega)
                  obtain ⟨b2, o2, e2, hro2⟩ := hp2 (by omega)
                  have hki := hkb i
                  refine Z.j_skip ?_
                  refine Z.j_then ?_
                  refine Z.j_seq ?_
                  refine Z.j_block ?_
                  refine Z.j_seq ?_
                  refine Z.j_region ?_
                  refine Z.s_val (Z.pv_move rfl) ?_
                  refine Z.s_val (Z.pv_indexAddr (o' := o1 + i) (b := b1) (o := o1) (len := n1) (cap := cap1) (by show some (Value.slice p1 n1 cap1) = _; rw [e1]) rfl Try.underlying22 Try.sizeOf30 (by omega) (by simp)) ?_
                  refine Z.s_val (Z.pv_load1r (v := .int .u32 (ks.getD i 0)) (b := b1) (o := o1) (j := i) rfl hro1 rfl Try.isAgg30 (getmap (by omega))) ?_
                  refine Z.s_val (Z.pv_assign rfl) ?_
                  refine Z.s_val (Z.pv_assign rfl) ?_
                  refine Z.j_nil ?_
                  refine Z.j_then ?_
                  refine Z.j_seq ?_
                  refine Z.j_seq ?_
                  refine Z.j_region ?_
                  refine Z.s_val (Z.pv_move rfl) ?_
                  refine Z.s_val (Z.pv_move rfl) ?_
                  refine Z.s_val (Z.pv_move rfl) ?_
                  refine Z.s_val (Z.pv_move rfl) ?_
                  refine Z.s_val (Z.pv_indexAddr (o' := o2 + i) (b := b2) (o := o2) (len := n2) (cap := cap2) (by show some (Value.slice p2 n2 cap2) = _; rw [e2]) rfl Try.underlying23 Try.sizeOf2 (by omega) (by simp)) ?_
                  refine Z.s_val (Z.pv_load1r (v := .int .i64 (vs.getD i 0)) (b := b2) (o := o2) (j := i) rfl hro2 rfl Try.isAgg2 (getmap (by omega))) ?_
                  refine Z.s_callD rfl rfl rfl isFn6 (by repeat (first | with_reducible exact Z.Takes.nil | (apply Z.Takes.cons; (repeat (first | with_reducible exact Z.Take.here | apply Z.Take.there))))) (by repeat (first | exact Z.App.nil | apply Z.App.cons)) (put_spec _ _ _ _ _ _ _ (by assumption) (by omega) (by omega)) ?_
                  refine Z.s_val (Z.pv_neq rfl rfl) ?_
                  refine Z.s_val (Z.pv_move rfl) ?_
                  refine Z.s_split 52 rfl (fun hg52 => ?_) (fun hg52 => ?_)
                  · try (with_reducible first | replace hg52 := of_decide_eq_true hg52 | replace hg52 := of_decide_eq_false hg52 | replace hg52 := Z.nd_true hg52 | replace hg52 := Z.nd_false hg52 | replace hg52 := Z.nn_true hg52 | replace hg52 := Z.nn_false hg52 | replace hg52 := Z.nb_true hg52 | replace hg52 := Z.nb_false hg52)
                    first
                    | (exfalso; first | (cases hg52; done) | omega)
                    | skip
                      refine Z.s_skip ?_
                      refine Z.s_skip ?_
                      refine Z.s_skip ?_
                      refine Z.s_skip ?_
                      refine Z.s_val (Z.pv_pick rfl rfl) ?_
                      refine Z.s_val (Z.pv_move rfl) ?_
                      refine Z.s_split 58 rfl (fun hg58 => ?_) (fun hg58 => ?_)
                      · try (with_reducible first | replace hg58 := of_decide_eq_true hg58 | replace hg58 := of_decide_eq_false hg58 | replace hg58 := Z.nd_true hg58 | replace hg58 := Z.nd_false hg58 | replace hg58 := Z.nn_true hg58 | replace hg58 := Z.nn_false hg58 | replace hg58 := Z.nb_true hg58 | replace hg58 := Z.nb_false hg58)
                        first
                        | (exfalso; first | (cases hg58; done) | omega)
                        | skip
                          refine Z.s_skip ?_
                          refine Z.s_skip ?_
                          refine Z.s_skip ?_
                          refine Z.s_skip ?_
                          refine Z.s_skip ?_
                          refine Z.s_val (Z.pv_pick rfl rfl) ?_
                          refine Z.j_nil ?_
                          refine Z.j_then ?_
                          refine Z.j_cond rfl (fun hc64 => ?_) (fun hc64 => ?_)
                          · exfalso; first | (cases hc64; done) | try (with_reducible first | replace hc64 := of_decide_eq_true hc64 | replace hc64 := of_decide_eq_false hc64 | replace hc64 := Z.nd_true hc64 | replace hc64 := Z.nd_false hc64 | replace hc64 := Z.nn_true hc64 | replace hc64 := Z.nn_false hc64 | replace hc64 := Z.nb_true hc64 | replace hc64 := Z.nb_false hc64); first | omega | (simp_all; done)
                          · try (with_reducible first | replace hc64 := of_decide_eq_true hc64 | replace hc64 := of_decide_eq_false hc64 | replace hc64 := Z.nd_true hc64 | replace hc64 := Z.nd_false hc64 | replace hc64 := Z.nn_true hc64 | replace hc64 := Z.nn_false hc64 | replace hc64 := Z.nb_true hc64 | replace hc64 := Z.nb_false hc64)
                            first
                            | (exfalso; first | (cases hc64; done) | omega)
                            | skip
                              refine Z.j_skip ?_
                              refine Z.j_then ?_
                              refine Z.j_seq ?_
                              refine Z.j_region ?_
                              refine Z.s_val (Z.pv_move rfl) ?_
                              refine Z.s_callD rfl rfl rfl isFn7 (by repeat (first | with_reducible exact Z.Takes.nil | (apply Z.Takes.cons; (repeat (first | with_reducible exact Z.Take.here | apply Z.Take.there))))) (by repeat (first | exact Z.App.nil | apply Z.App.cons)) (nodes_spec _ _ _ _ _) ?_
                              refine Z.s_val (Z.pv_assign rfl) ?_
                              refine Z.j_nil ?_
                              refine Z.j_then ?_
                              refine Z.j_region ?_
                              refine Z.s_val (Z.pv_move rfl) ?_
                              refine Z.s_val (Z.pv_move rfl) ?_
                              refine Z.s_val (Z.pv_move rfl) ?_
                              refine Z.s_val (Z.pv_move rfl) ?_
                              refine Z.s_val (Z.pv_indexAddr (o' := o2 + i) (b := b2) (o := o2) (len := n2) (cap := cap2) (by show some (Value.slice p2 n2 cap2) = _; rw [e2]) rfl Try.underlying23 Try.sizeOf2 (by omega) (by simp)) ?_
                              refine Z.s_val (Z.pv_load1r (v := .int .i64 (vs.getD i 0)) (b := b2) (o := o2) (j := i) rfl hro2 rfl Try.isAgg2 (getmap (by omega))) ?_
                              refine Z.s_mapUpdate (k := ks.getD i 0) (v := vs.getD i 0) rfl rfl rfl Try.underlying29 kU32 (by repeat (first | with_reducible exact Z.Take.here | apply Z.Take.there)) ?_
                              refine Z.j_nil ?_
                              refine Z.j_blk ?_
                              refine Z.j_then ?_
                              refine Z.j_region ?_
                              refine Z.s_val (Z.pv_add rfl rfl (by first | exact IntWalk.i64_in _ (by omega) | rfl)) ?_
                              refine Z.s_val (Z.pv_move rfl) ?_
                              refine Z.j_nil ?_
                              refine Z.j_then ?_
                              rw [eS]
                              have eM : Z.mput (ks.getD i 0) (vs.getD i 0) (mp ks vs i) = mp ks vs (i + 1) := rfl
                              rw [eM]
                              (exact Z.j_nextF (X := { x : (Nat) // (x) ≤ n1 }) (EE := (fun (x : { x : (Nat) // (x) ≤ n1 }) => [(0, .slice p1 n1 cap1), (1, .slice p2 n2 cap2), (5, .pointer (some ⟨tb, 0, none⟩)), (7, .map (some b36)), (8, .int .i64 (stp ks vs (x.1)).2.nodes.length), (37, .slice p1 n1 cap1), (38, .int .i64 n1), (39, .int .i64 ((x.1) : Nat))])) (LL := (fun (x : { x : (Nat) // (x) ≤ n1 }) => [Z.cl tb 52 [.pointer (some ⟨ab, 0, none⟩), .int .i32 (stp ks vs (x.1)).1], Arena ab (stp ks vs (x.1)).2, Z.MapP b36 (Value.int .u32) (Value.int .i64) (mp ks vs (x.1))])) (μ := (fun (x : { x : (Nat) // (x) ≤ n1 }) => n1 - (x.1))) (x := ⟨(i), hinv⟩) ⟨(i + 1), by omega⟩ (by show n1 - (i + 1) < n1 - i; omega) (by repeat (first | exact trivial | refine ⟨rfl, ?_⟩)) (by repeat (first | with_reducible exact Z.Takes.nil | (apply Z.Takes.cons; (repeat (first | with_reducible exact Z.Take.here | apply Z.Take.there))))) (by repeat (first | with_reducible exact Z.Drop.nil | apply Z.Drop.cons)))
                      · try (with_reducible first | replace hg58 := of_decide_eq_true hg58 | replace hg58 := of_decide_eq_false hg58 | replace hg58 := Z.nd_true hg58 | replace hg58 := Z.nd_false hg58 | replace hg58 := Z.nn_true hg58 | replace hg58 := Z.nn_false hg58 | replace hg58 := Z.nb_true hg58 | replace hg58 := Z.nb_false hg58)
                        first
                        | (exfalso; first | (cases hg58; done) | omega)
                        | skip
                          refine Z.s_val (Z.pv_move rfl) ?_
                          refine Z.s_callD rfl rfl rfl isFn7 (by repeat (first | with_reducible exact Z.Takes.nil | (apply Z.Takes.cons; (repeat (first | with_reducible exact Z.Take.here | apply Z.Take.there))))) (by repeat (first | exact Z.App.nil | apply Z.App.cons)) (nodes_spec _ _ _ _ _) ?_
                          refine Z.s_val (Z.pv_move rfl) ?_
                          refine Z.s_val (Z.pv_add rfl rfl (by first | exact IntWalk.i64_in _ (by omega) | rfl)) ?_
                          refine Z.s_val (Z.pv_gtr rfl rfl) ?_
                          refine Z.s_val (Z.pv_pick rfl rfl) ?_
                          refine Z.j_nil ?_
                          refine Z.j_then ?_
                          refine Z.j_cond rfl (fun hc64 => ?_) (fun hc64 => ?_)
                          · exfalso; first | (cases hc64; done) | try (with_reducible first | replace hc64 := of_decide_eq_true hc64 | replace hc64 := of_decide_eq_false hc64 | replace hc64 := Z.nd_true hc64 | replace hc64 := Z.nd_false hc64 | replace hc64 := Z.nn_true hc64 | replace hc64 := Z.nn_false hc64 | replace hc64 := Z.nb_true hc64 | replace hc64 := Z.nb_false hc64); first | omega | (simp_all; done)
                          · try (with_reducible first | replace hc64 := of_decide_eq_true hc64 | replace hc64 := of_decide_eq_false hc64 | replace hc64 := Z.nd_true hc64 | replace hc64 := Z.nd_false hc64 | replace hc64 := Z.nn_true hc64 | replace hc64 := Z.nn_false hc64 | replace hc64 := Z.nb_true hc64 | replace hc64 := Z.nb_false hc64)
                            first
                            | (exfalso; first | (cases hc64; done) | omega)
                            | skip
                              refine Z.j_skip ?_
                              refine Z.j_then ?_
                              refine Z.j_seq ?_
                              refine Z.j_region ?_
                              refine Z.s_val (Z.pv_move rfl) ?_
                              refine Z.s_callD rfl rfl rfl isFn7 (by repeat (first | with_reducible exact Z.Takes.nil | (apply Z.Takes.cons; (repeat (first | with_reducible exact Z.Take.here | apply Z.Take.there))))) (by repeat (first | exact Z.App.nil | apply Z.App.cons)) (nodes_spec _ _ _ _ _) ?_
                              refine Z.s_val (Z.pv_assign rfl) ?_
                              refine Z.j_nil ?_
                              refine Z.j_then ?_
                              refine Z.j_region ?_
                              refine Z.s_val (Z.pv_move rfl) ?_
                              refine Z.s_val (Z.pv_move rfl) ?_
                              refine Z.s_val (Z.pv_move rfl) ?_
                              refine Z.s_val (Z.pv_move rfl) ?_
                              refine Z.s_val (Z.pv_indexAddr (o' := o2 + i) (b := b2) (o := o2) (len := n2) (cap := cap2) (by show some (Value.slice p2 n2 cap2) = _; rw [e2]) rfl Try.underlying23 Try.sizeOf2 (by omega) (by simp)) ?_
                              refine Z.s_val (Z.pv_load1r (v := .int .i64 (vs.getD i 0)) (b := b2) (o := o2) (j := i) rfl hro2 rfl Try.isAgg2 (getmap (by omega))) ?_
                              refine Z.s_mapUpdate (k := ks.getD i 0) (v := vs.getD i 0) rfl rfl rfl Try.underlying29 kU32 (by repeat (first | with_reducible exact Z.Take.here | apply Z.Take.there)) ?_
                              refine Z.j_nil ?_
                              refine Z.j_blk ?_
                              refine Z.j_then ?_
                              refine Z.j_region ?_
                              refine Z.s_val (Z.pv_add rfl rfl (by first | exact IntWalk.i64_in _ (by omega) | rfl)) ?_
                              refine Z.s_val (Z.pv_move rfl) ?_
                              refine Z.j_nil ?_
                              refine Z.j_then ?_
                              rw [eS]
                              have eM : Z.mput (ks.getD i 0) (vs.getD i 0) (mp ks vs i) = mp ks vs (i + 1) := rfl
                              rw [eM]
                              (exact Z.j_nextF (X := { x : (Nat) // (x) ≤ n1 }) (EE := (fun (x : { x : (Nat) // (x) ≤ n1 }) => [(0, .slice p1 n1 cap1), (1, .slice p2 n2 cap2), (5, .pointer (some ⟨tb, 0, none⟩)), (7, .map (some b36)), (8, .int .i64 (stp ks vs (x.1)).2.nodes.length), (37, .slice p1 n1 cap1), (38, .int .i64 n1), (39, .int .i64 ((x.1) : Nat))])) (LL := (fun (x : { x : (Nat) // (x) ≤ n1 }) => [Z.cl tb 52 [.pointer (some ⟨ab, 0, none⟩), .int .i32 (stp ks vs (x.1)).1], Arena ab (stp ks vs (x.1)).2, Z.MapP b36 (Value.int .u32) (Value.int .i64) (mp ks vs (x.1))])) (μ := (fun (x : { x : (Nat) // (x) ≤ n1 }) => n1 - (x.1))) (x := ⟨(i), hinv⟩) ⟨(i + 1), by omega⟩ (by show n1 - (i + 1) < n1 - i; omega) (by repeat (first | exact trivial | refine ⟨rfl, ?_⟩)) (by repeat (first | with_reducible exact Z.Takes.nil | (apply Z.Takes.cons; (repeat (first | with_reducible exact Z.Take.here | apply Z.Take.there))))) (by repeat (first | with_reducible exact Z.Drop.nil | apply Z.Drop.cons)))
                  · try (with_reducible first | replace hg52 := of_decide_eq_true hg52 | replace hg52 := of_decide_eq_false hg52 | replace hg52 := Z.nd_true hg52 | replace hg52 := Z.nd_false hg52 | replace hg52 := Z.nn_true hg52 | replace hg52 := Z.nn_false hg52 | replace hg52 := Z.nb_true hg52 | replace hg52 := Z.nb_false hg52)
                    first
                    | (exfalso; first | (cases hg52; done) | omega)
                    | skip
                      refine Z.s_val (Z.pv_move rfl) ?_
                      refine Z.s_callD rfl rfl rfl isFn7 (by repeat (first | with_reducible exact Z.Takes.nil | (apply Z.Takes.cons; (repeat (first | with_reducible exact Z.Take.here | apply Z.Take.there))))) (by repeat (first | exact Z.App.nil | apply Z.App.cons)) (nodes_spec _ _ _ _ _) ?_
                      refine Z.s_val (Z.pv_move rfl) ?_
                      refine Z.s_val (Z.pv_lss rfl rfl) ?_
                      refine Z.s_val (Z.pv_pick rfl rfl) ?_
                      refine Z.s_val (Z.pv_move rfl) ?_
                      refine Z.s_split 58 rfl (fun hg58 => ?_) (fun hg58 => ?_)
                      · try (with_reducible first | replace hg58 := of_decide_eq_true hg58 | replace hg58 := of_decide_eq_false hg58 | replace hg58 := Z.nd_true hg58 | replace hg58 := Z.nd_false hg58 | replace hg58 := Z.nn_true hg58 | replace hg58 := Z.nn_false hg58 | replace hg58 := Z.nb_true hg58 | replace hg58 := Z.nb_false hg58)
                        first
                        | (exfalso; first | (cases hg58; done) | omega)
                        | skip
                          refine Z.s_skip ?_
                          refine Z.s_skip ?_
                          refine Z.s_skip ?_
                          refine Z.s_skip ?_
                          refine Z.s_skip ?_
                          refine Z.s_val (Z.pv_pick rfl rfl) ?_
                          refine Z.j_nil ?_
                          refine Z.j_then ?_
                          refine Z.j_cond rfl (fun hc64 => ?_) (fun hc64 => ?_)
                          · exfalso; first | (cases hc64; done) | try (with_reducible first | replace hc64 := of_decide_eq_true hc64 | replace hc64 := of_decide_eq_false hc64 | replace hc64 := Z.nd_true hc64 | replace hc64 := Z.nd_false hc64 | replace hc64 := Z.nn_true hc64 | replace hc64 := Z.nn_false hc64 | replace hc64 := Z.nb_true hc64 | replace hc64 := Z.nb_false hc64); first | omega | (simp_all; done)
                          · try (with_reducible first | replace hc64 := of_decide_eq_true hc64 | replace hc64 := of_decide_eq_false hc64 | replace hc64 := Z.nd_true hc64 | replace hc64 := Z.nd_false hc64 | replace hc64 := Z.nn_true hc64 | replace hc64 := Z.nn_false hc64 | replace hc64 := Z.nb_true hc64 | replace hc64 := Z.nb_false hc64)
                            first
                            | (exfalso; first | (cases hc64; done) | omega)
                            | skip
                              refine Z.j_skip ?_
                              refine Z.j_then ?_
                              refine Z.j_seq ?_
                              refine Z.j_region ?_
                              refine Z.s_val (Z.pv_move rfl) ?_
                              refine Z.s_callD rfl rfl rfl isFn7 (by repeat (first | with_reducible exact Z.Takes.nil | (apply Z.Takes.cons; (repeat (first | with_reducible exact Z.Take.here | apply Z.Take.there))))) (by repeat (first | exact Z.App.nil | apply Z.App.cons)) (nodes_spec _ _ _ _ _) ?_
                              refine Z.s_val (Z.pv_assign rfl) ?_
                              refine Z.j_nil ?_
                              refine Z.j_then ?_
                              refine Z.j_region ?_
                              refine Z.s_val (Z.pv_move rfl) ?_
                              refine Z.s_val (Z.pv_move rfl) ?_
                              refine Z.s_val (Z.pv_move rfl) ?_
                              refine Z.s_val (Z.pv_move rfl) ?_
                              refine Z.s_val (Z.pv_indexAddr (o' := o2 + i) (b := b2) (o := o2) (len := n2) (cap := cap2) (by show some (Value.slice p2 n2 cap2) = _; rw [e2]) rfl Try.underlying23 Try.sizeOf2 (by omega) (by simp)) ?_
                              refine Z.s_val (Z.pv_load1r (v := .int .i64 (vs.getD i 0)) (b := b2) (o := o2) (j := i) rfl hro2 rfl Try.isAgg2 (getmap (by omega))) ?_
                              refine Z.s_mapUpdate (k := ks.getD i 0) (v := vs.getD i 0) rfl rfl rfl Try.underlying29 kU32 (by repeat (first | with_reducible exact Z.Take.here | apply Z.Take.there)) ?_
                              refine Z.j_nil ?_
                              refine Z.j_blk ?_
                              refine Z.j_then ?_
                              refine Z.j_region ?_
                              refine Z.s_val (Z.pv_add rfl rfl (by first | exact IntWalk.i64_in _ (by omega) | rfl)) ?_
                              refine Z.s_val (Z.pv_move rfl) ?_
                              refine Z.j_nil ?_
                              refine Z.j_then ?_
                              rw [eS]
                              have eM : Z.mput (ks.getD i 0) (vs.getD i 0) (mp ks vs i) = mp ks vs (i + 1) := rfl
                              rw [eM]
                              (exact Z.j_nextF (X := { x : (Nat) // (x) ≤ n1 }) (EE := (fun (x : { x : (Nat) // (x) ≤ n1 }) => [(0, .slice p1 n1 cap1), (1, .slice p2 n2 cap2), (5, .pointer (some ⟨tb, 0, none⟩)), (7, .map (some b36)), (8, .int .i64 (stp ks vs (x.1)).2.nodes.length), (37, .slice p1 n1 cap1), (38, .int .i64 n1), (39, .int .i64 ((x.1) : Nat))])) (LL := (fun (x : { x : (Nat) // (x) ≤ n1 }) => [Z.cl tb 52 [.pointer (some ⟨ab, 0, none⟩), .int .i32 (stp ks vs (x.1)).1], Arena ab (stp ks vs (x.1)).2, Z.MapP b36 (Value.int .u32) (Value.int .i64) (mp ks vs (x.1))])) (μ := (fun (x : { x : (Nat) // (x) ≤ n1 }) => n1 - (x.1))) (x := ⟨(i), hinv⟩) ⟨(i + 1), by omega⟩ (by show n1 - (i + 1) < n1 - i; omega) (by repeat (first | exact trivial | refine ⟨rfl, ?_⟩)) (by repeat (first | with_reducible exact Z.Takes.nil | (apply Z.Takes.cons; (repeat (first | with_reducible exact Z.Take.here | apply Z.Take.there))))) (by repeat (first | with_reducible exact Z.Drop.nil | apply Z.Drop.cons)))
                      · try (with_reducible first | replace hg58 := of_decide_eq_true hg58 | replace hg58 := of_decide_eq_false hg58 | replace hg58 := Z.nd_true hg58 | replace hg58 := Z.nd_false hg58 | replace hg58 := Z.nn_true hg58 | replace hg58 := Z.nn_false hg58 | replace hg58 := Z.nb_true hg58 | replace hg58 := Z.nb_false hg58)
                        first
                        | (exfalso; first | (cases hg58; done) | omega)
                        | skip
                          refine Z.s_val (Z.pv_move rfl) ?_
                          refine Z.s_callD rfl rfl rfl isFn7 (by repeat (first | with_reducible exact Z.Takes.nil | (apply Z.Takes.cons; (repeat (first | with_reducible exact Z.Take.here | apply Z.Take.there))))) (by repeat (first | exact Z.App.nil | apply Z.App.cons)) (nodes_spec _ _ _ _ _) ?_
                          refine Z.s_val (Z.pv_move rfl) ?_
                          refine Z.s_val (Z.pv_add rfl rfl (by first | exact IntWalk.i64_in _ (by omega) | rfl)) ?_
                          refine Z.s_val (Z.pv_gtr rfl rfl) ?_
                          refine Z.s_val (Z.pv_pick rfl rfl) ?_
                          refine Z.j_nil ?_
                          refine Z.j_then ?_
                          refine Z.j_cond rfl (fun hc64 => ?_) (fun hc64 => ?_)
                          · exfalso; first | (cases hc64; done) | try (with_reducible first | replace hc64 := of_decide_eq_true hc64 | replace hc64 := of_decide_eq_false hc64 | replace hc64 := Z.nd_true hc64 | replace hc64 := Z.nd_false hc64 | replace hc64 := Z.nn_true hc64 | replace hc64 := Z.nn_false hc64 | replace hc64 := Z.nb_true hc64 | replace hc64 := Z.nb_false hc64); first | omega | (simp_all; done)
                          · try (with_reducible first | replace hc64 := of_decide_eq_true hc64 | replace hc64 := of_decide_eq_false hc64 | replace hc64 := Z.nd_true hc64 | replace hc64 := Z.nd_false hc64 | replace hc64 := Z.nn_true hc64 | replace hc64 := Z.nn_false hc64 | replace hc64 := Z.nb_true hc64 | replace hc64 := Z.nb_false hc64)
                            first
                            | (exfalso; first | (cases hc64; done) | omega)
                            | skip
                              refine Z.j_skip ?_
                              refine Z.j_then ?_
                              refine Z.j_seq ?_
                              refine Z.j_region ?_
                              refine Z.s_val (Z.pv_move rfl) ?_
                              refine Z.s_callD rfl rfl rfl isFn7 (by repeat (first | with_reducible exact Z.Takes.nil | (apply Z.Takes.cons; (repeat (first | with_reducible exact Z.Take.here | apply Z.Take.there))))) (by repeat (first | exact Z.App.nil | apply Z.App.cons)) (nodes_spec _ _ _ _ _) ?_
                              refine Z.s_val (Z.pv_assign rfl) ?_
                              refine Z.j_nil ?_
                              refine Z.j_then ?_
                              refine Z.j_region ?_
                              refine Z.s_val (Z.pv_move rfl) ?_
                              refine Z.s_val (Z.pv_move rfl) ?_
                              refine Z.s_val (Z.pv_move rfl) ?_
                              refine Z.s_val (Z.pv_move rfl) ?_
                              refine Z.s_val (Z.pv_indexAddr (o' := o2 + i) (b := b2) (o := o2) (len := n2) (cap := cap2) (by show some (Value.slice p2 n2 cap2) = _; rw [e2]) rfl Try.underlying23 Try.sizeOf2 (by omega) (by simp)) ?_
                              refine Z.s_val (Z.pv_load1r (v := .int .i64 (vs.getD i 0)) (b := b2) (o := o2) (j := i) rfl hro2 rfl Try.isAgg2 (getmap (by omega))) ?_
                              refine Z.s_mapUpdate (k := ks.getD i 0) (v := vs.getD i 0) rfl rfl rfl Try.underlying29 kU32 (by repeat (first | with_reducible exact Z.Take.here | apply Z.Take.there)) ?_
                              refine Z.j_nil ?_
                              refine Z.j_blk ?_
                              refine Z.j_then ?_
                              refine Z.j_region ?_
                              refine Z.s_val (Z.pv_add rfl rfl (by first | exact IntWalk.i64_in _ (by omega) | rfl)) ?_
                              refine Z.s_val (Z.pv_move rfl) ?_
                              refine Z.j_nil ?_
                              refine Z.j_then ?_
                              rw [eS]
                              have eM : Z.mput (ks.getD i 0) (vs.getD i 0) (mp ks vs i) = mp ks vs (i + 1) := rfl
                              rw [eM]
                              (exact Z.j_nextF (X := { x : (Nat) // (x) ≤ n1 }) (EE := (fun (x : { x : (Nat) // (x) ≤ n1 }) => [(0, .slice p1 n1 cap1), (1, .slice p2 n2 cap2), (5, .pointer (some ⟨tb, 0, none⟩)), (7, .map (some b36)), (8, .int .i64 (stp ks vs (x.1)).2.nodes.length), (37, .slice p1 n1 cap1), (38, .int .i64 n1), (39, .int .i64 ((x.1) : Nat))])) (LL := (fun (x : { x : (Nat) // (x) ≤ n1 }) => [Z.cl tb 52 [.pointer (some ⟨ab, 0, none⟩), .int .i32 (stp ks vs (x.1)).1], Arena ab (stp ks vs (x.1)).2, Z.MapP b36 (Value.int .u32) (Value.int .i64) (mp ks vs (x.1))])) (μ := (fun (x : { x : (Nat) // (x) ≤ n1 }) => n1 - (x.1))) (x := ⟨(i), hinv⟩) ⟨(i + 1), by omega⟩ (by show n1 - (i + 1) < n1 - i; omega) (by repeat (first | exact trivial | refine ⟨rfl, ?_⟩)) (by repeat (first | with_reducible exact Z.Takes.nil | (apply Z.Takes.cons; (repeat (first | with_reducible exact Z.Take.here | apply Z.Take.there))))) (by repeat (first | with_reducible exact Z.Drop.nil | apply Z.Drop.cons)))
              · try (with_reducible first | replace hc40 := of_decide_eq_true hc40 | replace hc40 := of_decide_eq_false hc40 | replace hc40 := Z.nd_true hc40 | replace hc40 := Z.nd_false hc40 | replace hc40 := Z.nn_true hc40 | replace hc40 := Z.nn_false hc40 | replace hc40 := Z.nb_true hc40 | replace hc40 := Z.nb_false hc40)
                first
                | (exfalso; first | (cases hc40; done) | omega)
                | skip
                  refine Z.j_exit ?_
                  refine Z.j_then_exit ?_
                  refine Z.j_then_exit ?_
                  refine Z.j_blk_here rfl ?_
                  refine Z.j_then ?_
                  refine Z.j_seq ?_
                  refine Z.j_seq ?_
                  refine Z.j_region ?_
                  refine Z.s_val (Z.pv_move rfl) ?_
                  refine Z.s_range rfl Try.underlying29 (by repeat (first | with_reducible exact Z.Take.here | apply Z.Take.there)) (fun r75 bs75 clock75 hk75 => ?_)
                  refine Z.j_nil ?_
                  refine Z.j_then ?_
                  refine Z.j_block ?_
                  have eN : n1 = i := by omega
                  subst eN
                  obtain ⟨hrN, hAN⟩ := stp_ok ks vs n1
                  have hln := hl.len
                  have hml := mp_len ks vs n1
                  have hcn := hl.count
                  refine Z.j_initF (E' := [(5, .pointer (some ⟨tb, 0, none⟩)), (7, .map (some b36)), (75, .pointer (some ⟨r75, 0, none⟩))]) (As := [Z.It r75 b36 clock75 (#[]), Z.MapB b36 (Value.int .u32) (Value.int .i64) (mp ks vs n1) bs75 clock75, Z.cl tb 52 [.pointer (some ⟨ab, 0, none⟩), .int .i32 (stp ks vs n1).1], Arena ab (stp ks vs n1).2]) (Fr := Fr) (by repeat (first | exact trivial | refine ⟨rfl, ?_⟩)) (by repeat (first | with_reducible exact Z.Takes.nil | (apply Z.Takes.cons; (repeat (first | with_reducible exact Z.Take.here | apply Z.Take.there))))) (by repeat (first | with_reducible exact Z.Drop.nil | apply Z.Drop.cons)) ?_
                  refine Z.j_loop (X := { x : (Array Nat) // True }) (fun (x : { x : (Array Nat) // True }) => [(5, .pointer (some ⟨tb, 0, none⟩)), (7, .map (some b36)), (75, .pointer (some ⟨r75, 0, none⟩))]) (fun x => (fun (x : { x : (Array Nat) // True }) => [Z.It r75 b36 clock75 (x.1), Z.MapB b36 (Value.int .u32) (Value.int .i64) (mp ks vs n1) bs75 clock75, Z.cl tb 52 [.pointer (some ⟨ab, 0, none⟩), .int .i32 (stp ks vs n1).1], Arena ab (stp ks vs n1).2]) x ++ Fr) (fun (x : { x : (Array Nat) // True }) => Z.mleft bs75 (x.1)) ⟨(#[]), trivial⟩ (fun x => ?_)
                  obtain ⟨seen, hinv⟩ := x
                  have hinv' : True := hinv
                  obtain _ := hinv'
                  show Z.J _ _ _ ([(5, .pointer (some ⟨tb, 0, none⟩)), (7, .map (some b36)), (75, .pointer (some ⟨r75, 0, none⟩))]) ([Z.It r75 b36 clock75 seen, Z.MapB b36 (Value.int .u32) (Value.int .i64) (mp ks vs n1) bs75 clock75, Z.cl tb 52 [.pointer (some ⟨ab, 0, none⟩), .int .i32 (stp ks vs n1).1], Arena ab (stp ks vs n1).2] ++ Fr) _
                  refine Z.j_app (by repeat (first | exact Z.App.nil | apply Z.App.cons)) ?_
                  refine Z.j_seq ?_
                  refine Z.j_region ?_
                  refine Z.s_next rfl hk75 (by repeat (first | with_reducible exact Z.Take.here | apply Z.Take.there)) (fun _ => (by repeat (first | with_reducible exact Z.Upd.here | apply Z.Upd.there))) (fun hall76 => ?_) (fun ix76 ky76 vl76 y76 hm76 hy76 hns76 hlt76 => ?_)
                  · skip
                    refine Z.s_val (Z.pv_extract rfl rfl) ?_
                    refine Z.j_nil ?_
                    refine Z.j_then ?_
                    refine Z.j_seq ?_
                    refine Z.j_cond rfl (fun hc77 => ?_) (fun hc77 => ?_)
                    · exfalso; first | (cases hc77; done) | (simp at hc77; done) | (simp at hc77; omega)
                    · try (with_reducible first | replace hc77 := of_decide_eq_true hc77 | replace hc77 := of_decide_eq_false hc77 | replace hc77 := Z.nd_true hc77 | replace hc77 := Z.nd_false hc77 | replace hc77 := Z.nn_true hc77 | replace hc77 := Z.nn_false hc77 | replace hc77 := Z.nb_true hc77 | replace hc77 := Z.nb_false hc77)
                      first
                      | (exfalso; first | (cases hc77; done) | omega)
                      | skip
                        refine Z.j_exit ?_
                        refine Z.j_then_exit ?_
                        refine Z.j_then_exit ?_
                        refine Z.j_blk_here rfl ?_
                        refine Z.j_then ?_
                        refine Z.j_seq ?_
                        refine Z.j_region ?_
                        refine Z.s_val (Z.pv_move rfl) ?_
                        refine Z.s_call rfl rfl rfl isFn10 (by repeat (first | with_reducible exact Z.Takes.nil | (apply Z.Takes.cons; (repeat (first | with_reducible exact Z.Take.here | apply Z.Take.there))))) (pairs_spec _ _ _ _ _ _ hAN hrN (by omega) (by omega)) ?_
                        rintro v108 _ rfl
                        refine Z.j_app (by repeat (first | exact Z.App.nil | apply Z.App.cons)) ?_
                        refine Z.s_val (Z.pv_assign rfl) ?_
                        rw [hl.walked]
                        refine Z.j_nil ?_
                        refine Z.j_then ?_
                        refine Z.j_seq ?_
                        refine Z.j_seq ?_
                        refine Z.j_region ?_
                        refine Z.s_val (Z.pv_move rfl) ?_
                        refine Z.s_val (Z.pv_lenO rfl (by repeat (first | with_reducible exact Z.Take.here | apply Z.Take.there)) Try.underlying36) ?_
                        refine Z.s_val (Z.pv_move rfl) ?_
                        refine Z.j_nil ?_
                        refine Z.j_then ?_
                        refine Z.j_block ?_
                        refine Z.j_initF (E' := [(5, .pointer (some ⟨tb, 0, none⟩)), (7, .map (some b36)), (17, v108), (109, v108), (110, .int .i64 (Ar.pairs (stp ks vs n1).2 (stp ks vs n1).1).length), (111, .int .i64 ((0) : Nat))]) (As := [Z.Own 39 2 v108 (Ar.pairs (stp ks vs n1).2 (stp ks vs n1).1).length (pcells (Ar.pairs (stp ks vs n1).2 (stp ks vs n1).1)), Z.MapB b36 (Value.int .u32) (Value.int .i64) (mp ks vs n1) bs75 clock75, Z.cl tb 52 [.pointer (some ⟨ab, 0, none⟩), .int .i32 (stp ks vs n1).1], Arena ab (stp ks vs n1).2]) (Fr := Fr) (by repeat (first | exact trivial | refine ⟨rfl, ?_⟩)) (by repeat (first | with_reducible exact Z.Takes.nil | (apply Z.Takes.cons; (repeat (first | with_reducible exact Z.Take.here | apply Z.Take.there))))) (by repeat (first | with_reducible exact Z.Drop.nil | apply Z.Drop.cons)) ?_
                        refine Z.j_loop (X := { x : (Nat) // (x) ≤ (Ar.pairs (stp ks vs n1).2 (stp ks vs n1).1).length }) (fun (x : { x : (Nat) // (x) ≤ (Ar.pairs (stp ks vs n1).2 (stp ks vs n1).1).length }) => [(5, .pointer (some ⟨tb, 0, none⟩)), (7, .map (some b36)), (17, v108), (109, v108), (110, .int .i64 (Ar.pairs (stp ks vs n1).2 (stp ks vs n1).1).length), (111, .int .i64 ((x.1) : Nat))]) (fun x => (fun (x : { x : (Nat) // (x) ≤ (Ar.pairs (stp ks vs n1).2 (stp ks vs n1).1).length }) => [Z.Own 39 2 v108 (Ar.pairs (stp ks vs n1).2 (stp ks vs n1).1).length (pcells (Ar.pairs (stp ks vs n1).2 (stp ks vs n1).1)), Z.MapB b36 (Value.int .u32) (Value.int .i64) (mp ks vs n1) bs75 clock75, Z.cl tb 52 [.pointer (some ⟨ab, 0, none⟩), .int .i32 (stp ks vs n1).1], Arena ab (stp ks vs n1).2]) x ++ Fr) (fun (x : { x : (Nat) // (x) ≤ (Ar.pairs (stp ks vs n1).2 (stp ks vs n1).1).length }) => (Ar.pairs (stp ks vs n1).2 (stp ks vs n1).1).length - (x.1)) ⟨(0), by omega⟩ (fun x => ?_)
                        obtain ⟨i, hinv⟩ := x
                        have hinv' : i ≤ (Ar.pairs (stp ks vs n1).2 (stp ks vs n1).1).length := hinv
                        obtain hi := hinv'
                        show Z.J _ _ _ ([(5, .pointer (some ⟨tb, 0, none⟩)), (7, .map (some b36)), (17, v108), (109, v108), (110, .int .i64 (Ar.pairs (stp ks vs n1).2 (stp ks vs n1).1).length), (111, .int .i64 (i : Nat))]) ([Z.Own 39 2 v108 (Ar.pairs (stp ks vs n1).2 (stp ks vs n1).1).length (pcells (Ar.pairs (stp ks vs n1).2 (stp ks vs n1).1)), Z.MapB b36 (Value.int .u32) (Value.int .i64) (mp ks vs n1) bs75 clock75, Z.cl tb 52 [.pointer (some ⟨ab, 0, none⟩), .int .i32 (stp ks vs n1).1], Arena ab (stp ks vs n1).2] ++ Fr) _
                        refine Z.j_app (by repeat (first | exact Z.App.nil | apply Z.App.cons)) ?_
                        refine Z.j_seq ?_
                        refine Z.j_region ?_
                        refine Z.s_val (Z.pv_lss rfl rfl) ?_
                        refine Z.j_nil ?_
                        refine Z.j_then ?_
                        refine Z.j_seq ?_
                        refine Z.j_cond rfl (fun hc112 => ?_) (fun hc112 => ?_)
                        · try (with_reducible first | replace hc112 := of_decide_eq_true hc112 | replace hc112 := of_decide_eq_false hc112 | replace hc112 := Z.nd_true hc112 | replace hc112 := Z.nd_false hc112 | replace hc112 := Z.nn_true hc112 | replace hc112 := Z.nn_false hc112 | replace hc112 := Z.nb_true hc112 | replace hc112 := Z.nb_false hc112)
                          first
                          | (exfalso; first | (cases hc112; done) | omega)
                          | skip
                            have hi2 : i < (Ar.pairs (stp ks vs n1).2 (stp ks vs n1).1).length := by omega
                            obtain ⟨⟨pk, pv⟩, hpi⟩ : ∃ p, (Ar.pairs (stp ks vs n1).2 (stp ks vs n1).1)[i]? = some p := ⟨_, List.getElem?_eq_getElem hi2⟩
                            have hpm := hl.pair i pk pv hpi
                            obtain ⟨⟨qk, qv⟩, hpj⟩ : ∃ p, (Ar.pairs (stp ks vs n1).2 (stp ks vs n1).1)[i - 1]? = some p := ⟨_, List.getElem?_eq_getElem (by omega)⟩
                            have hsd : 0 < i → qk < pk := fun h => hl.sorted (i - 1) qk qv pk pv hpj (by rw [show i - 1 + 1 = i by omega]; exact hpi)
                            refine Z.j_skip ?_
                            refine Z.j_then ?_
                            refine Z.j_seq ?_
                            refine Z.j_block ?_
                            refine Z.j_seq ?_
                            refine Z.j_unown (T := 39) (k := 2) (by repeat (first | with_reducible exact Z.Take.here | apply Z.Take.there)) (fun e1 e2 e3 => by exfalso; omega) (fun nb cap sp e1 e2 e3 => ?_)
                            refine Z.j_region ?_
                            refine Z.s_val (Z.pv_move rfl) ?_
                            refine Z.s_val (Z.pv_indexAddr (o' := i * 2) (b := nb) (o := 0) (len := (Ar.pairs (stp ks vs n1).2 (stp ks vs n1).1).length) (cap := cap) (by show some v108 = _; rw [e1]) rfl Try.underlying36 Try.sizeOf39 (by omega) (by simp)) ?_
                            refine Z.s_val (Z.pv_loadA rfl (by repeat (first | with_reducible exact Z.Take.here | apply Z.Take.there)) Try.isAgg39 Try.sizeOf39 (slc_pair sp hpi)) ?_
                            refine Z.s_alloc Try.zeroValue39 (fun b19 => ?_)
                            refine Z.s_val (Z.pv_assign rfl) ?_
                            refine Z.s_storeA rfl rfl Try.sizeOf39 rfl (by repeat (first | with_reducible exact Z.Upd.here | apply Z.Upd.there)) (by rfl) ?_
                            refine Z.j_nil ?_
                            refine Z.j_then ?_
                            refine Z.j_seq ?_
                            by_cases hd125 : 0 < (i : Int)
                            · skip
                              refine Z.j_draw (vals := [_, _, _, _, _, _, _, _, _, _, _, _, _, _, _, _, _, _, _, _, _, _]) 22 (by kernel_rfl) (by kernel_rfl) rfl (by rfl) (Z.heads_cons (Z.hq_val (Z.pv_move (by rfl))) (Z.heads_cons (Z.hq_val (Z.pv_fieldAddr (o' := 0) (by rfl) Try.underlying39 (by rfl) (by exact Try.sizeOf30) (by rfl))) (Z.heads_cons (Z.hq_val (Z.pv_load1 (by rfl) (by repeat (first | with_reducible exact Z.Take.here | apply Z.Take.there)) Try.isAgg30 (by rfl))) (Z.heads_cons (Z.hq_val (Z.pv_is (Z.pv_lookupB hk75 (by rfl) (by rfl) Try.underlying29 kU32 Try.zeroValue2 (by repeat (first | with_reducible exact Z.Take.here | apply Z.Take.there))) (by rw [hpm]))) (Z.heads_cons (Z.hq_val (Z.pv_fieldAddr (o' := 1) (by rfl) Try.underlying39 (by rfl) (by exact Try.sizeOf2) (by rfl))) (Z.heads_cons (Z.hq_val (Z.pv_load1 (by rfl) (by repeat (first | with_reducible exact Z.Take.here | apply Z.Take.there)) Try.isAgg2 (by rfl))) (Z.heads_cons (Z.hq_val (Z.pv_is (Z.pv_neq (by rfl) (by rfl)) (show _ = Value.bool false by simp))) (Z.heads_cons (Z.hq_val (Z.pv_move (by rfl))) (Z.heads_cons (Z.hq_val (Z.pv_move (by rfl))) (Z.heads_cons (Z.hq_val (Z.pv_is (Z.pv_gtr (by rfl) (by rfl)) (Z.bool_t hd125))) (Z.heads_cons (Z.hq_val (Z.pv_move (by rfl))) (Z.heads_cons (Z.hq_val (Z.pv_move (by rfl))) (Z.heads_cons (Z.hq_val (Z.pv_move (by rfl))) (Z.heads_cons (Z.hq_val (Z.pv_sub (by rfl) (by rfl) (by first | exact IntWalk.i64_in _ (by omega) | rfl))) (Z.heads_cons (Z.hq_val (Z.pv_indexAddr (o' := (i - 1) * 2) (b := nb) (o := 0) (len := (Ar.pairs (stp ks vs n1).2 (stp ks vs n1).1).length) (cap := cap) (by show some v108 = _; rw [e1]) (by rfl) Try.underlying36 (by exact Try.sizeOf39) (by omega) (by omega))) (Z.heads_cons (Z.hq_val (Z.pv_fieldAddr (by rfl) Try.underlying39 (by rfl) (by exact Try.sizeOf30) (by rfl))) (Z.heads_cons (Z.hq_val (Z.pv_load1 (by rfl) (by repeat (first | with_reducible exact Z.Take.here | apply Z.Take.there)) Try.isAgg30 (cell_pair sp hpj))) (Z.heads_cons (Z.hq_val (Z.pv_fieldAddr (o' := 0) (by rfl) Try.underlying39 (by rfl) (by exact Try.sizeOf30) (by rfl))) (Z.heads_cons (Z.hq_val (Z.pv_load1 (by rfl) (by repeat (first | with_reducible exact Z.Take.here | apply Z.Take.there)) Try.isAgg30 (by rfl))) (Z.heads_cons (Z.hq_val (Z.pv_geq (by rfl) (by rfl))) (Z.heads_cons (Z.hq_val (Z.pv_pick (by rfl) (by rfl))) (Z.heads_cons (Z.hq_val (Z.pv_pick (by rfl) (by rfl))) Z.heads_nil)))))))))))))))))))))) ?_
                              refine Z.j_nil ?_
                              refine Z.j_then ?_
                              refine Z.j_cond rfl (fun hc137 => ?_) (fun hc137 => ?_)
                              · exfalso; first | (cases hc137; done) | try (with_reducible first | replace hc137 := of_decide_eq_true hc137 | replace hc137 := of_decide_eq_false hc137 | replace hc137 := Z.nd_true hc137 | replace hc137 := Z.nd_false hc137 | replace hc137 := Z.nn_true hc137 | replace hc137 := Z.nn_false hc137 | replace hc137 := Z.nb_true hc137 | replace hc137 := Z.nb_false hc137); first | omega | (simp_all; done)
                              · try (with_reducible first | replace hc137 := of_decide_eq_true hc137 | replace hc137 := of_decide_eq_false hc137 | replace hc137 := Z.nd_true hc137 | replace hc137 := Z.nd_false hc137 | replace hc137 := Z.nn_true hc137 | replace hc137 := Z.nn_false hc137 | replace hc137 := Z.nb_true hc137 | replace hc137 := Z.nb_false hc137)
                                first
                                | (exfalso; first | (cases hc137; done) | omega)
                                | skip
                                  refine Z.j_skip ?_
                                  refine Z.j_blk ?_
                                  refine Z.j_then ?_
                                  refine Z.j_region ?_
                                  refine Z.s_val (Z.pv_add rfl rfl (by first | exact IntWalk.i64_in _ (by omega) | rfl)) ?_
                                  refine Z.s_val (Z.pv_move rfl) ?_
                                  refine Z.j_nil ?_
                                  refine Z.j_then ?_
                                  refine Z.j_own (T := 39) (k := 2) (m := (Ar.pairs (stp ks vs n1).2 (stp ks vs n1).1).length) (cap := cap) (c := pcells (Ar.pairs (stp ks vs n1).2 (stp ks vs n1).1)) (sp := sp) (by repeat (first | with_reducible exact Z.Take.here | apply Z.Take.there)) e2 e3 ?_
                                  rw [← e1]
                                  (exact Z.j_nextF (X := { x : (Nat) // (x) ≤ (Ar.pairs (stp ks vs n1).2 (stp ks vs n1).1).length }) (EE := (fun (x : { x : (Nat) // (x) ≤ (Ar.pairs (stp ks vs n1).2 (stp ks vs n1).1).length }) => [(5, .pointer (some ⟨tb, 0, none⟩)), (7, .map (some b36)), (17, v108), (109, v108), (110, .int .i64 (Ar.pairs (stp ks vs n1).2 (stp ks vs n1).1).length), (111, .int .i64 ((x.1) : Nat))])) (LL := (fun (x : { x : (Nat) // (x) ≤ (Ar.pairs (stp ks vs n1).2 (stp ks vs n1).1).length }) => [Z.Own 39 2 v108 (Ar.pairs (stp ks vs n1).2 (stp ks vs n1).1).length (pcells (Ar.pairs (stp ks vs n1).2 (stp ks vs n1).1)), Z.MapB b36 (Value.int .u32) (Value.int .i64) (mp ks vs n1) bs75 clock75, Z.cl tb 52 [.pointer (some ⟨ab, 0, none⟩), .int .i32 (stp ks vs n1).1], Arena ab (stp ks vs n1).2])) (μ := (fun (x : { x : (Nat) // (x) ≤ (Ar.pairs (stp ks vs n1).2 (stp ks vs n1).1).length }) => (Ar.pairs (stp ks vs n1).2 (stp ks vs n1).1).length - (x.1))) (x := ⟨(i), hinv⟩) ⟨(i + 1), by omega⟩ (by show (Ar.pairs (stp ks vs n1).2 (stp ks vs n1).1).length - (i + 1) < (Ar.pairs (stp ks vs n1).2 (stp ks vs n1).1).length - i; omega) (by repeat (first | exact trivial | refine ⟨rfl, ?_⟩)) (by repeat (first | with_reducible exact Z.Takes.nil | (apply Z.Takes.cons; (repeat (first | with_reducible exact Z.Take.here | apply Z.Take.there))))) (by repeat (first | with_reducible exact Z.Drop.nil | apply Z.Drop.cons)))
                            · skip
                              refine Z.j_draw (vals := [_, _, _, _, _, _, _, _, _, _, _, _, _, _, _, _, _, _, _, _, _, _]) 22 (by kernel_rfl) (by kernel_rfl) rfl (by rfl) (Z.heads_cons (Z.hq_val (Z.pv_move (by rfl))) (Z.heads_cons (Z.hq_val (Z.pv_fieldAddr (o' := 0) (by rfl) Try.underlying39 (by rfl) (by exact Try.sizeOf30) (by rfl))) (Z.heads_cons (Z.hq_val (Z.pv_load1 (by rfl) (by repeat (first | with_reducible exact Z.Take.here | apply Z.Take.there)) Try.isAgg30 (by rfl))) (Z.heads_cons (Z.hq_val (Z.pv_is (Z.pv_lookupB hk75 (by rfl) (by rfl) Try.underlying29 kU32 Try.zeroValue2 (by repeat (first | with_reducible exact Z.Take.here | apply Z.Take.there))) (by rw [hpm]))) (Z.heads_cons (Z.hq_val (Z.pv_fieldAddr (o' := 1) (by rfl) Try.underlying39 (by rfl) (by exact Try.sizeOf2) (by rfl))) (Z.heads_cons (Z.hq_val (Z.pv_load1 (by rfl) (by repeat (first | with_reducible exact Z.Take.here | apply Z.Take.there)) Try.isAgg2 (by rfl))) (Z.heads_cons (Z.hq_val (Z.pv_is (Z.pv_neq (by rfl) (by rfl)) (show _ = Value.bool false by simp))) (Z.heads_cons (Z.hq_val (Z.pv_move (by rfl))) (Z.heads_cons (Z.hq_val (Z.pv_move (by rfl))) (Z.heads_cons (Z.hq_val (Z.pv_is (Z.pv_gtr (by rfl) (by rfl)) (Z.bool_f hd125))) (Z.heads_cons (Z.hq_val (Z.pv_move (by rfl))) (Z.heads_cons Z.hq_skip (Z.heads_cons Z.hq_skip (Z.heads_cons Z.hq_skip (Z.heads_cons Z.hq_skip (Z.heads_cons Z.hq_skip (Z.heads_cons Z.hq_skip (Z.heads_cons Z.hq_skip (Z.heads_cons Z.hq_skip (Z.heads_cons Z.hq_skip (Z.heads_cons (Z.hq_val (Z.pv_pick (by rfl) (by rfl))) (Z.heads_cons (Z.hq_val (Z.pv_pick (by rfl) (by rfl))) Z.heads_nil)))))))))))))))))))))) ?_
                              refine Z.j_nil ?_
                              refine Z.j_then ?_
                              refine Z.j_cond rfl (fun hc137 => ?_) (fun hc137 => ?_)
                              · exfalso; first | (cases hc137; done) | try (with_reducible first | replace hc137 := of_decide_eq_true hc137 | replace hc137 := of_decide_eq_false hc137 | replace hc137 := Z.nd_true hc137 | replace hc137 := Z.nd_false hc137 | replace hc137 := Z.nn_true hc137 | replace hc137 := Z.nn_false hc137 | replace hc137 := Z.nb_true hc137 | replace hc137 := Z.nb_false hc137); first | omega | (simp_all; done)
                              · try (with_reducible first | replace hc137 := of_decide_eq_true hc137 | replace hc137 := of_decide_eq_false hc137 | replace hc137 := Z.nd_true hc137 | replace hc137 := Z.nd_false hc137 | replace hc137 := Z.nn_true hc137 | replace hc137 := Z.nn_false hc137 | replace hc137 := Z.nb_true hc137 | replace hc137 := Z.nb_false hc137)
                                first
                                | (exfalso; first | (cases hc137; done) | omega)
                                | skip
                                  refine Z.j_skip ?_
                                  refine Z.j_blk ?_
                                  refine Z.j_then ?_
                                  refine Z.j_region ?_
                                  refine Z.s_val (Z.pv_add rfl rfl (by first | exact IntWalk.i64_in _ (by omega) | rfl)) ?_
                                  refine Z.s_val (Z.pv_move rfl) ?_
                                  refine Z.j_nil ?_
                                  refine Z.j_then ?_
                                  refine Z.j_own (T := 39) (k := 2) (m := (Ar.pairs (stp ks vs n1).2 (stp ks vs n1).1).length) (cap := cap) (c := pcells (Ar.pairs (stp ks vs n1).2 (stp ks vs n1).1)) (sp := sp) (by repeat (first | with_reducible exact Z.Take.here | apply Z.Take.there)) e2 e3 ?_
                                  rw [← e1]
                                  (exact Z.j_nextF (X := { x : (Nat) // (x) ≤ (Ar.pairs (stp ks vs n1).2 (stp ks vs n1).1).length }) (EE := (fun (x : { x : (Nat) // (x) ≤ (Ar.pairs (stp ks vs n1).2 (stp ks vs n1).1).length }) => [(5, .pointer (some ⟨tb, 0, none⟩)), (7, .map (some b36)), (17, v108), (109, v108), (110, .int .i64 (Ar.pairs (stp ks vs n1).2 (stp ks vs n1).1).length), (111, .int .i64 ((x.1) : Nat))])) (LL := (fun (x : { x : (Nat) // (x) ≤ (Ar.pairs (stp ks vs n1).2 (stp ks vs n1).1).length }) => [Z.Own 39 2 v108 (Ar.pairs (stp ks vs n1).2 (stp ks vs n1).1).length (pcells (Ar.pairs (stp ks vs n1).2 (stp ks vs n1).1)), Z.MapB b36 (Value.int .u32) (Value.int .i64) (mp ks vs n1) bs75 clock75, Z.cl tb 52 [.pointer (some ⟨ab, 0, none⟩), .int .i32 (stp ks vs n1).1], Arena ab (stp ks vs n1).2])) (μ := (fun (x : { x : (Nat) // (x) ≤ (Ar.pairs (stp ks vs n1).2 (stp ks vs n1).1).length }) => (Ar.pairs (stp ks vs n1).2 (stp ks vs n1).1).length - (x.1))) (x := ⟨(i), hinv⟩) ⟨(i + 1), by omega⟩ (by show (Ar.pairs (stp ks vs n1).2 (stp ks vs n1).1).length - (i + 1) < (Ar.pairs (stp ks vs n1).2 (stp ks vs n1).1).length - i; omega) (by repeat (first | exact trivial | refine ⟨rfl, ?_⟩)) (by repeat (first | with_reducible exact Z.Takes.nil | (apply Z.Takes.cons; (repeat (first | with_reducible exact Z.Take.here | apply Z.Take.there))))) (by repeat (first | with_reducible exact Z.Drop.nil | apply Z.Drop.cons)))
                        · try (with_reducible first | replace hc112 := of_decide_eq_true hc112 | replace hc112 := of_decide_eq_false hc112 | replace hc112 := Z.nd_true hc112 | replace hc112 := Z.nd_false hc112 | replace hc112 := Z.nn_true hc112 | replace hc112 := Z.nn_false hc112 | replace hc112 := Z.nb_true hc112 | replace hc112 := Z.nb_false hc112)
                          first
                          | (exfalso; first | (cases hc112; done) | omega)
                          | skip
                            refine Z.j_exit ?_
                            refine Z.j_then_exit ?_
                            refine Z.j_then_exit ?_
                            refine Z.j_blk_here rfl ?_
                            refine Z.j_then ?_
                            refine Z.j_seq ?_
                            refine Z.j_region ?_
                            refine Z.s_val (Z.pv_move rfl) ?_
                            refine Z.s_val (Z.pv_lenO rfl (by repeat (first | with_reducible exact Z.Take.here | apply Z.Take.there)) Try.underlying36) ?_
                            refine Z.s_val (Z.pv_move rfl) ?_
                            refine Z.s_val (Z.pv_lenMB hk75 rfl Try.underlying29 (by repeat (first | with_reducible exact Z.Take.here | apply Z.Take.there))) ?_
                            refine Z.s_val (Z.pv_eql rfl rfl) ?_
                            refine Z.s_val (Z.pv_move rfl) ?_
                            refine Z.s_split 144 rfl (fun hg144 => ?_) (fun hg144 => ?_)
                            · try (with_reducible first | replace hg144 := of_decide_eq_true hg144 | replace hg144 := of_decide_eq_false hg144 | replace hg144 := Z.nd_true hg144 | replace hg144 := Z.nd_false hg144 | replace hg144 := Z.nn_true hg144 | replace hg144 := Z.nn_false hg144 | replace hg144 := Z.nb_true hg144 | replace hg144 := Z.nb_false hg144)
                              first
                              | (exfalso; first | (cases hg144; done) | omega)
                              | skip
                                refine Z.s_val (Z.pv_move rfl) ?_
                                refine Z.s_val (Z.pv_build rfl Try.zeroValue44 pl44 rfl) ?_
                                refine Z.s_callD rfl rfl rfl isFn11 (by repeat (first | with_reducible exact Z.Takes.nil | (apply Z.Takes.cons; (repeat (first | with_reducible exact Z.Take.here | apply Z.Take.there))))) (by repeat (first | exact Z.App.nil | apply Z.App.cons)) (Fold_spec _ _ _ _ _ _ _ (by assumption) (by omega)) ?_
                                refine Z.s_val (Z.pv_field1 rfl Try.underlying41 rfl Try.isAgg3 rfl) ?_
                                refine Z.s_val (Z.pv_move rfl) ?_
                                refine Z.s_val (Z.pv_lenMB hk75 rfl Try.underlying29 (by repeat (first | with_reducible exact Z.Take.here | apply Z.Take.there))) ?_
                                refine Z.s_val (Z.pv_eql rfl rfl) ?_
                                refine Z.s_val (Z.pv_pick rfl rfl) ?_
                                refine Z.s_val (Z.pv_assign rfl) ?_
                                refine Z.j_nil ?_
                                refine Z.j_then ?_
                                refine Z.j_ret ?_
                                refine Z.j_done_ret (Z.rv1 (Z.rv_tmp (t := 4) rfl)) ?_
                                exact Z.post_of ⟨by first | rfl | (congr 1; exact decide_eq_true (by omega)) | (congr 1; simp_all; done), rfl⟩ (by repeat (first | with_reducible exact Z.Takes.nil | (apply Z.Takes.cons; (repeat (first | with_reducible exact Z.Take.here | apply Z.Take.there))))) (by repeat (first | with_reducible exact Z.Drop.nil | apply Z.Drop.cons))
                            · try (with_reducible first | replace hg144 := of_decide_eq_true hg144 | replace hg144 := of_decide_eq_false hg144 | replace hg144 := Z.nd_true hg144 | replace hg144 := Z.nd_false hg144 | replace hg144 := Z.nn_true hg144 | replace hg144 := Z.nn_false hg144 | replace hg144 := Z.nb_true hg144 | replace hg144 := Z.nb_false hg144)
                              first
                              | (exfalso; first | (cases hg144; done) | omega)
                              | skip
                                refine Z.s_skip ?_
                                refine Z.s_skip ?_
                                refine Z.s_skip ?_
                                refine Z.s_skip ?_
                                refine Z.s_skip ?_
                                refine Z.s_skip ?_
                                refine Z.s_skip ?_
                                refine Z.s_val (Z.pv_pick rfl rfl) ?_
                                refine Z.s_val (Z.pv_assign rfl) ?_
                                refine Z.j_nil ?_
                                refine Z.j_then ?_
                                refine Z.j_ret ?_
                                refine Z.j_done_ret (Z.rv1 (Z.rv_tmp (t := 4) rfl)) ?_
                                exact Z.post_of ⟨by first | rfl | (congr 1; exact decide_eq_true (by omega)) | (congr 1; simp_all; done), rfl⟩ (by repeat (first | with_reducible exact Z.Takes.nil | (apply Z.Takes.cons; (repeat (first | with_reducible exact Z.Take.here | apply Z.Take.there))))) (by repeat (first | with_reducible exact Z.Drop.nil | apply Z.Drop.cons))
                  · skip
                    refine Z.s_val (Z.pv_extract rfl rfl) ?_
                    refine Z.j_nil ?_
                    refine Z.j_then ?_
                    refine Z.j_seq ?_
                    refine Z.j_cond rfl (fun hc77 => ?_) (fun hc77 => ?_)
                    · try (with_reducible first | replace hc77 := of_decide_eq_true hc77 | replace hc77 := of_decide_eq_false hc77 | replace hc77 := Z.nd_true hc77 | replace hc77 := Z.nd_false hc77 | replace hc77 := Z.nn_true hc77 | replace hc77 := Z.nn_false hc77 | replace hc77 := Z.nb_true hc77 | replace hc77 := Z.nb_false hc77)
                      first
                      | (exfalso; first | (cases hc77; done) | omega)
                      | skip
                        obtain ⟨g1, g2⟩ := hl.get ix76 ky76 vl76 hm76
                        have hx := xor_bd ky76 1
                        have g3 := hl.ask _ hx
                        refine Z.j_skip ?_
                        refine Z.j_then ?_
                        refine Z.j_block ?_
                        refine Z.j_seq ?_
                        refine Z.j_region ?_
                        refine Z.s_val (Z.pv_entry rfl hk75 hm76 hy76 (by repeat (first | with_reducible exact Z.Take.here | apply Z.Take.there)) (by repeat (first | with_reducible exact Z.Take.here | apply Z.Take.there))) ?_
                        refine Z.s_val (Z.pv_extract rfl rfl) ?_
                        refine Z.s_val (Z.pv_extract rfl rfl) ?_
                        refine Z.s_val (Z.pv_assign rfl) ?_
                        refine Z.s_val (Z.pv_assign rfl) ?_
                        refine Z.j_nil ?_
                        refine Z.j_then ?_
                        refine Z.j_seq ?_
                        refine Z.j_seq ?_
                        refine Z.j_region ?_
                        refine Z.s_val (Z.pv_move rfl) ?_
                        refine Z.s_val (Z.pv_move rfl) ?_
                        refine Z.s_callD rfl rfl rfl isFn8 (by repeat (first | with_reducible exact Z.Takes.nil | (apply Z.Takes.cons; (repeat (first | with_reducible exact Z.Take.here | apply Z.Take.there))))) (by repeat (first | exact Z.App.nil | apply Z.App.cons)) (Get_spec _ _ _ _ _ _ (by assumption) (by omega)) ?_
                        refine Z.s_val (Z.pv_move rfl) ?_
                        refine Z.s_val (Z.pv_extract rfl rfl) ?_
                        refine Z.s_val (Z.pv_extract rfl rfl) ?_
                        refine Z.s_val (Z.pv_assign rfl) ?_
                        refine Z.s_val (Z.pv_assign rfl) ?_
                        rw [hl.fold]
                        refine Z.j_nil ?_
                        refine Z.j_then ?_
                        refine Z.j_seq ?_
                        refine Z.j_region ?_
                        refine Z.s_val (Z.pv_move rfl) ?_
                        refine Z.s_val (Z.pv_not rfl) ?_
                        refine Z.s_val (Z.pv_move rfl) ?_
                        refine Z.s_split 89 rfl (fun hg89 => ?_) (fun hg89 => ?_)
                        · try (with_reducible first | replace hg89 := of_decide_eq_true hg89 | replace hg89 := of_decide_eq_false hg89 | replace hg89 := Z.nd_true hg89 | replace hg89 := Z.nd_false hg89 | replace hg89 := Z.nn_true hg89 | replace hg89 := Z.nn_false hg89 | replace hg89 := Z.nb_true hg89 | replace hg89 := Z.nb_false hg89)
                          first
                          | (exfalso; first | (cases hg89; done) | omega)
                          | skip
                            refine Z.s_skip ?_
                            refine Z.s_skip ?_
                            refine Z.s_skip ?_
                            refine Z.s_val (Z.pv_pick rfl rfl) ?_
                            refine Z.j_nil ?_
                            refine Z.j_then ?_
                            refine Z.j_cond rfl (fun hc93 => ?_) (fun hc93 => ?_)
                            · exfalso; first | (cases hc93; done) | try (with_reducible first | replace hc93 := of_decide_eq_true hc93 | replace hc93 := of_decide_eq_false hc93 | replace hc93 := Z.nd_true hc93 | replace hc93 := Z.nd_false hc93 | replace hc93 := Z.nn_true hc93 | replace hc93 := Z.nn_false hc93 | replace hc93 := Z.nb_true hc93 | replace hc93 := Z.nb_false hc93); first | omega | (simp_all; done)
                            · try (with_reducible first | replace hc93 := of_decide_eq_true hc93 | replace hc93 := of_decide_eq_false hc93 | replace hc93 := Z.nd_true hc93 | replace hc93 := Z.nd_false hc93 | replace hc93 := Z.nn_true hc93 | replace hc93 := Z.nn_false hc93 | replace hc93 := Z.nb_true hc93 | replace hc93 := Z.nb_false hc93)
                              first
                              | (exfalso; first | (cases hc93; done) | omega)
                              | skip
                                refine Z.j_skip ?_
                                refine Z.j_then ?_
                                refine Z.j_seq ?_
                                refine Z.j_region ?_
                                refine Z.s_val (Z.pv_move rfl) ?_
                                refine Z.s_val (Z.pv_move rfl) ?_
                                refine Z.s_val (Z.pv_bits rfl rfl rfl) ?_
                                refine Z.s_callD rfl rfl rfl isFn8 (by repeat (first | with_reducible exact Z.Takes.nil | (apply Z.Takes.cons; (repeat (first | with_reducible exact Z.Take.here | apply Z.Take.there))))) (by repeat (first | exact Z.App.nil | apply Z.App.cons)) (Get_spec _ _ _ _ _ _ (by assumption) (by omega)) ?_
                                refine Z.s_val (Z.pv_move rfl) ?_
                                refine Z.s_val (Z.pv_extract rfl rfl) ?_
                                refine Z.s_val (Z.pv_extract rfl rfl) ?_
                                refine Z.s_val (Z.pv_assign rfl) ?_
                                refine Z.s_val (Z.pv_assign rfl) ?_
                                rw [hl.fold]
                                refine Z.j_nil ?_
                                refine Z.j_then ?_
                                refine Z.j_seq ?_
                                refine Z.j_region ?_
                                refine Z.s_val (Z.pv_move rfl) ?_
                                refine Z.s_val (Z.pv_move rfl) ?_
                                refine Z.s_val (Z.pv_move rfl) ?_
                                refine Z.s_val (Z.pv_bits rfl rfl rfl) ?_
                                refine Z.s_callD rfl rfl rfl isFn9 (by repeat (first | with_reducible exact Z.Takes.nil | (apply Z.Takes.cons; (repeat (first | with_reducible exact Z.Take.here | apply Z.Take.there))))) (by repeat (first | exact Z.App.nil | apply Z.App.cons)) (has_spec _ _ _ _ _ _ hk75) ?_
                                refine Z.s_val (Z.pv_neqb rfl rfl Try.underlying4) ?_
                                refine Z.j_nil ?_
                                refine Z.j_then ?_
                                refine Z.j_cond rfl (fun hc106 => ?_) (fun hc106 => ?_)
                                · try (with_reducible first | replace hc106 := of_decide_eq_true hc106 | replace hc106 := of_decide_eq_false hc106 | replace hc106 := Z.nd_true hc106 | replace hc106 := Z.nd_false hc106 | replace hc106 := Z.nn_true hc106 | replace hc106 := Z.nn_false hc106 | replace hc106 := Z.nb_true hc106 | replace hc106 := Z.nb_false hc106)
                                  rw [g3] at hc106; simp at hc106
                                · try (with_reducible first | replace hc106 := of_decide_eq_true hc106 | replace hc106 := of_decide_eq_false hc106 | replace hc106 := Z.nd_true hc106 | replace hc106 := Z.nd_false hc106 | replace hc106 := Z.nn_true hc106 | replace hc106 := Z.nn_false hc106 | replace hc106 := Z.nb_true hc106 | replace hc106 := Z.nb_false hc106)
                                  first
                                  | (exfalso; first | (cases hc106; done) | omega)
                                  | skip
                                    refine Z.j_skip ?_
                                    refine Z.j_blk ?_
                                    refine Z.j_then ?_
                                    (exact Z.j_nextF (X := { x : (Array Nat) // True }) (EE := (fun (x : { x : (Array Nat) // True }) => [(5, .pointer (some ⟨tb, 0, none⟩)), (7, .map (some b36)), (75, .pointer (some ⟨r75, 0, none⟩))])) (LL := (fun (x : { x : (Array Nat) // True }) => [Z.It r75 b36 clock75 (x.1), Z.MapB b36 (Value.int .u32) (Value.int .i64) (mp ks vs n1) bs75 clock75, Z.cl tb 52 [.pointer (some ⟨ab, 0, none⟩), .int .i32 (stp ks vs n1).1], Arena ab (stp ks vs n1).2])) (μ := (fun (x : { x : (Array Nat) // True }) => Z.mleft bs75 (x.1))) (x := ⟨(seen), hinv⟩) ⟨(seen.push y76), trivial⟩ (by show Z.mleft bs75 (seen.push y76) < Z.mleft bs75 seen; omega) (by repeat (first | exact trivial | refine ⟨rfl, ?_⟩)) (by repeat (first | with_reducible exact Z.Takes.nil | (apply Z.Takes.cons; (repeat (first | with_reducible exact Z.Take.here | apply Z.Take.there))))) (by repeat (first | with_reducible exact Z.Drop.nil | apply Z.Drop.cons)))
                        · try (with_reducible first | replace hg89 := of_decide_eq_true hg89 | replace hg89 := of_decide_eq_false hg89 | replace hg89 := Z.nd_true hg89 | replace hg89 := Z.nd_false hg89 | replace hg89 := Z.nn_true hg89 | replace hg89 := Z.nn_false hg89 | replace hg89 := Z.nb_true hg89 | replace hg89 := Z.nb_false hg89)
                          first
                          | (exfalso; first | (cases hg89; done) | omega)
                          | skip
                            refine Z.s_val (Z.pv_move rfl) ?_
                            refine Z.s_val (Z.pv_move rfl) ?_
                            refine Z.s_val (Z.pv_neq rfl rfl) ?_
                            refine Z.s_val (Z.pv_pick rfl rfl) ?_
                            refine Z.j_nil ?_
                            refine Z.j_then ?_
                            refine Z.j_cond rfl (fun hc93 => ?_) (fun hc93 => ?_)
                            · exfalso; first | (cases hc93; done) | try (with_reducible first | replace hc93 := of_decide_eq_true hc93 | replace hc93 := of_decide_eq_false hc93 | replace hc93 := Z.nd_true hc93 | replace hc93 := Z.nd_false hc93 | replace hc93 := Z.nn_true hc93 | replace hc93 := Z.nn_false hc93 | replace hc93 := Z.nb_true hc93 | replace hc93 := Z.nb_false hc93); first | omega | (simp_all; done)
                            · try (with_reducible first | replace hc93 := of_decide_eq_true hc93 | replace hc93 := of_decide_eq_false hc93 | replace hc93 := Z.nd_true hc93 | replace hc93 := Z.nd_false hc93 | replace hc93 := Z.nn_true hc93 | replace hc93 := Z.nn_false hc93 | replace hc93 := Z.nb_true hc93 | replace hc93 := Z.nb_false hc93)
                              first
                              | (exfalso; first | (cases hc93; done) | omega)
                              | skip
                                refine Z.j_skip ?_
                                refine Z.j_then ?_
                                refine Z.j_seq ?_
                                refine Z.j_region ?_
                                refine Z.s_val (Z.pv_move rfl) ?_
                                refine Z.s_val (Z.pv_move rfl) ?_
                                refine Z.s_val (Z.pv_bits rfl rfl rfl) ?_
                                refine Z.s_callD rfl rfl rfl isFn8 (by repeat (first | with_reducible exact Z.Takes.nil | (apply Z.Takes.cons; (repeat (first | with_reducible exact Z.Take.here | apply Z.Take.there))))) (by repeat (first | exact Z.App.nil | apply Z.App.cons)) (Get_spec _ _ _ _ _ _ (by assumption) (by omega)) ?_
                                refine Z.s_val (Z.pv_move rfl) ?_
                                refine Z.s_val (Z.pv_extract rfl rfl) ?_
                                refine Z.s_val (Z.pv_extract rfl rfl) ?_
                                refine Z.s_val (Z.pv_assign rfl) ?_
                                refine Z.s_val (Z.pv_assign rfl) ?_
                                rw [hl.fold]
                                refine Z.j_nil ?_
                                refine Z.j_then ?_
                                refine Z.j_seq ?_
                                refine Z.j_region ?_
                                refine Z.s_val (Z.pv_move rfl) ?_
                                refine Z.s_val (Z.pv_move rfl) ?_
                                refine Z.s_val (Z.pv_move rfl) ?_
                                refine Z.s_val (Z.pv_bits rfl rfl rfl) ?_
                                refine Z.s_callD rfl rfl rfl isFn9 (by repeat (first | with_reducible exact Z.Takes.nil | (apply Z.Takes.cons; (repeat (first | with_reducible exact Z.Take.here | apply Z.Take.there))))) (by repeat (first | exact Z.App.nil | apply Z.App.cons)) (has_spec _ _ _ _ _ _ hk75) ?_
                                refine Z.s_val (Z.pv_neqb rfl rfl Try.underlying4) ?_
                                refine Z.j_nil ?_
                                refine Z.j_then ?_
                                refine Z.j_cond rfl (fun hc106 => ?_) (fun hc106 => ?_)
                                · try (with_reducible first | replace hc106 := of_decide_eq_true hc106 | replace hc106 := of_decide_eq_false hc106 | replace hc106 := Z.nd_true hc106 | replace hc106 := Z.nd_false hc106 | replace hc106 := Z.nn_true hc106 | replace hc106 := Z.nn_false hc106 | replace hc106 := Z.nb_true hc106 | replace hc106 := Z.nb_false hc106)
                                  rw [g3] at hc106; simp at hc106
                                · try (with_reducible first | replace hc106 := of_decide_eq_true hc106 | replace hc106 := of_decide_eq_false hc106 | replace hc106 := Z.nd_true hc106 | replace hc106 := Z.nd_false hc106 | replace hc106 := Z.nn_true hc106 | replace hc106 := Z.nn_false hc106 | replace hc106 := Z.nb_true hc106 | replace hc106 := Z.nb_false hc106)
                                  first
                                  | (exfalso; first | (cases hc106; done) | omega)
                                  | skip
                                    refine Z.j_skip ?_
                                    refine Z.j_blk ?_
                                    refine Z.j_then ?_
                                    (exact Z.j_nextF (X := { x : (Array Nat) // True }) (EE := (fun (x : { x : (Array Nat) // True }) => [(5, .pointer (some ⟨tb, 0, none⟩)), (7, .map (some b36)), (75, .pointer (some ⟨r75, 0, none⟩))])) (LL := (fun (x : { x : (Array Nat) // True }) => [Z.It r75 b36 clock75 (x.1), Z.MapB b36 (Value.int .u32) (Value.int .i64) (mp ks vs n1) bs75 clock75, Z.cl tb 52 [.pointer (some ⟨ab, 0, none⟩), .int .i32 (stp ks vs n1).1], Arena ab (stp ks vs n1).2])) (μ := (fun (x : { x : (Array Nat) // True }) => Z.mleft bs75 (x.1))) (x := ⟨(seen), hinv⟩) ⟨(seen.push y76), trivial⟩ (by show Z.mleft bs75 (seen.push y76) < Z.mleft bs75 seen; omega) (by repeat (first | exact trivial | refine ⟨rfl, ?_⟩)) (by repeat (first | with_reducible exact Z.Takes.nil | (apply Z.Takes.cons; (repeat (first | with_reducible exact Z.Take.here | apply Z.Take.there))))) (by repeat (first | with_reducible exact Z.Drop.nil | apply Z.Drop.cons)))
                    · exfalso; first | (cases hc77; done) | (simp at hc77; done) | (simp at hc77; omega)

end

end Go.Proofs.Ytggndcaehjdklaa
