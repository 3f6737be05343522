/- Rows: the document's answers about areas. -/
import Derived.Test.YtleofndjeekalaaS6
import Derived.Test.YtleofndjeekalaaC6
namespace Go.Proofs.Ytleofndjeekalaa
open Go Go.RowKit

theorem get_of_slc {cs vs : List Value} {o k j : Nat} (hl : o + k ≤ cs.length) (h : Z.slc cs o k = some vs) (hj : j < k) : cs[o + j]? = vs[j]? := by
  rw [Z.slc_mk hl] at h
  cases h
  rw [List.getElem?_take, if_pos hj, List.getElem?_drop]
theorem get_lo {s : List Span} {i : Nat} (h : i < s.length) : (s.flatMap Span.c)[i * 2]? = some (.int .u32 (s.getD i Span.z).lo) := get_of_slc (j := 0) (by rw [Z.flat_len Span.len]; omega) (slc_span h) (by decide)
theorem get_hi {s : List Span} {i : Nat} (h : i < s.length) : (s.flatMap Span.c)[i * 2 + 1]? = some (.int .u32 (s.getD i Span.z).hi) := get_of_slc (j := 1) (by rw [Z.flat_len Span.len]; omega) (slc_span h) (by decide)
theorem span_at {s : List Span} (hsp : ∀ x ∈ s, SpanOk x) {i : Nat} (h : i < s.length) : SpanOk (s.getD i Span.z) := by
  have e : s.getD i Span.z = s[i] := by simp [List.getElem?_eq_getElem h, List.getD]
  rw [e]; exact hsp _ (List.getElem_mem h)
def atV (hs : List Value) (i : Int) : Value := if i < 0 then nilS else hs.getD i.toNat nilS
def atS (a : Area) (i : Int) : List Span := if i < 0 then [] else a.getD i.toNat []
theorem atS_ro {w : World} {hs : List Value} {a : Area} (hS : ∀ i, SlRo w (hs.getD i nilS) (a.getD i [])) (i : Int) : SlRo w (atV hs i) (atS a i) := by
  unfold atV atS
  split
  · exact SlRo.nil w
  · exact hS _
theorem atS_ok {a : Area} (h : AreaOk a) (i : Int) : (atS a i).length ≤ maxLen ∧ ∀ x ∈ atS a i, SpanOk x := by
  unfold atS
  split
  · exact ⟨by simp, by simp⟩
  · exact ⟨h.each _, h.sp _⟩
theorem hasA_at (a : Area) (cl ck : Int) : hasS (atS a cl) ck = hasA a (⟨cl, ck⟩ : Cell) := by
  unfold atS hasA
  by_cases h : cl < 0
  · rw [if_pos h, show decide (0 ≤ (⟨cl, ck⟩ : Cell).l) = false from decide_eq_false (show ¬ 0 ≤ cl by omega)]; rfl
  · rw [if_neg h, show decide (0 ≤ (⟨cl, ck⟩ : Cell).l) = true from decide_eq_true (show 0 ≤ cl by omega), Bool.true_and]

set_option maxHeartbeats 4000000 in
set_option maxRecDepth 100000 in
theorem at7_spec (w0 : World) (p : Option Addr) (n cap : Nat) (hs : List Value) (hh : hs.length = n) (hp : 0 < n → ∃ b o, p = some ⟨b, o, none⟩ ∧ Z.Ro w0 b o hs) (i : Int) : Z.FnD Try.prog w0 31 [.slice p n cap, .int .i64 i] [] (atV hs i) [] := by
  refine Z.Fn.fnD ?_
  refine Z.fn_enter (n := 17) Try.func31 rfl (by rfl) (by rfl) (fun Fr => ?_)
  refine Z.j_app (by repeat (first | exact Z.App.nil | apply Z.App.cons)) ?_
  refine Z.j_seq ?_
  refine Z.j_region ?_
  refine Z.s_val (Z.pv_assign rfl) ?_
  refine Z.j_nil ?_
  refine Z.j_then ?_
  refine Z.j_seq ?_
  refine Z.j_seq ?_
  refine Z.j_region ?_
  refine Z.s_val (Z.pv_move rfl) ?_
  refine Z.s_val (Z.pv_lss rfl rfl) ?_
  refine Z.s_val (Z.pv_move rfl) ?_
  refine Z.s_split 7 rfl (fun hg7 => ?_) (fun hg7 => ?_)
  · try (with_reducible first | replace hg7 := of_decide_eq_true hg7 | replace hg7 := of_decide_eq_false hg7 | replace hg7 := Z.nd_true hg7 | replace hg7 := Z.nd_false hg7 | replace hg7 := Z.nn_true hg7 | replace hg7 := Z.nn_false hg7 | replace hg7 := Z.nb_true hg7 | replace hg7 := Z.nb_false hg7)
    first
    | (exfalso; first | (cases hg7; done) | omega)
    | skip
      refine Z.s_skip ?_
      refine Z.s_skip ?_
      refine Z.s_skip ?_
      refine Z.s_skip ?_
      refine Z.s_val (Z.pv_pick rfl rfl) ?_
      refine Z.j_nil ?_
      refine Z.j_then ?_
      refine Z.j_cond rfl (fun hc12 => ?_) (fun hc12 => ?_)
      · try (with_reducible first | replace hc12 := of_decide_eq_true hc12 | replace hc12 := of_decide_eq_false hc12 | replace hc12 := Z.nd_true hc12 | replace hc12 := Z.nd_false hc12 | replace hc12 := Z.nn_true hc12 | replace hc12 := Z.nn_false hc12 | replace hc12 := Z.nb_true hc12 | replace hc12 := Z.nb_false hc12)
        first
        | (exfalso; first | (cases hc12; done) | omega)
        | skip
          refine Z.j_seq ?_
          refine Z.j_region ?_
          refine Z.s_val (Z.pv_assign rfl) ?_
          refine Z.j_nil ?_
          refine Z.j_then ?_
          refine Z.j_ret ?_
          refine Z.j_then_ret ?_
          refine Z.j_done_ret (Z.rv1 (Z.rv_tmp (t := 4) rfl)) ?_
          first | exact Z.post_of ⟨by unfold atV; rw [if_pos (by omega)], rfl⟩ (by repeat (first | with_reducible exact Z.Takes.nil | (apply Z.Takes.cons; (repeat (first | with_reducible exact Z.Take.here | apply Z.Take.there))))) (by repeat (first | with_reducible exact Z.Drop.nil | apply Z.Drop.cons)) | exact Z.post_of ⟨by unfold atV; rw [if_neg (by omega), List.getD_eq_getElem?_getD, List.getElem?_eq_none (by omega)]; rfl, rfl⟩ (by repeat (first | with_reducible exact Z.Takes.nil | (apply Z.Takes.cons; (repeat (first | with_reducible exact Z.Take.here | apply Z.Take.there))))) (by repeat (first | with_reducible exact Z.Drop.nil | apply Z.Drop.cons)) | exact Z.post_of ⟨by unfold atV; rw [if_neg (by omega)], rfl⟩ (by repeat (first | with_reducible exact Z.Takes.nil | (apply Z.Takes.cons; (repeat (first | with_reducible exact Z.Take.here | apply Z.Take.there))))) (by repeat (first | with_reducible exact Z.Drop.nil | apply Z.Drop.cons))
      · try (with_reducible first | replace hc12 := of_decide_eq_true hc12 | replace hc12 := of_decide_eq_false hc12 | replace hc12 := Z.nd_true hc12 | replace hc12 := Z.nd_false hc12 | replace hc12 := Z.nn_true hc12 | replace hc12 := Z.nn_false hc12 | replace hc12 := Z.nb_true hc12 | replace hc12 := Z.nb_false hc12)
        first
        | (exfalso; first | (cases hc12; done) | omega)
        | skip
          refine Z.j_skip ?_
          refine Z.j_then ?_
          refine Z.j_seq ?_
          obtain ⟨b1, o1, e1, hro⟩ := hp (by omega)
          refine Z.j_region ?_
          refine Z.s_val (Z.pv_move rfl) ?_
          refine Z.s_val (Z.pv_move rfl) ?_
          refine Z.s_val (Z.pv_indexAddr (o' := o1 + i.toNat) (b := b1) (o := o1) (len := n) (cap := cap) (by show some (Value.slice p n cap) = _; rw [e1]) rfl Try.underlying23 Try.sizeOf64 (by omega) (by simp)) ?_
          refine Z.s_val (Z.pv_load1r (v := hs.getD i.toNat nilS) (b := b1) (o := o1) (j := i.toNat) rfl hro rfl Try.isAgg64 (get_hd (by omega))) ?_
          refine Z.s_val (Z.pv_assign rfl) ?_
          refine Z.j_nil ?_
          refine Z.j_then ?_
          refine Z.j_ret ?_
          refine Z.j_done_ret (Z.rv1 (Z.rv_tmp (t := 4) rfl)) ?_
          first | exact Z.post_of ⟨by unfold atV; rw [if_pos (by omega)], rfl⟩ (by repeat (first | with_reducible exact Z.Takes.nil | (apply Z.Takes.cons; (repeat (first | with_reducible exact Z.Take.here | apply Z.Take.there))))) (by repeat (first | with_reducible exact Z.Drop.nil | apply Z.Drop.cons)) | exact Z.post_of ⟨by unfold atV; rw [if_neg (by omega), List.getD_eq_getElem?_getD, List.getElem?_eq_none (by omega)]; rfl, rfl⟩ (by repeat (first | with_reducible exact Z.Takes.nil | (apply Z.Takes.cons; (repeat (first | with_reducible exact Z.Take.here | apply Z.Take.there))))) (by repeat (first | with_reducible exact Z.Drop.nil | apply Z.Drop.cons)) | exact Z.post_of ⟨by unfold atV; rw [if_neg (by omega)], rfl⟩ (by repeat (first | with_reducible exact Z.Takes.nil | (apply Z.Takes.cons; (repeat (first | with_reducible exact Z.Take.here | apply Z.Take.there))))) (by repeat (first | with_reducible exact Z.Drop.nil | apply Z.Drop.cons))
  · try (with_reducible first | replace hg7 := of_decide_eq_true hg7 | replace hg7 := of_decide_eq_false hg7 | replace hg7 := Z.nd_true hg7 | replace hg7 := Z.nd_false hg7 | replace hg7 := Z.nn_true hg7 | replace hg7 := Z.nn_false hg7 | replace hg7 := Z.nb_true hg7 | replace hg7 := Z.nb_false hg7)
    first
    | (exfalso; first | (cases hg7; done) | omega)
    | skip
      refine Z.s_val (Z.pv_move rfl) ?_
      refine Z.s_val (Z.pv_move rfl) ?_
      refine Z.s_val (Z.pv_len rfl Try.underlying23) ?_
      refine Z.s_val (Z.pv_geq rfl rfl) ?_
      refine Z.s_val (Z.pv_pick rfl rfl) ?_
      refine Z.j_nil ?_
      refine Z.j_then ?_
      refine Z.j_cond rfl (fun hc12 => ?_) (fun hc12 => ?_)
      · try (with_reducible first | replace hc12 := of_decide_eq_true hc12 | replace hc12 := of_decide_eq_false hc12 | replace hc12 := Z.nd_true hc12 | replace hc12 := Z.nd_false hc12 | replace hc12 := Z.nn_true hc12 | replace hc12 := Z.nn_false hc12 | replace hc12 := Z.nb_true hc12 | replace hc12 := Z.nb_false hc12)
        first
        | (exfalso; first | (cases hc12; done) | omega)
        | skip
          refine Z.j_seq ?_
          refine Z.j_region ?_
          refine Z.s_val (Z.pv_assign rfl) ?_
          refine Z.j_nil ?_
          refine Z.j_then ?_
          refine Z.j_ret ?_
          refine Z.j_then_ret ?_
          refine Z.j_done_ret (Z.rv1 (Z.rv_tmp (t := 4) rfl)) ?_
          first | exact Z.post_of ⟨by unfold atV; rw [if_pos (by omega)], rfl⟩ (by repeat (first | with_reducible exact Z.Takes.nil | (apply Z.Takes.cons; (repeat (first | with_reducible exact Z.Take.here | apply Z.Take.there))))) (by repeat (first | with_reducible exact Z.Drop.nil | apply Z.Drop.cons)) | exact Z.post_of ⟨by unfold atV; rw [if_neg (by omega), List.getD_eq_getElem?_getD, List.getElem?_eq_none (by omega)]; rfl, rfl⟩ (by repeat (first | with_reducible exact Z.Takes.nil | (apply Z.Takes.cons; (repeat (first | with_reducible exact Z.Take.here | apply Z.Take.there))))) (by repeat (first | with_reducible exact Z.Drop.nil | apply Z.Drop.cons)) | exact Z.post_of ⟨by unfold atV; rw [if_neg (by omega)], rfl⟩ (by repeat (first | with_reducible exact Z.Takes.nil | (apply Z.Takes.cons; (repeat (first | with_reducible exact Z.Take.here | apply Z.Take.there))))) (by repeat (first | with_reducible exact Z.Drop.nil | apply Z.Drop.cons))
      · try (with_reducible first | replace hc12 := of_decide_eq_true hc12 | replace hc12 := of_decide_eq_false hc12 | replace hc12 := Z.nd_true hc12 | replace hc12 := Z.nd_false hc12 | replace hc12 := Z.nn_true hc12 | replace hc12 := Z.nn_false hc12 | replace hc12 := Z.nb_true hc12 | replace hc12 := Z.nb_false hc12)
        first
        | (exfalso; first | (cases hc12; done) | omega)
        | skip
          refine Z.j_skip ?_
          refine Z.j_then ?_
          refine Z.j_seq ?_
          obtain ⟨b1, o1, e1, hro⟩ := hp (by omega)
          refine Z.j_region ?_
          refine Z.s_val (Z.pv_move rfl) ?_
          refine Z.s_val (Z.pv_move rfl) ?_
          refine Z.s_val (Z.pv_indexAddr (o' := o1 + i.toNat) (b := b1) (o := o1) (len := n) (cap := cap) (by show some (Value.slice p n cap) = _; rw [e1]) rfl Try.underlying23 Try.sizeOf64 (by omega) (by simp)) ?_
          refine Z.s_val (Z.pv_load1r (v := hs.getD i.toNat nilS) (b := b1) (o := o1) (j := i.toNat) rfl hro rfl Try.isAgg64 (get_hd (by omega))) ?_
          refine Z.s_val (Z.pv_assign rfl) ?_
          refine Z.j_nil ?_
          refine Z.j_then ?_
          refine Z.j_ret ?_
          refine Z.j_done_ret (Z.rv1 (Z.rv_tmp (t := 4) rfl)) ?_
          first | exact Z.post_of ⟨by unfold atV; rw [if_pos (by omega)], rfl⟩ (by repeat (first | with_reducible exact Z.Takes.nil | (apply Z.Takes.cons; (repeat (first | with_reducible exact Z.Take.here | apply Z.Take.there))))) (by repeat (first | with_reducible exact Z.Drop.nil | apply Z.Drop.cons)) | exact Z.post_of ⟨by unfold atV; rw [if_neg (by omega), List.getD_eq_getElem?_getD, List.getElem?_eq_none (by omega)]; rfl, rfl⟩ (by repeat (first | with_reducible exact Z.Takes.nil | (apply Z.Takes.cons; (repeat (first | with_reducible exact Z.Take.here | apply Z.Take.there))))) (by repeat (first | with_reducible exact Z.Drop.nil | apply Z.Drop.cons)) | exact Z.post_of ⟨by unfold atV; rw [if_neg (by omega)], rfl⟩ (by repeat (first | with_reducible exact Z.Takes.nil | (apply Z.Takes.cons; (repeat (first | with_reducible exact Z.Take.here | apply Z.Take.there))))) (by repeat (first | with_reducible exact Z.Drop.nil | apply Z.Drop.cons))

set_option maxHeartbeats 4000000 in
set_option maxRecDepth 100000 in
theorem has61_spec (w0 : World) (p : Option Addr) (n cap : Nat) (s : List Span) (hn : s.length = n) (hp : 0 < n → ∃ b o, p = some ⟨b, o, none⟩ ∧ Z.Ro w0 b o (s.flatMap Span.c)) (hsp : ∀ x ∈ s, SpanOk x) (k : Int) (hnb : n ≤ 9223372036854775807) : Z.FnD Try.prog w0 30 [.slice p n cap, .int .i64 k] [] (.bool (hasS s k)) [] := by
  refine Z.Fn.fnD ?_
  refine Z.fn_enter (n := 30) Try.func30 rfl (by rfl) (by rfl) (fun Fr => ?_)
  refine Z.j_app (by repeat (first | exact Z.App.nil | apply Z.App.cons)) ?_
  refine Z.j_seq ?_
  refine Z.j_region ?_
  refine Z.s_val (Z.pv_assign rfl) ?_
  refine Z.j_nil ?_
  refine Z.j_then ?_
  refine Z.j_seq ?_
  refine Z.j_seq ?_
  refine Z.j_region ?_
  refine Z.s_val (Z.pv_assign rfl) ?_
  refine Z.j_nil ?_
  refine Z.j_then ?_
  refine Z.j_block ?_
  refine Z.j_initF (E' := [(0, .slice p n cap), (1, .int .i64 k), (5, .int .i64 ((0) : Nat))]) (As := []) (Fr := Fr) (by repeat (first | exact trivial | refine ⟨rfl, ?_⟩)) (by repeat (first | with_reducible exact Z.Takes.nil | (apply Z.Takes.cons; (repeat (first | with_reducible exact Z.Take.here | apply Z.Take.there))))) (by repeat (first | with_reducible exact Z.Drop.nil | apply Z.Drop.cons)) ?_
  refine Z.j_loop (X := { x : (Nat) // (x) ≤ n ∧ hasS (s.drop (x)) k = hasS s k }) (fun (x : { x : (Nat) // (x) ≤ n ∧ hasS (s.drop (x)) k = hasS s k }) => [(0, .slice p n cap), (1, .int .i64 k), (5, .int .i64 ((x.1) : Nat))]) (fun x => (fun (x : { x : (Nat) // (x) ≤ n ∧ hasS (s.drop (x)) k = hasS s k }) => []) x ++ Fr) (fun (x : { x : (Nat) // (x) ≤ n ∧ hasS (s.drop (x)) k = hasS s k }) => n - (x.1)) ⟨(0), ⟨by omega, by rw [List.drop_zero]⟩⟩ (fun x => ?_)
  obtain ⟨i, hinv⟩ := x
  have hinv' : i ≤ n ∧ hasS (s.drop i) k = hasS s k := hinv
  obtain ⟨hi, hh⟩ := hinv'
  show Z.J _ _ _ ([(0, .slice p n cap), (1, .int .i64 k), (5, .int .i64 (i : Nat))]) ([] ++ Fr) _
  refine Z.j_app (by repeat (first | exact Z.App.nil | apply Z.App.cons)) ?_
  refine Z.j_seq ?_
  refine Z.j_seq ?_
  refine Z.j_region ?_
  refine Z.s_val (Z.pv_move rfl) ?_
  refine Z.s_val (Z.pv_move rfl) ?_
  refine Z.s_val (Z.pv_len rfl Try.underlying64) ?_
  refine Z.s_val (Z.pv_lss rfl rfl) ?_
  refine Z.j_nil ?_
  refine Z.j_then ?_
  refine Z.j_cond rfl (fun hc9 => ?_) (fun hc9 => ?_)
  · try (with_reducible first | replace hc9 := of_decide_eq_true hc9 | replace hc9 := of_decide_eq_false hc9 | replace hc9 := Z.nd_true hc9 | replace hc9 := Z.nd_false hc9 | replace hc9 := Z.nn_true hc9 | replace hc9 := Z.nn_false hc9 | replace hc9 := Z.nb_true hc9 | replace hc9 := Z.nb_false hc9)
    first
    | (exfalso; first | (cases hc9; done) | omega)
    | skip
      obtain ⟨b1, o1, e1, hro⟩ := hp (by omega)
      have hdr := hasS_drop (s := s) (i := i) (k := k) (by omega)
      have hsx := span_at hsp (i := i) (by omega)
      unfold SpanOk at hsx
      refine Z.j_skip ?_
      refine Z.j_then ?_
      refine Z.j_seq ?_
      refine Z.j_block ?_
      refine Z.j_seq ?_
      refine Z.j_region ?_
      refine Z.s_val (Z.pv_move rfl) ?_
      refine Z.s_val (Z.pv_move rfl) ?_
      refine Z.s_val (Z.pv_indexAddr (o' := o1 + i * 2) (b := b1) (o := o1) (len := n) (cap := cap) (by show some (Value.slice p n cap) = _; rw [e1]) rfl Try.underlying64 Try.sizeOf63 (by omega) (by simp)) ?_
      refine Z.s_val (Z.pv_fieldAddr (o' := o1 + i * 2) rfl Try.underlying63 rfl Try.sizeOf34 rfl) ?_
      refine Z.s_val (Z.pv_load1r (v := .int .u32 (s.getD i Span.z).lo) (b := b1) (o := o1) (j := i * 2) rfl hro rfl Try.isAgg34 (get_lo (by omega))) ?_
      refine Z.s_val (Z.pv_conv rfl Try.underlying34 rfl Try.underlying2 (by first | exact IntWalk.i64_in _ (by omega) | rfl)) ?_
      refine Z.s_val (Z.pv_move rfl) ?_
      refine Z.s_val (Z.pv_leq rfl rfl) ?_
      refine Z.s_val (Z.pv_move rfl) ?_
      refine Z.s_split 20 rfl (fun hg20 => ?_) (fun hg20 => ?_)
      · try (with_reducible first | replace hg20 := of_decide_eq_true hg20 | replace hg20 := of_decide_eq_false hg20 | replace hg20 := Z.nd_true hg20 | replace hg20 := Z.nd_false hg20 | replace hg20 := Z.nn_true hg20 | replace hg20 := Z.nn_false hg20 | replace hg20 := Z.nb_true hg20 | replace hg20 := Z.nb_false hg20)
        first
        | (exfalso; first | (cases hg20; done) | omega)
        | skip
          refine Z.s_val (Z.pv_move rfl) ?_
          refine Z.s_val (Z.pv_move rfl) ?_
          refine Z.s_val (Z.pv_move rfl) ?_
          refine Z.s_val (Z.pv_indexAddr (o' := o1 + i * 2) (b := b1) (o := o1) (len := n) (cap := cap) (by show some (Value.slice p n cap) = _; rw [e1]) rfl Try.underlying64 Try.sizeOf63 (by omega) (by simp)) ?_
          refine Z.s_val (Z.pv_fieldAddr (o' := o1 + i * 2 + 1) rfl Try.underlying63 rfl Try.sizeOf34 rfl) ?_
          refine Z.s_val (Z.pv_load1r (v := .int .u32 (s.getD i Span.z).hi) (b := b1) (o := o1) (j := i * 2 + 1) rfl hro rfl Try.isAgg34 (get_hi (by omega))) ?_
          refine Z.s_val (Z.pv_conv rfl Try.underlying34 rfl Try.underlying2 (by first | exact IntWalk.i64_in _ (by omega) | rfl)) ?_
          refine Z.s_val (Z.pv_leq rfl rfl) ?_
          refine Z.s_val (Z.pv_pick rfl rfl) ?_
          refine Z.j_nil ?_
          refine Z.j_then ?_
          refine Z.j_cond rfl (fun hc29 => ?_) (fun hc29 => ?_)
          · try (with_reducible first | replace hc29 := of_decide_eq_true hc29 | replace hc29 := of_decide_eq_false hc29 | replace hc29 := Z.nd_true hc29 | replace hc29 := Z.nd_false hc29 | replace hc29 := Z.nn_true hc29 | replace hc29 := Z.nn_false hc29 | replace hc29 := Z.nb_true hc29 | replace hc29 := Z.nb_false hc29)
            first
            | (exfalso; first | (cases hc29; done) | omega)
            | skip
              refine Z.j_seq ?_
              refine Z.j_region ?_
              refine Z.s_val (Z.pv_assign rfl) ?_
              refine Z.j_nil ?_
              refine Z.j_then ?_
              refine Z.j_ret ?_
              refine Z.j_blk_ret ?_
              refine Z.j_then_ret ?_
              refine Z.j_then_ret ?_
              refine Z.j_blk_ret ?_
              refine Z.j_then_ret ?_
              refine Z.j_done_ret (Z.rv1 (Z.rv_tmp (t := 4) rfl)) ?_
              first | exact Z.post_of ⟨by rw [hfin], rfl⟩ (by repeat (first | with_reducible exact Z.Takes.nil | (apply Z.Takes.cons; (repeat (first | with_reducible exact Z.Take.here | apply Z.Take.there))))) (by repeat (first | with_reducible exact Z.Drop.nil | apply Z.Drop.cons)) | exact Z.post_of ⟨by rw [← hh, hdr, show inS (s.getD i Span.z) k = true from by simp only [inS]; rw [decide_eq_true hg20, decide_eq_true hc29]; rfl]; rfl, rfl⟩ (by repeat (first | with_reducible exact Z.Takes.nil | (apply Z.Takes.cons; (repeat (first | with_reducible exact Z.Take.here | apply Z.Take.there))))) (by repeat (first | with_reducible exact Z.Drop.nil | apply Z.Drop.cons))
          · try (with_reducible first | replace hc29 := of_decide_eq_true hc29 | replace hc29 := of_decide_eq_false hc29 | replace hc29 := Z.nd_true hc29 | replace hc29 := Z.nd_false hc29 | replace hc29 := Z.nn_true hc29 | replace hc29 := Z.nn_false hc29 | replace hc29 := Z.nb_true hc29 | replace hc29 := Z.nb_false hc29)
            first
            | (exfalso; first | (cases hc29; done) | omega)
            | skip
              refine Z.j_skip ?_
              refine Z.j_blk ?_
              refine Z.j_then ?_
              refine Z.j_region ?_
              refine Z.s_val (Z.pv_move rfl) ?_
              refine Z.s_val (Z.pv_add rfl rfl (by first | exact IntWalk.i64_in _ (by omega) | rfl)) ?_
              refine Z.s_val (Z.pv_assign rfl) ?_
              refine Z.j_nil ?_
              refine Z.j_then ?_
              (refine Z.j_nextG (X := { x : (Nat) // (x) ≤ n ∧ hasS (s.drop (x)) k = hasS s k }) (EE := (fun (x : { x : (Nat) // (x) ≤ n ∧ hasS (s.drop (x)) k = hasS s k }) => [(0, .slice p n cap), (1, .int .i64 k), (5, .int .i64 ((x.1) : Nat))])) (LL := (fun (x : { x : (Nat) // (x) ≤ n ∧ hasS (s.drop (x)) k = hasS s k }) => [])) (μ := (fun (x : { x : (Nat) // (x) ≤ n ∧ hasS (s.drop (x)) k = hasS s k }) => n - (x.1))) (x := ⟨(i), hinv⟩) ⟨(i + 1), ⟨by omega, by rw [← hh, hdr, show inS (s.getD i Span.z) k = false from by simp only [inS]; first | (rw [decide_eq_false hg20]; rfl) | (rw [decide_eq_false hc29, Bool.and_false])]; rfl⟩⟩ ?_ ?_ ?_; (show n - (i + 1) < n - i; omega); (exact (by repeat (first | exact trivial | refine ⟨rfl, ?_⟩))); (exact Z.st_td (by repeat (first | with_reducible exact Z.Takes.nil | (apply Z.Takes.cons; (repeat (first | with_reducible exact Z.Take.here | apply Z.Take.there))))) (by repeat (first | with_reducible exact Z.Drop.nil | apply Z.Drop.cons))))
      · try (with_reducible first | replace hg20 := of_decide_eq_true hg20 | replace hg20 := of_decide_eq_false hg20 | replace hg20 := Z.nd_true hg20 | replace hg20 := Z.nd_false hg20 | replace hg20 := Z.nn_true hg20 | replace hg20 := Z.nn_false hg20 | replace hg20 := Z.nb_true hg20 | replace hg20 := Z.nb_false hg20)
        first
        | (exfalso; first | (cases hg20; done) | omega)
        | skip
          refine Z.s_skip ?_
          refine Z.s_skip ?_
          refine Z.s_skip ?_
          refine Z.s_skip ?_
          refine Z.s_skip ?_
          refine Z.s_skip ?_
          refine Z.s_skip ?_
          refine Z.s_skip ?_
          refine Z.s_val (Z.pv_pick rfl rfl) ?_
          refine Z.j_nil ?_
          refine Z.j_then ?_
          refine Z.j_cond rfl (fun hc29 => ?_) (fun hc29 => ?_)
          · try (with_reducible first | replace hc29 := of_decide_eq_true hc29 | replace hc29 := of_decide_eq_false hc29 | replace hc29 := Z.nd_true hc29 | replace hc29 := Z.nd_false hc29 | replace hc29 := Z.nn_true hc29 | replace hc29 := Z.nn_false hc29 | replace hc29 := Z.nb_true hc29 | replace hc29 := Z.nb_false hc29)
            first
            | (exfalso; first | (cases hc29; done) | omega)
            | skip
              refine Z.j_seq ?_
              refine Z.j_region ?_
              refine Z.s_val (Z.pv_assign rfl) ?_
              refine Z.j_nil ?_
              refine Z.j_then ?_
              refine Z.j_ret ?_
              refine Z.j_blk_ret ?_
              refine Z.j_then_ret ?_
              refine Z.j_then_ret ?_
              refine Z.j_blk_ret ?_
              refine Z.j_then_ret ?_
              refine Z.j_done_ret (Z.rv1 (Z.rv_tmp (t := 4) rfl)) ?_
              first | exact Z.post_of ⟨by rw [hfin], rfl⟩ (by repeat (first | with_reducible exact Z.Takes.nil | (apply Z.Takes.cons; (repeat (first | with_reducible exact Z.Take.here | apply Z.Take.there))))) (by repeat (first | with_reducible exact Z.Drop.nil | apply Z.Drop.cons)) | exact Z.post_of ⟨by rw [← hh, hdr, show inS (s.getD i Span.z) k = true from by simp only [inS]; rw [decide_eq_true hg20, decide_eq_true hc29]; rfl]; rfl, rfl⟩ (by repeat (first | with_reducible exact Z.Takes.nil | (apply Z.Takes.cons; (repeat (first | with_reducible exact Z.Take.here | apply Z.Take.there))))) (by repeat (first | with_reducible exact Z.Drop.nil | apply Z.Drop.cons))
          · try (with_reducible first | replace hc29 := of_decide_eq_true hc29 | replace hc29 := of_decide_eq_false hc29 | replace hc29 := Z.nd_true hc29 | replace hc29 := Z.nd_false hc29 | replace hc29 := Z.nn_true hc29 | replace hc29 := Z.nn_false hc29 | replace hc29 := Z.nb_true hc29 | replace hc29 := Z.nb_false hc29)
            first
            | (exfalso; first | (cases hc29; done) | omega)
            | skip
              refine Z.j_skip ?_
              refine Z.j_blk ?_
              refine Z.j_then ?_
              refine Z.j_region ?_
              refine Z.s_val (Z.pv_move rfl) ?_
              refine Z.s_val (Z.pv_add rfl rfl (by first | exact IntWalk.i64_in _ (by omega) | rfl)) ?_
              refine Z.s_val (Z.pv_assign rfl) ?_
              refine Z.j_nil ?_
              refine Z.j_then ?_
              (refine Z.j_nextG (X := { x : (Nat) // (x) ≤ n ∧ hasS (s.drop (x)) k = hasS s k }) (EE := (fun (x : { x : (Nat) // (x) ≤ n ∧ hasS (s.drop (x)) k = hasS s k }) => [(0, .slice p n cap), (1, .int .i64 k), (5, .int .i64 ((x.1) : Nat))])) (LL := (fun (x : { x : (Nat) // (x) ≤ n ∧ hasS (s.drop (x)) k = hasS s k }) => [])) (μ := (fun (x : { x : (Nat) // (x) ≤ n ∧ hasS (s.drop (x)) k = hasS s k }) => n - (x.1))) (x := ⟨(i), hinv⟩) ⟨(i + 1), ⟨by omega, by rw [← hh, hdr, show inS (s.getD i Span.z) k = false from by simp only [inS]; first | (rw [decide_eq_false hg20]; rfl) | (rw [decide_eq_false hc29, Bool.and_false])]; rfl⟩⟩ ?_ ?_ ?_; (show n - (i + 1) < n - i; omega); (exact (by repeat (first | exact trivial | refine ⟨rfl, ?_⟩))); (exact Z.st_td (by repeat (first | with_reducible exact Z.Takes.nil | (apply Z.Takes.cons; (repeat (first | with_reducible exact Z.Take.here | apply Z.Take.there))))) (by repeat (first | with_reducible exact Z.Drop.nil | apply Z.Drop.cons))))
  · try (with_reducible first | replace hc9 := of_decide_eq_true hc9 | replace hc9 := of_decide_eq_false hc9 | replace hc9 := Z.nd_true hc9 | replace hc9 := Z.nd_false hc9 | replace hc9 := Z.nn_true hc9 | replace hc9 := Z.nn_false hc9 | replace hc9 := Z.nb_true hc9 | replace hc9 := Z.nb_false hc9)
    first
    | (exfalso; first | (cases hc9; done) | omega)
    | skip
      have hfin : hasS s k = false := by rw [← hh, List.drop_of_length_le (by omega)]; rfl
      refine Z.j_exit ?_
      refine Z.j_then_exit ?_
      refine Z.j_then_exit ?_
      refine Z.j_blk_here rfl ?_
      refine Z.j_then ?_
      refine Z.j_seq ?_
      refine Z.j_region ?_
      refine Z.s_val (Z.pv_assign rfl) ?_
      refine Z.j_nil ?_
      refine Z.j_then ?_
      refine Z.j_ret ?_
      refine Z.j_done_ret (Z.rv1 (Z.rv_tmp (t := 4) rfl)) ?_
      first | exact Z.post_of ⟨by rw [hfin], rfl⟩ (by repeat (first | with_reducible exact Z.Takes.nil | (apply Z.Takes.cons; (repeat (first | with_reducible exact Z.Take.here | apply Z.Take.there))))) (by repeat (first | with_reducible exact Z.Drop.nil | apply Z.Drop.cons)) | exact Z.post_of ⟨by rw [← hh, hdr, show inS (s.getD i Span.z) k = true from by simp only [inS]; rw [decide_eq_true hg20, decide_eq_true hc29]; rfl]; rfl, rfl⟩ (by repeat (first | with_reducible exact Z.Takes.nil | (apply Z.Takes.cons; (repeat (first | with_reducible exact Z.Take.here | apply Z.Take.there))))) (by repeat (first | with_reducible exact Z.Drop.nil | apply Z.Drop.cons))


theorem has6_spec (w0 : World) (h : Value) (s : List Span) (hS : SlRo w0 h s) (hok : s.length ≤ maxLen ∧ ∀ x ∈ s, SpanOk x) (k : Int) : Z.FnD Try.prog w0 30 [h, .int .i64 k] [] (.bool (hasS s k)) [] := by
  obtain ⟨p, cap, rfl, hp⟩ := hS
  exact has61_spec w0 p s.length cap s rfl hp hok.2 k hok.1

set_option maxHeartbeats 4000000 in
set_option maxRecDepth 100000 in
theorem has71_spec (w0 : World) (p : Option Addr) (n cap : Nat) (hs : List Value) (hh : hs.length = n) (hp : 0 < n → ∃ b o, p = some ⟨b, o, none⟩ ∧ Z.Ro w0 b o hs) (a : Area) (hS : ∀ i, SlRo w0 (hs.getD i nilS) (a.getD i [])) (hao : AreaOk a) (cl ck : Int) (hck : 0 ≤ ck ∧ ck < 4294967296) : Z.FnD Try.prog w0 24 [.slice p n cap, .agg #[.int .i64 cl, .int .u32 ck]] [] (.bool (hasA a (⟨cl, ck⟩ : Cell))) [] := by
  refine Z.Fn.fnD ?_
  refine Z.fn_enter (n := 13) Try.func24 rfl (by rfl) (by rfl) (fun Fr => ?_)
  refine Z.j_app (by repeat (first | exact Z.App.nil | apply Z.App.cons)) ?_
  refine Z.j_seq ?_
  refine Z.j_region ?_
  refine Z.s_box rfl (fun b3 => ?_)
  refine Z.s_val (Z.pv_assign rfl) ?_
  refine Z.j_nil ?_
  refine Z.j_then ?_
  refine Z.j_seq ?_
  refine Z.j_draw (vals := [_, _, _, _, _, _, _, _, _]) 9 (by kernel_rfl) (by kernel_rfl) rfl (by rfl) (Z.heads_cons (Z.hq_val (Z.pv_move (by rfl))) (Z.heads_cons (Z.hq_val (Z.pv_fieldAddr (o' := 0) (by rfl) Try.underlying36 (by rfl) (by exact Try.sizeOf3) (by rfl))) (Z.heads_cons (Z.hq_val (Z.pv_load1 (by rfl) (by repeat (first | with_reducible exact Z.Take.here | apply Z.Take.there)) Try.isAgg3 (by rfl))) (Z.heads_cons (Z.hq_callD (by rfl) (by rfl) (by rfl) isFn31 (by repeat (first | with_reducible exact Z.Takes.nil | (apply Z.Takes.cons; (repeat (first | with_reducible exact Z.Take.here | apply Z.Take.there))))) (by repeat (first | with_reducible exact Z.Takes.nil | (apply Z.Takes.cons; (repeat (first | with_reducible exact Z.Take.here | apply Z.Take.there))))) (at7_spec _ p n cap hs hh hp cl)) (Z.heads_cons (Z.hq_val (Z.pv_fieldAddr (o' := 1) (by rfl) Try.underlying36 (by rfl) (by exact Try.sizeOf34) (by rfl))) (Z.heads_cons (Z.hq_val (Z.pv_load1 (by rfl) (by repeat (first | with_reducible exact Z.Take.here | apply Z.Take.there)) Try.isAgg34 (by rfl))) (Z.heads_cons (Z.hq_val (Z.pv_conv (by rfl) Try.underlying34 (by rfl) Try.underlying2 (by first | exact IntWalk.i64_in _ (by omega) | rfl))) (Z.heads_cons (Z.hq_callD (by rfl) (by rfl) (by rfl) isFn30 (by repeat (first | with_reducible exact Z.Takes.nil | (apply Z.Takes.cons; (repeat (first | with_reducible exact Z.Take.here | apply Z.Take.there))))) (by repeat (first | with_reducible exact Z.Takes.nil | (apply Z.Takes.cons; (repeat (first | with_reducible exact Z.Take.here | apply Z.Take.there))))) (has6_spec _ _ _ (atS_ro hS cl) (atS_ok hao cl) _)) (Z.heads_cons (Z.hq_val (Z.pv_assign (by rfl))) Z.heads_nil))))))))) ?_
  refine Z.j_nil ?_
  refine Z.j_then ?_
  refine Z.j_ret ?_
  refine Z.j_done_ret (Z.rv1 (Z.rv_tmp (t := 4) rfl)) ?_
  exact Z.post_of ⟨by rw [← hasA_at], rfl⟩ (by repeat (first | with_reducible exact Z.Takes.nil | (apply Z.Takes.cons; (repeat (first | with_reducible exact Z.Take.here | apply Z.Take.there))))) (by repeat (first | with_reducible exact Z.Drop.nil | apply Z.Drop.cons))

set_option maxHeartbeats 4000000 in
set_option maxRecDepth 100000 in
theorem few1_spec (w0 : World) (p : Option Addr) (n cap : Nat) (hs : List Value) (hh : hs.length = n) (hp : 0 < n → ∃ b o, p = some ⟨b, o, none⟩ ∧ Z.Ro w0 b o hs) (a : Area) (hal : a.length = n) (hS : ∀ i, SlRo w0 (hs.getD i nilS) (a.getD i [])) (hao : AreaOk a) : Z.FnD Try.prog w0 8 [.slice p n cap] [] (.bool (fewA a)) [] := by
  have hnb : n ≤ 9223372036854775807 := by rw [← hal]; exact hao.len
  refine Z.Fn.fnD ?_
  refine Z.fn_enter (n := 19) Try.func8 rfl (by rfl) (by rfl) (fun Fr => ?_)
  refine Z.j_app (by repeat (first | exact Z.App.nil | apply Z.App.cons)) ?_
  refine Z.j_seq ?_
  refine Z.j_region ?_
  refine Z.s_val (Z.pv_assign rfl) ?_
  refine Z.j_nil ?_
  refine Z.j_then ?_
  refine Z.j_seq ?_
  refine Z.j_seq ?_
  refine Z.j_region ?_
  refine Z.s_val (Z.pv_assign rfl) ?_
  refine Z.j_nil ?_
  refine Z.j_then ?_
  refine Z.j_block ?_
  refine Z.j_initF (E' := [(0, .slice p n cap), (3, .int .i64 ((0) : Nat))]) (As := []) (Fr := Fr) (by repeat (first | exact trivial | refine ⟨rfl, ?_⟩)) (by repeat (first | with_reducible exact Z.Takes.nil | (apply Z.Takes.cons; (repeat (first | with_reducible exact Z.Take.here | apply Z.Take.there))))) (by repeat (first | with_reducible exact Z.Drop.nil | apply Z.Drop.cons)) ?_
  refine Z.j_loop (X := { x : (Nat) // (x) ≤ n ∧ ((a.drop (x)).all fun s => decide (s.length ≤ 20)) = (a.all fun s => decide (s.length ≤ 20)) }) (fun (x : { x : (Nat) // (x) ≤ n ∧ ((a.drop (x)).all fun s => decide (s.length ≤ 20)) = (a.all fun s => decide (s.length ≤ 20)) }) => [(0, .slice p n cap), (3, .int .i64 ((x.1) : Nat))]) (fun x => (fun (x : { x : (Nat) // (x) ≤ n ∧ ((a.drop (x)).all fun s => decide (s.length ≤ 20)) = (a.all fun s => decide (s.length ≤ 20)) }) => []) x ++ Fr) (fun (x : { x : (Nat) // (x) ≤ n ∧ ((a.drop (x)).all fun s => decide (s.length ≤ 20)) = (a.all fun s => decide (s.length ≤ 20)) }) => n - (x.1)) ⟨(0), ⟨by omega, by rw [List.drop_zero]⟩⟩ (fun x => ?_)
  obtain ⟨i, hinv⟩ := x
  have hinv' : i ≤ n ∧ ((a.drop i).all fun s => decide (s.length ≤ 20)) = (a.all fun s => decide (s.length ≤ 20)) := hinv
  obtain ⟨hi, hh⟩ := hinv'
  show Z.J _ _ _ ([(0, .slice p n cap), (3, .int .i64 (i : Nat))]) ([] ++ Fr) _
  refine Z.j_app (by repeat (first | exact Z.App.nil | apply Z.App.cons)) ?_
  refine Z.j_seq ?_
  refine Z.j_seq ?_
  refine Z.j_region ?_
  refine Z.s_val (Z.pv_move rfl) ?_
  refine Z.s_val (Z.pv_move rfl) ?_
  refine Z.s_val (Z.pv_len rfl Try.underlying23) ?_
  refine Z.s_val (Z.pv_lss rfl rfl) ?_
  refine Z.j_nil ?_
  refine Z.j_then ?_
  refine Z.j_cond rfl (fun hc7 => ?_) (fun hc7 => ?_)
  · try (with_reducible first | replace hc7 := of_decide_eq_true hc7 | replace hc7 := of_decide_eq_false hc7 | replace hc7 := Z.nd_true hc7 | replace hc7 := Z.nd_false hc7 | replace hc7 := Z.nn_true hc7 | replace hc7 := Z.nn_false hc7 | replace hc7 := Z.nb_true hc7 | replace hc7 := Z.nb_false hc7)
    first
    | (exfalso; first | (cases hc7; done) | omega)
    | skip
      obtain ⟨b1, o1, e1, hro⟩ := hp (by omega)
      obtain ⟨p2, cap2, e2, _⟩ := hS i
      have hdr := all_drop (a := a) (i := i) (by omega)
      have hel : (a.getD i []).length ≤ 9223372036854775807 := hao.each i
      refine Z.j_skip ?_
      refine Z.j_then ?_
      refine Z.j_seq ?_
      refine Z.j_block ?_
      refine Z.j_seq ?_
      refine Z.j_region ?_
      refine Z.s_val (Z.pv_move rfl) ?_
      refine Z.s_val (Z.pv_move rfl) ?_
      refine Z.s_val (Z.pv_indexAddr (o' := o1 + i) (b := b1) (o := o1) (len := n) (cap := cap) (by show some (Value.slice p n cap) = _; rw [e1]) rfl Try.underlying23 Try.sizeOf64 (by omega) (by simp)) ?_
      refine Z.s_val (Z.pv_load1r (v := .slice p2 (a.getD i []).length cap2) (b := b1) (o := o1) (j := i) rfl hro rfl Try.isAgg64 (by rw [get_hd (by omega), e2])) ?_
      refine Z.s_val (Z.pv_len rfl Try.underlying64) ?_
      refine Z.s_val (Z.pv_gtr rfl rfl) ?_
      refine Z.j_nil ?_
      refine Z.j_then ?_
      refine Z.j_cond rfl (fun hc15 => ?_) (fun hc15 => ?_)
      · try (with_reducible first | replace hc15 := of_decide_eq_true hc15 | replace hc15 := of_decide_eq_false hc15 | replace hc15 := Z.nd_true hc15 | replace hc15 := Z.nd_false hc15 | replace hc15 := Z.nn_true hc15 | replace hc15 := Z.nn_false hc15 | replace hc15 := Z.nb_true hc15 | replace hc15 := Z.nb_false hc15)
        first
        | (exfalso; first | (cases hc15; done) | omega)
        | skip
          refine Z.j_seq ?_
          refine Z.j_region ?_
          refine Z.s_val (Z.pv_assign rfl) ?_
          refine Z.j_nil ?_
          refine Z.j_then ?_
          refine Z.j_ret ?_
          refine Z.j_blk_ret ?_
          refine Z.j_then_ret ?_
          refine Z.j_then_ret ?_
          refine Z.j_blk_ret ?_
          refine Z.j_then_ret ?_
          refine Z.j_done_ret (Z.rv1 (Z.rv_tmp (t := 2) rfl)) ?_
          first | exact Z.post_of ⟨by unfold fewA; rw [hfin, Bool.true_and, hal]; congr 1; exact decide_eq_decide.2 (by omega), rfl⟩ (by repeat (first | with_reducible exact Z.Takes.nil | (apply Z.Takes.cons; (repeat (first | with_reducible exact Z.Take.here | apply Z.Take.there))))) (by repeat (first | with_reducible exact Z.Drop.nil | apply Z.Drop.cons)) | exact Z.post_of ⟨by unfold fewA; rw [← hh, hdr, decide_eq_false (show ¬ (a.getD i []).length ≤ 20 by omega)]; rfl, rfl⟩ (by repeat (first | with_reducible exact Z.Takes.nil | (apply Z.Takes.cons; (repeat (first | with_reducible exact Z.Take.here | apply Z.Take.there))))) (by repeat (first | with_reducible exact Z.Drop.nil | apply Z.Drop.cons))
      · try (with_reducible first | replace hc15 := of_decide_eq_true hc15 | replace hc15 := of_decide_eq_false hc15 | replace hc15 := Z.nd_true hc15 | replace hc15 := Z.nd_false hc15 | replace hc15 := Z.nn_true hc15 | replace hc15 := Z.nn_false hc15 | replace hc15 := Z.nb_true hc15 | replace hc15 := Z.nb_false hc15)
        first
        | (exfalso; first | (cases hc15; done) | omega)
        | skip
          refine Z.j_skip ?_
          refine Z.j_blk ?_
          refine Z.j_then ?_
          refine Z.j_region ?_
          refine Z.s_val (Z.pv_move rfl) ?_
          refine Z.s_val (Z.pv_add rfl rfl (by first | exact IntWalk.i64_in _ (by omega) | rfl)) ?_
          refine Z.s_val (Z.pv_assign rfl) ?_
          refine Z.j_nil ?_
          refine Z.j_then ?_
          (refine Z.j_nextG (X := { x : (Nat) // (x) ≤ n ∧ ((a.drop (x)).all fun s => decide (s.length ≤ 20)) = (a.all fun s => decide (s.length ≤ 20)) }) (EE := (fun (x : { x : (Nat) // (x) ≤ n ∧ ((a.drop (x)).all fun s => decide (s.length ≤ 20)) = (a.all fun s => decide (s.length ≤ 20)) }) => [(0, .slice p n cap), (3, .int .i64 ((x.1) : Nat))])) (LL := (fun (x : { x : (Nat) // (x) ≤ n ∧ ((a.drop (x)).all fun s => decide (s.length ≤ 20)) = (a.all fun s => decide (s.length ≤ 20)) }) => [])) (μ := (fun (x : { x : (Nat) // (x) ≤ n ∧ ((a.drop (x)).all fun s => decide (s.length ≤ 20)) = (a.all fun s => decide (s.length ≤ 20)) }) => n - (x.1))) (x := ⟨(i), hinv⟩) ⟨(i + 1), ⟨by omega, by rw [← hh, hdr, decide_eq_true (show (a.getD i []).length ≤ 20 by omega), Bool.true_and]⟩⟩ ?_ ?_ ?_; (show n - (i + 1) < n - i; omega); (exact (by repeat (first | exact trivial | refine ⟨rfl, ?_⟩))); (exact Z.st_td (by repeat (first | with_reducible exact Z.Takes.nil | (apply Z.Takes.cons; (repeat (first | with_reducible exact Z.Take.here | apply Z.Take.there))))) (by repeat (first | with_reducible exact Z.Drop.nil | apply Z.Drop.cons))))
  · try (with_reducible first | replace hc7 := of_decide_eq_true hc7 | replace hc7 := of_decide_eq_false hc7 | replace hc7 := Z.nd_true hc7 | replace hc7 := Z.nd_false hc7 | replace hc7 := Z.nn_true hc7 | replace hc7 := Z.nn_false hc7 | replace hc7 := Z.nb_true hc7 | replace hc7 := Z.nb_false hc7)
    first
    | (exfalso; first | (cases hc7; done) | omega)
    | skip
      have hfin : (a.all fun s => decide (s.length ≤ 20)) = true := by rw [← hh, List.drop_of_length_le (by omega)]; rfl
      refine Z.j_exit ?_
      refine Z.j_then_exit ?_
      refine Z.j_then_exit ?_
      refine Z.j_blk_here rfl ?_
      refine Z.j_then ?_
      refine Z.j_seq ?_
      refine Z.j_region ?_
      refine Z.s_val (Z.pv_move rfl) ?_
      refine Z.s_val (Z.pv_len rfl Try.underlying23) ?_
      refine Z.s_val (Z.pv_leq rfl rfl) ?_
      refine Z.s_val (Z.pv_assign rfl) ?_
      refine Z.j_nil ?_
      refine Z.j_then ?_
      refine Z.j_ret ?_
      refine Z.j_done_ret (Z.rv1 (Z.rv_tmp (t := 2) rfl)) ?_
      first | exact Z.post_of ⟨by unfold fewA; rw [hfin, Bool.true_and, hal]; congr 1; exact decide_eq_decide.2 (by omega), rfl⟩ (by repeat (first | with_reducible exact Z.Takes.nil | (apply Z.Takes.cons; (repeat (first | with_reducible exact Z.Take.here | apply Z.Take.there))))) (by repeat (first | with_reducible exact Z.Drop.nil | apply Z.Drop.cons)) | exact Z.post_of ⟨by unfold fewA; rw [← hh, hdr, decide_eq_false (show ¬ (a.getD i []).length ≤ 20 by omega)]; rfl, rfl⟩ (by repeat (first | with_reducible exact Z.Takes.nil | (apply Z.Takes.cons; (repeat (first | with_reducible exact Z.Take.here | apply Z.Take.there))))) (by repeat (first | with_reducible exact Z.Drop.nil | apply Z.Drop.cons))


theorem has7_spec (w0 : World) (v : Value) (a : Area) (hA : AreaRo w0 v a) (hao : AreaOk a) (cl ck : Int) (hck : 0 ≤ ck ∧ ck < 4294967296) : Z.FnD Try.prog w0 24 [v, .agg #[.int .i64 cl, .int .u32 ck]] [] (.bool (hasA a (⟨cl, ck⟩ : Cell))) [] := by
  obtain ⟨p, cap, hs, rfl, hh, hp, hS⟩ := hA
  exact has71_spec w0 p a.length cap hs hh hp a hS hao cl ck hck
theorem few_spec (w0 : World) (v : Value) (a : Area) (hA : AreaRo w0 v a) (hao : AreaOk a) : Z.FnD Try.prog w0 8 [v] [] (.bool (fewA a)) [] := by
  obtain ⟨p, cap, hs, rfl, hh, hp, hS⟩ := hA
  exact few1_spec w0 p a.length cap hs hh hp a rfl hS hao

end Go.Proofs.Ytleofndjeekalaa
