/- Token: the document's example; TokenUses. -/
import Derived.Test.YtjilnmjjehkidaaS4
import Derived.Test.YtjilnmjjehkidaaT2
import Derived.KernelRfl
namespace Go.Proofs.Ytjilnmjjehkidaa
open Go Go.RowKit

theorem use_is {w0 : World} {tb : Nat} {t T' : Tab} {k now p e : Int} (hP : t.useP k now = p) (hE : t.useE k now = e) (hT : t.useT k now = T') : Z.FnD Try.prog w0 12 [.pointer (some ⟨tb, 0, none⟩), .int .u64 k, .int .i64 now] [TabP tb t] (.tuple #[.int .i64 p, .int .i64 e]) [TabP tb T'] := by
  subst hP; subst hE; subst hT; exact use_spec w0 tb t k now
theorem open_is {w0 : World} {tb : Nat} {t T' : Tab} {p d now e : Int} (ht : t.ok) (hE : t.openE d now = e) (hT : t.openT p d now = T') : Z.FnD Try.prog w0 10 [.pointer (some ⟨tb, 0, none⟩), .int .i64 p, .int .u64 d, .int .i64 now] [TabP tb t] (.int .i64 e) [TabP tb T'] := by
  subst hE; subst hT; exact open_spec w0 tb t p d now ht
theorem sweep_is {w0 : World} {tb : Nat} {t T' : Tab} {now n : Int} (ht : t.ok) (hT : t.sweep now = T') (hn : (t.m.length : Int) - T'.m.length = n) : Z.FnD Try.prog w0 14 [.pointer (some ⟨tb, 0, none⟩), .int .i64 now] [TabP tb t] (.int .i64 n) [TabP tb T'] := by
  subst hT; subst hn; exact sweep_spec w0 tb t now ht
abbrev Ax (m : M) : Tab := ⟨m, 1, 5, 100⟩

set_option maxHeartbeats 4000000 in
set_option maxRecDepth 100000 in
theorem alive_spec (w0 : World) : Z.FnD Try.prog w0 7 [] [] (.bool true) [] := by
  refine Z.Fn.fnD ?_
  refine Z.fn_enter (n := 122) Try.func7 rfl (by rfl) (by rfl) (fun Fr => ?_)
  refine Z.j_app (by repeat (first | exact Z.App.nil | apply Z.App.cons)) ?_
  refine Z.j_seq ?_
  refine Z.j_region ?_
  refine Z.s_val (Z.pv_assign rfl) ?_
  refine Z.j_nil ?_
  refine Z.j_then ?_
  refine Z.j_seq ?_
  refine Z.j_region ?_
  refine Z.s_call rfl rfl rfl isFn9 (by repeat (first | with_reducible exact Z.Takes.nil | (apply Z.Takes.cons; (repeat (first | with_reducible exact Z.Take.here | apply Z.Take.there))))) (new_spec _ _ _ _ (by decide) (by decide) rfl rfl) ?_
  rintro _ _ ⟨tb, rfl, rfl⟩
  refine Z.j_app (by repeat (first | exact Z.App.nil | apply Z.App.cons)) ?_
  refine Z.s_val (Z.pv_move rfl) ?_
  refine Z.s_val (Z.pv_extract rfl rfl) ?_
  refine Z.s_val (Z.pv_extract rfl rfl) ?_
  refine Z.s_val (Z.pv_assign rfl) ?_
  refine Z.s_val (Z.pv_assign rfl) ?_
  refine Z.j_nil ?_
  refine Z.j_then ?_
  refine Z.j_seq ?_
  refine Z.j_seq ?_
  refine Z.j_region ?_
  refine Z.s_val (Z.pv_move rfl) ?_
  refine Z.s_val (Z.pv_eqnil rfl rfl Try.underlying25) ?_
  refine Z.j_nil ?_
  refine Z.j_then ?_
  refine Z.j_cond rfl (fun hc22 => ?_) (fun hc22 => ?_)
  · exfalso; first | (cases hc22; done) | (simp at hc22; done) | (simp at hc22; omega)
  · try (with_reducible first | replace hc22 := of_decide_eq_true hc22 | replace hc22 := of_decide_eq_false hc22 | replace hc22 := Z.nd_true hc22 | replace hc22 := Z.nd_false hc22 | replace hc22 := Z.nn_true hc22 | replace hc22 := Z.nn_false hc22 | replace hc22 := Z.nb_true hc22 | replace hc22 := Z.nb_false hc22)
    first
    | (exfalso; first | (cases hc22; done) | omega)
    | skip
      refine Z.j_skip ?_
      refine Z.j_then ?_
      refine Z.j_seq ?_
      refine Z.j_region ?_
      refine Z.s_val (Z.pv_move rfl) ?_
      refine Z.s_callD rfl rfl rfl isFn10 (by repeat (first | with_reducible exact Z.Takes.nil | (apply Z.Takes.cons; (repeat (first | with_reducible exact Z.Take.here | apply Z.Take.there))))) (by repeat (first | exact Z.App.nil | apply Z.App.cons)) (open_is (t := Ax []) (T' := Ax [(9, ⟨3, 0, 0⟩)]) (p := 3) (d := 9) (now := 0) (e := 0) ⟨by decide, by decide⟩ (by decide +kernel) (by decide +kernel)) ?_
      refine Z.s_val (Z.pv_move rfl) ?_
      refine Z.s_callD rfl rfl rfl isFn10 (by repeat (first | with_reducible exact Z.Takes.nil | (apply Z.Takes.cons; (repeat (first | with_reducible exact Z.Take.here | apply Z.Take.there))))) (by repeat (first | exact Z.App.nil | apply Z.App.cons)) (open_is (t := Ax [(9, ⟨3, 0, 0⟩)]) (T' := Ax [(9, ⟨3, 0, 0⟩)]) (p := 4) (d := 8) (now := 1) (e := 3) ⟨by decide, by decide⟩ (by decide +kernel) (by decide +kernel)) ?_
      refine Z.s_val (Z.pv_assign rfl) ?_
      refine Z.s_val (Z.pv_assign rfl) ?_
      refine Z.j_nil ?_
      refine Z.j_then ?_
      refine Z.j_seq ?_
      refine Z.j_seq ?_
      refine Z.j_region ?_
      refine Z.s_val (Z.pv_move rfl) ?_
      refine Z.s_val (Z.pv_neq rfl rfl) ?_
      refine Z.s_val (Z.pv_move rfl) ?_
      refine Z.s_is 29 rfl (show _ = Value.bool false from rfl) ?_
      refine Z.s_val (Z.pv_move rfl) ?_
      refine Z.s_val (Z.pv_neq rfl rfl) ?_
      refine Z.s_val (Z.pv_pick rfl rfl) ?_
      refine Z.j_nil ?_
      refine Z.j_then ?_
      refine Z.j_cond rfl (fun hc32 => ?_) (fun hc32 => ?_)
      · exfalso; first | (cases hc32; done) | (simp at hc32; done) | (simp at hc32; omega)
      · try (with_reducible first | replace hc32 := of_decide_eq_true hc32 | replace hc32 := of_decide_eq_false hc32 | replace hc32 := Z.nd_true hc32 | replace hc32 := Z.nd_false hc32 | replace hc32 := Z.nn_true hc32 | replace hc32 := Z.nn_false hc32 | replace hc32 := Z.nb_true hc32 | replace hc32 := Z.nb_false hc32)
        first
        | (exfalso; first | (cases hc32; done) | omega)
        | skip
          refine Z.j_skip ?_
          refine Z.j_then ?_
          refine Z.j_seq ?_
          refine Z.j_region ?_
          refine Z.s_val (Z.pv_move rfl) ?_
          refine Z.s_callD rfl rfl rfl isFn12 (by repeat (first | with_reducible exact Z.Takes.nil | (apply Z.Takes.cons; (repeat (first | with_reducible exact Z.Take.here | apply Z.Take.there))))) (by repeat (first | exact Z.App.nil | apply Z.App.cons)) (use_is (t := Ax [(9, ⟨3, 0, 0⟩)]) (T' := Ax [(9, ⟨3, 0, 4⟩)]) (k := 9) (now := 4) (p := 3) (e := 0) (by decide +kernel) (by decide +kernel) (by decide +kernel)) ?_
          refine Z.s_val (Z.pv_move rfl) ?_
          refine Z.s_val (Z.pv_extract rfl rfl) ?_
          refine Z.s_val (Z.pv_extract rfl rfl) ?_
          refine Z.s_val (Z.pv_assign rfl) ?_
          refine Z.s_val (Z.pv_assign rfl) ?_
          refine Z.j_nil ?_
          refine Z.j_then ?_
          refine Z.j_seq ?_
          refine Z.j_region ?_
          refine Z.s_val (Z.pv_move rfl) ?_
          refine Z.s_callD rfl rfl rfl isFn12 (by repeat (first | with_reducible exact Z.Takes.nil | (apply Z.Takes.cons; (repeat (first | with_reducible exact Z.Take.here | apply Z.Take.there))))) (by repeat (first | exact Z.App.nil | apply Z.App.cons)) (use_is (t := Ax [(9, ⟨3, 0, 4⟩)]) (T' := Ax [(9, ⟨3, 0, 8⟩)]) (k := 9) (now := 8) (p := 3) (e := 0) (by decide +kernel) (by decide +kernel) (by decide +kernel)) ?_
          refine Z.s_val (Z.pv_move rfl) ?_
          refine Z.s_val (Z.pv_extract rfl rfl) ?_
          refine Z.s_val (Z.pv_extract rfl rfl) ?_
          refine Z.s_val (Z.pv_assign rfl) ?_
          refine Z.s_val (Z.pv_assign rfl) ?_
          refine Z.j_nil ?_
          refine Z.j_then ?_
          refine Z.j_seq ?_
          refine Z.j_region ?_
          refine Z.s_val (Z.pv_move rfl) ?_
          refine Z.s_callD rfl rfl rfl isFn12 (by repeat (first | with_reducible exact Z.Takes.nil | (apply Z.Takes.cons; (repeat (first | with_reducible exact Z.Take.here | apply Z.Take.there))))) (by repeat (first | exact Z.App.nil | apply Z.App.cons)) (use_is (t := Ax [(9, ⟨3, 0, 8⟩)]) (T' := Ax []) (k := 9) (now := 13) (p := 0) (e := 41) (by decide +kernel) (by decide +kernel) (by decide +kernel)) ?_
          refine Z.s_val (Z.pv_move rfl) ?_
          refine Z.s_val (Z.pv_extract rfl rfl) ?_
          refine Z.s_val (Z.pv_extract rfl rfl) ?_
          refine Z.s_val (Z.pv_assign rfl) ?_
          refine Z.s_val (Z.pv_assign rfl) ?_
          refine Z.j_nil ?_
          refine Z.j_then ?_
          refine Z.j_seq ?_
          refine Z.j_region ?_
          refine Z.s_val (Z.pv_move rfl) ?_
          refine Z.s_callD rfl rfl rfl isFn10 (by repeat (first | with_reducible exact Z.Takes.nil | (apply Z.Takes.cons; (repeat (first | with_reducible exact Z.Take.here | apply Z.Take.there))))) (by repeat (first | exact Z.App.nil | apply Z.App.cons)) (open_is (t := Ax []) (T' := Ax []) (p := 4) (d := 0) (now := 13) (e := 41) ⟨by decide, by decide⟩ (by decide +kernel) (by decide +kernel)) ?_
          refine Z.s_val (Z.pv_assign rfl) ?_
          refine Z.j_nil ?_
          refine Z.j_then ?_
          refine Z.j_seq ?_
          refine Z.j_region ?_
          refine Z.s_val (Z.pv_move rfl) ?_
          refine Z.s_callD rfl rfl rfl isFn10 (by repeat (first | with_reducible exact Z.Takes.nil | (apply Z.Takes.cons; (repeat (first | with_reducible exact Z.Take.here | apply Z.Take.there))))) (by repeat (first | exact Z.App.nil | apply Z.App.cons)) (open_is (t := Ax []) (T' := Ax [(8, ⟨4, 13, 13⟩)]) (p := 4) (d := 8) (now := 13) (e := 0) ⟨by decide, by decide⟩ (by decide +kernel) (by decide +kernel)) ?_
          refine Z.s_val (Z.pv_assign rfl) ?_
          refine Z.j_nil ?_
          refine Z.j_then ?_
          refine Z.j_seq ?_
          refine Z.j_region ?_
          refine Z.s_val (Z.pv_move rfl) ?_
          refine Z.s_call rfl rfl rfl isFn15 (by repeat (first | with_reducible exact Z.Takes.nil | (apply Z.Takes.cons; (repeat (first | with_reducible exact Z.Take.here | apply Z.Take.there))))) (sessions_spec _ _ (Ax [(8, ⟨4, 13, 13⟩)]) 9 (by decide)) ?_
          rintro _ _ ⟨vx, vy, rfl, rfl⟩
          have hss : ss (Ax [(8, ⟨4, 13, 13⟩)]) 9 = [(8, 4)] := by decide +kernel
          rw [hss]
          refine Z.j_app (by repeat (first | exact Z.App.nil | apply Z.App.cons)) ?_
          refine Z.s_val (Z.pv_move rfl) ?_
          refine Z.s_val (Z.pv_extract rfl rfl) ?_
          refine Z.s_val (Z.pv_extract rfl rfl) ?_
          refine Z.s_val (Z.pv_assign rfl) ?_
          refine Z.s_val (Z.pv_assign rfl) ?_
          refine Z.j_nil ?_
          refine Z.j_then ?_
          refine Z.j_seq ?_
          refine Z.j_region ?_
          refine Z.s_callD rfl rfl rfl isFn9 (by repeat (first | with_reducible exact Z.Takes.nil | (apply Z.Takes.cons; (repeat (first | with_reducible exact Z.Take.here | apply Z.Take.there))))) (by repeat (first | exact Z.App.nil | apply Z.App.cons)) (newbad_spec _ _ _ _ (by decide)) ?_
          refine Z.s_val (Z.pv_move rfl) ?_
          refine Z.s_val (Z.pv_extract rfl rfl) ?_
          refine Z.s_val (Z.pv_extract rfl rfl) ?_
          refine Z.s_val (Z.pv_assign rfl) ?_
          refine Z.s_val (Z.pv_assign rfl) ?_
          refine Z.j_nil ?_
          refine Z.j_then ?_
          refine Z.j_seq ?_
          refine Z.j_unown (T := 3) (k := 1) (v := vy) (by repeat (first | with_reducible exact Z.Take.here | apply Z.Take.there)) (fun e1 e2 e3 => by cases e2) (fun nb cap sp e1 e2 e3 => ?_)
          subst e1
          refine Z.j_region ?_
          refine Z.s_val (Z.pv_move rfl) ?_
          refine Z.s_val (Z.pv_eql rfl rfl) ?_
          refine Z.s_val (Z.pv_move rfl) ?_
          refine Z.s_is 63 rfl (show _ = Value.bool true from rfl) ?_
          refine Z.s_val (Z.pv_move rfl) ?_
          refine Z.s_val (Z.pv_eql rfl rfl) ?_
          refine Z.s_val (Z.pv_pick rfl rfl) ?_
          refine Z.s_val (Z.pv_move rfl) ?_
          refine Z.s_is 67 rfl (show _ = Value.bool true from rfl) ?_
          refine Z.s_val (Z.pv_move rfl) ?_
          refine Z.s_val (Z.pv_eql rfl rfl) ?_
          refine Z.s_val (Z.pv_pick rfl rfl) ?_
          refine Z.s_val (Z.pv_move rfl) ?_
          refine Z.s_is 71 rfl (show _ = Value.bool true from rfl) ?_
          refine Z.s_val (Z.pv_move rfl) ?_
          refine Z.s_val (Z.pv_eql rfl rfl) ?_
          refine Z.s_val (Z.pv_pick rfl rfl) ?_
          refine Z.s_val (Z.pv_move rfl) ?_
          refine Z.s_is 75 rfl (show _ = Value.bool true from rfl) ?_
          refine Z.s_val (Z.pv_move rfl) ?_
          refine Z.s_val (Z.pv_eql rfl rfl) ?_
          refine Z.s_val (Z.pv_pick rfl rfl) ?_
          refine Z.s_val (Z.pv_move rfl) ?_
          refine Z.s_is 79 rfl (show _ = Value.bool true from rfl) ?_
          refine Z.s_val (Z.pv_move rfl) ?_
          refine Z.s_val (Z.pv_eql rfl rfl) ?_
          refine Z.s_val (Z.pv_pick rfl rfl) ?_
          refine Z.s_val (Z.pv_move rfl) ?_
          refine Z.s_is 83 rfl (show _ = Value.bool true from rfl) ?_
          refine Z.s_val (Z.pv_move rfl) ?_
          refine Z.s_val (Z.pv_eql rfl rfl) ?_
          refine Z.s_val (Z.pv_pick rfl rfl) ?_
          refine Z.s_val (Z.pv_move rfl) ?_
          refine Z.s_is 87 rfl (show _ = Value.bool true from rfl) ?_
          refine Z.s_val (Z.pv_move rfl) ?_
          refine Z.s_val (Z.pv_lenO rfl (by repeat (first | with_reducible exact Z.Take.here | apply Z.Take.there)) Try.underlying42) ?_
          refine Z.s_val (Z.pv_eql rfl rfl) ?_
          refine Z.s_val (Z.pv_pick rfl rfl) ?_
          refine Z.s_val (Z.pv_move rfl) ?_
          refine Z.s_is 92 rfl (show _ = Value.bool true from rfl) ?_
          refine Z.s_val (Z.pv_move rfl) ?_
          refine Z.s_val (Z.pv_len rfl Try.underlying44) ?_
          refine Z.s_val (Z.pv_eql rfl rfl) ?_
          refine Z.s_val (Z.pv_pick rfl rfl) ?_
          refine Z.s_val (Z.pv_move rfl) ?_
          refine Z.s_is 97 rfl (show _ = Value.bool true from rfl) ?_
          refine Z.s_val (Z.pv_move rfl) ?_
          refine Z.s_val (Z.pv_indexAddr rfl rfl Try.underlying44 Try.sizeOf3 (by decide) rfl) ?_
          refine Z.s_val (Z.pv_load1 rfl (by repeat (first | with_reducible exact Z.Take.here | apply Z.Take.there)) Try.isAgg3 (by rfl)) ?_
          refine Z.s_val (Z.pv_eql rfl rfl) ?_
          refine Z.s_val (Z.pv_pick rfl rfl) ?_
          refine Z.s_val (Z.pv_move rfl) ?_
          refine Z.s_is 103 rfl (show _ = Value.bool true from rfl) ?_
          refine Z.s_val (Z.pv_move rfl) ?_
          refine Z.s_val (Z.pv_eql rfl rfl) ?_
          refine Z.s_val (Z.pv_pick rfl rfl) ?_
          refine Z.s_val (Z.pv_move rfl) ?_
          refine Z.s_is 107 rfl (show _ = Value.bool true from rfl) ?_
          refine Z.s_val (Z.pv_move rfl) ?_
          refine Z.s_callD rfl rfl rfl isFn14 (by repeat (first | with_reducible exact Z.Takes.nil | (apply Z.Takes.cons; (repeat (first | with_reducible exact Z.Take.here | apply Z.Take.there))))) (by repeat (first | exact Z.App.nil | apply Z.App.cons)) (sweep_is (t := Ax [(8, ⟨4, 13, 13⟩)]) (T' := Ax []) (now := 18) (n := 1) ⟨by decide, by decide⟩ (by decide +kernel) (by decide +kernel)) ?_
          refine Z.s_val (Z.pv_eql rfl rfl) ?_
          refine Z.s_val (Z.pv_pick rfl rfl) ?_
          refine Z.s_val (Z.pv_move rfl) ?_
          refine Z.s_is 112 rfl (show _ = Value.bool true from rfl) ?_
          refine Z.s_val (Z.pv_move rfl) ?_
          refine Z.s_callD rfl rfl rfl isFn11 (by repeat (first | with_reducible exact Z.Takes.nil | (apply Z.Takes.cons; (repeat (first | with_reducible exact Z.Take.here | apply Z.Take.there))))) (by repeat (first | exact Z.App.nil | apply Z.App.cons)) (close_spec _ _ (Ax []) 8) ?_
          refine Z.s_val (Z.pv_not rfl) ?_
          refine Z.s_val (Z.pv_pick rfl rfl) ?_
          refine Z.s_val (Z.pv_move rfl) ?_
          refine Z.s_is 117 rfl (show _ = Value.bool true from rfl) ?_
          refine Z.s_val (Z.pv_move rfl) ?_
          refine Z.s_callD rfl rfl rfl isFn13 (by repeat (first | with_reducible exact Z.Takes.nil | (apply Z.Takes.cons; (repeat (first | with_reducible exact Z.Take.here | apply Z.Take.there))))) (by repeat (first | exact Z.App.nil | apply Z.App.cons)) (len_spec _ _ _) ?_
          refine Z.s_val (Z.pv_eql rfl rfl) ?_
          refine Z.s_val (Z.pv_pick rfl rfl) ?_
          refine Z.s_val (Z.pv_assign rfl) ?_
          refine Z.j_nil ?_
          refine Z.j_then ?_
          refine Z.j_ret ?_
          refine Z.j_done_ret (Z.rv1 (Z.rv_tmp (t := 0) rfl)) ?_
          exact Z.post_of ⟨rfl, rfl⟩ (by repeat (first | with_reducible exact Z.Takes.nil | (apply Z.Takes.cons; (repeat (first | with_reducible exact Z.Take.here | apply Z.Take.there))))) (by repeat (first | with_reducible exact Z.Drop.nil | apply Z.Drop.cons))

set_option maxHeartbeats 4000000 in
set_option maxRecDepth 100000 in
theorem uses_law (w0 : World) (idle abs : Int) : Z.FnD Try.prog w0 5 [.int .i64 idle, .int .i64 abs] [] (.bool true) [] := by
  obtain ⟨hb1, hb2⟩ := and_bd idle 15 (by decide) (by decide)
  obtain ⟨hb3, hb4⟩ := and_bd abs 63 (by decide) (by decide)
  obtain ⟨i0, hi0⟩ : ∃ i0, Z.bitsOf .and .i64 idle 15 = i0 := ⟨_, rfl⟩
  obtain ⟨a0, ha0⟩ : ∃ a0, Z.bitsOf .and .i64 abs 63 = a0 := ⟨_, rfl⟩
  rw [hi0] at hb1 hb2
  rw [ha0] at hb3 hb4
  refine Z.Fn.fnD ?_
  refine Z.fn_enter (n := 127) Try.func5 rfl (by rfl) (by rfl) (fun Fr => ?_)
  refine Z.j_app (by repeat (first | exact Z.App.nil | apply Z.App.cons)) ?_
  refine Z.j_seq ?_
  refine Z.j_region ?_
  refine Z.s_val (Z.pv_assign rfl) ?_
  refine Z.j_nil ?_
  refine Z.j_then ?_
  refine Z.j_seq ?_
  refine Z.j_seq ?_
  refine Z.j_region ?_
  refine Z.s_callD rfl rfl rfl isFn7 (by repeat (first | with_reducible exact Z.Takes.nil | (apply Z.Takes.cons; (repeat (first | with_reducible exact Z.Take.here | apply Z.Take.there))))) (by repeat (first | exact Z.App.nil | apply Z.App.cons)) (alive_spec _) ?_
  refine Z.s_val (Z.pv_not rfl) ?_
  refine Z.j_nil ?_
  refine Z.j_then ?_
  refine Z.j_cond rfl (fun hc24 => ?_) (fun hc24 => ?_)
  · exfalso; first | (cases hc24; done) | (simp at hc24; done) | (simp at hc24; omega)
  · try (with_reducible first | replace hc24 := of_decide_eq_true hc24 | replace hc24 := of_decide_eq_false hc24 | replace hc24 := Z.nd_true hc24 | replace hc24 := Z.nd_false hc24 | replace hc24 := Z.nn_true hc24 | replace hc24 := Z.nn_false hc24 | replace hc24 := Z.nb_true hc24 | replace hc24 := Z.nb_false hc24)
    first
    | (exfalso; first | (cases hc24; done) | omega)
    | skip
      refine Z.j_skip ?_
      refine Z.j_then ?_
      refine Z.j_seq ?_
      refine Z.j_region ?_
      refine Z.s_val (Z.pv_move rfl) ?_
      refine Z.s_val (Z.pv_bits rfl rfl hi0) ?_
      refine Z.s_val (Z.pv_add rfl rfl (by first | exact IntWalk.i64_in _ (by omega) | rfl)) ?_
      refine Z.s_val (Z.pv_move rfl) ?_
      refine Z.s_val (Z.pv_bits rfl rfl ha0) ?_
      refine Z.s_val (Z.pv_add rfl rfl (by first | exact IntWalk.i64_in _ (by omega) | rfl)) ?_
      refine Z.s_val (Z.pv_assign rfl) ?_
      refine Z.s_val (Z.pv_assign rfl) ?_
      refine Z.j_nil ?_
      refine Z.j_then ?_
      refine Z.j_seq ?_
      refine Z.j_region ?_
      refine Z.s_val (Z.pv_move rfl) ?_
      refine Z.s_val (Z.pv_move rfl) ?_
      refine Z.s_call rfl rfl rfl isFn9 (by repeat (first | with_reducible exact Z.Takes.nil | (apply Z.Takes.cons; (repeat (first | with_reducible exact Z.Take.here | apply Z.Take.there))))) (new_spec _ _ _ _ (by decide) (by decide) (span_ok (by omega)) (span_ok (by omega))) ?_
      rintro _ _ ⟨tb, rfl, rfl⟩
      refine Z.j_app (by repeat (first | exact Z.App.nil | apply Z.App.cons)) ?_
      refine Z.s_val (Z.pv_move rfl) ?_
      refine Z.s_val (Z.pv_extract rfl rfl) ?_
      refine Z.s_val (Z.pv_extract rfl rfl) ?_
      refine Z.s_val (Z.pv_assign rfl) ?_
      refine Z.s_val (Z.pv_assign rfl) ?_
      refine Z.j_nil ?_
      refine Z.j_then ?_
      refine Z.j_seq ?_
      refine Z.j_seq ?_
      refine Z.j_region ?_
      refine Z.s_val (Z.pv_move rfl) ?_
      refine Z.s_val (Z.pv_neq rfl rfl) ?_
      refine Z.s_val (Z.pv_move rfl) ?_
      refine Z.s_is 39 rfl (show _ = Value.bool false from rfl) ?_
      refine Z.s_val (Z.pv_move rfl) ?_
      refine Z.s_callD rfl rfl rfl isFn10 (by repeat (first | with_reducible exact Z.Takes.nil | (apply Z.Takes.cons; (repeat (first | with_reducible exact Z.Take.here | apply Z.Take.there))))) (by repeat (first | exact Z.App.nil | apply Z.App.cons)) (open_is (t := U0 2 (2 + i0) (2 + a0)) (p := 1) (d := 5) (now := 0) U0_ok (U0_open (p := 1) (by decide) (by decide)).1 (U0_open (by decide) (by decide)).2) ?_
      refine Z.s_val (Z.pv_neq rfl rfl) ?_
      refine Z.s_val (Z.pv_pick rfl rfl) ?_
      refine Z.s_val (Z.pv_move rfl) ?_
      refine Z.s_is 44 rfl (show _ = Value.bool false from rfl) ?_
      refine Z.s_val (Z.pv_move rfl) ?_
      refine Z.s_callD rfl rfl rfl isFn10 (by repeat (first | with_reducible exact Z.Takes.nil | (apply Z.Takes.cons; (repeat (first | with_reducible exact Z.Take.here | apply Z.Take.there))))) (by repeat (first | exact Z.App.nil | apply Z.App.cons)) (open_is (p := 2) (d := 6) (now := 0) (U1_ok) (U1_open (by omega) (by omega)).1 (U1_open (by omega) (by omega)).2) ?_
      refine Z.s_val (Z.pv_neq rfl rfl) ?_
      refine Z.s_val (Z.pv_pick rfl rfl) ?_
      refine Z.j_nil ?_
      refine Z.j_then ?_
      refine Z.j_cond rfl (fun hc48 => ?_) (fun hc48 => ?_)
      · exfalso; first | (cases hc48; done) | (simp at hc48; done) | (simp at hc48; omega)
      · try (with_reducible first | replace hc48 := of_decide_eq_true hc48 | replace hc48 := of_decide_eq_false hc48 | replace hc48 := Z.nd_true hc48 | replace hc48 := Z.nd_false hc48 | replace hc48 := Z.nn_true hc48 | replace hc48 := Z.nn_false hc48 | replace hc48 := Z.nb_true hc48 | replace hc48 := Z.nb_false hc48)
        first
        | (exfalso; first | (cases hc48; done) | omega)
        | skip
          refine Z.j_skip ?_
          refine Z.j_then ?_
          refine Z.j_seq ?_
          refine Z.j_seq ?_
          refine Z.j_region ?_
          refine Z.s_val (Z.pv_assign rfl) ?_
          refine Z.j_nil ?_
          refine Z.j_then ?_
          refine Z.j_block ?_
          refine Z.j_initF (E' := [(5, .int .i64 (2 + i0)), (6, .int .i64 (2 + a0)), (7, .pointer (some ⟨tb, 0, none⟩)), (9, .int .i64 (0))]) (As := [TabP tb (UL (2 + i0) (2 + a0) (0))]) (Fr := Fr) (by repeat (first | exact trivial | refine ⟨rfl, ?_⟩)) (by repeat (first | with_reducible exact Z.Takes.nil | (apply Z.Takes.cons; (repeat (first | with_reducible exact Z.Take.here | apply Z.Take.there))))) (by repeat (first | with_reducible exact Z.Drop.nil | apply Z.Drop.cons)) ?_
          refine Z.j_loop (X := { x : (Int) × (Int) // 0 ≤ (x.2) ∧ (x.2) ≤ (x.1) ∧ (x.1) - (x.2) ≤ 1 + i0 ∧ (x.1) ≤ 200 }) (fun (x : { x : (Int) × (Int) // 0 ≤ (x.2) ∧ (x.2) ≤ (x.1) ∧ (x.1) - (x.2) ≤ 1 + i0 ∧ (x.1) ≤ 200 }) => [(5, .int .i64 (2 + i0)), (6, .int .i64 (2 + a0)), (7, .pointer (some ⟨tb, 0, none⟩)), (9, .int .i64 (x.1.1))]) (fun x => (fun (x : { x : (Int) × (Int) // 0 ≤ (x.2) ∧ (x.2) ≤ (x.1) ∧ (x.1) - (x.2) ≤ 1 + i0 ∧ (x.1) ≤ 200 }) => [TabP tb (UL (2 + i0) (2 + a0) (x.1.2))]) x ++ Fr) (fun (x : { x : (Int) × (Int) // 0 ≤ (x.2) ∧ (x.2) ≤ (x.1) ∧ (x.1) - (x.2) ≤ 1 + i0 ∧ (x.1) ≤ 200 }) => (2 + a0 - (x.1.1)).toNat) ⟨(0, 0), by omega⟩ (fun x => ?_)
          obtain ⟨⟨now, last⟩, hinv⟩ := x
          have hinv' : 0 ≤ last ∧ last ≤ now ∧ now - last ≤ 1 + i0 ∧ now ≤ 200 := hinv
          obtain ⟨hl0, hl1, hl2, hl3⟩ := hinv'
          show Z.J _ _ _ ([(5, .int .i64 (2 + i0)), (6, .int .i64 (2 + a0)), (7, .pointer (some ⟨tb, 0, none⟩)), (9, .int .i64 now)]) ([TabP tb (UL (2 + i0) (2 + a0) last)] ++ Fr) _
          refine Z.j_app (by repeat (first | exact Z.App.nil | apply Z.App.cons)) ?_
          refine Z.j_seq ?_
          refine Z.j_seq ?_
          refine Z.j_region ?_
          refine Z.s_val (Z.pv_move rfl) ?_
          refine Z.s_val (Z.pv_move rfl) ?_
          refine Z.s_val (Z.pv_lss rfl rfl) ?_
          refine Z.j_nil ?_
          refine Z.j_then ?_
          refine Z.j_cond rfl (fun hc51 => ?_) (fun hc51 => ?_)
          · try (with_reducible first | replace hc51 := of_decide_eq_true hc51 | replace hc51 := of_decide_eq_false hc51 | replace hc51 := Z.nd_true hc51 | replace hc51 := Z.nd_false hc51 | replace hc51 := Z.nn_true hc51 | replace hc51 := Z.nn_false hc51 | replace hc51 := Z.nb_true hc51 | replace hc51 := Z.nb_false hc51)
            first
            | (exfalso; first | (cases hc51; done) | omega)
            | skip
              refine Z.j_skip ?_
              refine Z.j_then ?_
              refine Z.j_seq ?_
              refine Z.j_block ?_
              refine Z.j_seq ?_
              refine Z.j_region ?_
              refine Z.s_val (Z.pv_move rfl) ?_
              refine Z.s_val (Z.pv_move rfl) ?_
              refine Z.s_callD rfl rfl rfl isFn12 (by repeat (first | with_reducible exact Z.Takes.nil | (apply Z.Takes.cons; (repeat (first | with_reducible exact Z.Take.here | apply Z.Take.there))))) (by repeat (first | exact Z.App.nil | apply Z.App.cons)) (use_is (UL_use (by omega) (by omega) hl0 (by omega) (by omega) (by omega)).1 (UL_use (by omega) (by omega) hl0 (by omega) (by omega) (by omega)).2.1 (UL_use (by omega) (by omega) hl0 (by omega) (by omega) (by omega)).2.2) ?_
              refine Z.s_val (Z.pv_move rfl) ?_
              refine Z.s_val (Z.pv_extract rfl rfl) ?_
              refine Z.s_val (Z.pv_extract rfl rfl) ?_
              refine Z.s_val (Z.pv_assign rfl) ?_
              refine Z.s_val (Z.pv_assign rfl) ?_
              refine Z.j_nil ?_
              refine Z.j_then ?_
              refine Z.j_seq ?_
              refine Z.j_region ?_
              refine Z.s_val (Z.pv_move rfl) ?_
              refine Z.s_val (Z.pv_neq rfl rfl) ?_
              refine Z.s_val (Z.pv_move rfl) ?_
              refine Z.s_is 64 rfl (show _ = Value.bool false from rfl) ?_
              refine Z.s_val (Z.pv_move rfl) ?_
              refine Z.s_val (Z.pv_neq rfl rfl) ?_
              refine Z.s_val (Z.pv_pick rfl rfl) ?_
              refine Z.j_nil ?_
              refine Z.j_then ?_
              refine Z.j_cond rfl (fun hc67 => ?_) (fun hc67 => ?_)
              · try (with_reducible first | replace hc67 := of_decide_eq_true hc67 | replace hc67 := of_decide_eq_false hc67 | replace hc67 := Z.nd_true hc67 | replace hc67 := Z.nd_false hc67 | replace hc67 := Z.nn_true hc67 | replace hc67 := Z.nn_false hc67 | replace hc67 := Z.nb_true hc67 | replace hc67 := Z.nb_false hc67)
                first
                | (exfalso; first | (cases hc67; done) | omega)
                | skip
                  refine Z.j_seq ?_
                  refine Z.j_region ?_
                  refine Z.s_val (Z.pv_assign rfl) ?_
                  refine Z.j_nil ?_
                  refine Z.j_then ?_
                  refine Z.j_ret ?_
                  refine Z.j_blk_ret ?_
                  refine Z.j_then_ret ?_
                  refine Z.j_then_ret ?_
                  refine Z.j_blk_ret ?_
                  refine Z.j_then_ret ?_
                  refine Z.j_done_ret (Z.rv1 (Z.rv_tmp (t := 4) rfl)) ?_
                  exact Z.post_of ⟨rfl, rfl⟩ (by repeat (first | with_reducible exact Z.Takes.nil | (apply Z.Takes.cons; (repeat (first | with_reducible exact Z.Take.here | apply Z.Take.there))))) (by repeat (first | with_reducible exact Z.Drop.nil | apply Z.Drop.cons))
              · try (with_reducible first | replace hc67 := of_decide_eq_true hc67 | replace hc67 := of_decide_eq_false hc67 | replace hc67 := Z.nd_true hc67 | replace hc67 := Z.nd_false hc67 | replace hc67 := Z.nn_true hc67 | replace hc67 := Z.nn_false hc67 | replace hc67 := Z.nb_true hc67 | replace hc67 := Z.nb_false hc67)
                first
                | (exfalso; first | (cases hc67; done) | omega)
                | skip
                  refine Z.j_skip ?_
                  refine Z.j_blk ?_
                  refine Z.j_then ?_
                  refine Z.j_region ?_
                  refine Z.s_val (Z.pv_move rfl) ?_
                  refine Z.s_val (Z.pv_move rfl) ?_
                  refine Z.s_val (Z.pv_sub rfl rfl (by first | exact IntWalk.i64_in _ (by omega) | rfl)) ?_
                  refine Z.s_val (Z.pv_add rfl rfl (by first | exact IntWalk.i64_in _ (by omega) | rfl)) ?_
                  refine Z.s_val (Z.pv_assign rfl) ?_
                  refine Z.j_nil ?_
                  refine Z.j_then ?_
                  (refine Z.j_nextG (X := { x : (Int) × (Int) // 0 ≤ (x.2) ∧ (x.2) ≤ (x.1) ∧ (x.1) - (x.2) ≤ 1 + i0 ∧ (x.1) ≤ 200 }) (EE := (fun (x : { x : (Int) × (Int) // 0 ≤ (x.2) ∧ (x.2) ≤ (x.1) ∧ (x.1) - (x.2) ≤ 1 + i0 ∧ (x.1) ≤ 200 }) => [(5, .int .i64 (2 + i0)), (6, .int .i64 (2 + a0)), (7, .pointer (some ⟨tb, 0, none⟩)), (9, .int .i64 (x.1.1))])) (LL := (fun (x : { x : (Int) × (Int) // 0 ≤ (x.2) ∧ (x.2) ≤ (x.1) ∧ (x.1) - (x.2) ≤ 1 + i0 ∧ (x.1) ≤ 200 }) => [TabP tb (UL (2 + i0) (2 + a0) (x.1.2))])) (μ := (fun (x : { x : (Int) × (Int) // 0 ≤ (x.2) ∧ (x.2) ≤ (x.1) ∧ (x.1) - (x.2) ≤ 1 + i0 ∧ (x.1) ≤ 200 }) => (2 + a0 - (x.1.1)).toNat)) (x := ⟨(now, last), hinv⟩) ⟨(now + (2 + i0 - 1), now), by omega⟩ ?_ ?_ ?_; (show (2 + a0 - (now + (2 + i0 - 1))).toNat < (2 + a0 - now).toNat; omega); (exact (by repeat (first | exact trivial | refine ⟨rfl, ?_⟩))); (exact Z.st_td (by repeat (first | with_reducible exact Z.Takes.nil | (apply Z.Takes.cons; (repeat (first | with_reducible exact Z.Take.here | apply Z.Take.there))))) (by repeat (first | with_reducible exact Z.Drop.nil | apply Z.Drop.cons))))
          · try (with_reducible first | replace hc51 := of_decide_eq_true hc51 | replace hc51 := of_decide_eq_false hc51 | replace hc51 := Z.nd_true hc51 | replace hc51 := Z.nd_false hc51 | replace hc51 := Z.nn_true hc51 | replace hc51 := Z.nn_false hc51 | replace hc51 := Z.nb_true hc51 | replace hc51 := Z.nb_false hc51)
            first
            | (exfalso; first | (cases hc51; done) | omega)
            | skip
              refine Z.j_exit ?_
              refine Z.j_then_exit ?_
              refine Z.j_then_exit ?_
              refine Z.j_blk_here rfl ?_
              refine Z.j_then ?_
              refine Z.j_seq ?_
              refine Z.j_region ?_
              refine Z.s_val (Z.pv_move rfl) ?_
              refine Z.s_val (Z.pv_move rfl) ?_
              refine Z.s_call rfl rfl rfl isFn9 (by repeat (first | with_reducible exact Z.Takes.nil | (apply Z.Takes.cons; (repeat (first | with_reducible exact Z.Take.here | apply Z.Take.there))))) (new_spec _ _ _ _ (by decide) (by decide) (span_ok (by omega)) (span_ok (by omega))) ?_
              rintro _ _ ⟨ub, rfl, rfl⟩
              refine Z.j_app (by repeat (first | exact Z.App.nil | apply Z.App.cons)) ?_
              refine Z.s_val (Z.pv_move rfl) ?_
              refine Z.s_val (Z.pv_extract rfl rfl) ?_
              refine Z.s_val (Z.pv_extract rfl rfl) ?_
              refine Z.s_val (Z.pv_assign rfl) ?_
              refine Z.s_val (Z.pv_assign rfl) ?_
              refine Z.j_nil ?_
              refine Z.j_then ?_
              refine Z.j_seq ?_
              refine Z.j_region ?_
              refine Z.s_val (Z.pv_move rfl) ?_
              refine Z.s_callD rfl rfl rfl isFn10 (by repeat (first | with_reducible exact Z.Takes.nil | (apply Z.Takes.cons; (repeat (first | with_reducible exact Z.Take.here | apply Z.Take.there))))) (by repeat (first | exact Z.App.nil | apply Z.App.cons)) (open_is (t := U0 1 (2 + i0) (2 + a0)) (p := 3) (d := 7) (now := 10) U0_ok (U0_open (p := 3) (by decide) (by decide)).1 (U0_open (by decide) (by decide)).2) ?_
              refine Z.j_cast (B := TabP ub (UU (2 + i0) (2 + a0) 10)) (by repeat (first | with_reducible exact Z.Take.here | apply Z.Take.there)) rfl ?_
              refine Z.j_nil ?_
              refine Z.j_then ?_
              refine Z.j_seq ?_
              refine Z.j_region ?_
              refine Z.s_val (Z.pv_move rfl) ?_
              refine Z.s_val (Z.pv_move rfl) ?_
              refine Z.s_callD rfl rfl rfl isFn12 (by repeat (first | with_reducible exact Z.Takes.nil | (apply Z.Takes.cons; (repeat (first | with_reducible exact Z.Take.here | apply Z.Take.there))))) (by repeat (first | exact Z.App.nil | apply Z.App.cons)) (use_is (T' := (UL (2 + i0) (2 + a0) last).useT 5 (2 + a0)) (UL_end (by omega)).1 (UL_end (by omega)).2 rfl) ?_
              refine Z.s_val (Z.pv_move rfl) ?_
              refine Z.s_val (Z.pv_extract rfl rfl) ?_
              refine Z.s_val (Z.pv_extract rfl rfl) ?_
              refine Z.s_val (Z.pv_assign rfl) ?_
              refine Z.s_val (Z.pv_assign rfl) ?_
              refine Z.j_nil ?_
              refine Z.j_then ?_
              refine Z.j_seq ?_
              refine Z.j_region ?_
              refine Z.s_val (Z.pv_move rfl) ?_
              refine Z.s_val (Z.pv_move rfl) ?_
              refine Z.s_val (Z.pv_min rfl rfl) ?_
              refine Z.s_val (Z.pv_assign rfl) ?_
              obtain ⟨en, hen⟩ : ∃ en, (if 2 + a0 < 2 + i0 then 2 + a0 else 2 + i0) = en := ⟨_, rfl⟩
              have hen2 : en ≤ 2 + i0 ∧ en ≤ 2 + a0 ∧ (en = 2 + i0 ∨ en = 2 + a0) := by split at hen <;> omega
              refine Z.s_is 16 rfl (show _ = Value.int .i64 en from by rw [hen]) ?_
              refine Z.j_nil ?_
              refine Z.j_then ?_
              refine Z.j_seq ?_
              refine Z.j_region ?_
              refine Z.s_val (Z.pv_move rfl) ?_
              refine Z.s_val (Z.pv_move rfl) ?_
              refine Z.s_val (Z.pv_add rfl rfl (by first | exact IntWalk.i64_in _ (by omega) | rfl)) ?_
              refine Z.s_val (Z.pv_sub rfl rfl (by first | exact IntWalk.i64_in _ (by omega) | rfl)) ?_
              refine Z.s_callD rfl rfl rfl isFn12 (by repeat (first | with_reducible exact Z.Takes.nil | (apply Z.Takes.cons; (repeat (first | with_reducible exact Z.Take.here | apply Z.Take.there))))) (by repeat (first | exact Z.App.nil | apply Z.App.cons)) (use_is (t := UU (2 + i0) (2 + a0) 10) (T' := (UU (2 + i0) (2 + a0) 10).useT 7 (10 + en - 1)) (UU_use (by omega) (by omega) (by omega) (by omega) (by omega)).1 (UU_use (by omega) (by omega) (by omega) (by omega) (by omega)).2 rfl) ?_
              refine Z.s_val (Z.pv_move rfl) ?_
              refine Z.s_val (Z.pv_extract rfl rfl) ?_
              refine Z.s_val (Z.pv_extract rfl rfl) ?_
              refine Z.s_val (Z.pv_assign rfl) ?_
              refine Z.s_val (Z.pv_assign rfl) ?_
              refine Z.j_nil ?_
              refine Z.j_then ?_
              refine Z.j_seq ?_
              refine Z.j_region ?_
              refine Z.s_val (Z.pv_move rfl) ?_
              refine Z.s_val (Z.pv_move rfl) ?_
              refine Z.s_call rfl rfl rfl isFn9 (by repeat (first | with_reducible exact Z.Takes.nil | (apply Z.Takes.cons; (repeat (first | with_reducible exact Z.Take.here | apply Z.Take.there))))) (new_spec _ _ _ _ (by decide) (by decide) (span_ok (by omega)) (span_ok (by omega))) ?_
              rintro _ _ ⟨wb, rfl, rfl⟩
              refine Z.j_app (by repeat (first | exact Z.App.nil | apply Z.App.cons)) ?_
              refine Z.s_val (Z.pv_move rfl) ?_
              refine Z.s_val (Z.pv_extract rfl rfl) ?_
              refine Z.s_val (Z.pv_extract rfl rfl) ?_
              refine Z.s_val (Z.pv_assign rfl) ?_
              refine Z.s_val (Z.pv_assign rfl) ?_
              refine Z.j_nil ?_
              refine Z.j_then ?_
              refine Z.j_seq ?_
              refine Z.j_region ?_
              refine Z.s_val (Z.pv_move rfl) ?_
              refine Z.s_callD rfl rfl rfl isFn10 (by repeat (first | with_reducible exact Z.Takes.nil | (apply Z.Takes.cons; (repeat (first | with_reducible exact Z.Take.here | apply Z.Take.there))))) (by repeat (first | exact Z.App.nil | apply Z.App.cons)) (open_is (t := U0 1 (2 + i0) (2 + a0)) (p := 3) (d := 7) (now := 10) U0_ok (U0_open (p := 3) (by decide) (by decide)).1 (U0_open (by decide) (by decide)).2) ?_
              refine Z.j_cast (B := TabP wb (UU (2 + i0) (2 + a0) 10)) (by repeat (first | with_reducible exact Z.Take.here | apply Z.Take.there)) rfl ?_
              refine Z.j_nil ?_
              refine Z.j_then ?_
              refine Z.j_seq ?_
              refine Z.j_region ?_
              refine Z.s_val (Z.pv_move rfl) ?_
              refine Z.s_val (Z.pv_move rfl) ?_
              refine Z.s_val (Z.pv_add rfl rfl (by first | exact IntWalk.i64_in _ (by omega) | rfl)) ?_
              refine Z.s_callD rfl rfl rfl isFn12 (by repeat (first | with_reducible exact Z.Takes.nil | (apply Z.Takes.cons; (repeat (first | with_reducible exact Z.Take.here | apply Z.Take.there))))) (by repeat (first | exact Z.App.nil | apply Z.App.cons)) (use_is (t := UU (2 + i0) (2 + a0) 10) (T' := U0 1 (2 + i0) (2 + a0)) (UU_end (by omega) (by omega) (by omega)).1 (UU_end (by omega) (by omega) (by omega)).2.1 (UU_end (by omega) (by omega) (by omega)).2.2) ?_
              refine Z.s_val (Z.pv_move rfl) ?_
              refine Z.s_val (Z.pv_extract rfl rfl) ?_
              refine Z.s_val (Z.pv_extract rfl rfl) ?_
              refine Z.s_val (Z.pv_assign rfl) ?_
              refine Z.s_val (Z.pv_assign rfl) ?_
              refine Z.j_nil ?_
              refine Z.j_then ?_
              refine Z.j_seq ?_
              refine Z.j_region ?_
              refine Z.s_val (Z.pv_move rfl) ?_
              refine Z.s_val (Z.pv_eql rfl rfl) ?_
              refine Z.s_val (Z.pv_move rfl) ?_
              refine Z.s_is 110 rfl (show _ = Value.bool true from rfl) ?_
              refine Z.s_val (Z.pv_move rfl) ?_
              refine Z.s_val (Z.pv_eql rfl rfl) ?_
              refine Z.s_val (Z.pv_pick rfl rfl) ?_
              refine Z.s_val (Z.pv_move rfl) ?_
              refine Z.s_is 114 rfl (show _ = Value.bool true from rfl) ?_
              refine Z.s_val (Z.pv_move rfl) ?_
              refine Z.s_val (Z.pv_eql rfl rfl) ?_
              refine Z.s_val (Z.pv_pick rfl rfl) ?_
              refine Z.s_val (Z.pv_move rfl) ?_
              refine Z.s_is 118 rfl (show _ = Value.bool true from rfl) ?_
              refine Z.s_val (Z.pv_move rfl) ?_
              refine Z.s_val (Z.pv_eql rfl rfl) ?_
              refine Z.s_val (Z.pv_pick rfl rfl) ?_
              refine Z.s_val (Z.pv_move rfl) ?_
              refine Z.s_is 122 rfl (show _ = Value.bool true from rfl) ?_
              refine Z.s_val (Z.pv_move rfl) ?_
              refine Z.s_callD rfl rfl rfl isFn13 (by repeat (first | with_reducible exact Z.Takes.nil | (apply Z.Takes.cons; (repeat (first | with_reducible exact Z.Take.here | apply Z.Take.there))))) (by repeat (first | exact Z.App.nil | apply Z.App.cons)) (len_spec _ _ (U0 1 (2 + i0) (2 + a0))) ?_
              refine Z.s_val (Z.pv_eql rfl rfl) ?_
              refine Z.s_val (Z.pv_pick rfl rfl) ?_
              refine Z.s_val (Z.pv_assign rfl) ?_
              refine Z.j_nil ?_
              refine Z.j_then ?_
              refine Z.j_ret ?_
              refine Z.j_done_ret (Z.rv1 (Z.rv_tmp (t := 4) rfl)) ?_
              exact Z.post_of ⟨rfl, rfl⟩ (by repeat (first | with_reducible exact Z.Takes.nil | (apply Z.Takes.cons; (repeat (first | with_reducible exact Z.Take.here | apply Z.Take.there))))) (by repeat (first | with_reducible exact Z.Drop.nil | apply Z.Drop.cons))

end Go.Proofs.Ytjilnmjjehkidaa
