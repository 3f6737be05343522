/- Rows: the walks of what puts, drops, asks. -/
import Derived.Test.YtleofndjeekalaaC1
import Derived.KernelRfl
namespace Go.Proofs.Ytleofndjeekalaa
open Go Go.RowKit
theorem isFn3 : Z.IsFn Try.prog 3 := Z.isFn_of Try.func3 (by rfl) (by decide +kernel)
theorem isFn4 : Z.IsFn Try.prog 4 := Z.isFn_of Try.func4 (by rfl) (by decide +kernel)
theorem isFn5 : Z.IsFn Try.prog 5 := Z.isFn_of Try.func5 (by rfl) (by decide +kernel)
theorem isFn6 : Z.IsFn Try.prog 6 := Z.isFn_of Try.func6 (by rfl) (by decide +kernel)
theorem isFn7 : Z.IsFn Try.prog 7 := Z.isFn_of Try.func7 (by rfl) (by decide +kernel)
theorem isFn8 : Z.IsFn Try.prog 8 := Z.isFn_of Try.func8 (by rfl) (by decide +kernel)
theorem isFn9 : Z.IsFn Try.prog 9 := Z.isFn_of Try.func9 (by rfl) (by decide +kernel)
theorem isFn10 : Z.IsFn Try.prog 10 := Z.isFn_of Try.func10 (by rfl) (by decide +kernel)
theorem isFn11 : Z.IsFn Try.prog 11 := Z.isFn_of Try.func11 (by rfl) (by decide +kernel)
theorem isFn12 : Z.IsFn Try.prog 12 := Z.isFn_of Try.func12 (by rfl) (by decide +kernel)
theorem isFn13 : Z.IsFn Try.prog 13 := Z.isFn_of Try.func13 (by rfl) (by decide +kernel)
theorem isFn14 : Z.IsFn Try.prog 14 := Z.isFn_of Try.func14 (by rfl) (by decide +kernel)
theorem isFn15 : Z.IsFn Try.prog 15 := Z.isFn_of Try.func15 (by rfl) (by decide +kernel)
theorem isFn16 : Z.IsFn Try.prog 16 := Z.isFn_of Try.func16 (by rfl) (by decide +kernel)
theorem isFn17 : Z.IsFn Try.prog 17 := Z.isFn_of Try.func17 (by rfl) (by decide +kernel)
theorem isFn18 : Z.IsFn Try.prog 18 := Z.isFn_of Try.func18 (by rfl) (by decide +kernel)
theorem isFn19 : Z.IsFn Try.prog 19 := Z.isFn_of Try.func19 (by rfl) (by decide +kernel)
theorem isFn20 : Z.IsFn Try.prog 20 := Z.isFn_of Try.func20 (by rfl) (by decide +kernel)
theorem isFn21 : Z.IsFn Try.prog 21 := Z.isFn_of Try.func21 (by rfl) (by decide +kernel)
theorem isFn22 : Z.IsFn Try.prog 22 := Z.isFn_of Try.func22 (by rfl) (by decide +kernel)
theorem isFn23 : Z.IsFn Try.prog 23 := Z.isFn_of Try.func23 (by rfl) (by decide +kernel)
theorem isFn24 : Z.IsFn Try.prog 24 := Z.isFn_of Try.func24 (by rfl) (by decide +kernel)
theorem isFn25 : Z.IsFn Try.prog 25 := Z.isFn_of Try.func25 (by rfl) (by decide +kernel)
theorem isFn26 : Z.IsFn Try.prog 26 := Z.isFn_of Try.func26 (by rfl) (by decide +kernel)
theorem isFn27 : Z.IsFn Try.prog 27 := Z.isFn_of Try.func27 (by rfl) (by decide +kernel)
theorem isFn28 : Z.IsFn Try.prog 28 := Z.isFn_of Try.func28 (by rfl) (by decide +kernel)
theorem isFn29 : Z.IsFn Try.prog 29 := Z.isFn_of Try.func29 (by rfl) (by decide +kernel)
theorem isFn30 : Z.IsFn Try.prog 30 := Z.isFn_of Try.func30 (by rfl) (by decide +kernel)
theorem isFn31 : Z.IsFn Try.prog 31 := Z.isFn_of Try.func31 (by rfl) (by decide +kernel)
theorem isFn32 : Z.IsFn Try.prog 32 := Z.isFn_of Try.func32 (by rfl) (by decide +kernel)
theorem isFn33 : Z.IsFn Try.prog 33 := Z.isFn_of Try.func33 (by rfl) (by decide +kernel)
theorem isFn34 : Z.IsFn Try.prog 34 := Z.isFn_of Try.func34 (by rfl) (by decide +kernel)
theorem isFn35 : Z.IsFn Try.prog 35 := Z.isFn_of Try.func35 (by rfl) (by decide +kernel)
theorem isFn36 : Z.IsFn Try.prog 36 := Z.isFn_of Try.func36 (by rfl) (by decide +kernel)
theorem isFn37 : Z.IsFn Try.prog 37 := Z.isFn_of Try.func37 (by rfl) (by decide +kernel)
theorem isFn38 : Z.IsFn Try.prog 38 := Z.isFn_of Try.func38 (by rfl) (by decide +kernel)
theorem isFn39 : Z.IsFn Try.prog 39 := Z.isFn_of Try.func39 (by rfl) (by decide +kernel)
theorem isFn40 : Z.IsFn Try.prog 40 := Z.isFn_of Try.func40 (by rfl) (by decide +kernel)
theorem isFn41 : Z.IsFn Try.prog 41 := Z.isFn_of Try.func41 (by rfl) (by decide +kernel)
theorem isFn42 : Z.IsFn Try.prog 42 := Z.isFn_of Try.func42 (by rfl) (by decide +kernel)
theorem isFn43 : Z.IsFn Try.prog 43 := Z.isFn_of Try.func43 (by rfl) (by decide +kernel)
theorem isFn44 : Z.IsFn Try.prog 44 := Z.isFn_of Try.func44 (by rfl) (by decide +kernel)
theorem isFn45 : Z.IsFn Try.prog 45 := Z.isFn_of Try.func45 (by rfl) (by decide +kernel)
theorem isFn46 : Z.IsFn Try.prog 46 := Z.isFn_of Try.func46 (by rfl) (by decide +kernel)
theorem isFn47 : Z.IsFn Try.prog 47 := Z.isFn_of Try.func47 (by rfl) (by decide +kernel)
theorem isFn55 : Z.IsFn Try.prog 55 := Z.isFn_of Try.func55 (by rfl) (by decide +kernel)
theorem isFn56 : Z.IsFn Try.prog 56 := Z.isFn_of Try.func56 (by rfl) (by decide +kernel)
theorem isFn57 : Z.IsFn Try.prog 57 := Z.isFn_of Try.func57 (by rfl) (by decide +kernel)

theorem pl36 : Z.Pl Try.prog 36 [(0, 1), (1, 1)] := ⟨_, Try.underlying36, fun w => by simp [Try.sizeOf3, Try.sizeOf34]⟩
theorem pl63 : Z.Pl Try.prog 63 [(0, 1), (1, 1)] := ⟨_, Try.underlying63, fun w => by simp [Try.sizeOf34]⟩

set_option maxHeartbeats 4000000 in
set_option maxRecDepth 100000 in
theorem live_spec (w0 : World) (rb : Nat) (r : RSt) : Z.FnD Try.prog w0 20 [.pointer (some ⟨rb, 0, none⟩)] [RowP rb r] (.int .i64 r.ver.length) [RowP rb r] := by
  refine Z.Fn.fnD ?_
  refine Z.fn_enter (n := 8) Try.func20 rfl (by rfl) (by rfl) (fun Fr => ?_)
  refine Z.j_app (by repeat (first | exact Z.App.nil | apply Z.App.cons)) ?_
  refine Z.j_seq ?_
  refine Z.j_region ?_
  refine Z.s_val (Z.pv_assign rfl) ?_
  refine Z.j_nil ?_
  refine Z.j_then ?_
  refine Z.j_seq ?_
  refine Z.j_open (A := RowP rb r) (by repeat (first | with_reducible exact Z.Take.here | apply Z.Take.there)) (fun _ H => H) (fun o => ?_)
  show Z.J _ _ _ _ (RowF rb o r ++ _) _
  unfold RowF
  refine Z.j_app (by repeat (first | exact Z.App.nil | apply Z.App.cons)) ?_
  refine Z.j_region ?_
  refine Z.s_val (Z.pv_move rfl) ?_
  refine Z.s_val (Z.pv_nil rfl) ?_
  refine Z.s_val (Z.pv_fieldAddr (o' := 0) rfl Try.underlying29 rfl Try.sizeOf26 rfl) ?_
  refine Z.s_val (Z.pv_load1 rfl (by repeat (first | with_reducible exact Z.Take.here | apply Z.Take.there)) Try.isAgg26 (by rfl)) ?_
  refine Z.s_val (Z.pv_lenV rfl Try.underlying26 (by repeat (first | with_reducible exact Z.Take.here | apply Z.Take.there))) ?_
  refine Z.s_val (Z.pv_assign rfl) ?_
  refine Z.j_nil ?_
  refine Z.j_then ?_
  refine Z.j_ret ?_
  refine Z.j_fold (A := RowP rb r) (As := [Z.cl rb 29 [vO o, eO o, .int .i64 r.last], Z.MapV (vO o) Cell.e (Value.int .i64) r.ver, Z.MapV (eO o) Cell.e Value.bool r.ev]) (by repeat (first | with_reducible exact Z.Takes.nil | (apply Z.Takes.cons; (repeat (first | with_reducible exact Z.Take.here | apply Z.Take.there))))) (fun _ H => ⟨o, H⟩) ?_
  refine Z.j_done_ret (Z.rv1 (Z.rv_tmp (t := 2) rfl)) ?_
  exact Z.post_of ⟨rfl, rfl⟩ (by repeat (first | with_reducible exact Z.Takes.nil | (apply Z.Takes.cons; (repeat (first | with_reducible exact Z.Take.here | apply Z.Take.there))))) (by repeat (first | with_reducible exact Z.Drop.nil | apply Z.Drop.cons))

set_option maxHeartbeats 4000000 in
set_option maxRecDepth 100000 in
theorem ever_spec (w0 : World) (rb : Nat) (r : RSt) : Z.FnD Try.prog w0 17 [.pointer (some ⟨rb, 0, none⟩)] [RowP rb r] (.int .i64 r.ev.length) [RowP rb r] := by
  refine Z.Fn.fnD ?_
  refine Z.fn_enter (n := 8) Try.func17 rfl (by rfl) (by rfl) (fun Fr => ?_)
  refine Z.j_app (by repeat (first | exact Z.App.nil | apply Z.App.cons)) ?_
  refine Z.j_seq ?_
  refine Z.j_region ?_
  refine Z.s_val (Z.pv_assign rfl) ?_
  refine Z.j_nil ?_
  refine Z.j_then ?_
  refine Z.j_seq ?_
  refine Z.j_open (A := RowP rb r) (by repeat (first | with_reducible exact Z.Take.here | apply Z.Take.there)) (fun _ H => H) (fun o => ?_)
  show Z.J _ _ _ _ (RowF rb o r ++ _) _
  unfold RowF
  refine Z.j_app (by repeat (first | exact Z.App.nil | apply Z.App.cons)) ?_
  refine Z.j_region ?_
  refine Z.s_val (Z.pv_move rfl) ?_
  refine Z.s_val (Z.pv_nil rfl) ?_
  refine Z.s_val (Z.pv_fieldAddr (o' := 1) rfl Try.underlying29 rfl Try.sizeOf27 rfl) ?_
  refine Z.s_val (Z.pv_load1 rfl (by repeat (first | with_reducible exact Z.Take.here | apply Z.Take.there)) Try.isAgg27 (by rfl)) ?_
  refine Z.s_val (Z.pv_lenV rfl Try.underlying27 (by repeat (first | with_reducible exact Z.Take.here | apply Z.Take.there))) ?_
  refine Z.s_val (Z.pv_assign rfl) ?_
  refine Z.j_nil ?_
  refine Z.j_then ?_
  refine Z.j_ret ?_
  refine Z.j_fold (A := RowP rb r) (As := [Z.cl rb 29 [vO o, eO o, .int .i64 r.last], Z.MapV (vO o) Cell.e (Value.int .i64) r.ver, Z.MapV (eO o) Cell.e Value.bool r.ev]) (by repeat (first | with_reducible exact Z.Takes.nil | (apply Z.Takes.cons; (repeat (first | with_reducible exact Z.Take.here | apply Z.Take.there))))) (fun _ H => ⟨o, H⟩) ?_
  refine Z.j_done_ret (Z.rv1 (Z.rv_tmp (t := 2) rfl)) ?_
  exact Z.post_of ⟨rfl, rfl⟩ (by repeat (first | with_reducible exact Z.Takes.nil | (apply Z.Takes.cons; (repeat (first | with_reducible exact Z.Take.here | apply Z.Take.there))))) (by repeat (first | with_reducible exact Z.Drop.nil | apply Z.Drop.cons))

set_option maxHeartbeats 4000000 in
set_option maxRecDepth 100000 in
theorem seen_spec (w0 : World) (rb : Nat) (r : RSt) (cl ck : Int) : Z.FnD Try.prog w0 15 [.pointer (some ⟨rb, 0, none⟩), .agg #[.int .i64 cl, .int .u32 ck]] [RowP rb r] (.bool (Z.mval (⟨cl, ck⟩ : Cell) false r.ev)) [RowP rb r] := by
  refine Z.Fn.fnD ?_
  refine Z.fn_enter (n := 11) Try.func15 rfl (by rfl) (by rfl) (fun Fr => ?_)
  refine Z.j_app (by repeat (first | exact Z.App.nil | apply Z.App.cons)) ?_
  refine Z.j_seq ?_
  refine Z.j_region ?_
  refine Z.s_box rfl (fun b3 => ?_)
  refine Z.s_val (Z.pv_assign rfl) ?_
  refine Z.j_nil ?_
  refine Z.j_then ?_
  refine Z.j_seq ?_
  refine Z.j_open (A := RowP rb r) (by repeat (first | with_reducible exact Z.Take.here | apply Z.Take.there)) (fun _ H => H) (fun o => ?_)
  show Z.J _ _ _ _ (RowF rb o r ++ _) _
  unfold RowF
  refine Z.j_app (by repeat (first | exact Z.App.nil | apply Z.App.cons)) ?_
  refine Z.j_draw (vals := [_, _, _, _, _, _, _]) 7 (by kernel_rfl) (by kernel_rfl) rfl (by rfl) (Z.heads_cons (Z.hq_val (Z.pv_move (by rfl))) (Z.heads_cons (Z.hq_val (Z.pv_nil (by rfl))) (Z.heads_cons (Z.hq_val (Z.pv_fieldAddr (o' := 1) (by rfl) Try.underlying29 (by rfl) (by exact Try.sizeOf27) (by rfl))) (Z.heads_cons (Z.hq_val (Z.pv_load1 (by rfl) (by repeat (first | with_reducible exact Z.Take.here | apply Z.Take.there)) Try.isAgg27 (by rfl))) (Z.heads_cons (Z.hq_val (Z.pv_loadA (by rfl) (by repeat (first | with_reducible exact Z.Take.here | apply Z.Take.there)) Try.isAgg36 (by exact Try.sizeOf36) (by rfl))) (Z.heads_cons (Z.hq_val (Z.pv_lookupV (k := (⟨cl, ck⟩ : Cell)) (venc := Value.bool) (m := r.ev) false (by rfl) (by rfl) Try.underlying27 kCell Try.zeroValue4 (by repeat (first | with_reducible exact Z.Take.here | apply Z.Take.there)))) (Z.heads_cons (Z.hq_val (Z.pv_assign (by rfl))) Z.heads_nil))))))) ?_
  refine Z.j_nil ?_
  refine Z.j_then ?_
  refine Z.j_ret ?_
  refine Z.j_fold (A := RowP rb r) (As := [Z.cl rb 29 [vO o, eO o, .int .i64 r.last], Z.MapV (vO o) Cell.e (Value.int .i64) r.ver, Z.MapV (eO o) Cell.e Value.bool r.ev]) (by repeat (first | with_reducible exact Z.Takes.nil | (apply Z.Takes.cons; (repeat (first | with_reducible exact Z.Take.here | apply Z.Take.there))))) (fun _ H => ⟨o, H⟩) ?_
  refine Z.j_done_ret (Z.rv1 (Z.rv_tmp (t := 4) rfl)) ?_
  exact Z.post_of ⟨rfl, rfl⟩ (by repeat (first | with_reducible exact Z.Takes.nil | (apply Z.Takes.cons; (repeat (first | with_reducible exact Z.Take.here | apply Z.Take.there))))) (by repeat (first | with_reducible exact Z.Drop.nil | apply Z.Drop.cons))

set_option maxHeartbeats 4000000 in
set_option maxRecDepth 100000 in
theorem version_spec (w0 : World) (rb : Nat) (r : RSt) (cl ck : Int) : Z.FnD Try.prog w0 14 [.pointer (some ⟨rb, 0, none⟩), .agg #[.int .i64 cl, .int .u32 ck]] [RowP rb r] (.tuple #[.int .i64 (Z.mval (⟨cl, ck⟩ : Cell) 0 r.ver), .bool (Z.mget (⟨cl, ck⟩ : Cell) r.ver).isSome]) [RowP rb r] := by
  refine Z.Fn.fnD ?_
  refine Z.fn_enter (n := 19) Try.func14 rfl (by rfl) (by rfl) (fun Fr => ?_)
  refine Z.j_app (by repeat (first | exact Z.App.nil | apply Z.App.cons)) ?_
  refine Z.j_seq ?_
  refine Z.j_region ?_
  refine Z.s_box rfl (fun b3 => ?_)
  refine Z.s_val (Z.pv_assign rfl) ?_
  refine Z.s_val (Z.pv_assign rfl) ?_
  refine Z.j_nil ?_
  refine Z.j_then ?_
  refine Z.j_seq ?_
  refine Z.j_open (A := RowP rb r) (by repeat (first | with_reducible exact Z.Take.here | apply Z.Take.there)) (fun _ H => H) (fun o => ?_)
  show Z.J _ _ _ _ (RowF rb o r ++ _) _
  unfold RowF
  refine Z.j_app (by repeat (first | exact Z.App.nil | apply Z.App.cons)) ?_
  refine Z.j_draw (vals := [_, _, _, _, _, _, _, _, _, _, _]) 11 (by kernel_rfl) (by kernel_rfl) rfl (by rfl) (Z.heads_cons (Z.hq_val (Z.pv_move (by rfl))) (Z.heads_cons (Z.hq_val (Z.pv_nil (by rfl))) (Z.heads_cons (Z.hq_val (Z.pv_fieldAddr (o' := 0) (by rfl) Try.underlying29 (by rfl) (by exact Try.sizeOf26) (by rfl))) (Z.heads_cons (Z.hq_val (Z.pv_load1 (by rfl) (by repeat (first | with_reducible exact Z.Take.here | apply Z.Take.there)) Try.isAgg26 (by rfl))) (Z.heads_cons (Z.hq_val (Z.pv_loadA (by rfl) (by repeat (first | with_reducible exact Z.Take.here | apply Z.Take.there)) Try.isAgg36 (by exact Try.sizeOf36) (by rfl))) (Z.heads_cons (Z.hq_val (Z.pv_lookupOkV (k := (⟨cl, ck⟩ : Cell)) (venc := Value.int .i64) (m := r.ver) 0 (by rfl) (by rfl) Try.underlying26 kCell Try.zeroValue3 (by repeat (first | with_reducible exact Z.Take.here | apply Z.Take.there)))) (Z.heads_cons (Z.hq_val (Z.pv_move (by rfl))) (Z.heads_cons (Z.hq_val (Z.pv_extract (by rfl) (by rfl))) (Z.heads_cons (Z.hq_val (Z.pv_extract (by rfl) (by rfl))) (Z.heads_cons (Z.hq_val (Z.pv_assign (by rfl))) (Z.heads_cons (Z.hq_val (Z.pv_assign (by rfl))) Z.heads_nil))))))))))) ?_
  refine Z.j_nil ?_
  refine Z.j_then ?_
  refine Z.j_seq ?_
  refine Z.j_region ?_
  refine Z.s_val (Z.pv_move rfl) ?_
  refine Z.s_val (Z.pv_move rfl) ?_
  refine Z.s_val (Z.pv_assign rfl) ?_
  refine Z.s_val (Z.pv_assign rfl) ?_
  refine Z.j_nil ?_
  refine Z.j_then ?_
  refine Z.j_ret ?_
  refine Z.j_fold (A := RowP rb r) (As := [Z.cl rb 29 [vO o, eO o, .int .i64 r.last], Z.MapV (vO o) Cell.e (Value.int .i64) r.ver, Z.MapV (eO o) Cell.e Value.bool r.ev]) (by repeat (first | with_reducible exact Z.Takes.nil | (apply Z.Takes.cons; (repeat (first | with_reducible exact Z.Take.here | apply Z.Take.there))))) (fun _ H => ⟨o, H⟩) ?_
  refine Z.j_done_ret (Z.rv2 (Z.rv_tmp (t := 4) rfl) (Z.rv_tmp (t := 5) rfl)) ?_
  exact Z.post_of ⟨rfl, rfl⟩ (by repeat (first | with_reducible exact Z.Takes.nil | (apply Z.Takes.cons; (repeat (first | with_reducible exact Z.Take.here | apply Z.Take.there))))) (by repeat (first | with_reducible exact Z.Drop.nil | apply Z.Drop.cons))

set_option maxHeartbeats 4000000 in
set_option maxRecDepth 100000 in
theorem drop_spec (w0 : World) (rb : Nat) (r : RSt) (cl ck : Int) : Z.FnD Try.prog w0 13 [.pointer (some ⟨rb, 0, none⟩), .agg #[.int .i64 cl, .int .u32 ck]] [RowP rb r] (.bool (Z.mget (⟨cl, ck⟩ : Cell) r.ver).isSome) [RowP rb (r.drop (⟨cl, ck⟩ : Cell))] := by
  refine Z.Fn.fnD ?_
  refine Z.fn_enter (n := 22) Try.func13 rfl (by rfl) (by rfl) (fun Fr => ?_)
  refine Z.j_app (by repeat (first | exact Z.App.nil | apply Z.App.cons)) ?_
  refine Z.j_seq ?_
  refine Z.j_region ?_
  refine Z.s_box rfl (fun b3 => ?_)
  refine Z.s_val (Z.pv_assign rfl) ?_
  refine Z.j_nil ?_
  refine Z.j_then ?_
  refine Z.j_seq ?_
  refine Z.j_open (A := RowP rb r) (by repeat (first | with_reducible exact Z.Take.here | apply Z.Take.there)) (fun _ H => H) (fun o => ?_)
  show Z.J _ _ _ _ (RowF rb o r ++ _) _
  unfold RowF
  refine Z.j_app (by repeat (first | exact Z.App.nil | apply Z.App.cons)) ?_
  refine Z.j_draw (vals := [_, _, _, _, _, _, _, _, _, _, _]) 11 (by kernel_rfl) (by kernel_rfl) rfl (by rfl) (Z.heads_cons (Z.hq_val (Z.pv_move (by rfl))) (Z.heads_cons (Z.hq_val (Z.pv_nil (by rfl))) (Z.heads_cons (Z.hq_val (Z.pv_fieldAddr (o' := 0) (by rfl) Try.underlying29 (by rfl) (by exact Try.sizeOf26) (by rfl))) (Z.heads_cons (Z.hq_val (Z.pv_load1 (by rfl) (by repeat (first | with_reducible exact Z.Take.here | apply Z.Take.there)) Try.isAgg26 (by rfl))) (Z.heads_cons (Z.hq_val (Z.pv_loadA (by rfl) (by repeat (first | with_reducible exact Z.Take.here | apply Z.Take.there)) Try.isAgg36 (by exact Try.sizeOf36) (by rfl))) (Z.heads_cons (Z.hq_val (Z.pv_lookupOkV (k := (⟨cl, ck⟩ : Cell)) (venc := Value.int .i64) (m := r.ver) 0 (by rfl) (by rfl) Try.underlying26 kCell Try.zeroValue3 (by repeat (first | with_reducible exact Z.Take.here | apply Z.Take.there)))) (Z.heads_cons (Z.hq_val (Z.pv_move (by rfl))) (Z.heads_cons (Z.hq_val (Z.pv_extract (by rfl) (by rfl))) (Z.heads_cons (Z.hq_val (Z.pv_extract (by rfl) (by rfl))) (Z.heads_cons (Z.hq_val (Z.pv_assign (by rfl))) (Z.heads_cons (Z.hq_val (Z.pv_assign (by rfl))) Z.heads_nil))))))))))) ?_
  refine Z.j_nil ?_
  refine Z.j_then ?_
  refine Z.j_seq ?_
  refine Z.j_draw (vals := [_, _, _, _, _]) 5 (by kernel_rfl) (by kernel_rfl) rfl (by rfl) (Z.heads_cons (Z.hq_val (Z.pv_move (by rfl))) (Z.heads_cons (Z.hq_val (Z.pv_nil (by rfl))) (Z.heads_cons (Z.hq_val (Z.pv_fieldAddr (o' := 0) (by rfl) Try.underlying29 (by rfl) (by exact Try.sizeOf26) (by rfl))) (Z.heads_cons (Z.hq_val (Z.pv_load1 (by rfl) (by repeat (first | with_reducible exact Z.Take.here | apply Z.Take.there)) Try.isAgg26 (by rfl))) (Z.heads_cons (Z.hq_val (Z.pv_loadA (by rfl) (by repeat (first | with_reducible exact Z.Take.here | apply Z.Take.there)) Try.isAgg36 (by exact Try.sizeOf36) (by rfl))) Z.heads_nil))))) ?_
  refine Z.s_deleteV0 (k := (⟨cl, ck⟩ : Cell)) rfl rfl Try.underlying26 kCell (by repeat (first | with_reducible exact Z.Take.here | apply Z.Take.there)) ?_
  refine Z.j_nil ?_
  refine Z.j_then ?_
  refine Z.j_seq ?_
  refine Z.j_region ?_
  refine Z.s_val (Z.pv_move rfl) ?_
  refine Z.s_val (Z.pv_assign rfl) ?_
  refine Z.j_nil ?_
  refine Z.j_then ?_
  refine Z.j_ret ?_
  refine Z.j_fold (A := RowP rb (r.drop (⟨cl, ck⟩ : Cell))) (As := [Z.cl rb 29 [vO o, eO o, .int .i64 r.last], Z.MapV (vO o) Cell.e (Value.int .i64) (Z.mdel (⟨cl, ck⟩ : Cell) r.ver), Z.MapV (eO o) Cell.e Value.bool r.ev]) (by repeat (first | with_reducible exact Z.Takes.nil | (apply Z.Takes.cons; (repeat (first | with_reducible exact Z.Take.here | apply Z.Take.there))))) (fun _ H => ⟨o, H⟩) ?_
  refine Z.j_done_ret (Z.rv1 (Z.rv_tmp (t := 4) rfl)) ?_
  exact Z.post_of ⟨rfl, rfl⟩ (by repeat (first | with_reducible exact Z.Takes.nil | (apply Z.Takes.cons; (repeat (first | with_reducible exact Z.Take.here | apply Z.Take.there))))) (by repeat (first | with_reducible exact Z.Drop.nil | apply Z.Drop.cons))

set_option maxHeartbeats 4000000 in
set_option maxRecDepth 100000 in
theorem putS_spec (w0 : World) (rb : Nat) (r : RSt) (vb eb : Nat) (cl ck : Int) (h0 : 0 ≤ r.last) (h1 : r.last ≤ 1000) : Z.FnD Try.prog w0 11 [.pointer (some ⟨rb, 0, none⟩), .agg #[.int .i64 cl, .int .u32 ck]] [Z.cl rb 29 [.map (some vb), .map (some eb), .int .i64 r.last], Z.MapP vb Cell.e (Value.int .i64) r.ver, Z.MapP eb Cell.e Value.bool r.ev] (.int .i64 (r.last + 1)) [RowP rb (r.put (⟨cl, ck⟩ : Cell))] := by
  refine Z.Fn.fnD ?_
  refine Z.fn_enter (n := 47) Try.func11 rfl (by rfl) (by rfl) (fun Fr => ?_)
  refine Z.j_app (by repeat (first | exact Z.App.nil | apply Z.App.cons)) ?_
  refine Z.j_seq ?_
  refine Z.j_region ?_
  refine Z.s_box rfl (fun b3 => ?_)
  refine Z.s_val (Z.pv_assign rfl) ?_
  refine Z.j_nil ?_
  refine Z.j_then ?_
  refine Z.j_seq ?_
  refine Z.j_seq ?_
  refine Z.j_region ?_
  refine Z.s_val (Z.pv_move rfl) ?_
  refine Z.s_val (Z.pv_nil rfl) ?_
  refine Z.s_val (Z.pv_fieldAddr (o' := 0) rfl Try.underlying29 rfl Try.sizeOf26 rfl) ?_
  refine Z.s_val (Z.pv_load1 rfl (by repeat (first | with_reducible exact Z.Take.here | apply Z.Take.there)) Try.isAgg26 (by rfl)) ?_
  refine Z.s_val (Z.pv_eqmapS rfl rfl Try.underlying26) ?_
  refine Z.j_nil ?_
  refine Z.j_then ?_
  refine Z.j_cond rfl (fun hc9 => ?_) (fun hc9 => ?_)
  · exfalso; first | (cases hc9; done) | (simp at hc9; done) | (simp at hc9; omega) | (replace hc9 := of_decide_eq_true hc9; contradiction) | (replace hc9 := of_decide_eq_false hc9; contradiction)
  · try (with_reducible first | replace hc9 := of_decide_eq_true hc9 | replace hc9 := of_decide_eq_false hc9 | replace hc9 := Z.nd_true hc9 | replace hc9 := Z.nd_false hc9 | replace hc9 := Z.nn_true hc9 | replace hc9 := Z.nn_false hc9 | replace hc9 := Z.nb_true hc9 | replace hc9 := Z.nb_false hc9)
    first
    | (exfalso; first | (cases hc9; done) | omega)
    | skip
      refine Z.j_skip ?_
      refine Z.j_then ?_
      refine Z.j_seq ?_
      refine Z.j_region ?_
      refine Z.s_val (Z.pv_move rfl) ?_
      refine Z.s_val (Z.pv_nil rfl) ?_
      refine Z.s_val (Z.pv_fieldAddr (o' := 2) rfl Try.underlying29 rfl Try.sizeOf3 rfl) ?_
      refine Z.s_val (Z.pv_load1 rfl (by repeat (first | with_reducible exact Z.Take.here | apply Z.Take.there)) Try.isAgg3 (by rfl)) ?_
      refine Z.s_val (Z.pv_add rfl rfl (by first | exact IntWalk.i64_in _ (by omega) | rfl)) ?_
      refine Z.s_val (Z.pv_nil rfl) ?_
      refine Z.s_val (Z.pv_fieldAddr (o' := 2) rfl Try.underlying29 rfl Try.sizeOf3 rfl) ?_
      refine Z.s_store1 rfl rfl (by first | rfl | assumption) Try.sizeOf3 (by repeat (first | with_reducible exact Z.Upd.here | apply Z.Upd.there)) (by rfl) ?_
      refine Z.j_nil ?_
      refine Z.j_then ?_
      refine Z.j_seq ?_
      refine Z.J.mapP_open (b := vb) (by repeat (first | with_reducible exact Z.Take.here | apply Z.Take.there)) (fun bs1 ck1 hk1 => ?_)
      refine Z.J.mapP_open (b := eb) (by repeat (first | with_reducible exact Z.Take.here | apply Z.Take.there)) (fun bs2 ck2 hk2 => ?_)
      refine Z.j_drawT [⟨none, none, [3, 8, 13], fun ρ => Z.cl rb 29 [.map (some vb), .map (some eb), .int .i64 (r.last + 1)]⟩, ⟨none, none, [4, 9], fun ρ => Z.cl b3 36 [.int .i64 cl, .int .u32 ck]⟩, ⟨none, (some 14), [], fun ρ => Z.MapB vb Cell.e (Value.int .i64) r.ver bs1 ck1⟩, ⟨(some 14), (some 16), [], fun ρ => Z.MapB vb Cell.e (Value.int .i64) (Z.ment (⟨cl, ck⟩ : Cell) 0 r.ver) (Z.mbs (⟨cl, ck⟩ : Cell) r.ver bs1 ck1) (Z.mclk (⟨cl, ck⟩ : Cell) r.ver ck1)⟩, ⟨(some 16), none, [], fun ρ => Z.MapB vb Cell.e (Value.int .i64) (Z.mput (⟨cl, ck⟩ : Cell) (r.last + 1) r.ver) (Z.mbs (⟨cl, ck⟩ : Cell) r.ver bs1 ck1) (Z.mclk (⟨cl, ck⟩ : Cell) r.ver ck1)⟩, ⟨none, (some 17), [], fun ρ => Z.MapB eb Cell.e Value.bool r.ev bs2 ck2⟩, ⟨(some 17), (some 19), [], fun ρ => Z.MapB eb Cell.e Value.bool (Z.ment (⟨cl, ck⟩ : Cell) false r.ev) (Z.mbs (⟨cl, ck⟩ : Cell) r.ev bs2 ck2) (Z.mclk (⟨cl, ck⟩ : Cell) r.ev ck2)⟩, ⟨(some 19), none, [], fun ρ => Z.MapB eb Cell.e Value.bool (Z.mput (⟨cl, ck⟩ : Cell) true r.ev) (Z.mbs (⟨cl, ck⟩ : Cell) r.ev bs2 ck2) (Z.mclk (⟨cl, ck⟩ : Cell) r.ev ck2)⟩] [14, 16, 17, 19] (fun ρ => [.pointer (some ⟨rb, 0, none⟩), .pointer (some ⟨rb, 0, none⟩), .pointer (some ⟨rb, 0, none⟩), .map (some vb), .agg #[.int .i64 cl, .int .u32 ck], .pointer (some ⟨rb, 0, none⟩), .pointer (some ⟨rb, 0, none⟩), .pointer (some ⟨rb, 1, none⟩), .map (some eb), .agg #[.int .i64 cl, .int .u32 ck], .pointer (some ⟨rb, 0, none⟩), .pointer (some ⟨rb, 0, none⟩), .pointer (some ⟨rb, 2, none⟩), .int .i64 (r.last + 1), .tuple #[.int .i64 (Z.mval (⟨cl, ck⟩ : Cell) 0 r.ver), Go.goInt (Z.mborn (⟨cl, ck⟩ : Cell) r.ver bs1 ck1)], Go.goInt (Z.mborn (⟨cl, ck⟩ : Cell) r.ver bs1 ck1), ρ 16, .tuple #[.bool (Z.mval (⟨cl, ck⟩ : Cell) false r.ev), Go.goInt (Z.mborn (⟨cl, ck⟩ : Cell) r.ev bs2 ck2)], Go.goInt (Z.mborn (⟨cl, ck⟩ : Cell) r.ev bs2 ck2), ρ 19]) (by kernel_rfl) (by kernel_rfl) (by rfl) (fun _ => rfl) ⟨fun _ _ => rfl, fun _ _ => rfl, ⟨fun _ _ => rfl, fun _ _ => rfl, ⟨fun _ _ => rfl, fun _ _ => rfl, ⟨fun _ _ => rfl, fun _ _ => rfl, trivial⟩⟩⟩⟩ (fun ρ => (by repeat (first | with_reducible exact Z.Takes.nil | (apply Z.Takes.cons; (repeat (first | with_reducible exact Z.Take.here | apply Z.Take.there))) | exact Z.Takes.nil))) ?_ (fun ρ => ?_)
      · skip
        refine Z.tops_cons ?_ ?_
        · refine Z.top_q (fun ρ => .pointer (some ⟨rb, 0, none⟩)) rfl (fun _ => rfl) (fun ρ Rr => ?_)
          show Z.HQ _ _ _ _ _ _ (Rr) _ _
          exact (Z.hq_val (Z.pv_move rfl))
        refine Z.tops_cons ?_ ?_
        · refine Z.top_q (fun ρ => .pointer (some ⟨rb, 0, none⟩)) rfl (fun _ => rfl) (fun ρ Rr => ?_)
          show Z.HQ _ _ _ _ _ _ (Rr) _ _
          exact (Z.hq_val (Z.pv_nil rfl))
        refine Z.tops_cons ?_ ?_
        · refine Z.top_q (fun ρ => .pointer (some ⟨rb, 0, none⟩)) rfl (fun _ => rfl) (fun ρ Rr => ?_)
          show Z.HQ _ _ _ _ _ _ (Rr) _ _
          exact (Z.hq_val (Z.pv_fieldAddr (o' := 0) rfl Try.underlying29 rfl Try.sizeOf26 rfl))
        refine Z.tops_cons ?_ ?_
        · refine Z.top_q (fun ρ => .map (some vb)) rfl (fun _ => rfl) (fun ρ Rr => ?_)
          show Z.HQ _ _ _ _ _ _ (Z.cl rb 29 [.map (some vb), .map (some eb), .int .i64 (r.last + 1)] :: Rr) _ _
          exact (Z.hq_val (Z.pv_load1 rfl (by repeat (first | with_reducible exact Z.Take.here | apply Z.Take.there)) Try.isAgg26 (by rfl)))
        refine Z.tops_cons ?_ ?_
        · refine Z.top_q (fun ρ => .agg #[.int .i64 cl, .int .u32 ck]) rfl (fun _ => rfl) (fun ρ Rr => ?_)
          show Z.HQ _ _ _ _ _ _ (Z.cl b3 36 [.int .i64 cl, .int .u32 ck] :: Rr) _ _
          exact (Z.hq_val (Z.pv_loadA rfl (by repeat (first | with_reducible exact Z.Take.here | apply Z.Take.there)) Try.isAgg36 Try.sizeOf36 (by rfl)))
        refine Z.tops_cons ?_ ?_
        · refine Z.top_q (fun ρ => .pointer (some ⟨rb, 0, none⟩)) rfl (fun _ => rfl) (fun ρ Rr => ?_)
          show Z.HQ _ _ _ _ _ _ (Rr) _ _
          exact (Z.hq_val (Z.pv_move rfl))
        refine Z.tops_cons ?_ ?_
        · refine Z.top_q (fun ρ => .pointer (some ⟨rb, 0, none⟩)) rfl (fun _ => rfl) (fun ρ Rr => ?_)
          show Z.HQ _ _ _ _ _ _ (Rr) _ _
          exact (Z.hq_val (Z.pv_nil rfl))
        refine Z.tops_cons ?_ ?_
        · refine Z.top_q (fun ρ => .pointer (some ⟨rb, 1, none⟩)) rfl (fun _ => rfl) (fun ρ Rr => ?_)
          show Z.HQ _ _ _ _ _ _ (Rr) _ _
          exact (Z.hq_val (Z.pv_fieldAddr (o' := 1) rfl Try.underlying29 rfl Try.sizeOf27 rfl))
        refine Z.tops_cons ?_ ?_
        · refine Z.top_q (fun ρ => .map (some eb)) rfl (fun _ => rfl) (fun ρ Rr => ?_)
          show Z.HQ _ _ _ _ _ _ (Z.cl rb 29 [.map (some vb), .map (some eb), .int .i64 (r.last + 1)] :: Rr) _ _
          exact (Z.hq_val (Z.pv_load1 rfl (by repeat (first | with_reducible exact Z.Take.here | apply Z.Take.there)) Try.isAgg27 (by rfl)))
        refine Z.tops_cons ?_ ?_
        · refine Z.top_q (fun ρ => .agg #[.int .i64 cl, .int .u32 ck]) rfl (fun _ => rfl) (fun ρ Rr => ?_)
          show Z.HQ _ _ _ _ _ _ (Z.cl b3 36 [.int .i64 cl, .int .u32 ck] :: Rr) _ _
          exact (Z.hq_val (Z.pv_loadA rfl (by repeat (first | with_reducible exact Z.Take.here | apply Z.Take.there)) Try.isAgg36 Try.sizeOf36 (by rfl)))
        refine Z.tops_cons ?_ ?_
        · refine Z.top_q (fun ρ => .pointer (some ⟨rb, 0, none⟩)) rfl (fun _ => rfl) (fun ρ Rr => ?_)
          show Z.HQ _ _ _ _ _ _ (Rr) _ _
          exact (Z.hq_val (Z.pv_move rfl))
        refine Z.tops_cons ?_ ?_
        · refine Z.top_q (fun ρ => .pointer (some ⟨rb, 0, none⟩)) rfl (fun _ => rfl) (fun ρ Rr => ?_)
          show Z.HQ _ _ _ _ _ _ (Rr) _ _
          exact (Z.hq_val (Z.pv_nil rfl))
        refine Z.tops_cons ?_ ?_
        · refine Z.top_q (fun ρ => .pointer (some ⟨rb, 2, none⟩)) rfl (fun _ => rfl) (fun ρ Rr => ?_)
          show Z.HQ _ _ _ _ _ _ (Rr) _ _
          exact (Z.hq_val (Z.pv_fieldAddr (o' := 2) rfl Try.underlying29 rfl Try.sizeOf3 rfl))
        refine Z.tops_cons ?_ ?_
        · refine Z.top_q (fun ρ => .int .i64 (r.last + 1)) rfl (fun _ => rfl) (fun ρ Rr => ?_)
          show Z.HQ _ _ _ _ _ _ (Z.cl rb 29 [.map (some vb), .map (some eb), .int .i64 (r.last + 1)] :: Rr) _ _
          exact (Z.hq_val (Z.pv_load1 rfl (by repeat (first | with_reducible exact Z.Take.here | apply Z.Take.there)) Try.isAgg3 (by rfl)))
        refine Z.tops_cons ?_ ?_
        · refine Z.top_c rfl (fun ρ Rr => ?_)
          refine Z.hn_of rfl (by rfl) rfl (by rfl) ?_
          show Z.J _ _ _ _ ([Z.MapB vb Cell.e (Value.int .i64) r.ver bs1 ck1] ++ Rr) _
          refine Z.j_app (by repeat (first | exact Z.App.nil | apply Z.App.cons)) ?_
          refine Z.s_mapEntry (k := (⟨cl, ck⟩ : Cell)) (z := (0 : Int)) (venc := Value.int .i64) rfl rfl Try.underlying26 kCell Try.zeroValue3 hk1 (by repeat (first | with_reducible exact Z.Take.here | apply Z.Take.there)) ?_
          refine Z.j_nil ?_
          refine Z.hn_end (by rfl) (fun w hs => ⟨rfl, Z.st_td (by repeat (first | with_reducible exact Z.Takes.nil | (apply Z.Takes.cons; (repeat (first | exact Z.Take.here | apply Z.Take.there))) | exact Z.Takes.nil)) (by repeat (first | with_reducible exact Z.Drop.nil | apply Z.Drop.cons)) w hs⟩)
        refine Z.tops_cons ?_ ?_
        · refine Z.top_q (fun ρ => Go.goInt (Z.mborn (⟨cl, ck⟩ : Cell) r.ver bs1 ck1)) rfl (fun _ => rfl) (fun ρ Rr => ?_)
          show Z.HQ _ _ _ _ _ _ (Rr) _ _
          exact (Z.hq_val (Z.pv_extract rfl rfl))
        refine Z.tops_cons ?_ ?_
        · refine Z.top_c rfl (fun ρ Rr => ?_)
          refine Z.hn_of0 rfl (by rfl) rfl ?_
          show Z.J _ _ _ _ ([Z.MapB vb Cell.e (Value.int .i64) (Z.ment (⟨cl, ck⟩ : Cell) 0 r.ver) (Z.mbs (⟨cl, ck⟩ : Cell) r.ver bs1 ck1) (Z.mclk (⟨cl, ck⟩ : Cell) r.ver ck1)] ++ Rr) _
          refine Z.j_app (by repeat (first | exact Z.App.nil | apply Z.App.cons)) ?_
          refine Z.s_entryStore (k := (⟨cl, ck⟩ : Cell)) (z := (0 : Int)) (v := r.last + 1) (venc := Value.int .i64) rfl rfl rfl hk1 (by repeat (first | with_reducible exact Z.Take.here | apply Z.Take.there)) (fun _ => ?_)
          refine Z.j_nil ?_
          refine Z.hn_end0 (fun _ w hs => ⟨rfl, Z.st_td (by repeat (first | with_reducible exact Z.Takes.nil | (apply Z.Takes.cons; (repeat (first | exact Z.Take.here | apply Z.Take.there))) | exact Z.Takes.nil)) (by repeat (first | with_reducible exact Z.Drop.nil | apply Z.Drop.cons)) w hs⟩)
        refine Z.tops_cons ?_ ?_
        · refine Z.top_c rfl (fun ρ Rr => ?_)
          refine Z.hn_of rfl (by rfl) rfl (by rfl) ?_
          show Z.J _ _ _ _ ([Z.MapB eb Cell.e Value.bool r.ev bs2 ck2] ++ Rr) _
          refine Z.j_app (by repeat (first | exact Z.App.nil | apply Z.App.cons)) ?_
          refine Z.s_mapEntry (k := (⟨cl, ck⟩ : Cell)) (z := false) (venc := Value.bool) rfl rfl Try.underlying27 kCell Try.zeroValue4 hk2 (by repeat (first | with_reducible exact Z.Take.here | apply Z.Take.there)) ?_
          refine Z.j_nil ?_
          refine Z.hn_end (by rfl) (fun w hs => ⟨rfl, Z.st_td (by repeat (first | with_reducible exact Z.Takes.nil | (apply Z.Takes.cons; (repeat (first | exact Z.Take.here | apply Z.Take.there))) | exact Z.Takes.nil)) (by repeat (first | with_reducible exact Z.Drop.nil | apply Z.Drop.cons)) w hs⟩)
        refine Z.tops_cons ?_ ?_
        · refine Z.top_q (fun ρ => Go.goInt (Z.mborn (⟨cl, ck⟩ : Cell) r.ev bs2 ck2)) rfl (fun _ => rfl) (fun ρ Rr => ?_)
          show Z.HQ _ _ _ _ _ _ (Rr) _ _
          exact (Z.hq_val (Z.pv_extract rfl rfl))
        refine Z.tops_cons ?_ ?_
        · refine Z.top_c rfl (fun ρ Rr => ?_)
          refine Z.hn_of0 rfl (by rfl) rfl ?_
          show Z.J _ _ _ _ ([Z.MapB eb Cell.e Value.bool (Z.ment (⟨cl, ck⟩ : Cell) false r.ev) (Z.mbs (⟨cl, ck⟩ : Cell) r.ev bs2 ck2) (Z.mclk (⟨cl, ck⟩ : Cell) r.ev ck2)] ++ Rr) _
          refine Z.j_app (by repeat (first | exact Z.App.nil | apply Z.App.cons)) ?_
          refine Z.s_entryStore (k := (⟨cl, ck⟩ : Cell)) (z := false) (v := true) (venc := Value.bool) rfl rfl rfl hk2 (by repeat (first | with_reducible exact Z.Take.here | apply Z.Take.there)) (fun _ => ?_)
          refine Z.j_nil ?_
          refine Z.hn_end0 (fun _ w hs => ⟨rfl, Z.st_td (by repeat (first | with_reducible exact Z.Takes.nil | (apply Z.Takes.cons; (repeat (first | exact Z.Take.here | apply Z.Take.there))) | exact Z.Takes.nil)) (by repeat (first | with_reducible exact Z.Drop.nil | apply Z.Drop.cons)) w hs⟩)
        exact Z.tops_nil
      · show Z.J _ _ _ _ ([Z.cl rb 29 [.map (some vb), .map (some eb), .int .i64 (r.last + 1)], Z.cl b3 36 [.int .i64 cl, .int .u32 ck], Z.MapB vb Cell.e (Value.int .i64) (Z.mput (⟨cl, ck⟩ : Cell) (r.last + 1) r.ver) (Z.mbs (⟨cl, ck⟩ : Cell) r.ver bs1 ck1) (Z.mclk (⟨cl, ck⟩ : Cell) r.ver ck1), Z.MapB eb Cell.e Value.bool (Z.mput (⟨cl, ck⟩ : Cell) true r.ev) (Z.mbs (⟨cl, ck⟩ : Cell) r.ev bs2 ck2) (Z.mclk (⟨cl, ck⟩ : Cell) r.ev ck2)] ++ _) _
        refine Z.j_app (by repeat (first | exact Z.App.nil | apply Z.App.cons)) ?_
        refine Z.J.mapP_close (b := vb) (m := Z.mput (⟨cl, ck⟩ : Cell) (r.last + 1) r.ver) (by repeat (first | with_reducible exact Z.Take.here | apply Z.Take.there)) (bok_put hk1) ?_
        refine Z.J.mapP_close (b := eb) (m := Z.mput (⟨cl, ck⟩ : Cell) true r.ev) (by repeat (first | with_reducible exact Z.Take.here | apply Z.Take.there)) (bok_put hk2) ?_
        refine Z.j_then ?_
        refine Z.j_seq ?_
        refine Z.j_region ?_
        refine Z.s_val (Z.pv_move rfl) ?_
        refine Z.s_val (Z.pv_nil rfl) ?_
        refine Z.s_val (Z.pv_fieldAddr (o' := 2) rfl Try.underlying29 rfl Try.sizeOf3 rfl) ?_
        refine Z.s_val (Z.pv_load1 rfl (by repeat (first | with_reducible exact Z.Take.here | apply Z.Take.there)) Try.isAgg3 (by rfl)) ?_
        refine Z.s_val (Z.pv_assign rfl) ?_
        refine Z.j_nil ?_
        refine Z.j_then ?_
        refine Z.j_ret ?_
        refine Z.j_fold (A := RowP rb (r.put (⟨cl, ck⟩ : Cell))) (As := [Z.cl rb 29 [.map (some vb), .map (some eb), .int .i64 (r.last + 1)], Z.MapP vb Cell.e (Value.int .i64) (Z.mput (⟨cl, ck⟩ : Cell) (r.last + 1) r.ver), Z.MapP eb Cell.e Value.bool (Z.mput (⟨cl, ck⟩ : Cell) true r.ev)]) (by repeat (first | with_reducible exact Z.Takes.nil | (apply Z.Takes.cons; (repeat (first | with_reducible exact Z.Take.here | apply Z.Take.there))))) (fun _ H => rowP_some (vb := vb) (eb := eb) (r := r.put (⟨cl, ck⟩ : Cell)) (by exact H)) ?_
        refine Z.j_done_ret (Z.rv1 (Z.rv_tmp (t := 4) rfl)) ?_
        exact Z.post_of ⟨rfl, rfl⟩ (by repeat (first | with_reducible exact Z.Takes.nil | (apply Z.Takes.cons; (repeat (first | with_reducible exact Z.Take.here | apply Z.Take.there))))) (by repeat (first | with_reducible exact Z.Drop.nil | apply Z.Drop.cons))

set_option maxHeartbeats 4000000 in
set_option maxRecDepth 100000 in
theorem putN_spec (w0 : World) (rb : Nat) (r : RSt) (cl ck : Int) (h0 : 0 ≤ r.last) (h1 : r.last ≤ 1000) (hv : r.ver = []) (he : r.ev = []) : Z.FnD Try.prog w0 11 [.pointer (some ⟨rb, 0, none⟩), .agg #[.int .i64 cl, .int .u32 ck]] [Z.cl rb 29 [.map none, .map none, .int .i64 r.last]] (.int .i64 (r.last + 1)) [RowP rb (r.put (⟨cl, ck⟩ : Cell))] := by
  refine Z.Fn.fnD ?_
  refine Z.fn_enter (n := 47) Try.func11 rfl (by rfl) (by rfl) (fun Fr => ?_)
  refine Z.j_app (by repeat (first | exact Z.App.nil | apply Z.App.cons)) ?_
  refine Z.j_seq ?_
  refine Z.j_region ?_
  refine Z.s_box rfl (fun b3 => ?_)
  refine Z.s_val (Z.pv_assign rfl) ?_
  refine Z.j_nil ?_
  refine Z.j_then ?_
  refine Z.j_seq ?_
  refine Z.j_seq ?_
  refine Z.j_region ?_
  refine Z.s_val (Z.pv_move rfl) ?_
  refine Z.s_val (Z.pv_nil rfl) ?_
  refine Z.s_val (Z.pv_fieldAddr (o' := 0) rfl Try.underlying29 rfl Try.sizeOf26 rfl) ?_
  refine Z.s_val (Z.pv_load1 rfl (by repeat (first | with_reducible exact Z.Take.here | apply Z.Take.there)) Try.isAgg26 (by rfl)) ?_
  refine Z.s_val (Z.pv_eqmapN rfl rfl Try.underlying26) ?_
  refine Z.j_nil ?_
  refine Z.j_then ?_
  refine Z.j_cond rfl (fun hc9 => ?_) (fun hc9 => ?_)
  · try (with_reducible first | replace hc9 := of_decide_eq_true hc9 | replace hc9 := of_decide_eq_false hc9 | replace hc9 := Z.nd_true hc9 | replace hc9 := Z.nd_false hc9 | replace hc9 := Z.nn_true hc9 | replace hc9 := Z.nn_false hc9 | replace hc9 := Z.nb_true hc9 | replace hc9 := Z.nb_false hc9)
    first
    | (exfalso; first | (cases hc9; done) | omega)
    | skip
      refine Z.j_region ?_
      refine Z.s_val (Z.pv_move rfl) ?_
      refine Z.s_val (Z.pv_move rfl) ?_
      refine Z.s_makeMap Cell.e (Value.int .i64) (fun b12 => ?_)
      refine Z.s_makeMap Cell.e Value.bool (fun b13 => ?_)
      refine Z.s_val (Z.pv_nil rfl) ?_
      refine Z.s_val (Z.pv_fieldAddr (o' := 0) rfl Try.underlying29 rfl Try.sizeOf26 rfl) ?_
      refine Z.s_store1 rfl rfl (by first | rfl | assumption) Try.sizeOf26 (by repeat (first | with_reducible exact Z.Upd.here | apply Z.Upd.there)) (by rfl) ?_
      refine Z.s_val (Z.pv_nil rfl) ?_
      refine Z.s_val (Z.pv_fieldAddr (o' := 1) rfl Try.underlying29 rfl Try.sizeOf27 rfl) ?_
      refine Z.s_store1 rfl rfl (by first | rfl | assumption) Try.sizeOf27 (by repeat (first | with_reducible exact Z.Upd.here | apply Z.Upd.there)) (by rfl) ?_
      refine Z.j_nil ?_
      refine Z.j_then ?_
      refine Z.j_seq ?_
      refine Z.j_region ?_
      refine Z.s_val (Z.pv_move rfl) ?_
      refine Z.s_val (Z.pv_nil rfl) ?_
      refine Z.s_val (Z.pv_fieldAddr (o' := 2) rfl Try.underlying29 rfl Try.sizeOf3 rfl) ?_
      refine Z.s_val (Z.pv_load1 rfl (by repeat (first | with_reducible exact Z.Take.here | apply Z.Take.there)) Try.isAgg3 (by rfl)) ?_
      refine Z.s_val (Z.pv_add rfl rfl (by first | exact IntWalk.i64_in _ (by omega) | rfl)) ?_
      refine Z.s_val (Z.pv_nil rfl) ?_
      refine Z.s_val (Z.pv_fieldAddr (o' := 2) rfl Try.underlying29 rfl Try.sizeOf3 rfl) ?_
      refine Z.s_store1 rfl rfl (by first | rfl | assumption) Try.sizeOf3 (by repeat (first | with_reducible exact Z.Upd.here | apply Z.Upd.there)) (by rfl) ?_
      refine Z.j_nil ?_
      refine Z.j_then ?_
      refine Z.j_seq ?_
      refine Z.J.mapP_open (b := b12) (by repeat (first | with_reducible exact Z.Take.here | apply Z.Take.there)) (fun bs1 ck1 hk1 => ?_)
      refine Z.J.mapP_open (b := b13) (by repeat (first | with_reducible exact Z.Take.here | apply Z.Take.there)) (fun bs2 ck2 hk2 => ?_)
      refine Z.j_drawT [⟨none, none, [3, 8, 13], fun ρ => Z.cl rb 29 [.map (some b12), .map (some b13), .int .i64 (r.last + 1)]⟩, ⟨none, none, [4, 9], fun ρ => Z.cl b3 36 [.int .i64 cl, .int .u32 ck]⟩, ⟨none, (some 14), [], fun ρ => Z.MapB b12 Cell.e (Value.int .i64) ([] : VM) bs1 ck1⟩, ⟨(some 14), (some 16), [], fun ρ => Z.MapB b12 Cell.e (Value.int .i64) (Z.ment (⟨cl, ck⟩ : Cell) 0 ([] : VM)) (Z.mbs (⟨cl, ck⟩ : Cell) ([] : VM) bs1 ck1) (Z.mclk (⟨cl, ck⟩ : Cell) ([] : VM) ck1)⟩, ⟨(some 16), none, [], fun ρ => Z.MapB b12 Cell.e (Value.int .i64) (Z.mput (⟨cl, ck⟩ : Cell) (r.last + 1) ([] : VM)) (Z.mbs (⟨cl, ck⟩ : Cell) ([] : VM) bs1 ck1) (Z.mclk (⟨cl, ck⟩ : Cell) ([] : VM) ck1)⟩, ⟨none, (some 17), [], fun ρ => Z.MapB b13 Cell.e Value.bool ([] : EM) bs2 ck2⟩, ⟨(some 17), (some 19), [], fun ρ => Z.MapB b13 Cell.e Value.bool (Z.ment (⟨cl, ck⟩ : Cell) false ([] : EM)) (Z.mbs (⟨cl, ck⟩ : Cell) ([] : EM) bs2 ck2) (Z.mclk (⟨cl, ck⟩ : Cell) ([] : EM) ck2)⟩, ⟨(some 19), none, [], fun ρ => Z.MapB b13 Cell.e Value.bool (Z.mput (⟨cl, ck⟩ : Cell) true ([] : EM)) (Z.mbs (⟨cl, ck⟩ : Cell) ([] : EM) bs2 ck2) (Z.mclk (⟨cl, ck⟩ : Cell) ([] : EM) ck2)⟩] [14, 16, 17, 19] (fun ρ => [.pointer (some ⟨rb, 0, none⟩), .pointer (some ⟨rb, 0, none⟩), .pointer (some ⟨rb, 0, none⟩), .map (some b12), .agg #[.int .i64 cl, .int .u32 ck], .pointer (some ⟨rb, 0, none⟩), .pointer (some ⟨rb, 0, none⟩), .pointer (some ⟨rb, 1, none⟩), .map (some b13), .agg #[.int .i64 cl, .int .u32 ck], .pointer (some ⟨rb, 0, none⟩), .pointer (some ⟨rb, 0, none⟩), .pointer (some ⟨rb, 2, none⟩), .int .i64 (r.last + 1), .tuple #[.int .i64 (Z.mval (⟨cl, ck⟩ : Cell) 0 ([] : VM)), Go.goInt (Z.mborn (⟨cl, ck⟩ : Cell) ([] : VM) bs1 ck1)], Go.goInt (Z.mborn (⟨cl, ck⟩ : Cell) ([] : VM) bs1 ck1), ρ 16, .tuple #[.bool (Z.mval (⟨cl, ck⟩ : Cell) false ([] : EM)), Go.goInt (Z.mborn (⟨cl, ck⟩ : Cell) ([] : EM) bs2 ck2)], Go.goInt (Z.mborn (⟨cl, ck⟩ : Cell) ([] : EM) bs2 ck2), ρ 19]) (by kernel_rfl) (by kernel_rfl) (by rfl) (fun _ => rfl) ⟨fun _ _ => rfl, fun _ _ => rfl, ⟨fun _ _ => rfl, fun _ _ => rfl, ⟨fun _ _ => rfl, fun _ _ => rfl, ⟨fun _ _ => rfl, fun _ _ => rfl, trivial⟩⟩⟩⟩ (fun ρ => (by repeat (first | with_reducible exact Z.Takes.nil | (apply Z.Takes.cons; (repeat (first | with_reducible exact Z.Take.here | apply Z.Take.there))) | exact Z.Takes.nil))) ?_ (fun ρ => ?_)
      · skip
        refine Z.tops_cons ?_ ?_
        · refine Z.top_q (fun ρ => .pointer (some ⟨rb, 0, none⟩)) rfl (fun _ => rfl) (fun ρ Rr => ?_)
          show Z.HQ _ _ _ _ _ _ (Rr) _ _
          exact (Z.hq_val (Z.pv_move rfl))
        refine Z.tops_cons ?_ ?_
        · refine Z.top_q (fun ρ => .pointer (some ⟨rb, 0, none⟩)) rfl (fun _ => rfl) (fun ρ Rr => ?_)
          show Z.HQ _ _ _ _ _ _ (Rr) _ _
          exact (Z.hq_val (Z.pv_nil rfl))
        refine Z.tops_cons ?_ ?_
        · refine Z.top_q (fun ρ => .pointer (some ⟨rb, 0, none⟩)) rfl (fun _ => rfl) (fun ρ Rr => ?_)
          show Z.HQ _ _ _ _ _ _ (Rr) _ _
          exact (Z.hq_val (Z.pv_fieldAddr (o' := 0) rfl Try.underlying29 rfl Try.sizeOf26 rfl))
        refine Z.tops_cons ?_ ?_
        · refine Z.top_q (fun ρ => .map (some b12)) rfl (fun _ => rfl) (fun ρ Rr => ?_)
          show Z.HQ _ _ _ _ _ _ (Z.cl rb 29 [.map (some b12), .map (some b13), .int .i64 (r.last + 1)] :: Rr) _ _
          exact (Z.hq_val (Z.pv_load1 rfl (by repeat (first | with_reducible exact Z.Take.here | apply Z.Take.there)) Try.isAgg26 (by rfl)))
        refine Z.tops_cons ?_ ?_
        · refine Z.top_q (fun ρ => .agg #[.int .i64 cl, .int .u32 ck]) rfl (fun _ => rfl) (fun ρ Rr => ?_)
          show Z.HQ _ _ _ _ _ _ (Z.cl b3 36 [.int .i64 cl, .int .u32 ck] :: Rr) _ _
          exact (Z.hq_val (Z.pv_loadA rfl (by repeat (first | with_reducible exact Z.Take.here | apply Z.Take.there)) Try.isAgg36 Try.sizeOf36 (by rfl)))
        refine Z.tops_cons ?_ ?_
        · refine Z.top_q (fun ρ => .pointer (some ⟨rb, 0, none⟩)) rfl (fun _ => rfl) (fun ρ Rr => ?_)
          show Z.HQ _ _ _ _ _ _ (Rr) _ _
          exact (Z.hq_val (Z.pv_move rfl))
        refine Z.tops_cons ?_ ?_
        · refine Z.top_q (fun ρ => .pointer (some ⟨rb, 0, none⟩)) rfl (fun _ => rfl) (fun ρ Rr => ?_)
          show Z.HQ _ _ _ _ _ _ (Rr) _ _
          exact (Z.hq_val (Z.pv_nil rfl))
        refine Z.tops_cons ?_ ?_
        · refine Z.top_q (fun ρ => .pointer (some ⟨rb, 1, none⟩)) rfl (fun _ => rfl) (fun ρ Rr => ?_)
          show Z.HQ _ _ _ _ _ _ (Rr) _ _
          exact (Z.hq_val (Z.pv_fieldAddr (o' := 1) rfl Try.underlying29 rfl Try.sizeOf27 rfl))
        refine Z.tops_cons ?_ ?_
        · refine Z.top_q (fun ρ => .map (some b13)) rfl (fun _ => rfl) (fun ρ Rr => ?_)
          show Z.HQ _ _ _ _ _ _ (Z.cl rb 29 [.map (some b12), .map (some b13), .int .i64 (r.last + 1)] :: Rr) _ _
          exact (Z.hq_val (Z.pv_load1 rfl (by repeat (first | with_reducible exact Z.Take.here | apply Z.Take.there)) Try.isAgg27 (by rfl)))
        refine Z.tops_cons ?_ ?_
        · refine Z.top_q (fun ρ => .agg #[.int .i64 cl, .int .u32 ck]) rfl (fun _ => rfl) (fun ρ Rr => ?_)
          show Z.HQ _ _ _ _ _ _ (Z.cl b3 36 [.int .i64 cl, .int .u32 ck] :: Rr) _ _
          exact (Z.hq_val (Z.pv_loadA rfl (by repeat (first | with_reducible exact Z.Take.here | apply Z.Take.there)) Try.isAgg36 Try.sizeOf36 (by rfl)))
        refine Z.tops_cons ?_ ?_
        · refine Z.top_q (fun ρ => .pointer (some ⟨rb, 0, none⟩)) rfl (fun _ => rfl) (fun ρ Rr => ?_)
          show Z.HQ _ _ _ _ _ _ (Rr) _ _
          exact (Z.hq_val (Z.pv_move rfl))
        refine Z.tops_cons ?_ ?_
        · refine Z.top_q (fun ρ => .pointer (some ⟨rb, 0, none⟩)) rfl (fun _ => rfl) (fun ρ Rr => ?_)
          show Z.HQ _ _ _ _ _ _ (Rr) _ _
          exact (Z.hq_val (Z.pv_nil rfl))
        refine Z.tops_cons ?_ ?_
        · refine Z.top_q (fun ρ => .pointer (some ⟨rb, 2, none⟩)) rfl (fun _ => rfl) (fun ρ Rr => ?_)
          show Z.HQ _ _ _ _ _ _ (Rr) _ _
          exact (Z.hq_val (Z.pv_fieldAddr (o' := 2) rfl Try.underlying29 rfl Try.sizeOf3 rfl))
        refine Z.tops_cons ?_ ?_
        · refine Z.top_q (fun ρ => .int .i64 (r.last + 1)) rfl (fun _ => rfl) (fun ρ Rr => ?_)
          show Z.HQ _ _ _ _ _ _ (Z.cl rb 29 [.map (some b12), .map (some b13), .int .i64 (r.last + 1)] :: Rr) _ _
          exact (Z.hq_val (Z.pv_load1 rfl (by repeat (first | with_reducible exact Z.Take.here | apply Z.Take.there)) Try.isAgg3 (by rfl)))
        refine Z.tops_cons ?_ ?_
        · refine Z.top_c rfl (fun ρ Rr => ?_)
          refine Z.hn_of rfl (by rfl) rfl (by rfl) ?_
          show Z.J _ _ _ _ ([Z.MapB b12 Cell.e (Value.int .i64) ([] : VM) bs1 ck1] ++ Rr) _
          refine Z.j_app (by repeat (first | exact Z.App.nil | apply Z.App.cons)) ?_
          refine Z.s_mapEntry (k := (⟨cl, ck⟩ : Cell)) (z := (0 : Int)) (venc := Value.int .i64) rfl rfl Try.underlying26 kCell Try.zeroValue3 hk1 (by repeat (first | with_reducible exact Z.Take.here | apply Z.Take.there)) ?_
          refine Z.j_nil ?_
          refine Z.hn_end (by rfl) (fun w hs => ⟨rfl, Z.st_td (by repeat (first | with_reducible exact Z.Takes.nil | (apply Z.Takes.cons; (repeat (first | exact Z.Take.here | apply Z.Take.there))) | exact Z.Takes.nil)) (by repeat (first | with_reducible exact Z.Drop.nil | apply Z.Drop.cons)) w hs⟩)
        refine Z.tops_cons ?_ ?_
        · refine Z.top_q (fun ρ => Go.goInt (Z.mborn (⟨cl, ck⟩ : Cell) ([] : VM) bs1 ck1)) rfl (fun _ => rfl) (fun ρ Rr => ?_)
          show Z.HQ _ _ _ _ _ _ (Rr) _ _
          exact (Z.hq_val (Z.pv_extract rfl rfl))
        refine Z.tops_cons ?_ ?_
        · refine Z.top_c rfl (fun ρ Rr => ?_)
          refine Z.hn_of0 rfl (by rfl) rfl ?_
          show Z.J _ _ _ _ ([Z.MapB b12 Cell.e (Value.int .i64) (Z.ment (⟨cl, ck⟩ : Cell) 0 ([] : VM)) (Z.mbs (⟨cl, ck⟩ : Cell) ([] : VM) bs1 ck1) (Z.mclk (⟨cl, ck⟩ : Cell) ([] : VM) ck1)] ++ Rr) _
          refine Z.j_app (by repeat (first | exact Z.App.nil | apply Z.App.cons)) ?_
          refine Z.s_entryStore (k := (⟨cl, ck⟩ : Cell)) (z := (0 : Int)) (v := r.last + 1) (venc := Value.int .i64) rfl rfl rfl hk1 (by repeat (first | with_reducible exact Z.Take.here | apply Z.Take.there)) (fun _ => ?_)
          refine Z.j_nil ?_
          refine Z.hn_end0 (fun _ w hs => ⟨rfl, Z.st_td (by repeat (first | with_reducible exact Z.Takes.nil | (apply Z.Takes.cons; (repeat (first | exact Z.Take.here | apply Z.Take.there))) | exact Z.Takes.nil)) (by repeat (first | with_reducible exact Z.Drop.nil | apply Z.Drop.cons)) w hs⟩)
        refine Z.tops_cons ?_ ?_
        · refine Z.top_c rfl (fun ρ Rr => ?_)
          refine Z.hn_of rfl (by rfl) rfl (by rfl) ?_
          show Z.J _ _ _ _ ([Z.MapB b13 Cell.e Value.bool ([] : EM) bs2 ck2] ++ Rr) _
          refine Z.j_app (by repeat (first | exact Z.App.nil | apply Z.App.cons)) ?_
          refine Z.s_mapEntry (k := (⟨cl, ck⟩ : Cell)) (z := false) (venc := Value.bool) rfl rfl Try.underlying27 kCell Try.zeroValue4 hk2 (by repeat (first | with_reducible exact Z.Take.here | apply Z.Take.there)) ?_
          refine Z.j_nil ?_
          refine Z.hn_end (by rfl) (fun w hs => ⟨rfl, Z.st_td (by repeat (first | with_reducible exact Z.Takes.nil | (apply Z.Takes.cons; (repeat (first | exact Z.Take.here | apply Z.Take.there))) | exact Z.Takes.nil)) (by repeat (first | with_reducible exact Z.Drop.nil | apply Z.Drop.cons)) w hs⟩)
        refine Z.tops_cons ?_ ?_
        · refine Z.top_q (fun ρ => Go.goInt (Z.mborn (⟨cl, ck⟩ : Cell) ([] : EM) bs2 ck2)) rfl (fun _ => rfl) (fun ρ Rr => ?_)
          show Z.HQ _ _ _ _ _ _ (Rr) _ _
          exact (Z.hq_val (Z.pv_extract rfl rfl))
        refine Z.tops_cons ?_ ?_
        · refine Z.top_c rfl (fun ρ Rr => ?_)
          refine Z.hn_of0 rfl (by rfl) rfl ?_
          show Z.J _ _ _ _ ([Z.MapB b13 Cell.e Value.bool (Z.ment (⟨cl, ck⟩ : Cell) false ([] : EM)) (Z.mbs (⟨cl, ck⟩ : Cell) ([] : EM) bs2 ck2) (Z.mclk (⟨cl, ck⟩ : Cell) ([] : EM) ck2)] ++ Rr) _
          refine Z.j_app (by repeat (first | exact Z.App.nil | apply Z.App.cons)) ?_
          refine Z.s_entryStore (k := (⟨cl, ck⟩ : Cell)) (z := false) (v := true) (venc := Value.bool) rfl rfl rfl hk2 (by repeat (first | with_reducible exact Z.Take.here | apply Z.Take.there)) (fun _ => ?_)
          refine Z.j_nil ?_
          refine Z.hn_end0 (fun _ w hs => ⟨rfl, Z.st_td (by repeat (first | with_reducible exact Z.Takes.nil | (apply Z.Takes.cons; (repeat (first | exact Z.Take.here | apply Z.Take.there))) | exact Z.Takes.nil)) (by repeat (first | with_reducible exact Z.Drop.nil | apply Z.Drop.cons)) w hs⟩)
        exact Z.tops_nil
      · show Z.J _ _ _ _ ([Z.cl rb 29 [.map (some b12), .map (some b13), .int .i64 (r.last + 1)], Z.cl b3 36 [.int .i64 cl, .int .u32 ck], Z.MapB b12 Cell.e (Value.int .i64) (Z.mput (⟨cl, ck⟩ : Cell) (r.last + 1) ([] : VM)) (Z.mbs (⟨cl, ck⟩ : Cell) ([] : VM) bs1 ck1) (Z.mclk (⟨cl, ck⟩ : Cell) ([] : VM) ck1), Z.MapB b13 Cell.e Value.bool (Z.mput (⟨cl, ck⟩ : Cell) true ([] : EM)) (Z.mbs (⟨cl, ck⟩ : Cell) ([] : EM) bs2 ck2) (Z.mclk (⟨cl, ck⟩ : Cell) ([] : EM) ck2)] ++ _) _
        refine Z.j_app (by repeat (first | exact Z.App.nil | apply Z.App.cons)) ?_
        refine Z.J.mapP_close (b := b12) (m := Z.mput (⟨cl, ck⟩ : Cell) (r.last + 1) ([] : VM)) (by repeat (first | with_reducible exact Z.Take.here | apply Z.Take.there)) (bok_put hk1) ?_
        refine Z.J.mapP_close (b := b13) (m := Z.mput (⟨cl, ck⟩ : Cell) true ([] : EM)) (by repeat (first | with_reducible exact Z.Take.here | apply Z.Take.there)) (bok_put hk2) ?_
        refine Z.j_then ?_
        refine Z.j_seq ?_
        refine Z.j_region ?_
        refine Z.s_val (Z.pv_move rfl) ?_
        refine Z.s_val (Z.pv_nil rfl) ?_
        refine Z.s_val (Z.pv_fieldAddr (o' := 2) rfl Try.underlying29 rfl Try.sizeOf3 rfl) ?_
        refine Z.s_val (Z.pv_load1 rfl (by repeat (first | with_reducible exact Z.Take.here | apply Z.Take.there)) Try.isAgg3 (by rfl)) ?_
        refine Z.s_val (Z.pv_assign rfl) ?_
        refine Z.j_nil ?_
        refine Z.j_then ?_
        refine Z.j_ret ?_
        refine Z.j_fold (A := RowP rb (r.put (⟨cl, ck⟩ : Cell))) (As := [Z.cl rb 29 [.map (some b12), .map (some b13), .int .i64 (r.last + 1)], Z.MapP b12 Cell.e (Value.int .i64) (Z.mput (⟨cl, ck⟩ : Cell) (r.last + 1) ([] : VM)), Z.MapP b13 Cell.e Value.bool (Z.mput (⟨cl, ck⟩ : Cell) true ([] : EM))]) (by repeat (first | with_reducible exact Z.Takes.nil | (apply Z.Takes.cons; (repeat (first | with_reducible exact Z.Take.here | apply Z.Take.there))))) (fun _ H => rowP_some (vb := b12) (eb := b13) (r := r.put (⟨cl, ck⟩ : Cell)) (by simp only [RSt.put, hv, he]; exact H)) ?_
        refine Z.j_done_ret (Z.rv1 (Z.rv_tmp (t := 4) rfl)) ?_
        exact Z.post_of ⟨rfl, rfl⟩ (by repeat (first | with_reducible exact Z.Takes.nil | (apply Z.Takes.cons; (repeat (first | with_reducible exact Z.Take.here | apply Z.Take.there))))) (by repeat (first | with_reducible exact Z.Drop.nil | apply Z.Drop.cons))
  · exfalso; first | (cases hc9; done) | (simp at hc9; done) | (simp at hc9; omega) | (replace hc9 := of_decide_eq_true hc9; contradiction) | (replace hc9 := of_decide_eq_false hc9; contradiction)


theorem put_spec (w0 : World) (rb : Nat) (r : RSt) (cl ck : Int) (h0 : 0 ≤ r.last) (h1 : r.last ≤ 1000) : Z.FnD Try.prog w0 11 [.pointer (some ⟨rb, 0, none⟩), .agg #[.int .i64 cl, .int .u32 ck]] [RowP rb r] (.int .i64 (r.last + 1)) [RowP rb (r.put (⟨cl, ck⟩ : Cell))] := fun Fr w hs => by
  rcases rowP_cases (R := Fr) hs with ⟨hv, he, H⟩ | ⟨vb, eb, H⟩
  · exact putN_spec w0 rb r cl ck h0 h1 hv he Fr w H
  · exact putS_spec w0 rb r vb eb cl ck h0 h1 Fr w H

end Go.Proofs.Ytleofndjeekalaa
