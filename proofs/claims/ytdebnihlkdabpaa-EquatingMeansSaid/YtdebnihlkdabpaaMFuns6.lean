/- Plain functions that answer as the program's functions do, and the proof that they do. -/
import Derived.Test.YtdebnihlkdabpaaProg
import Derived.KernelRfl
import Derived.Test.YtdebnihlkdabpaaEngX
import Derived.Test.YtdebnihlkdabpaaMFacts
import Derived.Test.YtdebnihlkdabpaaMFuns0
import Derived.Test.YtdebnihlkdabpaaMFuns3
import Derived.Test.YtdebnihlkdabpaaMFuns4
import Derived.Test.YtdebnihlkdabpaaMFuns5
namespace Go.VM
open Go.Proofs
set_option linter.unusedVariables false
set_option linter.unusedSimpArgs false
set_option maxRecDepth 100000
/-- awardingbody/awardingbodylaw34.EquatingMeans -/
def law34_EquatingMeans (k : Nat) (t : (List Int)) : Option (Bool) := Option.bind (mark_Light k t) (u0 (bif (!(decide (((List.length t) : Int) ≤ 600))) then Option.bind (law34_sane k) (fun r129 => some r129) else Option.bind (mark_Roll k t) (u0 (Option.bind (mark_Dice_Distribution k 6 true t 0) (uc fun r1210 => fun x72 => Option.bind (mark_Dice_Distribution k 6 true t x72) (uc fun r1211 => fun x73 => Option.bind (equating_Mean k r1210 r1211) (uc fun r1110 => fun r1212 => Option.bind (equating_Linear k r1210 r1211) (uc fun r1213 => fun r171 => Option.bind (ref32_Mean k r1210) (uc fun r1214 => uc fun r139 => fun r149 => Option.bind (ref32_Mean k r1211) (uc fun r1215 => uc fun r1310 => fun r1410 => Option.bind (conversion_Eval k r1110 r1214 r139) (uc fun r1111 => uc fun r1311 => fun r1411 => blet ((r1212 != 0) || (r149 != 0)) fun x21 => blet (x21 || (r1410 != 0)) fun x22 => blet (x22 || (r1411 != 0)) fun x23 => blet (x23 || (!((r1111 == r1215) && ((r1311 == r1310) && true)))) fun x24 => bif x24 then some false else Option.bind (law34_whole k 1) (u0 (Option.bind (conversion_Eval k r1110 1 1) (uc fun r113 => uc fun r133 => fun r143 => Option.bind (law34_whole k 0) (u0 (Option.bind (conversion_Eval k r1110 0 1) (uc fun r114 => uc fun r134 => fun r144 => Option.bind (ref01_Sub k r113 r133 r114 r134) (uc fun r130 => uc fun r1112 => fun r1216 => blet ((r143 != 0) || (r144 != 0)) fun x28 => blet (x28 || (r1216 != 0)) fun x29 => Option.bind (bif x29 then some true else Option.bind (law34_whole k 1) (u0 (some (!((r130 == 1) && ((r1112 == 1) && true))))) : Option Bool) (fun x30 => bif x30 then some false else bif (r171 != 0) then Option.bind (bif (r171 == 10) then Option.bind (law34_sane k) (fun r151 => some r151) else some false : Option (Bool)) (fun x32 => some x32) else Option.bind (ref32_Deviation k r1210) (uc fun r1217 => uc fun r1312 => fun r1412 => Option.bind (ref32_Deviation k r1211) (uc fun r1218 => uc fun r1313 => fun r1413 => Option.bind (conversion_Eval k r1213 r1214 r139) (uc fun r1113 => uc fun r1314 => fun r1414 => Option.bind (ref01_Add k r1214 r139 r1217 r1312) (uc fun r183 => uc fun r192 => fun r1102 => Option.bind (conversion_Eval k r1213 r183 r192) (uc fun r1114 => uc fun r1315 => fun r1415 => Option.bind (ref01_Add k r1215 r1310 r1218 r1313) (uc fun r184 => uc fun r193 => fun r1103 => blet ((r1412 == 0) && (r1413 == 0)) fun x33 => blet (x33 && (r1414 == 0)) fun x34 => blet (x34 && (r1102 == 0)) fun x35 => blet (x35 && (r1415 == 0)) fun x36 => blet (x36 && (r1103 == 0)) fun x37 => blet (x37 && ((r1113 == r1215) && ((r1314 == r1310) && true))) fun x38 => blet (x38 && ((r1114 == r184) && ((r1315 == r193) && true))) fun x39 => Option.bind (bif x39 then Option.bind (law34_sane k) (fun r153 => some r153) else some false : Option (Bool)) (fun x40 => some x40))))))))))))))))))))))))))
def law34_EquatingMeans_E (t : (List Int)) : Bool → V × List Blk := fun r119 => (.d (.bool r119), [])
theorem law34_EquatingMeans_goes (k : Nat) (t : (List Int)) : RunsO Try.prog 4 [.d (.lit (List.map e_i64 t))] [] (law34_EquatingMeans_E t) (law34_EquatingMeans k t) := by
  refine RunsO.of_goes (N := 200) (m := 0) (T := [(0, .d (.lit (List.map e_i64 t)))]) Try.func4 rfl rfl (h := ?_)
  unfold law34_EquatingMeans
  refine bStart ?_
  refine oSR rfl ?_
  refine oP (.d (.bool false)) p_assign ?_
  refine oEnd ?_
  refine oSeq ?_
  refine oSR rfl ?_
  refine oP (.d (.lit (List.map e_i64 t))) p_move ?_
  refine bCall (caps := []) (v := (u0 ((.d (.bool (decide (((List.length t) : Int) ≤ 600))) : V)))) (H' := (u0 (([] : List Blk)))) [] _ (mark_Light_goes k t) (ho := rfl) (hfn := Try.func7) (hb := rfl) (hconv := ConvRs.refl _ _) (hnd := by decide) (hBl := fun _ => (by kernel_rfl)) (hv := fun _ => (by kernel_rfl)) (hH' := fun _ => (by kernel_rfl)) (h := fun r => ?_)
  cases r
  refine bU0 ?_
  refine oP (.d (.bool (!(decide (((List.length t) : Int) ≤ 600))))) (p_not (p := (decide (((List.length t) : Int) ≤ 600)))) ?_
  refine oEnd ?_
  refine bSplit 36 (h1 := fun hc => ?_) (h2 := fun hc => ?_)
  ·refine oCondT (h := ?_)
   refine oSR rfl ?_
   refine bCall (caps := []) (v := (fun (r129 : Bool) => (.d (.bool r129) : V))) (H' := (fun (r129 : Bool) => ([] : List Blk))) [] _ (law34_sane_goes k) (ho := rfl) (hfn := Try.func8) (hb := rfl) (hconv := ConvRs.refl _ _) (hnd := by decide) (hBl := fun _ => (by kernel_rfl)) (hv := fun _ => (by kernel_rfl)) (hH' := fun _ => (by kernel_rfl)) (h := fun r129 => ?_)
   refine oP (.d (.bool r129)) p_assign ?_
   refine oEnd ?_
   exact oRet (r0 := r129) (rv := .d (.bool r129)) (B := []) (vs := [.d (.bool r129)]) (σ := []) (hf := Try.func4) (hrs := rfl) (hres := .cons _ _ _ _ (.tmp 2 _ (by kernel_rfl)) .nil) (hnd := by decide)
  ·refine oCondF (h := ?_)
   refine oSkip ?_
   refine oSR rfl ?_
   refine oP (.d (.lit (List.map e_i64 t))) p_move ?_
   refine bCall (caps := []) (v := (u0 ((.ptr 0 0 : V)))) (H' := (u0 (([.box [.d (.lit (List.map e_i64 t)), .d (.int .i64 0)]] : List Blk)))) [] _ (mark_Roll_goes k t) (ho := rfl) (hfn := Try.func9) (hb := rfl) (hconv := ConvRs.refl _ _) (hnd := by decide) (hBl := fun _ => (by kernel_rfl)) (hv := fun _ => (by kernel_rfl)) (hH' := fun _ => (by kernel_rfl)) (h := fun r => ?_)
   cases r
   refine bU0 ?_
   refine oP (.ptr 0 0) p_assign ?_
   refine oEnd ?_
   refine oSR rfl ?_
   refine oP (.ptr 0 0) p_move ?_
   refine bCall (caps := []) (v := (uc fun (r1210 : (List Int)) => (fun (x72 : Int) => (.agg [.d (.lit (List.map e_i64 r1210))] : V)))) (H' := (uc fun (r1210 : (List Int)) => (fun (x72 : Int) => ([.box [.d (.lit (List.map e_i64 t)), .d (.int .i64 x72)]] : List Blk)))) [0] _ (mark_Dice_Distribution_goes k 6 true t 0) (ho := rfl) (hfn := Try.func10) (hb := rfl) (hconv := ConvRs.refl _ _) (hnd := by decide) (hBl := fun _ => (by kernel_rfl)) (hv := fun _ => (by kernel_rfl)) (hH' := fun _ => (by kernel_rfl)) (h := fun r => ?_)
   obtain ⟨r1210, x72⟩ := r
   refine bUc ?_
   refine oP (.ptr 0 0) p_move ?_
   refine bCall (caps := []) (v := (uc fun (r1211 : (List Int)) => (fun (x73 : Int) => (.agg [.d (.lit (List.map e_i64 r1211))] : V)))) (H' := (uc fun (r1211 : (List Int)) => (fun (x73 : Int) => ([.box [.d (.lit (List.map e_i64 t)), .d (.int .i64 x73)]] : List Blk)))) [0] _ (mark_Dice_Distribution_goes k 6 true t x72) (ho := rfl) (hfn := Try.func10) (hb := rfl) (hconv := ConvRs.refl _ _) (hnd := by decide) (hBl := fun _ => (by kernel_rfl)) (hv := fun _ => (by kernel_rfl)) (hH' := fun _ => (by kernel_rfl)) (h := fun r => ?_)
   obtain ⟨r1211, x73⟩ := r
   refine bUc ?_
   refine oD (.ptr 1 0) (k_alloc (H' := [.box [.d (.lit (List.map e_i64 t)), .d (.int .i64 x73)], .box [.nilc]]) ty28) ?_
   refine oD (.ptr 2 0) (k_alloc (H' := [.box [.d (.lit (List.map e_i64 t)), .d (.int .i64 x73)], .box [.nilc], .box [.nilc]]) ty28) ?_
   refine oD (.undef) (k_store (vs := [.d (.lit (List.map e_i64 r1210))]) (H' := [.box [.d (.lit (List.map e_i64 t)), .d (.int .i64 x73)], .box [.d (.lit (List.map e_i64 r1210))], .box [.nilc]]) 1 0 (hi := ty28)) ?_
   refine oD (.undef) (k_store (vs := [.d (.lit (List.map e_i64 r1211))]) (H' := [.box [.d (.lit (List.map e_i64 t)), .d (.int .i64 x73)], .box [.d (.lit (List.map e_i64 r1210))], .box [.d (.lit (List.map e_i64 r1211))]]) 2 0 (hi := ty28)) ?_
   refine oEnd ?_
   refine oSR rfl ?_
   refine oQ (.agg [.d (.lit (List.map e_i64 r1210))]) (k_loadAgg 1 0 (hu := Try.underlying28) (hi := ty28)) ?_
   refine oQ (.agg [.d (.lit (List.map e_i64 r1211))]) (k_loadAgg 2 0 (hu := Try.underlying28) (hi := ty28)) ?_
   refine bCall (caps := []) (v := (uc fun (r1110 : (List SPoint)) => (fun (r1212 : Int) => (.tuple [.agg [.d (.lit (List.map e_SPoint r1110))], .d (.int .i64 r1212)] : V)))) (H' := (uc fun (r1110 : (List SPoint)) => (fun (r1212 : Int) => ([.box [.d (.lit (List.map e_i64 t)), .d (.int .i64 x73)], .box [.d (.lit (List.map e_i64 r1210))], .box [.d (.lit (List.map e_i64 r1211))]] : List Blk)))) [] _ (equating_Mean_goes k r1210 r1211) (ho := rfl) (hfn := Try.func16) (hb := rfl) (hconv := ConvRs.refl _ _) (hnd := by decide) (hBl := fun _ => (by kernel_rfl)) (hv := fun _ => (by kernel_rfl)) (hH' := fun _ => (by kernel_rfl)) (h := fun r => ?_)
   obtain ⟨r1110, r1212⟩ := r
   refine bUc ?_
   refine oP (.tuple [.agg [.d (.lit (List.map e_SPoint r1110))], .d (.int .i64 r1212)]) p_move ?_
   refine oP (.agg [.d (.lit (List.map e_SPoint r1110))]) k_extract ?_
   refine oP (.d (.int .i64 r1212)) k_extract ?_
   refine oD (.ptr 3 0) (k_alloc (H' := [.box [.d (.lit (List.map e_i64 t)), .d (.int .i64 x73)], .box [.d (.lit (List.map e_i64 r1210))], .box [.d (.lit (List.map e_i64 r1211))], .box [.nilc]]) ty32) ?_
   refine oD (.undef) (k_store (vs := [.d (.lit (List.map e_SPoint r1110))]) (H' := [.box [.d (.lit (List.map e_i64 t)), .d (.int .i64 x73)], .box [.d (.lit (List.map e_i64 r1210))], .box [.d (.lit (List.map e_i64 r1211))], .box [.d (.lit (List.map e_SPoint r1110))]]) 3 0 (hi := ty32)) ?_
   refine oP (.d (.int .i64 r1212)) p_assign ?_
   refine oEnd ?_
   refine oSR rfl ?_
   refine oQ (.agg [.d (.lit (List.map e_i64 r1210))]) (k_loadAgg 1 0 (hu := Try.underlying28) (hi := ty28)) ?_
   refine oQ (.agg [.d (.lit (List.map e_i64 r1211))]) (k_loadAgg 2 0 (hu := Try.underlying28) (hi := ty28)) ?_
   refine bCall (caps := []) (v := (uc fun (r1213 : (List SPoint)) => (fun (r171 : Int) => (.tuple [.agg [.d (.lit (List.map e_SPoint r1213))], .d (.int .i64 r171)] : V)))) (H' := (uc fun (r1213 : (List SPoint)) => (fun (r171 : Int) => ([.box [.d (.lit (List.map e_i64 t)), .d (.int .i64 x73)], .box [.d (.lit (List.map e_i64 r1210))], .box [.d (.lit (List.map e_i64 r1211))], .box [.d (.lit (List.map e_SPoint r1110))]] : List Blk)))) [] _ (equating_Linear_goes k r1210 r1211) (ho := rfl) (hfn := Try.func17) (hb := rfl) (hconv := ConvRs.refl _ _) (hnd := by decide) (hBl := fun _ => (by kernel_rfl)) (hv := fun _ => (by kernel_rfl)) (hH' := fun _ => (by kernel_rfl)) (h := fun r => ?_)
   obtain ⟨r1213, r171⟩ := r
   refine bUc ?_
   refine oP (.tuple [.agg [.d (.lit (List.map e_SPoint r1213))], .d (.int .i64 r171)]) p_move ?_
   refine oP (.agg [.d (.lit (List.map e_SPoint r1213))]) k_extract ?_
   refine oP (.d (.int .i64 r171)) k_extract ?_
   refine oD (.ptr 4 0) (k_alloc (H' := [.box [.d (.lit (List.map e_i64 t)), .d (.int .i64 x73)], .box [.d (.lit (List.map e_i64 r1210))], .box [.d (.lit (List.map e_i64 r1211))], .box [.d (.lit (List.map e_SPoint r1110))], .box [.nilc]]) ty32) ?_
   refine oD (.undef) (k_store (vs := [.d (.lit (List.map e_SPoint r1213))]) (H' := [.box [.d (.lit (List.map e_i64 t)), .d (.int .i64 x73)], .box [.d (.lit (List.map e_i64 r1210))], .box [.d (.lit (List.map e_i64 r1211))], .box [.d (.lit (List.map e_SPoint r1110))], .box [.d (.lit (List.map e_SPoint r1213))]]) 4 0 (hi := ty32)) ?_
   refine oP (.d (.int .i64 r171)) p_assign ?_
   refine oEnd ?_
   refine oSR rfl ?_
   refine oQ (.agg [.d (.lit (List.map e_i64 r1210))]) (k_loadAgg 1 0 (hu := Try.underlying28) (hi := ty28)) ?_
   refine bCall (caps := []) (v := (uc fun (r1214 : Int) => (uc fun (r139 : Int) => (fun (r149 : Int) => (.tuple [.agg [.d (.int .i64 r1214), .d (.int .i64 r139)], .d (.int .i64 r149)] : V))))) (H' := (uc fun (r1214 : Int) => (uc fun (r139 : Int) => (fun (r149 : Int) => ([.box [.d (.lit (List.map e_i64 t)), .d (.int .i64 x73)], .box [.d (.lit (List.map e_i64 r1210))], .box [.d (.lit (List.map e_i64 r1211))], .box [.d (.lit (List.map e_SPoint r1110))], .box [.d (.lit (List.map e_SPoint r1213))]] : List Blk))))) [] _ (ref32_Mean_goes k r1210) (ho := rfl) (hfn := Try.func18) (hb := rfl) (hconv := ConvRs.refl _ _) (hnd := by decide) (hBl := fun _ => (by kernel_rfl)) (hv := fun _ => (by kernel_rfl)) (hH' := fun _ => (by kernel_rfl)) (h := fun r => ?_)
   obtain ⟨r1214, r139, r149⟩ := r
   refine bUc ?_
   refine bUc ?_
   refine oP (.tuple [.agg [.d (.int .i64 r1214), .d (.int .i64 r139)], .d (.int .i64 r149)]) p_move ?_
   refine oP (.agg [.d (.int .i64 r1214), .d (.int .i64 r139)]) k_extract ?_
   refine oP (.d (.int .i64 r149)) k_extract ?_
   refine oD (.ptr 5 0) (k_alloc (H' := [.box [.d (.lit (List.map e_i64 t)), .d (.int .i64 x73)], .box [.d (.lit (List.map e_i64 r1210))], .box [.d (.lit (List.map e_i64 r1211))], .box [.d (.lit (List.map e_SPoint r1110))], .box [.d (.lit (List.map e_SPoint r1213))], .box [.d (.int .i64 0), .d (.int .i64 0)]]) ty38) ?_
   refine oD (.undef) (k_store (vs := [.d (.int .i64 r1214), .d (.int .i64 r139)]) (H' := [.box [.d (.lit (List.map e_i64 t)), .d (.int .i64 x73)], .box [.d (.lit (List.map e_i64 r1210))], .box [.d (.lit (List.map e_i64 r1211))], .box [.d (.lit (List.map e_SPoint r1110))], .box [.d (.lit (List.map e_SPoint r1213))], .box [.d (.int .i64 r1214), .d (.int .i64 r139)]]) 5 0 (hi := ty38)) ?_
   refine oP (.d (.int .i64 r149)) p_assign ?_
   refine oEnd ?_
   refine oSR rfl ?_
   refine oQ (.agg [.d (.lit (List.map e_i64 r1211))]) (k_loadAgg 2 0 (hu := Try.underlying28) (hi := ty28)) ?_
   refine bCall (caps := []) (v := (uc fun (r1215 : Int) => (uc fun (r1310 : Int) => (fun (r1410 : Int) => (.tuple [.agg [.d (.int .i64 r1215), .d (.int .i64 r1310)], .d (.int .i64 r1410)] : V))))) (H' := (uc fun (r1215 : Int) => (uc fun (r1310 : Int) => (fun (r1410 : Int) => ([.box [.d (.lit (List.map e_i64 t)), .d (.int .i64 x73)], .box [.d (.lit (List.map e_i64 r1210))], .box [.d (.lit (List.map e_i64 r1211))], .box [.d (.lit (List.map e_SPoint r1110))], .box [.d (.lit (List.map e_SPoint r1213))], .box [.d (.int .i64 r1214), .d (.int .i64 r139)]] : List Blk))))) [] _ (ref32_Mean_goes k r1211) (ho := rfl) (hfn := Try.func18) (hb := rfl) (hconv := ConvRs.refl _ _) (hnd := by decide) (hBl := fun _ => (by kernel_rfl)) (hv := fun _ => (by kernel_rfl)) (hH' := fun _ => (by kernel_rfl)) (h := fun r => ?_)
   obtain ⟨r1215, r1310, r1410⟩ := r
   refine bUc ?_
   refine bUc ?_
   refine oP (.tuple [.agg [.d (.int .i64 r1215), .d (.int .i64 r1310)], .d (.int .i64 r1410)]) p_move ?_
   refine oP (.agg [.d (.int .i64 r1215), .d (.int .i64 r1310)]) k_extract ?_
   refine oP (.d (.int .i64 r1410)) k_extract ?_
   refine oD (.ptr 6 0) (k_alloc (H' := [.box [.d (.lit (List.map e_i64 t)), .d (.int .i64 x73)], .box [.d (.lit (List.map e_i64 r1210))], .box [.d (.lit (List.map e_i64 r1211))], .box [.d (.lit (List.map e_SPoint r1110))], .box [.d (.lit (List.map e_SPoint r1213))], .box [.d (.int .i64 r1214), .d (.int .i64 r139)], .box [.d (.int .i64 0), .d (.int .i64 0)]]) ty38) ?_
   refine oD (.undef) (k_store (vs := [.d (.int .i64 r1215), .d (.int .i64 r1310)]) (H' := [.box [.d (.lit (List.map e_i64 t)), .d (.int .i64 x73)], .box [.d (.lit (List.map e_i64 r1210))], .box [.d (.lit (List.map e_i64 r1211))], .box [.d (.lit (List.map e_SPoint r1110))], .box [.d (.lit (List.map e_SPoint r1213))], .box [.d (.int .i64 r1214), .d (.int .i64 r139)], .box [.d (.int .i64 r1215), .d (.int .i64 r1310)]]) 6 0 (hi := ty38)) ?_
   refine oP (.d (.int .i64 r1410)) p_assign ?_
   refine oEnd ?_
   refine oSR rfl ?_
   refine oQ (.agg [.d (.lit (List.map e_SPoint r1110))]) (k_loadAgg 3 0 (hu := Try.underlying32) (hi := ty32)) ?_
   refine oQ (.agg [.d (.int .i64 r1214), .d (.int .i64 r139)]) (k_loadAgg 5 0 (hu := Try.underlying38) (hi := ty38)) ?_
   refine bCall (caps := []) (v := (uc fun (r1111 : Int) => (uc fun (r1311 : Int) => (fun (r1411 : Int) => (.tuple [.agg [.d (.int .i64 r1111), .d (.int .i64 r1311)], .d (.int .i64 r1411)] : V))))) (H' := (uc fun (r1111 : Int) => (uc fun (r1311 : Int) => (fun (r1411 : Int) => ([.box [.d (.lit (List.map e_i64 t)), .d (.int .i64 x73)], .box [.d (.lit (List.map e_i64 r1210))], .box [.d (.lit (List.map e_i64 r1211))], .box [.d (.lit (List.map e_SPoint r1110))], .box [.d (.lit (List.map e_SPoint r1213))], .box [.d (.int .i64 r1214), .d (.int .i64 r139)], .box [.d (.int .i64 r1215), .d (.int .i64 r1310)]] : List Blk))))) [] _ (conversion_Eval_goes k r1110 r1214 r139) (ho := rfl) (hfn := Try.func14) (hb := rfl) (hconv := ConvRs.refl _ _) (hnd := by decide) (hBl := fun _ => (by kernel_rfl)) (hv := fun _ => (by kernel_rfl)) (hH' := fun _ => (by kernel_rfl)) (h := fun r => ?_)
   obtain ⟨r1111, r1311, r1411⟩ := r
   refine bUc ?_
   refine bUc ?_
   refine oP (.tuple [.agg [.d (.int .i64 r1111), .d (.int .i64 r1311)], .d (.int .i64 r1411)]) p_move ?_
   refine oP (.agg [.d (.int .i64 r1111), .d (.int .i64 r1311)]) k_extract ?_
   refine oP (.d (.int .i64 r1411)) k_extract ?_
   refine oD (.ptr 7 0) (k_alloc (H' := [.box [.d (.lit (List.map e_i64 t)), .d (.int .i64 x73)], .box [.d (.lit (List.map e_i64 r1210))], .box [.d (.lit (List.map e_i64 r1211))], .box [.d (.lit (List.map e_SPoint r1110))], .box [.d (.lit (List.map e_SPoint r1213))], .box [.d (.int .i64 r1214), .d (.int .i64 r139)], .box [.d (.int .i64 r1215), .d (.int .i64 r1310)], .box [.d (.int .i64 0), .d (.int .i64 0)]]) ty38) ?_
   refine oD (.undef) (k_store (vs := [.d (.int .i64 r1111), .d (.int .i64 r1311)]) (H' := [.box [.d (.lit (List.map e_i64 t)), .d (.int .i64 x73)], .box [.d (.lit (List.map e_i64 r1210))], .box [.d (.lit (List.map e_i64 r1211))], .box [.d (.lit (List.map e_SPoint r1110))], .box [.d (.lit (List.map e_SPoint r1213))], .box [.d (.int .i64 r1214), .d (.int .i64 r139)], .box [.d (.int .i64 r1215), .d (.int .i64 r1310)], .box [.d (.int .i64 r1111), .d (.int .i64 r1311)]]) 7 0 (hi := ty38)) ?_
   refine oP (.d (.int .i64 r1411)) p_assign ?_
   refine oEnd ?_
   refine oSeq ?_
   refine oSR rfl ?_
   refine oP (.d (.int .i64 r1212)) p_move ?_
   refine oP (.d (.bool (r1212 != 0))) (p_int (k := .i64) (p := r1212) (q := 0)) ?_
   refine oP (.d (.bool (r1212 != 0))) p_move ?_
   refine bMeetF (H' := [.box [.d (.lit (List.map e_i64 r1210))], .box [.d (.lit (List.map e_i64 r1211))], .box [.d (.lit (List.map e_SPoint r1110))], .box [.d (.lit (List.map e_SPoint r1213))], .box [.d (.int .i64 r1214), .d (.int .i64 r139)], .box [.d (.int .i64 r1215), .d (.int .i64 r1310)], .box [.d (.int .i64 r1111), .d (.int .i64 r1311)]]) 3 rfl ((fun (x21 : Bool) => [(4, .ptr 0 0), (5, .ptr 1 0), (6, .ptr 2 0), (8, .ptr 3 0), (9, .d (.int .i64 r171)), (10, .ptr 4 0), (12, .ptr 5 0), (13, .d (.int .i64 r1410)), (14, .ptr 6 0), (15, .d (.int .i64 r1411)), (77, .d (.bool x21))])) (fun x21 => ?_) (fun F hj4 => ?_)
   ·refine oView (T' := [(4, .ptr 0 0), (5, .ptr 1 0), (6, .ptr 2 0), (8, .ptr 3 0), (9, .d (.int .i64 r171)), (10, .ptr 4 0), (12, .ptr 5 0), (13, .d (.int .i64 r1410)), (14, .ptr 6 0), (15, .d (.int .i64 r1411)), (77, .d (.bool x21))]) (H' := [.box [.d (.lit (List.map e_i64 r1210))], .box [.d (.lit (List.map e_i64 r1211))], .box [.d (.lit (List.map e_SPoint r1110))], .box [.d (.lit (List.map e_SPoint r1213))], .box [.d (.int .i64 r1214), .d (.int .i64 r139)], .box [.d (.int .i64 r1215), .d (.int .i64 r1310)], .box [.d (.int .i64 r1111), .d (.int .i64 r1311)]]) (h := ?_)
    refine oP (.d (.bool x21)) p_move ?_
    refine bMeetF (H' := [.box [.d (.lit (List.map e_i64 r1210))], .box [.d (.lit (List.map e_i64 r1211))], .box [.d (.lit (List.map e_SPoint r1110))], .box [.d (.lit (List.map e_SPoint r1213))], .box [.d (.int .i64 r1214), .d (.int .i64 r139)], .box [.d (.int .i64 r1215), .d (.int .i64 r1310)], .box [.d (.int .i64 r1111), .d (.int .i64 r1311)]]) 3 rfl ((fun (x22 : Bool) => [(4, .ptr 0 0), (5, .ptr 1 0), (6, .ptr 2 0), (8, .ptr 3 0), (9, .d (.int .i64 r171)), (10, .ptr 4 0), (12, .ptr 5 0), (14, .ptr 6 0), (15, .d (.int .i64 r1411)), (81, .d (.bool x22))])) (fun x22 => ?_) (fun F hj5 => ?_)
    ·refine oView (T' := [(4, .ptr 0 0), (5, .ptr 1 0), (6, .ptr 2 0), (8, .ptr 3 0), (9, .d (.int .i64 r171)), (10, .ptr 4 0), (12, .ptr 5 0), (14, .ptr 6 0), (15, .d (.int .i64 r1411)), (81, .d (.bool x22))]) (H' := [.box [.d (.lit (List.map e_i64 r1210))], .box [.d (.lit (List.map e_i64 r1211))], .box [.d (.lit (List.map e_SPoint r1110))], .box [.d (.lit (List.map e_SPoint r1213))], .box [.d (.int .i64 r1214), .d (.int .i64 r139)], .box [.d (.int .i64 r1215), .d (.int .i64 r1310)], .box [.d (.int .i64 r1111), .d (.int .i64 r1311)]]) (h := ?_)
     refine oP (.d (.bool x22)) p_move ?_
     refine bMeetF (H' := [.box [.d (.lit (List.map e_i64 r1210))], .box [.d (.lit (List.map e_i64 r1211))], .box [.d (.lit (List.map e_SPoint r1110))], .box [.d (.lit (List.map e_SPoint r1213))], .box [.d (.int .i64 r1214), .d (.int .i64 r139)], .box [.d (.int .i64 r1215), .d (.int .i64 r1310)], .box [.d (.int .i64 r1111), .d (.int .i64 r1311)]]) 3 rfl ((fun (x23 : Bool) => [(4, .ptr 0 0), (5, .ptr 1 0), (6, .ptr 2 0), (8, .ptr 3 0), (9, .d (.int .i64 r171)), (10, .ptr 4 0), (12, .ptr 5 0), (14, .ptr 6 0), (85, .d (.bool x23))])) (fun x23 => ?_) (fun F hj6 => ?_)
     ·refine oView (T' := [(4, .ptr 0 0), (5, .ptr 1 0), (6, .ptr 2 0), (8, .ptr 3 0), (9, .d (.int .i64 r171)), (10, .ptr 4 0), (12, .ptr 5 0), (14, .ptr 6 0), (85, .d (.bool x23))]) (H' := [.box [.d (.lit (List.map e_i64 r1210))], .box [.d (.lit (List.map e_i64 r1211))], .box [.d (.lit (List.map e_SPoint r1110))], .box [.d (.lit (List.map e_SPoint r1213))], .box [.d (.int .i64 r1214), .d (.int .i64 r139)], .box [.d (.int .i64 r1215), .d (.int .i64 r1310)], .box [.d (.int .i64 r1111), .d (.int .i64 r1311)]]) (h := ?_)
      refine oP (.d (.bool x23)) p_move ?_
      refine bMeetF (H' := [.box [.d (.lit (List.map e_i64 r1210))], .box [.d (.lit (List.map e_i64 r1211))], .box [.d (.lit (List.map e_SPoint r1110))], .box [.d (.lit (List.map e_SPoint r1213))], .box [.d (.int .i64 r1214), .d (.int .i64 r139)], .box [.d (.int .i64 r1215), .d (.int .i64 r1310)]]) 4 rfl ((fun (x24 : Bool) => [(4, .ptr 0 0), (5, .ptr 1 0), (6, .ptr 2 0), (8, .ptr 3 0), (9, .d (.int .i64 r171)), (10, .ptr 4 0), (12, .ptr 5 0), (90, .d (.bool x24))])) (fun x24 => ?_) (fun F hj7 => ?_)
      ·refine oView (T' := [(4, .ptr 0 0), (5, .ptr 1 0), (6, .ptr 2 0), (8, .ptr 3 0), (9, .d (.int .i64 r171)), (10, .ptr 4 0), (12, .ptr 5 0), (90, .d (.bool x24))]) (H' := [.box [.d (.lit (List.map e_i64 r1210))], .box [.d (.lit (List.map e_i64 r1211))], .box [.d (.lit (List.map e_SPoint r1110))], .box [.d (.lit (List.map e_SPoint r1213))], .box [.d (.int .i64 r1214), .d (.int .i64 r139)], .box [.d (.int .i64 r1215), .d (.int .i64 r1310)]]) (h := ?_)
       refine oEnd ?_
       refine bSplit 90 (h1 := fun hc => ?_) (h2 := fun hc => ?_)
       ·refine oCondT (h := ?_)
        refine oSR rfl ?_
        refine oP (.d (.bool false)) p_assign ?_
        refine oEnd ?_
        exact oRet (r0 := false) (rv := .d (.bool false)) (B := []) (vs := [.d (.bool false)]) (σ := []) (hf := Try.func4) (hrs := rfl) (hres := .cons _ _ _ _ (.tmp 2 _ (by kernel_rfl)) .nil) (hnd := by decide)
       ·refine oCondF (h := ?_)
        refine oSkip ?_
        refine oSeq ?_
        refine oDraw [(0, 9), (1, 9), (2, 9), (3, 9), (4, 9), (5, 9)] rfl ?_
        refine aQ 0 [2] (.agg [.d (.lit (List.map e_SPoint r1110))]) rfl (k_loadAgg 2 0 (hu := Try.underlying32) (hi := ty32)) ?_
        refine dCall (i := 1) (caps := []) (v := (u0 ((.agg [.d (.int .i64 1), .d (.int .i64 1)] : V)))) (H' := (u0 (([.box [.d (.lit (List.map e_i64 r1210))], .box [.d (.lit (List.map e_i64 r1211))], .box [.d (.lit (List.map e_SPoint r1110))], .box [.d (.lit (List.map e_SPoint r1213))], .box [.d (.int .i64 r1214), .d (.int .i64 r139)], .box [.d (.int .i64 r1215), .d (.int .i64 r1310)]] : List Blk)))) [] _ (law34_whole_goes k 1) rfl (ho := rfl) (hfn := Try.func19) (hb := rfl) (hconv := ConvRs.refl _ _) (hnd := by decide) (hBl := fun _ => (by kernel_rfl)) (hv := fun _ => (by kernel_rfl)) (hH' := fun _ => (by kernel_rfl)) (h := fun r => ?_)
        cases r
        refine dU0 ?_
        refine dCall (i := 2) (caps := []) (v := (uc fun (r113 : Int) => (uc fun (r133 : Int) => (fun (r143 : Int) => (.tuple [.agg [.d (.int .i64 r113), .d (.int .i64 r133)], .d (.int .i64 r143)] : V))))) (H' := (uc fun (r113 : Int) => (uc fun (r133 : Int) => (fun (r143 : Int) => ([.box [.d (.lit (List.map e_i64 r1210))], .box [.d (.lit (List.map e_i64 r1211))], .box [.d (.lit (List.map e_SPoint r1110))], .box [.d (.lit (List.map e_SPoint r1213))], .box [.d (.int .i64 r1214), .d (.int .i64 r139)], .box [.d (.int .i64 r1215), .d (.int .i64 r1310)]] : List Blk))))) [] _ (conversion_Eval_goes k r1110 1 1) rfl (ho := rfl) (hfn := Try.func14) (hb := rfl) (hconv := ConvRs.refl _ _) (hnd := by decide) (hBl := fun _ => (by kernel_rfl)) (hv := fun _ => (by kernel_rfl)) (hH' := fun _ => (by kernel_rfl)) (h := fun r => ?_)
        obtain ⟨r113, r133, r143⟩ := r
        refine dUc ?_
        refine dUc ?_
        refine aTakeP (i := 3) (.tuple [.agg [.d (.int .i64 r113), .d (.int .i64 r133)], .d (.int .i64 r143)]) rfl (hp := p_move) (h := ?_)
        refine aTakeP (i := 4) (.agg [.d (.int .i64 r113), .d (.int .i64 r133)]) rfl (hp := k_extract) (h := ?_)
        refine aTakeP (i := 5) (.d (.int .i64 r143)) rfl (hp := k_extract) (h := ?_)
        refine aAlloc (i := 6) (d := 16) rfl (hop := rfl) (hd := rfl) (hty := ty38) (cells := [.d (.int .i64 0), .d (.int .i64 0)]) (h := ?_)
        refine dView (H' := [.box [.d (.lit (List.map e_i64 r1210))], .box [.d (.lit (List.map e_i64 r1211))], .box [.d (.lit (List.map e_SPoint r1110))], .box [.d (.lit (List.map e_SPoint r1213))], .box [.d (.int .i64 r1214), .d (.int .i64 r139)], .box [.d (.int .i64 r1215), .d (.int .i64 r1310)], .box [.d (.int .i64 0), .d (.int .i64 0)]]) rfl rfl (h := ?_)
        refine aOne (i := 7) (v := .undef) rfl (hac := Does.acts (k_store (vs := [.d (.int .i64 r113), .d (.int .i64 r133)]) (H' := [.box [.d (.lit (List.map e_i64 r1210))], .box [.d (.lit (List.map e_i64 r1211))], .box [.d (.lit (List.map e_SPoint r1110))], .box [.d (.lit (List.map e_SPoint r1213))], .box [.d (.int .i64 r1214), .d (.int .i64 r139)], .box [.d (.int .i64 r1215), .d (.int .i64 r1310)], .box [.d (.int .i64 r113), .d (.int .i64 r133)]]) 6 0 (hi := ty38))) (h := ?_)
        refine aP 8 (.d (.int .i64 r143)) rfl p_assign ?_
        refine aDone (h := ?_)
        refine oSeq ?_
        refine oDraw [(0, 9), (1, 9), (2, 9), (3, 9), (4, 9), (5, 9), (6, 9)] rfl ?_
        refine aQ 0 [2] (.agg [.d (.lit (List.map e_SPoint r1110))]) rfl (k_loadAgg 2 0 (hu := Try.underlying32) (hi := ty32)) ?_
        refine dCall (i := 1) (caps := []) (v := (u0 ((.agg [.d (.int .i64 0), .d (.int .i64 1)] : V)))) (H' := (u0 (([.box [.d (.lit (List.map e_i64 r1210))], .box [.d (.lit (List.map e_i64 r1211))], .box [.d (.lit (List.map e_SPoint r1110))], .box [.d (.lit (List.map e_SPoint r1213))], .box [.d (.int .i64 r1214), .d (.int .i64 r139)], .box [.d (.int .i64 r1215), .d (.int .i64 r1310)], .box [.d (.int .i64 r113), .d (.int .i64 r133)]] : List Blk)))) [] _ (law34_whole_goes k 0) rfl (ho := rfl) (hfn := Try.func19) (hb := rfl) (hconv := ConvRs.refl _ _) (hnd := by decide) (hBl := fun _ => (by kernel_rfl)) (hv := fun _ => (by kernel_rfl)) (hH' := fun _ => (by kernel_rfl)) (h := fun r => ?_)
        cases r
        refine dU0 ?_
        refine dCall (i := 2) (caps := []) (v := (uc fun (r114 : Int) => (uc fun (r134 : Int) => (fun (r144 : Int) => (.tuple [.agg [.d (.int .i64 r114), .d (.int .i64 r134)], .d (.int .i64 r144)] : V))))) (H' := (uc fun (r114 : Int) => (uc fun (r134 : Int) => (fun (r144 : Int) => ([.box [.d (.lit (List.map e_i64 r1210))], .box [.d (.lit (List.map e_i64 r1211))], .box [.d (.lit (List.map e_SPoint r1110))], .box [.d (.lit (List.map e_SPoint r1213))], .box [.d (.int .i64 r1214), .d (.int .i64 r139)], .box [.d (.int .i64 r1215), .d (.int .i64 r1310)], .box [.d (.int .i64 r113), .d (.int .i64 r133)]] : List Blk))))) [] _ (conversion_Eval_goes k r1110 0 1) rfl (ho := rfl) (hfn := Try.func14) (hb := rfl) (hconv := ConvRs.refl _ _) (hnd := by decide) (hBl := fun _ => (by kernel_rfl)) (hv := fun _ => (by kernel_rfl)) (hH' := fun _ => (by kernel_rfl)) (h := fun r => ?_)
        obtain ⟨r114, r134, r144⟩ := r
        refine dUc ?_
        refine dUc ?_
        refine aTakeP (i := 3) (.tuple [.agg [.d (.int .i64 r114), .d (.int .i64 r134)], .d (.int .i64 r144)]) rfl (hp := p_move) (h := ?_)
        refine aTakeP (i := 4) (.agg [.d (.int .i64 r114), .d (.int .i64 r134)]) rfl (hp := k_extract) (h := ?_)
        refine aTakeP (i := 5) (.d (.int .i64 r144)) rfl (hp := k_extract) (h := ?_)
        refine aAlloc (i := 6) (d := 18) rfl (hop := rfl) (hd := rfl) (hty := ty38) (cells := [.d (.int .i64 0), .d (.int .i64 0)]) (h := ?_)
        refine dView (H' := [.box [.d (.lit (List.map e_i64 r1210))], .box [.d (.lit (List.map e_i64 r1211))], .box [.d (.lit (List.map e_SPoint r1110))], .box [.d (.lit (List.map e_SPoint r1213))], .box [.d (.int .i64 r1214), .d (.int .i64 r139)], .box [.d (.int .i64 r1215), .d (.int .i64 r1310)], .box [.d (.int .i64 r113), .d (.int .i64 r133)], .box [.d (.int .i64 0), .d (.int .i64 0)]]) rfl rfl (h := ?_)
        refine aOne (i := 7) (v := .undef) rfl (hac := Does.acts (k_store (vs := [.d (.int .i64 r114), .d (.int .i64 r134)]) (H' := [.box [.d (.lit (List.map e_i64 r1210))], .box [.d (.lit (List.map e_i64 r1211))], .box [.d (.lit (List.map e_SPoint r1110))], .box [.d (.lit (List.map e_SPoint r1213))], .box [.d (.int .i64 r1214), .d (.int .i64 r139)], .box [.d (.int .i64 r1215), .d (.int .i64 r1310)], .box [.d (.int .i64 r113), .d (.int .i64 r133)], .box [.d (.int .i64 r114), .d (.int .i64 r134)]]) 7 0 (hi := ty38))) (h := ?_)
        refine aP 8 (.d (.int .i64 r144)) rfl p_assign ?_
        refine aDone (h := ?_)
        refine oSR rfl ?_
        refine oQ (.agg [.d (.int .i64 r113), .d (.int .i64 r133)]) (k_loadAgg 6 0 (hu := Try.underlying38) (hi := ty38)) ?_
        refine oQ (.agg [.d (.int .i64 r114), .d (.int .i64 r134)]) (k_loadAgg 7 0 (hu := Try.underlying38) (hi := ty38)) ?_
        refine bCall (caps := []) (v := (uc fun (r130 : Int) => (uc fun (r1112 : Int) => (fun (r1216 : Int) => (.tuple [.agg [.d (.int .i64 r130), .d (.int .i64 r1112)], .d (.int .i64 r1216)] : V))))) (H' := (uc fun (r130 : Int) => (uc fun (r1112 : Int) => (fun (r1216 : Int) => ([.box [.d (.lit (List.map e_i64 r1210))], .box [.d (.lit (List.map e_i64 r1211))], .box [.d (.lit (List.map e_SPoint r1110))], .box [.d (.lit (List.map e_SPoint r1213))], .box [.d (.int .i64 r1214), .d (.int .i64 r139)], .box [.d (.int .i64 r1215), .d (.int .i64 r1310)], .box [.d (.int .i64 r113), .d (.int .i64 r133)], .box [.d (.int .i64 r114), .d (.int .i64 r134)]] : List Blk))))) [] _ (ref01_Sub_goes k r113 r133 r114 r134) (ho := rfl) (hfn := Try.func20) (hb := rfl) (hconv := ConvRs.refl _ _) (hnd := by decide) (hBl := fun _ => (by kernel_rfl)) (hv := fun _ => (by kernel_rfl)) (hH' := fun _ => (by kernel_rfl)) (h := fun r => ?_)
        obtain ⟨r130, r1112, r1216⟩ := r
        refine bUc ?_
        refine bUc ?_
        refine oP (.tuple [.agg [.d (.int .i64 r130), .d (.int .i64 r1112)], .d (.int .i64 r1216)]) p_move ?_
        refine oP (.agg [.d (.int .i64 r130), .d (.int .i64 r1112)]) k_extract ?_
        refine oP (.d (.int .i64 r1216)) k_extract ?_
        refine oD (.ptr 8 0) (k_alloc (H' := [.box [.d (.lit (List.map e_i64 r1210))], .box [.d (.lit (List.map e_i64 r1211))], .box [.d (.lit (List.map e_SPoint r1110))], .box [.d (.lit (List.map e_SPoint r1213))], .box [.d (.int .i64 r1214), .d (.int .i64 r139)], .box [.d (.int .i64 r1215), .d (.int .i64 r1310)], .box [.d (.int .i64 r113), .d (.int .i64 r133)], .box [.d (.int .i64 r114), .d (.int .i64 r134)], .box [.d (.int .i64 0), .d (.int .i64 0)]]) ty38) ?_
        refine oD (.undef) (k_store (vs := [.d (.int .i64 r130), .d (.int .i64 r1112)]) (H' := [.box [.d (.lit (List.map e_i64 r1210))], .box [.d (.lit (List.map e_i64 r1211))], .box [.d (.lit (List.map e_SPoint r1110))], .box [.d (.lit (List.map e_SPoint r1213))], .box [.d (.int .i64 r1214), .d (.int .i64 r139)], .box [.d (.int .i64 r1215), .d (.int .i64 r1310)], .box [.d (.int .i64 r113), .d (.int .i64 r133)], .box [.d (.int .i64 r114), .d (.int .i64 r134)], .box [.d (.int .i64 r130), .d (.int .i64 r1112)]]) 8 0 (hi := ty38)) ?_
        refine oP (.d (.int .i64 r1216)) p_assign ?_
        refine oEnd ?_
        refine oSeq ?_
        refine oSeq ?_
        refine oDraw [(0, 15), (1, 15), (2, 15), (3, 15), (4, 15), (5, 15), (6, 15), (7, 15), (8, 15)] rfl ?_
        refine aP 0 (.d (.int .i64 r143)) rfl p_move ?_
        refine aP 1 (.d (.bool (r143 != 0))) rfl (p_int (k := .i64) (p := r143) (q := 0)) ?_
        refine aP 2 (.d (.bool (r143 != 0))) rfl p_move ?_
        refine dMeetF [5, 4, 3, 2, 1, 0] (fun (x28 : Bool) => [(4, .ptr 0 0), (5, .ptr 1 0), (8, .ptr 3 0), (9, .d (.int .i64 r171)), (10, .ptr 4 0), (12, .ptr 5 0), (20, .ptr 8 0), (21, .d (.int .i64 r1216)), (114, .d (.bool x28))]) (fun (x28 : Bool) => [(4, .ptr 0 0), (5, .ptr 1 0), (8, .ptr 3 0), (9, .d (.int .i64 r171)), (10, .ptr 4 0), (12, .ptr 5 0), (20, .ptr 8 0), (21, .d (.int .i64 r1216)), (114, .d (.bool x28))]) (H' := [.box [.d (.lit (List.map e_i64 r1210))], .box [.d (.lit (List.map e_i64 r1211))], .box [.d (.lit (List.map e_SPoint r1110))], .box [.d (.lit (List.map e_SPoint r1213))], .box [.d (.int .i64 r1214), .d (.int .i64 r139)], .box [.d (.int .i64 r1215), .d (.int .i64 r1310)], .box [.d (.int .i64 r113), .d (.int .i64 r133)], .box [.d (.int .i64 r114), .d (.int .i64 r134)], .box [.d (.int .i64 r130), .d (.int .i64 r1112)]]) (fun x28 => ?_) (fun F hj8 => ?_)
        ·refine aP 6 (.d (.bool x28)) rfl p_move ?_
         refine dMeetF [9, 8, 7, 6, 5, 4, 3, 2, 1, 0] (fun (x29 : Bool) => [(4, .ptr 0 0), (5, .ptr 1 0), (8, .ptr 3 0), (9, .d (.int .i64 r171)), (10, .ptr 4 0), (12, .ptr 5 0), (20, .ptr 8 0), (118, .d (.bool x29))]) (fun (x29 : Bool) => [(4, .ptr 0 0), (5, .ptr 1 0), (8, .ptr 3 0), (9, .d (.int .i64 r171)), (10, .ptr 4 0), (12, .ptr 5 0), (20, .ptr 8 0), (118, .d (.bool x29))]) (H' := [.box [.d (.lit (List.map e_i64 r1210))], .box [.d (.lit (List.map e_i64 r1211))], .box [.d (.lit (List.map e_SPoint r1110))], .box [.d (.lit (List.map e_SPoint r1213))], .box [.d (.int .i64 r1214), .d (.int .i64 r139)], .box [.d (.int .i64 r1215), .d (.int .i64 r1310)], .box [.d (.int .i64 r113), .d (.int .i64 r133)], .box [.d (.int .i64 r114), .d (.int .i64 r134)], .box [.d (.int .i64 r130), .d (.int .i64 r1112)]]) (fun x29 => ?_) (fun F hj9 => ?_)
         ·refine aP 10 (.d (.bool x29)) rfl p_move ?_
          refine dMeet [14, 13, 12, 11, 10, 9, 8, 7, 6, 5, 4, 3, 2, 1, 0] (fun (x30 : Bool) => [(4, .ptr 0 0), (5, .ptr 1 0), (8, .ptr 3 0), (9, .d (.int .i64 r171)), (10, .ptr 4 0), (12, .ptr 5 0), (123, .d (.bool x30))]) (fun (x30 : Bool) => [(4, .ptr 0 0), (5, .ptr 1 0), (8, .ptr 3 0), (9, .d (.int .i64 r171)), (10, .ptr 4 0), (12, .ptr 5 0), (123, .d (.bool x30))]) (fun _ => [.box [.d (.lit (List.map e_i64 r1210))], .box [.d (.lit (List.map e_i64 r1211))], .box [.d (.lit (List.map e_SPoint r1110))], .box [.d (.lit (List.map e_SPoint r1213))], .box [.d (.int .i64 r1214), .d (.int .i64 r139)], .box [.d (.int .i64 r1215), .d (.int .i64 r1310)], .box [.d (.int .i64 r113), .d (.int .i64 r133)], .box [.d (.int .i64 r114), .d (.int .i64 r134)], .box [.d (.int .i64 r130), .d (.int .i64 r1112)]]) (fun s => s) (fun x30 => ?_) (fun hj10 => ?_)
          ·refine aDone (h := ?_)
           refine bSplit 123 (h1 := fun hc => ?_) (h2 := fun hc => ?_)
           ·refine oCondT (h := ?_)
            refine oSR rfl ?_
            refine oP (.d (.bool false)) p_assign ?_
            refine oEnd ?_
            exact oRet (r0 := false) (rv := .d (.bool false)) (B := []) (vs := [.d (.bool false)]) (σ := []) (hf := Try.func4) (hrs := rfl) (hres := .cons _ _ _ _ (.tmp 2 _ (by kernel_rfl)) .nil) (hnd := by decide)
           ·refine oCondF (h := ?_)
            refine oSkip ?_
            refine oSeq ?_
            refine oSR rfl ?_
            refine oP (.d (.int .i64 r171)) p_move ?_
            refine oP (.d (.bool (r171 != 0))) (p_int (k := .i64) (p := r171) (q := 0)) ?_
            refine oEnd ?_
            refine bSplit 125 (h1 := fun hc => ?_) (h2 := fun hc => ?_)
            ·refine oCondT (h := ?_)
             refine oSR rfl ?_
             refine oP (.d (.int .i64 r171)) p_move ?_
             refine oP (.d (.bool (r171 == 10))) (p_int (k := .i64) (p := r171) (q := 10)) ?_
             refine oP (.d (.bool (r171 == 10))) p_move ?_
             refine bMeet 2 rfl ((fun (x32 : Bool) => [(130, .d (.bool x32))])) ((fun (x32 : Bool) => [])) (fun s => s) (fun x32 => ?_) (fun hj11 => ?_)
             ·refine oView (T' := [(130, .d (.bool x32))]) (H' := []) (h := ?_)
              refine oP (.d (.bool x32)) p_assign ?_
              refine oEnd ?_
              exact oRet (r0 := x32) (rv := .d (.bool x32)) (B := []) (vs := [.d (.bool x32)]) (σ := []) (hf := Try.func4) (hrs := rfl) (hres := .cons _ _ _ _ (.tmp 2 _ (by kernel_rfl)) .nil) (hnd := by decide)
             ·refine bSplit 128 (h1 := fun hc => ?_) (h2 := fun hc => ?_)
              ·refine bCall (caps := []) (v := (fun (r151 : Bool) => (.d (.bool r151) : V))) (H' := (fun (r151 : Bool) => ([.box [.d (.lit (List.map e_i64 r1210))], .box [.d (.lit (List.map e_i64 r1211))], .box [.d (.lit (List.map e_SPoint r1110))], .box [.d (.lit (List.map e_SPoint r1213))], .box [.d (.int .i64 r1214), .d (.int .i64 r139)], .box [.d (.int .i64 r1215), .d (.int .i64 r1310)], .box [.d (.int .i64 r113), .d (.int .i64 r133)], .box [.d (.int .i64 r114), .d (.int .i64 r134)], .box [.d (.int .i64 r130), .d (.int .i64 r1112)]] : List Blk))) [] _ (law34_sane_goes k) (ho := rfl) (hfn := Try.func8) (hb := rfl) (hconv := ConvRs.refl _ _) (hnd := by decide) (hBl := fun _ => (by kernel_rfl)) (hv := fun _ => (by kernel_rfl)) (hH' := fun _ => (by kernel_rfl)) (h := fun r151 => ?_)
               refine oP (.d (.bool r151)) (p_pick (b := true)) ?_
               refine oHead [130] [] (T' := [(130, .d (.bool r151))]) (H' := []) (hnd := by decide) (h := ?_)
               exact hj11 r151
              ·refine oNot (h := ?_)
               refine oP (.d (.bool false)) (p_pick (b := false)) ?_
               refine oHead [130] [] (T' := [(130, .d (.bool false))]) (H' := []) (hnd := by decide) (h := ?_)
               exact hj11 false
            ·refine oCondF (h := ?_)
             refine oSkip ?_
             refine oSR rfl ?_
             refine oQ (.agg [.d (.lit (List.map e_i64 r1210))]) (k_loadAgg 0 0 (hu := Try.underlying28) (hi := ty28)) ?_
             refine bCall (caps := []) (v := (uc fun (r1217 : Int) => (uc fun (r1312 : Int) => (fun (r1412 : Int) => (.tuple [.agg [.d (.int .i64 r1217), .d (.int .i64 r1312)], .d (.int .i64 r1412)] : V))))) (H' := (uc fun (r1217 : Int) => (uc fun (r1312 : Int) => (fun (r1412 : Int) => ([.box [.d (.lit (List.map e_i64 r1210))], .box [.d (.lit (List.map e_i64 r1211))], .box [.d (.lit (List.map e_SPoint r1110))], .box [.d (.lit (List.map e_SPoint r1213))], .box [.d (.int .i64 r1214), .d (.int .i64 r139)], .box [.d (.int .i64 r1215), .d (.int .i64 r1310)], .box [.d (.int .i64 r113), .d (.int .i64 r133)], .box [.d (.int .i64 r114), .d (.int .i64 r134)], .box [.d (.int .i64 r130), .d (.int .i64 r1112)]] : List Blk))))) [] _ (ref32_Deviation_goes k r1210) (ho := rfl) (hfn := Try.func21) (hb := rfl) (hconv := ConvRs.refl _ _) (hnd := by decide) (hBl := fun _ => (by kernel_rfl)) (hv := fun _ => (by kernel_rfl)) (hH' := fun _ => (by kernel_rfl)) (h := fun r => ?_)
             obtain ⟨r1217, r1312, r1412⟩ := r
             refine bUc ?_
             refine bUc ?_
             refine oP (.tuple [.agg [.d (.int .i64 r1217), .d (.int .i64 r1312)], .d (.int .i64 r1412)]) p_move ?_
             refine oP (.agg [.d (.int .i64 r1217), .d (.int .i64 r1312)]) k_extract ?_
             refine oP (.d (.int .i64 r1412)) k_extract ?_
             refine oD (.ptr 9 0) (k_alloc (H' := [.box [.d (.lit (List.map e_i64 r1210))], .box [.d (.lit (List.map e_i64 r1211))], .box [.d (.lit (List.map e_SPoint r1110))], .box [.d (.lit (List.map e_SPoint r1213))], .box [.d (.int .i64 r1214), .d (.int .i64 r139)], .box [.d (.int .i64 r1215), .d (.int .i64 r1310)], .box [.d (.int .i64 r113), .d (.int .i64 r133)], .box [.d (.int .i64 r114), .d (.int .i64 r134)], .box [.d (.int .i64 r130), .d (.int .i64 r1112)], .box [.d (.int .i64 0), .d (.int .i64 0)]]) ty38) ?_
             refine oD (.undef) (k_store (vs := [.d (.int .i64 r1217), .d (.int .i64 r1312)]) (H' := [.box [.d (.lit (List.map e_i64 r1210))], .box [.d (.lit (List.map e_i64 r1211))], .box [.d (.lit (List.map e_SPoint r1110))], .box [.d (.lit (List.map e_SPoint r1213))], .box [.d (.int .i64 r1214), .d (.int .i64 r139)], .box [.d (.int .i64 r1215), .d (.int .i64 r1310)], .box [.d (.int .i64 r113), .d (.int .i64 r133)], .box [.d (.int .i64 r114), .d (.int .i64 r134)], .box [.d (.int .i64 r130), .d (.int .i64 r1112)], .box [.d (.int .i64 r1217), .d (.int .i64 r1312)]]) 9 0 (hi := ty38)) ?_
             refine oP (.d (.int .i64 r1412)) p_assign ?_
             refine oEnd ?_
             refine oSR rfl ?_
             refine oQ (.agg [.d (.lit (List.map e_i64 r1211))]) (k_loadAgg 1 0 (hu := Try.underlying28) (hi := ty28)) ?_
             refine bCall (caps := []) (v := (uc fun (r1218 : Int) => (uc fun (r1313 : Int) => (fun (r1413 : Int) => (.tuple [.agg [.d (.int .i64 r1218), .d (.int .i64 r1313)], .d (.int .i64 r1413)] : V))))) (H' := (uc fun (r1218 : Int) => (uc fun (r1313 : Int) => (fun (r1413 : Int) => ([.box [.d (.lit (List.map e_i64 r1210))], .box [.d (.lit (List.map e_i64 r1211))], .box [.d (.lit (List.map e_SPoint r1110))], .box [.d (.lit (List.map e_SPoint r1213))], .box [.d (.int .i64 r1214), .d (.int .i64 r139)], .box [.d (.int .i64 r1215), .d (.int .i64 r1310)], .box [.d (.int .i64 r113), .d (.int .i64 r133)], .box [.d (.int .i64 r114), .d (.int .i64 r134)], .box [.d (.int .i64 r130), .d (.int .i64 r1112)], .box [.d (.int .i64 r1217), .d (.int .i64 r1312)]] : List Blk))))) [] _ (ref32_Deviation_goes k r1211) (ho := rfl) (hfn := Try.func21) (hb := rfl) (hconv := ConvRs.refl _ _) (hnd := by decide) (hBl := fun _ => (by kernel_rfl)) (hv := fun _ => (by kernel_rfl)) (hH' := fun _ => (by kernel_rfl)) (h := fun r => ?_)
             obtain ⟨r1218, r1313, r1413⟩ := r
             refine bUc ?_
             refine bUc ?_
             refine oP (.tuple [.agg [.d (.int .i64 r1218), .d (.int .i64 r1313)], .d (.int .i64 r1413)]) p_move ?_
             refine oP (.agg [.d (.int .i64 r1218), .d (.int .i64 r1313)]) k_extract ?_
             refine oP (.d (.int .i64 r1413)) k_extract ?_
             refine oD (.ptr 10 0) (k_alloc (H' := [.box [.d (.lit (List.map e_i64 r1210))], .box [.d (.lit (List.map e_i64 r1211))], .box [.d (.lit (List.map e_SPoint r1110))], .box [.d (.lit (List.map e_SPoint r1213))], .box [.d (.int .i64 r1214), .d (.int .i64 r139)], .box [.d (.int .i64 r1215), .d (.int .i64 r1310)], .box [.d (.int .i64 r113), .d (.int .i64 r133)], .box [.d (.int .i64 r114), .d (.int .i64 r134)], .box [.d (.int .i64 r130), .d (.int .i64 r1112)], .box [.d (.int .i64 r1217), .d (.int .i64 r1312)], .box [.d (.int .i64 0), .d (.int .i64 0)]]) ty38) ?_
             refine oD (.undef) (k_store (vs := [.d (.int .i64 r1218), .d (.int .i64 r1313)]) (H' := [.box [.d (.lit (List.map e_i64 r1210))], .box [.d (.lit (List.map e_i64 r1211))], .box [.d (.lit (List.map e_SPoint r1110))], .box [.d (.lit (List.map e_SPoint r1213))], .box [.d (.int .i64 r1214), .d (.int .i64 r139)], .box [.d (.int .i64 r1215), .d (.int .i64 r1310)], .box [.d (.int .i64 r113), .d (.int .i64 r133)], .box [.d (.int .i64 r114), .d (.int .i64 r134)], .box [.d (.int .i64 r130), .d (.int .i64 r1112)], .box [.d (.int .i64 r1217), .d (.int .i64 r1312)], .box [.d (.int .i64 r1218), .d (.int .i64 r1313)]]) 10 0 (hi := ty38)) ?_
             refine oP (.d (.int .i64 r1413)) p_assign ?_
             refine oEnd ?_
             refine oSR rfl ?_
             refine oQ (.agg [.d (.lit (List.map e_SPoint r1213))]) (k_loadAgg 3 0 (hu := Try.underlying32) (hi := ty32)) ?_
             refine oQ (.agg [.d (.int .i64 r1214), .d (.int .i64 r139)]) (k_loadAgg 4 0 (hu := Try.underlying38) (hi := ty38)) ?_
             refine bCall (caps := []) (v := (uc fun (r1113 : Int) => (uc fun (r1314 : Int) => (fun (r1414 : Int) => (.tuple [.agg [.d (.int .i64 r1113), .d (.int .i64 r1314)], .d (.int .i64 r1414)] : V))))) (H' := (uc fun (r1113 : Int) => (uc fun (r1314 : Int) => (fun (r1414 : Int) => ([.box [.d (.lit (List.map e_i64 r1210))], .box [.d (.lit (List.map e_i64 r1211))], .box [.d (.lit (List.map e_SPoint r1110))], .box [.d (.lit (List.map e_SPoint r1213))], .box [.d (.int .i64 r1214), .d (.int .i64 r139)], .box [.d (.int .i64 r1215), .d (.int .i64 r1310)], .box [.d (.int .i64 r113), .d (.int .i64 r133)], .box [.d (.int .i64 r114), .d (.int .i64 r134)], .box [.d (.int .i64 r130), .d (.int .i64 r1112)], .box [.d (.int .i64 r1217), .d (.int .i64 r1312)], .box [.d (.int .i64 r1218), .d (.int .i64 r1313)]] : List Blk))))) [] _ (conversion_Eval_goes k r1213 r1214 r139) (ho := rfl) (hfn := Try.func14) (hb := rfl) (hconv := ConvRs.refl _ _) (hnd := by decide) (hBl := fun _ => (by kernel_rfl)) (hv := fun _ => (by kernel_rfl)) (hH' := fun _ => (by kernel_rfl)) (h := fun r => ?_)
             obtain ⟨r1113, r1314, r1414⟩ := r
             refine bUc ?_
             refine bUc ?_
             refine oP (.tuple [.agg [.d (.int .i64 r1113), .d (.int .i64 r1314)], .d (.int .i64 r1414)]) p_move ?_
             refine oP (.agg [.d (.int .i64 r1113), .d (.int .i64 r1314)]) k_extract ?_
             refine oP (.d (.int .i64 r1414)) k_extract ?_
             refine oD (.ptr 11 0) (k_alloc (H' := [.box [.d (.lit (List.map e_i64 r1210))], .box [.d (.lit (List.map e_i64 r1211))], .box [.d (.lit (List.map e_SPoint r1110))], .box [.d (.lit (List.map e_SPoint r1213))], .box [.d (.int .i64 r1214), .d (.int .i64 r139)], .box [.d (.int .i64 r1215), .d (.int .i64 r1310)], .box [.d (.int .i64 r113), .d (.int .i64 r133)], .box [.d (.int .i64 r114), .d (.int .i64 r134)], .box [.d (.int .i64 r130), .d (.int .i64 r1112)], .box [.d (.int .i64 r1217), .d (.int .i64 r1312)], .box [.d (.int .i64 r1218), .d (.int .i64 r1313)], .box [.d (.int .i64 0), .d (.int .i64 0)]]) ty38) ?_
             refine oD (.undef) (k_store (vs := [.d (.int .i64 r1113), .d (.int .i64 r1314)]) (H' := [.box [.d (.lit (List.map e_i64 r1210))], .box [.d (.lit (List.map e_i64 r1211))], .box [.d (.lit (List.map e_SPoint r1110))], .box [.d (.lit (List.map e_SPoint r1213))], .box [.d (.int .i64 r1214), .d (.int .i64 r139)], .box [.d (.int .i64 r1215), .d (.int .i64 r1310)], .box [.d (.int .i64 r113), .d (.int .i64 r133)], .box [.d (.int .i64 r114), .d (.int .i64 r134)], .box [.d (.int .i64 r130), .d (.int .i64 r1112)], .box [.d (.int .i64 r1217), .d (.int .i64 r1312)], .box [.d (.int .i64 r1218), .d (.int .i64 r1313)], .box [.d (.int .i64 r1113), .d (.int .i64 r1314)]]) 11 0 (hi := ty38)) ?_
             refine oP (.d (.int .i64 r1414)) p_assign ?_
             refine oEnd ?_
             refine oSR rfl ?_
             refine oQ (.agg [.d (.int .i64 r1214), .d (.int .i64 r139)]) (k_loadAgg 4 0 (hu := Try.underlying38) (hi := ty38)) ?_
             refine oQ (.agg [.d (.int .i64 r1217), .d (.int .i64 r1312)]) (k_loadAgg 9 0 (hu := Try.underlying38) (hi := ty38)) ?_
             refine bCall (caps := []) (v := (uc fun (r183 : Int) => (uc fun (r192 : Int) => (fun (r1102 : Int) => (.tuple [.agg [.d (.int .i64 r183), .d (.int .i64 r192)], .d (.int .i64 r1102)] : V))))) (H' := (uc fun (r183 : Int) => (uc fun (r192 : Int) => (fun (r1102 : Int) => ([.box [.d (.lit (List.map e_i64 r1210))], .box [.d (.lit (List.map e_i64 r1211))], .box [.d (.lit (List.map e_SPoint r1110))], .box [.d (.lit (List.map e_SPoint r1213))], .box [.d (.int .i64 r1214), .d (.int .i64 r139)], .box [.d (.int .i64 r1215), .d (.int .i64 r1310)], .box [.d (.int .i64 r113), .d (.int .i64 r133)], .box [.d (.int .i64 r114), .d (.int .i64 r134)], .box [.d (.int .i64 r130), .d (.int .i64 r1112)], .box [.d (.int .i64 r1217), .d (.int .i64 r1312)], .box [.d (.int .i64 r1218), .d (.int .i64 r1313)], .box [.d (.int .i64 r1113), .d (.int .i64 r1314)]] : List Blk))))) [] _ (ref01_Add_goes k r1214 r139 r1217 r1312) (ho := rfl) (hfn := Try.func22) (hb := rfl) (hconv := ConvRs.refl _ _) (hnd := by decide) (hBl := fun _ => (by kernel_rfl)) (hv := fun _ => (by kernel_rfl)) (hH' := fun _ => (by kernel_rfl)) (h := fun r => ?_)
             obtain ⟨r183, r192, r1102⟩ := r
             refine bUc ?_
             refine bUc ?_
             refine oP (.tuple [.agg [.d (.int .i64 r183), .d (.int .i64 r192)], .d (.int .i64 r1102)]) p_move ?_
             refine oP (.agg [.d (.int .i64 r183), .d (.int .i64 r192)]) k_extract ?_
             refine oP (.d (.int .i64 r1102)) k_extract ?_
             refine oD (.ptr 12 0) (k_alloc (H' := [.box [.d (.lit (List.map e_i64 r1210))], .box [.d (.lit (List.map e_i64 r1211))], .box [.d (.lit (List.map e_SPoint r1110))], .box [.d (.lit (List.map e_SPoint r1213))], .box [.d (.int .i64 r1214), .d (.int .i64 r139)], .box [.d (.int .i64 r1215), .d (.int .i64 r1310)], .box [.d (.int .i64 r113), .d (.int .i64 r133)], .box [.d (.int .i64 r114), .d (.int .i64 r134)], .box [.d (.int .i64 r130), .d (.int .i64 r1112)], .box [.d (.int .i64 r1217), .d (.int .i64 r1312)], .box [.d (.int .i64 r1218), .d (.int .i64 r1313)], .box [.d (.int .i64 r1113), .d (.int .i64 r1314)], .box [.d (.int .i64 0), .d (.int .i64 0)]]) ty38) ?_
             refine oD (.undef) (k_store (vs := [.d (.int .i64 r183), .d (.int .i64 r192)]) (H' := [.box [.d (.lit (List.map e_i64 r1210))], .box [.d (.lit (List.map e_i64 r1211))], .box [.d (.lit (List.map e_SPoint r1110))], .box [.d (.lit (List.map e_SPoint r1213))], .box [.d (.int .i64 r1214), .d (.int .i64 r139)], .box [.d (.int .i64 r1215), .d (.int .i64 r1310)], .box [.d (.int .i64 r113), .d (.int .i64 r133)], .box [.d (.int .i64 r114), .d (.int .i64 r134)], .box [.d (.int .i64 r130), .d (.int .i64 r1112)], .box [.d (.int .i64 r1217), .d (.int .i64 r1312)], .box [.d (.int .i64 r1218), .d (.int .i64 r1313)], .box [.d (.int .i64 r1113), .d (.int .i64 r1314)], .box [.d (.int .i64 r183), .d (.int .i64 r192)]]) 12 0 (hi := ty38)) ?_
             refine oP (.d (.int .i64 r1102)) p_assign ?_
             refine oEnd ?_
             refine oSR rfl ?_
             refine oQ (.agg [.d (.lit (List.map e_SPoint r1213))]) (k_loadAgg 3 0 (hu := Try.underlying32) (hi := ty32)) ?_
             refine oQ (.agg [.d (.int .i64 r183), .d (.int .i64 r192)]) (k_loadAgg 12 0 (hu := Try.underlying38) (hi := ty38)) ?_
             refine bCall (caps := []) (v := (uc fun (r1114 : Int) => (uc fun (r1315 : Int) => (fun (r1415 : Int) => (.tuple [.agg [.d (.int .i64 r1114), .d (.int .i64 r1315)], .d (.int .i64 r1415)] : V))))) (H' := (uc fun (r1114 : Int) => (uc fun (r1315 : Int) => (fun (r1415 : Int) => ([.box [.d (.lit (List.map e_i64 r1210))], .box [.d (.lit (List.map e_i64 r1211))], .box [.d (.lit (List.map e_SPoint r1110))], .box [.d (.lit (List.map e_SPoint r1213))], .box [.d (.int .i64 r1214), .d (.int .i64 r139)], .box [.d (.int .i64 r1215), .d (.int .i64 r1310)], .box [.d (.int .i64 r113), .d (.int .i64 r133)], .box [.d (.int .i64 r114), .d (.int .i64 r134)], .box [.d (.int .i64 r130), .d (.int .i64 r1112)], .box [.d (.int .i64 r1217), .d (.int .i64 r1312)], .box [.d (.int .i64 r1218), .d (.int .i64 r1313)], .box [.d (.int .i64 r1113), .d (.int .i64 r1314)], .box [.d (.int .i64 r183), .d (.int .i64 r192)]] : List Blk))))) [] _ (conversion_Eval_goes k r1213 r183 r192) (ho := rfl) (hfn := Try.func14) (hb := rfl) (hconv := ConvRs.refl _ _) (hnd := by decide) (hBl := fun _ => (by kernel_rfl)) (hv := fun _ => (by kernel_rfl)) (hH' := fun _ => (by kernel_rfl)) (h := fun r => ?_)
             obtain ⟨r1114, r1315, r1415⟩ := r
             refine bUc ?_
             refine bUc ?_
             refine oP (.tuple [.agg [.d (.int .i64 r1114), .d (.int .i64 r1315)], .d (.int .i64 r1415)]) p_move ?_
             refine oP (.agg [.d (.int .i64 r1114), .d (.int .i64 r1315)]) k_extract ?_
             refine oP (.d (.int .i64 r1415)) k_extract ?_
             refine oD (.ptr 13 0) (k_alloc (H' := [.box [.d (.lit (List.map e_i64 r1210))], .box [.d (.lit (List.map e_i64 r1211))], .box [.d (.lit (List.map e_SPoint r1110))], .box [.d (.lit (List.map e_SPoint r1213))], .box [.d (.int .i64 r1214), .d (.int .i64 r139)], .box [.d (.int .i64 r1215), .d (.int .i64 r1310)], .box [.d (.int .i64 r113), .d (.int .i64 r133)], .box [.d (.int .i64 r114), .d (.int .i64 r134)], .box [.d (.int .i64 r130), .d (.int .i64 r1112)], .box [.d (.int .i64 r1217), .d (.int .i64 r1312)], .box [.d (.int .i64 r1218), .d (.int .i64 r1313)], .box [.d (.int .i64 r1113), .d (.int .i64 r1314)], .box [.d (.int .i64 r183), .d (.int .i64 r192)], .box [.d (.int .i64 0), .d (.int .i64 0)]]) ty38) ?_
             refine oD (.undef) (k_store (vs := [.d (.int .i64 r1114), .d (.int .i64 r1315)]) (H' := [.box [.d (.lit (List.map e_i64 r1210))], .box [.d (.lit (List.map e_i64 r1211))], .box [.d (.lit (List.map e_SPoint r1110))], .box [.d (.lit (List.map e_SPoint r1213))], .box [.d (.int .i64 r1214), .d (.int .i64 r139)], .box [.d (.int .i64 r1215), .d (.int .i64 r1310)], .box [.d (.int .i64 r113), .d (.int .i64 r133)], .box [.d (.int .i64 r114), .d (.int .i64 r134)], .box [.d (.int .i64 r130), .d (.int .i64 r1112)], .box [.d (.int .i64 r1217), .d (.int .i64 r1312)], .box [.d (.int .i64 r1218), .d (.int .i64 r1313)], .box [.d (.int .i64 r1113), .d (.int .i64 r1314)], .box [.d (.int .i64 r183), .d (.int .i64 r192)], .box [.d (.int .i64 r1114), .d (.int .i64 r1315)]]) 13 0 (hi := ty38)) ?_
             refine oP (.d (.int .i64 r1415)) p_assign ?_
             refine oEnd ?_
             refine oSR rfl ?_
             refine oQ (.agg [.d (.int .i64 r1215), .d (.int .i64 r1310)]) (k_loadAgg 5 0 (hu := Try.underlying38) (hi := ty38)) ?_
             refine oQ (.agg [.d (.int .i64 r1218), .d (.int .i64 r1313)]) (k_loadAgg 10 0 (hu := Try.underlying38) (hi := ty38)) ?_
             refine bCall (caps := []) (v := (uc fun (r184 : Int) => (uc fun (r193 : Int) => (fun (r1103 : Int) => (.tuple [.agg [.d (.int .i64 r184), .d (.int .i64 r193)], .d (.int .i64 r1103)] : V))))) (H' := (uc fun (r184 : Int) => (uc fun (r193 : Int) => (fun (r1103 : Int) => ([.box [.d (.lit (List.map e_i64 r1210))], .box [.d (.lit (List.map e_i64 r1211))], .box [.d (.lit (List.map e_SPoint r1110))], .box [.d (.lit (List.map e_SPoint r1213))], .box [.d (.int .i64 r1214), .d (.int .i64 r139)], .box [.d (.int .i64 r1215), .d (.int .i64 r1310)], .box [.d (.int .i64 r113), .d (.int .i64 r133)], .box [.d (.int .i64 r114), .d (.int .i64 r134)], .box [.d (.int .i64 r130), .d (.int .i64 r1112)], .box [.d (.int .i64 r1217), .d (.int .i64 r1312)], .box [.d (.int .i64 r1218), .d (.int .i64 r1313)], .box [.d (.int .i64 r1113), .d (.int .i64 r1314)], .box [.d (.int .i64 r183), .d (.int .i64 r192)], .box [.d (.int .i64 r1114), .d (.int .i64 r1315)]] : List Blk))))) [] _ (ref01_Add_goes k r1215 r1310 r1218 r1313) (ho := rfl) (hfn := Try.func22) (hb := rfl) (hconv := ConvRs.refl _ _) (hnd := by decide) (hBl := fun _ => (by kernel_rfl)) (hv := fun _ => (by kernel_rfl)) (hH' := fun _ => (by kernel_rfl)) (h := fun r => ?_)
             obtain ⟨r184, r193, r1103⟩ := r
             refine bUc ?_
             refine bUc ?_
             refine oP (.tuple [.agg [.d (.int .i64 r184), .d (.int .i64 r193)], .d (.int .i64 r1103)]) p_move ?_
             refine oP (.agg [.d (.int .i64 r184), .d (.int .i64 r193)]) k_extract ?_
             refine oP (.d (.int .i64 r1103)) k_extract ?_
             refine oD (.ptr 14 0) (k_alloc (H' := [.box [.d (.lit (List.map e_i64 r1210))], .box [.d (.lit (List.map e_i64 r1211))], .box [.d (.lit (List.map e_SPoint r1110))], .box [.d (.lit (List.map e_SPoint r1213))], .box [.d (.int .i64 r1214), .d (.int .i64 r139)], .box [.d (.int .i64 r1215), .d (.int .i64 r1310)], .box [.d (.int .i64 r113), .d (.int .i64 r133)], .box [.d (.int .i64 r114), .d (.int .i64 r134)], .box [.d (.int .i64 r130), .d (.int .i64 r1112)], .box [.d (.int .i64 r1217), .d (.int .i64 r1312)], .box [.d (.int .i64 r1218), .d (.int .i64 r1313)], .box [.d (.int .i64 r1113), .d (.int .i64 r1314)], .box [.d (.int .i64 r183), .d (.int .i64 r192)], .box [.d (.int .i64 r1114), .d (.int .i64 r1315)], .box [.d (.int .i64 0), .d (.int .i64 0)]]) ty38) ?_
             refine oD (.undef) (k_store (vs := [.d (.int .i64 r184), .d (.int .i64 r193)]) (H' := [.box [.d (.lit (List.map e_i64 r1210))], .box [.d (.lit (List.map e_i64 r1211))], .box [.d (.lit (List.map e_SPoint r1110))], .box [.d (.lit (List.map e_SPoint r1213))], .box [.d (.int .i64 r1214), .d (.int .i64 r139)], .box [.d (.int .i64 r1215), .d (.int .i64 r1310)], .box [.d (.int .i64 r113), .d (.int .i64 r133)], .box [.d (.int .i64 r114), .d (.int .i64 r134)], .box [.d (.int .i64 r130), .d (.int .i64 r1112)], .box [.d (.int .i64 r1217), .d (.int .i64 r1312)], .box [.d (.int .i64 r1218), .d (.int .i64 r1313)], .box [.d (.int .i64 r1113), .d (.int .i64 r1314)], .box [.d (.int .i64 r183), .d (.int .i64 r192)], .box [.d (.int .i64 r1114), .d (.int .i64 r1315)], .box [.d (.int .i64 r184), .d (.int .i64 r193)]]) 14 0 (hi := ty38)) ?_
             refine oP (.d (.int .i64 r1103)) p_assign ?_
             refine oEnd ?_
             refine oSR rfl ?_
             refine oP (.d (.int .i64 r1412)) p_move ?_
             refine oP (.d (.bool (r1412 == 0))) (p_int (k := .i64) (p := r1412) (q := 0)) ?_
             refine oP (.d (.bool (r1412 == 0))) p_move ?_
             refine bMeetF (H' := [.box [.d (.int .i64 r1215), .d (.int .i64 r1310)], .box [.d (.int .i64 r1113), .d (.int .i64 r1314)], .box [.d (.int .i64 r1114), .d (.int .i64 r1315)], .box [.d (.int .i64 r184), .d (.int .i64 r193)]]) 3 rfl ((fun (x33 : Bool) => [(12, .ptr 0 0), (26, .ptr 1 0), (27, .d (.int .i64 r1414)), (29, .d (.int .i64 r1102)), (30, .ptr 2 0), (31, .d (.int .i64 r1415)), (32, .ptr 3 0), (33, .d (.int .i64 r1103)), (170, .d (.bool x33))])) (fun x33 => ?_) (fun F hj12 => ?_)
             ·refine oView (T' := [(12, .ptr 0 0), (26, .ptr 1 0), (27, .d (.int .i64 r1414)), (29, .d (.int .i64 r1102)), (30, .ptr 2 0), (31, .d (.int .i64 r1415)), (32, .ptr 3 0), (33, .d (.int .i64 r1103)), (170, .d (.bool x33))]) (H' := [.box [.d (.int .i64 r1215), .d (.int .i64 r1310)], .box [.d (.int .i64 r1113), .d (.int .i64 r1314)], .box [.d (.int .i64 r1114), .d (.int .i64 r1315)], .box [.d (.int .i64 r184), .d (.int .i64 r193)]]) (h := ?_)
              refine oP (.d (.bool x33)) p_move ?_
              refine bMeetF (H' := [.box [.d (.int .i64 r1215), .d (.int .i64 r1310)], .box [.d (.int .i64 r1113), .d (.int .i64 r1314)], .box [.d (.int .i64 r1114), .d (.int .i64 r1315)], .box [.d (.int .i64 r184), .d (.int .i64 r193)]]) 3 rfl ((fun (x34 : Bool) => [(12, .ptr 0 0), (26, .ptr 1 0), (29, .d (.int .i64 r1102)), (30, .ptr 2 0), (31, .d (.int .i64 r1415)), (32, .ptr 3 0), (33, .d (.int .i64 r1103)), (174, .d (.bool x34))])) (fun x34 => ?_) (fun F hj13 => ?_)
              ·refine oView (T' := [(12, .ptr 0 0), (26, .ptr 1 0), (29, .d (.int .i64 r1102)), (30, .ptr 2 0), (31, .d (.int .i64 r1415)), (32, .ptr 3 0), (33, .d (.int .i64 r1103)), (174, .d (.bool x34))]) (H' := [.box [.d (.int .i64 r1215), .d (.int .i64 r1310)], .box [.d (.int .i64 r1113), .d (.int .i64 r1314)], .box [.d (.int .i64 r1114), .d (.int .i64 r1315)], .box [.d (.int .i64 r184), .d (.int .i64 r193)]]) (h := ?_)
               refine oP (.d (.bool x34)) p_move ?_
               refine bMeetF (H' := [.box [.d (.int .i64 r1215), .d (.int .i64 r1310)], .box [.d (.int .i64 r1113), .d (.int .i64 r1314)], .box [.d (.int .i64 r1114), .d (.int .i64 r1315)], .box [.d (.int .i64 r184), .d (.int .i64 r193)]]) 3 rfl ((fun (x35 : Bool) => [(12, .ptr 0 0), (26, .ptr 1 0), (30, .ptr 2 0), (31, .d (.int .i64 r1415)), (32, .ptr 3 0), (33, .d (.int .i64 r1103)), (178, .d (.bool x35))])) (fun x35 => ?_) (fun F hj14 => ?_)
               ·refine oView (T' := [(12, .ptr 0 0), (26, .ptr 1 0), (30, .ptr 2 0), (31, .d (.int .i64 r1415)), (32, .ptr 3 0), (33, .d (.int .i64 r1103)), (178, .d (.bool x35))]) (H' := [.box [.d (.int .i64 r1215), .d (.int .i64 r1310)], .box [.d (.int .i64 r1113), .d (.int .i64 r1314)], .box [.d (.int .i64 r1114), .d (.int .i64 r1315)], .box [.d (.int .i64 r184), .d (.int .i64 r193)]]) (h := ?_)
                refine oP (.d (.bool x35)) p_move ?_
                refine bMeetF (H' := [.box [.d (.int .i64 r1215), .d (.int .i64 r1310)], .box [.d (.int .i64 r1113), .d (.int .i64 r1314)], .box [.d (.int .i64 r1114), .d (.int .i64 r1315)], .box [.d (.int .i64 r184), .d (.int .i64 r193)]]) 3 rfl ((fun (x36 : Bool) => [(12, .ptr 0 0), (26, .ptr 1 0), (30, .ptr 2 0), (32, .ptr 3 0), (33, .d (.int .i64 r1103)), (182, .d (.bool x36))])) (fun x36 => ?_) (fun F hj15 => ?_)
                ·refine oView (T' := [(12, .ptr 0 0), (26, .ptr 1 0), (30, .ptr 2 0), (32, .ptr 3 0), (33, .d (.int .i64 r1103)), (182, .d (.bool x36))]) (H' := [.box [.d (.int .i64 r1215), .d (.int .i64 r1310)], .box [.d (.int .i64 r1113), .d (.int .i64 r1314)], .box [.d (.int .i64 r1114), .d (.int .i64 r1315)], .box [.d (.int .i64 r184), .d (.int .i64 r193)]]) (h := ?_)
                 refine oP (.d (.bool x36)) p_move ?_
                 refine bMeetF (H' := [.box [.d (.int .i64 r1215), .d (.int .i64 r1310)], .box [.d (.int .i64 r1113), .d (.int .i64 r1314)], .box [.d (.int .i64 r1114), .d (.int .i64 r1315)], .box [.d (.int .i64 r184), .d (.int .i64 r193)]]) 3 rfl ((fun (x37 : Bool) => [(12, .ptr 0 0), (26, .ptr 1 0), (30, .ptr 2 0), (32, .ptr 3 0), (186, .d (.bool x37))])) (fun x37 => ?_) (fun F hj16 => ?_)
                 ·refine oView (T' := [(12, .ptr 0 0), (26, .ptr 1 0), (30, .ptr 2 0), (32, .ptr 3 0), (186, .d (.bool x37))]) (H' := [.box [.d (.int .i64 r1215), .d (.int .i64 r1310)], .box [.d (.int .i64 r1113), .d (.int .i64 r1314)], .box [.d (.int .i64 r1114), .d (.int .i64 r1315)], .box [.d (.int .i64 r184), .d (.int .i64 r193)]]) (h := ?_)
                  refine oP (.d (.bool x37)) p_move ?_
                  refine bMeetF (H' := [.box [.d (.int .i64 r1114), .d (.int .i64 r1315)], .box [.d (.int .i64 r184), .d (.int .i64 r193)]]) 4 rfl ((fun (x38 : Bool) => [(30, .ptr 0 0), (32, .ptr 1 0), (191, .d (.bool x38))])) (fun x38 => ?_) (fun F hj17 => ?_)
                  ·refine oView (T' := [(30, .ptr 0 0), (32, .ptr 1 0), (191, .d (.bool x38))]) (H' := [.box [.d (.int .i64 r1114), .d (.int .i64 r1315)], .box [.d (.int .i64 r184), .d (.int .i64 r193)]]) (h := ?_)
                   refine oP (.d (.bool x38)) p_move ?_
                   refine bMeetF (H' := []) 4 rfl ((fun (x39 : Bool) => [(196, .d (.bool x39))])) (fun x39 => ?_) (fun F hj18 => ?_)
                   ·refine oView (T' := [(196, .d (.bool x39))]) (H' := []) (h := ?_)
                    refine oP (.d (.bool x39)) p_move ?_
                    refine bMeet 2 rfl ((fun (x40 : Bool) => [(199, .d (.bool x40))])) ((fun (x40 : Bool) => [])) (fun s => s) (fun x40 => ?_) (fun hj19 => ?_)
                    ·refine oView (T' := [(199, .d (.bool x40))]) (H' := []) (h := ?_)
                     refine oP (.d (.bool x40)) p_assign ?_
                     refine oEnd ?_
                     exact oRet (r0 := x40) (rv := .d (.bool x40)) (B := []) (vs := [.d (.bool x40)]) (σ := []) (hf := Try.func4) (hrs := rfl) (hres := .cons _ _ _ _ (.tmp 2 _ (by kernel_rfl)) .nil) (hnd := by decide)
                    ·refine bSplit 197 (h1 := fun hc => ?_) (h2 := fun hc => ?_)
                     ·refine bCall (caps := []) (v := (fun (r153 : Bool) => (.d (.bool r153) : V))) (H' := (fun (r153 : Bool) => ([] : List Blk))) [] _ (law34_sane_goes k) (ho := rfl) (hfn := Try.func8) (hb := rfl) (hconv := ConvRs.refl _ _) (hnd := by decide) (hBl := fun _ => (by kernel_rfl)) (hv := fun _ => (by kernel_rfl)) (hH' := fun _ => (by kernel_rfl)) (h := fun r153 => ?_)
                      refine oP (.d (.bool r153)) (p_pick (b := true)) ?_
                      refine oHead [199] [] (T' := [(199, .d (.bool r153))]) (H' := []) (hnd := by decide) (h := ?_)
                      exact hj19 r153
                     ·refine oNot (h := ?_)
                      refine oP (.d (.bool false)) (p_pick (b := false)) ?_
                      refine oHead [199] [] (T' := [(199, .d (.bool false))]) (H' := []) (hnd := by decide) (h := ?_)
                      exact hj19 false
                   ·refine bPickF 192 (fun c => F (c && ((r1114 == r184) && ((r1315 == r193) && true)))) (h1 := fun hc => ?_) (h2 := fun hc => ?_)
                    ·refine oQ (.agg [.d (.int .i64 r1114), .d (.int .i64 r1315)]) (k_loadAgg 0 0 (hu := Try.underlying38) (hi := ty38)) ?_
                     refine oQ (.agg [.d (.int .i64 r184), .d (.int .i64 r193)]) (k_loadAgg 1 0 (hu := Try.underlying38) (hi := ty38)) ?_
                     refine oP (.d (.bool ((r1114 == r184) && ((r1315 == r193) && true)))) (k_eqAgg (hg := Try.eqGuardType38) (h := EqV.struct 1 38 [.d (.int .i64 r1114), .d (.int .i64 r1315)] [.d (.int .i64 r184), .d (.int .i64 r193)] _ ((r1114 == r184) && ((r1315 == r193) && true)) Try.underlying38 Try.stoodInHeld38 (EqF.one 1 1 _ _ _ _ _ _ _ (r1114 == r184) ((r1315 == r193) && true) (by kernel_rfl) Try.underlying3 (by kernel_rfl) (by kernel_rfl) (by kernel_rfl) (by kernel_rfl) (EqV.int 3 .i64 .i64 r1114 r184 Try.underlying3) (EqF.one 1 1 _ _ _ _ _ _ _ (r1315 == r193) true (by kernel_rfl) Try.underlying3 (by kernel_rfl) (by kernel_rfl) (by kernel_rfl) (by kernel_rfl) (EqV.int 3 .i64 .i64 r1315 r193 Try.underlying3) (EqF.nil 1 _ _))))) ?_
                     refine oP (.d (.bool ((r1114 == r184) && ((r1315 == r193) && true)))) (p_pick (b := true)) ?_
                     refine oHead [196] [] (T' := [(196, .d (.bool ((r1114 == r184) && ((r1315 == r193) && true))))]) (H' := []) (hnd := by decide) (h := ?_)
                     exact hj18 ((r1114 == r184) && ((r1315 == r193) && true))
                    ·refine oNot (h := ?_)
                     refine oNot (h := ?_)
                     refine oNot (h := ?_)
                     refine oP (.d (.bool false)) (p_pick (b := false)) ?_
                     refine oHead [196] [] (T' := [(196, .d (.bool false))]) (H' := []) (hnd := by decide) (h := ?_)
                     exact hj18 false
                  ·refine bPickF 187 (fun c => F (c && ((r1113 == r1215) && ((r1314 == r1310) && true)))) (h1 := fun hc => ?_) (h2 := fun hc => ?_)
                   ·refine oQ (.agg [.d (.int .i64 r1113), .d (.int .i64 r1314)]) (k_loadAgg 1 0 (hu := Try.underlying38) (hi := ty38)) ?_
                    refine oQ (.agg [.d (.int .i64 r1215), .d (.int .i64 r1310)]) (k_loadAgg 0 0 (hu := Try.underlying38) (hi := ty38)) ?_
                    refine oP (.d (.bool ((r1113 == r1215) && ((r1314 == r1310) && true)))) (k_eqAgg (hg := Try.eqGuardType38) (h := EqV.struct 1 38 [.d (.int .i64 r1113), .d (.int .i64 r1314)] [.d (.int .i64 r1215), .d (.int .i64 r1310)] _ ((r1113 == r1215) && ((r1314 == r1310) && true)) Try.underlying38 Try.stoodInHeld38 (EqF.one 1 1 _ _ _ _ _ _ _ (r1113 == r1215) ((r1314 == r1310) && true) (by kernel_rfl) Try.underlying3 (by kernel_rfl) (by kernel_rfl) (by kernel_rfl) (by kernel_rfl) (EqV.int 3 .i64 .i64 r1113 r1215 Try.underlying3) (EqF.one 1 1 _ _ _ _ _ _ _ (r1314 == r1310) true (by kernel_rfl) Try.underlying3 (by kernel_rfl) (by kernel_rfl) (by kernel_rfl) (by kernel_rfl) (EqV.int 3 .i64 .i64 r1314 r1310 Try.underlying3) (EqF.nil 1 _ _))))) ?_
                    refine oP (.d (.bool ((r1113 == r1215) && ((r1314 == r1310) && true)))) (p_pick (b := true)) ?_
                    refine oHead [30, 32, 191] [2, 3] (T' := [(30, .ptr 0 0), (32, .ptr 1 0), (191, .d (.bool ((r1113 == r1215) && ((r1314 == r1310) && true))))]) (H' := [.box [.d (.int .i64 r1114), .d (.int .i64 r1315)], .box [.d (.int .i64 r184), .d (.int .i64 r193)]]) (hnd := by decide) (h := ?_)
                    exact hj17 ((r1113 == r1215) && ((r1314 == r1310) && true))
                   ·refine oNot (h := ?_)
                    refine oNot (h := ?_)
                    refine oNot (h := ?_)
                    refine oP (.d (.bool false)) (p_pick (b := false)) ?_
                    refine oHead [30, 32, 191] [2, 3] (T' := [(30, .ptr 0 0), (32, .ptr 1 0), (191, .d (.bool false))]) (H' := [.box [.d (.int .i64 r1114), .d (.int .i64 r1315)], .box [.d (.int .i64 r184), .d (.int .i64 r193)]]) (hnd := by decide) (h := ?_)
                    exact hj17 false
                 ·refine bPickF 183 (fun c => F (c && (r1103 == 0))) (h1 := fun hc => ?_) (h2 := fun hc => ?_)
                  ·refine oP (.d (.int .i64 r1103)) p_move ?_
                   refine oP (.d (.bool (r1103 == 0))) (p_int (k := .i64) (p := r1103) (q := 0)) ?_
                   refine oP (.d (.bool (r1103 == 0))) (p_pick (b := true)) ?_
                   refine oHead [12, 26, 30, 32, 186] [0, 1, 2, 3] (T' := [(12, .ptr 0 0), (26, .ptr 1 0), (30, .ptr 2 0), (32, .ptr 3 0), (186, .d (.bool (r1103 == 0)))]) (H' := [.box [.d (.int .i64 r1215), .d (.int .i64 r1310)], .box [.d (.int .i64 r1113), .d (.int .i64 r1314)], .box [.d (.int .i64 r1114), .d (.int .i64 r1315)], .box [.d (.int .i64 r184), .d (.int .i64 r193)]]) (hnd := by decide) (h := ?_)
                   exact hj16 (r1103 == 0)
                  ·refine oNot (h := ?_)
                   refine oNot (h := ?_)
                   refine oP (.d (.bool false)) (p_pick (b := false)) ?_
                   refine oHead [12, 26, 30, 32, 186] [0, 1, 2, 3] (T' := [(12, .ptr 0 0), (26, .ptr 1 0), (30, .ptr 2 0), (32, .ptr 3 0), (186, .d (.bool false))]) (H' := [.box [.d (.int .i64 r1215), .d (.int .i64 r1310)], .box [.d (.int .i64 r1113), .d (.int .i64 r1314)], .box [.d (.int .i64 r1114), .d (.int .i64 r1315)], .box [.d (.int .i64 r184), .d (.int .i64 r193)]]) (hnd := by decide) (h := ?_)
                   exact hj16 false
                ·refine bPickF 179 (fun c => F (c && (r1415 == 0))) (h1 := fun hc => ?_) (h2 := fun hc => ?_)
                 ·refine oP (.d (.int .i64 r1415)) p_move ?_
                  refine oP (.d (.bool (r1415 == 0))) (p_int (k := .i64) (p := r1415) (q := 0)) ?_
                  refine oP (.d (.bool (r1415 == 0))) (p_pick (b := true)) ?_
                  refine oHead [12, 26, 30, 32, 33, 182] [0, 1, 2, 3] (T' := [(12, .ptr 0 0), (26, .ptr 1 0), (30, .ptr 2 0), (32, .ptr 3 0), (33, .d (.int .i64 r1103)), (182, .d (.bool (r1415 == 0)))]) (H' := [.box [.d (.int .i64 r1215), .d (.int .i64 r1310)], .box [.d (.int .i64 r1113), .d (.int .i64 r1314)], .box [.d (.int .i64 r1114), .d (.int .i64 r1315)], .box [.d (.int .i64 r184), .d (.int .i64 r193)]]) (hnd := by decide) (h := ?_)
                  exact hj15 (r1415 == 0)
                 ·refine oNot (h := ?_)
                  refine oNot (h := ?_)
                  refine oP (.d (.bool false)) (p_pick (b := false)) ?_
                  refine oHead [12, 26, 30, 32, 33, 182] [0, 1, 2, 3] (T' := [(12, .ptr 0 0), (26, .ptr 1 0), (30, .ptr 2 0), (32, .ptr 3 0), (33, .d (.int .i64 r1103)), (182, .d (.bool false))]) (H' := [.box [.d (.int .i64 r1215), .d (.int .i64 r1310)], .box [.d (.int .i64 r1113), .d (.int .i64 r1314)], .box [.d (.int .i64 r1114), .d (.int .i64 r1315)], .box [.d (.int .i64 r184), .d (.int .i64 r193)]]) (hnd := by decide) (h := ?_)
                  exact hj15 false
               ·refine bPickF 175 (fun c => F (c && (r1102 == 0))) (h1 := fun hc => ?_) (h2 := fun hc => ?_)
                ·refine oP (.d (.int .i64 r1102)) p_move ?_
                 refine oP (.d (.bool (r1102 == 0))) (p_int (k := .i64) (p := r1102) (q := 0)) ?_
                 refine oP (.d (.bool (r1102 == 0))) (p_pick (b := true)) ?_
                 refine oHead [12, 26, 30, 31, 32, 33, 178] [0, 1, 2, 3] (T' := [(12, .ptr 0 0), (26, .ptr 1 0), (30, .ptr 2 0), (31, .d (.int .i64 r1415)), (32, .ptr 3 0), (33, .d (.int .i64 r1103)), (178, .d (.bool (r1102 == 0)))]) (H' := [.box [.d (.int .i64 r1215), .d (.int .i64 r1310)], .box [.d (.int .i64 r1113), .d (.int .i64 r1314)], .box [.d (.int .i64 r1114), .d (.int .i64 r1315)], .box [.d (.int .i64 r184), .d (.int .i64 r193)]]) (hnd := by decide) (h := ?_)
                 exact hj14 (r1102 == 0)
                ·refine oNot (h := ?_)
                 refine oNot (h := ?_)
                 refine oP (.d (.bool false)) (p_pick (b := false)) ?_
                 refine oHead [12, 26, 30, 31, 32, 33, 178] [0, 1, 2, 3] (T' := [(12, .ptr 0 0), (26, .ptr 1 0), (30, .ptr 2 0), (31, .d (.int .i64 r1415)), (32, .ptr 3 0), (33, .d (.int .i64 r1103)), (178, .d (.bool false))]) (H' := [.box [.d (.int .i64 r1215), .d (.int .i64 r1310)], .box [.d (.int .i64 r1113), .d (.int .i64 r1314)], .box [.d (.int .i64 r1114), .d (.int .i64 r1315)], .box [.d (.int .i64 r184), .d (.int .i64 r193)]]) (hnd := by decide) (h := ?_)
                 exact hj14 false
              ·refine bPickF 171 (fun c => F (c && (r1414 == 0))) (h1 := fun hc => ?_) (h2 := fun hc => ?_)
               ·refine oP (.d (.int .i64 r1414)) p_move ?_
                refine oP (.d (.bool (r1414 == 0))) (p_int (k := .i64) (p := r1414) (q := 0)) ?_
                refine oP (.d (.bool (r1414 == 0))) (p_pick (b := true)) ?_
                refine oHead [12, 26, 29, 30, 31, 32, 33, 174] [0, 1, 2, 3] (T' := [(12, .ptr 0 0), (26, .ptr 1 0), (29, .d (.int .i64 r1102)), (30, .ptr 2 0), (31, .d (.int .i64 r1415)), (32, .ptr 3 0), (33, .d (.int .i64 r1103)), (174, .d (.bool (r1414 == 0)))]) (H' := [.box [.d (.int .i64 r1215), .d (.int .i64 r1310)], .box [.d (.int .i64 r1113), .d (.int .i64 r1314)], .box [.d (.int .i64 r1114), .d (.int .i64 r1315)], .box [.d (.int .i64 r184), .d (.int .i64 r193)]]) (hnd := by decide) (h := ?_)
                exact hj13 (r1414 == 0)
               ·refine oNot (h := ?_)
                refine oNot (h := ?_)
                refine oP (.d (.bool false)) (p_pick (b := false)) ?_
                refine oHead [12, 26, 29, 30, 31, 32, 33, 174] [0, 1, 2, 3] (T' := [(12, .ptr 0 0), (26, .ptr 1 0), (29, .d (.int .i64 r1102)), (30, .ptr 2 0), (31, .d (.int .i64 r1415)), (32, .ptr 3 0), (33, .d (.int .i64 r1103)), (174, .d (.bool false))]) (H' := [.box [.d (.int .i64 r1215), .d (.int .i64 r1310)], .box [.d (.int .i64 r1113), .d (.int .i64 r1314)], .box [.d (.int .i64 r1114), .d (.int .i64 r1315)], .box [.d (.int .i64 r184), .d (.int .i64 r193)]]) (hnd := by decide) (h := ?_)
                exact hj13 false
             ·refine bPickF 167 (fun c => F (c && (r1413 == 0))) (h1 := fun hc => ?_) (h2 := fun hc => ?_)
              ·refine oP (.d (.int .i64 r1413)) p_move ?_
               refine oP (.d (.bool (r1413 == 0))) (p_int (k := .i64) (p := r1413) (q := 0)) ?_
               refine oP (.d (.bool (r1413 == 0))) (p_pick (b := true)) ?_
               refine oHead [12, 26, 27, 29, 30, 31, 32, 33, 170] [5, 11, 13, 14] (T' := [(12, .ptr 0 0), (26, .ptr 1 0), (27, .d (.int .i64 r1414)), (29, .d (.int .i64 r1102)), (30, .ptr 2 0), (31, .d (.int .i64 r1415)), (32, .ptr 3 0), (33, .d (.int .i64 r1103)), (170, .d (.bool (r1413 == 0)))]) (H' := [.box [.d (.int .i64 r1215), .d (.int .i64 r1310)], .box [.d (.int .i64 r1113), .d (.int .i64 r1314)], .box [.d (.int .i64 r1114), .d (.int .i64 r1315)], .box [.d (.int .i64 r184), .d (.int .i64 r193)]]) (hnd := by decide) (h := ?_)
               exact hj12 (r1413 == 0)
              ·refine oNot (h := ?_)
               refine oNot (h := ?_)
               refine oP (.d (.bool false)) (p_pick (b := false)) ?_
               refine oHead [12, 26, 27, 29, 30, 31, 32, 33, 170] [5, 11, 13, 14] (T' := [(12, .ptr 0 0), (26, .ptr 1 0), (27, .d (.int .i64 r1414)), (29, .d (.int .i64 r1102)), (30, .ptr 2 0), (31, .d (.int .i64 r1415)), (32, .ptr 3 0), (33, .d (.int .i64 r1103)), (170, .d (.bool false))]) (H' := [.box [.d (.int .i64 r1215), .d (.int .i64 r1310)], .box [.d (.int .i64 r1113), .d (.int .i64 r1314)], .box [.d (.int .i64 r1114), .d (.int .i64 r1315)], .box [.d (.int .i64 r184), .d (.int .i64 r193)]]) (hnd := by decide) (h := ?_)
               exact hj12 false
          ·refine dSplit 119 (h1 := fun hc => ?_) (h2 := fun hc => ?_)
           ·refine aTakeNot (i := 11) rfl (h := ?_)
            refine aTakeNot (i := 12) rfl (h := ?_)
            refine aTakeNot (i := 13) rfl (h := ?_)
            refine aP 14 (.d (.bool true)) rfl (p_pick (b := true)) ?_
            refine dDrop [4, 5, 8, 9, 10, 12, 123] [4, 5, 8, 9, 10, 12, 123] (T' := [(4, .ptr 0 0), (5, .ptr 1 0), (8, .ptr 3 0), (9, .d (.int .i64 r171)), (10, .ptr 4 0), (12, .ptr 5 0), (123, .d (.bool true))]) (U' := [(4, .ptr 0 0), (5, .ptr 1 0), (8, .ptr 3 0), (9, .d (.int .i64 r171)), (10, .ptr 4 0), (12, .ptr 5 0), (123, .d (.bool true))]) (h := ?_)
            exact hj10 true
           ·refine aQ 11 [8] (.agg [.d (.int .i64 r130), .d (.int .i64 r1112)]) rfl (k_loadAgg 8 0 (hu := Try.underlying38) (hi := ty38)) ?_
            refine dCall (i := 12) (caps := []) (v := (u0 ((.agg [.d (.int .i64 1), .d (.int .i64 1)] : V)))) (H' := (u0 (([.box [.d (.lit (List.map e_i64 r1210))], .box [.d (.lit (List.map e_i64 r1211))], .box [.d (.lit (List.map e_SPoint r1110))], .box [.d (.lit (List.map e_SPoint r1213))], .box [.d (.int .i64 r1214), .d (.int .i64 r139)], .box [.d (.int .i64 r1215), .d (.int .i64 r1310)], .box [.d (.int .i64 r113), .d (.int .i64 r133)], .box [.d (.int .i64 r114), .d (.int .i64 r134)], .box [.d (.int .i64 r130), .d (.int .i64 r1112)]] : List Blk)))) [] _ (law34_whole_goes k 1) rfl (ho := rfl) (hfn := Try.func19) (hb := rfl) (hconv := ConvRs.refl _ _) (hnd := by decide) (hBl := fun _ => (by kernel_rfl)) (hv := fun _ => (by kernel_rfl)) (hH' := fun _ => (by kernel_rfl)) (h := fun r => ?_)
            cases r
            refine dU0 ?_
            refine aTakeP (i := 13) (.d (.bool (!((r130 == 1) && ((r1112 == 1) && true))))) rfl (hp := k_neAgg (hg := Try.eqGuardType38) (h := EqV.struct 1 38 [.d (.int .i64 r130), .d (.int .i64 r1112)] [.d (.int .i64 1), .d (.int .i64 1)] _ ((r130 == 1) && ((r1112 == 1) && true)) Try.underlying38 Try.stoodInHeld38 (EqF.one 1 1 _ _ _ _ _ _ _ (r130 == 1) ((r1112 == 1) && true) (by kernel_rfl) Try.underlying3 (by kernel_rfl) (by kernel_rfl) (by kernel_rfl) (by kernel_rfl) (EqV.int 3 .i64 .i64 r130 1 Try.underlying3) (EqF.one 1 1 _ _ _ _ _ _ _ (r1112 == 1) true (by kernel_rfl) Try.underlying3 (by kernel_rfl) (by kernel_rfl) (by kernel_rfl) (by kernel_rfl) (EqV.int 3 .i64 .i64 r1112 1 Try.underlying3) (EqF.nil 1 _ _))))) (h := ?_)
            refine aP 14 (.d (.bool (!((r130 == 1) && ((r1112 == 1) && true))))) rfl (p_pick (b := false)) ?_
            refine dDrop [4, 5, 8, 9, 10, 12, 123] [4, 5, 8, 9, 10, 12, 123] (T' := [(4, .ptr 0 0), (5, .ptr 1 0), (8, .ptr 3 0), (9, .d (.int .i64 r171)), (10, .ptr 4 0), (12, .ptr 5 0), (123, .d (.bool (!((r130 == 1) && ((r1112 == 1) && true)))))]) (U' := [(4, .ptr 0 0), (5, .ptr 1 0), (8, .ptr 3 0), (9, .d (.int .i64 r171)), (10, .ptr 4 0), (12, .ptr 5 0), (123, .d (.bool (!((r130 == 1) && ((r1112 == 1) && true)))))]) (h := ?_)
            exact hj10 (!((r130 == 1) && ((r1112 == 1) && true)))
         ·refine dPickF 115 (fun c => F (c || (r1216 != 0))) (h1 := fun hc => ?_) (h2 := fun hc => ?_)
          ·refine aTakeNot (i := 7) rfl (h := ?_)
           refine aTakeNot (i := 8) rfl (h := ?_)
           refine aP 9 (.d (.bool true)) rfl (p_pick (b := true)) ?_
           refine dDrop [4, 5, 8, 9, 10, 12, 20, 118] [4, 5, 8, 9, 10, 12, 20, 118] (T' := [(4, .ptr 0 0), (5, .ptr 1 0), (8, .ptr 3 0), (9, .d (.int .i64 r171)), (10, .ptr 4 0), (12, .ptr 5 0), (20, .ptr 8 0), (118, .d (.bool true))]) (U' := [(4, .ptr 0 0), (5, .ptr 1 0), (8, .ptr 3 0), (9, .d (.int .i64 r171)), (10, .ptr 4 0), (12, .ptr 5 0), (20, .ptr 8 0), (118, .d (.bool true))]) (h := ?_)
           exact hj9 true
          ·refine aP 7 (.d (.int .i64 r1216)) rfl p_move ?_
           refine aP 8 (.d (.bool (r1216 != 0))) rfl (p_int (k := .i64) (p := r1216) (q := 0)) ?_
           refine aP 9 (.d (.bool (r1216 != 0))) rfl (p_pick (b := false)) ?_
           refine dDrop [4, 5, 8, 9, 10, 12, 20, 118] [4, 5, 8, 9, 10, 12, 20, 118] (T' := [(4, .ptr 0 0), (5, .ptr 1 0), (8, .ptr 3 0), (9, .d (.int .i64 r171)), (10, .ptr 4 0), (12, .ptr 5 0), (20, .ptr 8 0), (118, .d (.bool (r1216 != 0)))]) (U' := [(4, .ptr 0 0), (5, .ptr 1 0), (8, .ptr 3 0), (9, .d (.int .i64 r171)), (10, .ptr 4 0), (12, .ptr 5 0), (20, .ptr 8 0), (118, .d (.bool (r1216 != 0)))]) (h := ?_)
           exact hj9 (r1216 != 0)
        ·refine dPickF 111 (fun c => F (c || (r144 != 0))) (h1 := fun hc => ?_) (h2 := fun hc => ?_)
         ·refine aTakeNot (i := 3) rfl (h := ?_)
          refine aTakeNot (i := 4) rfl (h := ?_)
          refine aP 5 (.d (.bool true)) rfl (p_pick (b := true)) ?_
          refine dDrop [4, 5, 8, 9, 10, 12, 20, 21, 114] [4, 5, 8, 9, 10, 12, 20, 21, 114] (T' := [(4, .ptr 0 0), (5, .ptr 1 0), (8, .ptr 3 0), (9, .d (.int .i64 r171)), (10, .ptr 4 0), (12, .ptr 5 0), (20, .ptr 8 0), (21, .d (.int .i64 r1216)), (114, .d (.bool true))]) (U' := [(4, .ptr 0 0), (5, .ptr 1 0), (8, .ptr 3 0), (9, .d (.int .i64 r171)), (10, .ptr 4 0), (12, .ptr 5 0), (20, .ptr 8 0), (21, .d (.int .i64 r1216)), (114, .d (.bool true))]) (h := ?_)
          exact hj8 true
         ·refine aP 3 (.d (.int .i64 r144)) rfl p_move ?_
          refine aP 4 (.d (.bool (r144 != 0))) rfl (p_int (k := .i64) (p := r144) (q := 0)) ?_
          refine aP 5 (.d (.bool (r144 != 0))) rfl (p_pick (b := false)) ?_
          refine dDrop [4, 5, 8, 9, 10, 12, 20, 21, 114] [4, 5, 8, 9, 10, 12, 20, 21, 114] (T' := [(4, .ptr 0 0), (5, .ptr 1 0), (8, .ptr 3 0), (9, .d (.int .i64 r171)), (10, .ptr 4 0), (12, .ptr 5 0), (20, .ptr 8 0), (21, .d (.int .i64 r1216)), (114, .d (.bool (r144 != 0)))]) (U' := [(4, .ptr 0 0), (5, .ptr 1 0), (8, .ptr 3 0), (9, .d (.int .i64 r171)), (10, .ptr 4 0), (12, .ptr 5 0), (20, .ptr 8 0), (21, .d (.int .i64 r1216)), (114, .d (.bool (r144 != 0)))]) (h := ?_)
          exact hj8 (r144 != 0)
      ·refine bPickF 86 (fun c => F (c || (!((r1111 == r1215) && ((r1311 == r1310) && true))))) (h1 := fun hc => ?_) (h2 := fun hc => ?_)
       ·refine oNot (h := ?_)
        refine oNot (h := ?_)
        refine oNot (h := ?_)
        refine oP (.d (.bool true)) (p_pick (b := true)) ?_
        refine oHead [4, 5, 6, 8, 9, 10, 12, 90] [0, 1, 2, 3, 4, 5] (T' := [(4, .ptr 0 0), (5, .ptr 1 0), (6, .ptr 2 0), (8, .ptr 3 0), (9, .d (.int .i64 r171)), (10, .ptr 4 0), (12, .ptr 5 0), (90, .d (.bool true))]) (H' := [.box [.d (.lit (List.map e_i64 r1210))], .box [.d (.lit (List.map e_i64 r1211))], .box [.d (.lit (List.map e_SPoint r1110))], .box [.d (.lit (List.map e_SPoint r1213))], .box [.d (.int .i64 r1214), .d (.int .i64 r139)], .box [.d (.int .i64 r1215), .d (.int .i64 r1310)]]) (hnd := by decide) (h := ?_)
        exact hj7 true
       ·refine oQ (.agg [.d (.int .i64 r1111), .d (.int .i64 r1311)]) (k_loadAgg 6 0 (hu := Try.underlying38) (hi := ty38)) ?_
        refine oQ (.agg [.d (.int .i64 r1215), .d (.int .i64 r1310)]) (k_loadAgg 5 0 (hu := Try.underlying38) (hi := ty38)) ?_
        refine oP (.d (.bool (!((r1111 == r1215) && ((r1311 == r1310) && true))))) (k_neAgg (hg := Try.eqGuardType38) (h := EqV.struct 1 38 [.d (.int .i64 r1111), .d (.int .i64 r1311)] [.d (.int .i64 r1215), .d (.int .i64 r1310)] _ ((r1111 == r1215) && ((r1311 == r1310) && true)) Try.underlying38 Try.stoodInHeld38 (EqF.one 1 1 _ _ _ _ _ _ _ (r1111 == r1215) ((r1311 == r1310) && true) (by kernel_rfl) Try.underlying3 (by kernel_rfl) (by kernel_rfl) (by kernel_rfl) (by kernel_rfl) (EqV.int 3 .i64 .i64 r1111 r1215 Try.underlying3) (EqF.one 1 1 _ _ _ _ _ _ _ (r1311 == r1310) true (by kernel_rfl) Try.underlying3 (by kernel_rfl) (by kernel_rfl) (by kernel_rfl) (by kernel_rfl) (EqV.int 3 .i64 .i64 r1311 r1310 Try.underlying3) (EqF.nil 1 _ _))))) ?_
        refine oP (.d (.bool (!((r1111 == r1215) && ((r1311 == r1310) && true))))) (p_pick (b := false)) ?_
        refine oHead [4, 5, 6, 8, 9, 10, 12, 90] [0, 1, 2, 3, 4, 5] (T' := [(4, .ptr 0 0), (5, .ptr 1 0), (6, .ptr 2 0), (8, .ptr 3 0), (9, .d (.int .i64 r171)), (10, .ptr 4 0), (12, .ptr 5 0), (90, .d (.bool (!((r1111 == r1215) && ((r1311 == r1310) && true)))))]) (H' := [.box [.d (.lit (List.map e_i64 r1210))], .box [.d (.lit (List.map e_i64 r1211))], .box [.d (.lit (List.map e_SPoint r1110))], .box [.d (.lit (List.map e_SPoint r1213))], .box [.d (.int .i64 r1214), .d (.int .i64 r139)], .box [.d (.int .i64 r1215), .d (.int .i64 r1310)]]) (hnd := by decide) (h := ?_)
        exact hj7 (!((r1111 == r1215) && ((r1311 == r1310) && true)))
     ·refine bPickF 82 (fun c => F (c || (r1411 != 0))) (h1 := fun hc => ?_) (h2 := fun hc => ?_)
      ·refine oNot (h := ?_)
       refine oNot (h := ?_)
       refine oP (.d (.bool true)) (p_pick (b := true)) ?_
       refine oHead [4, 5, 6, 8, 9, 10, 12, 14, 85] [0, 1, 2, 3, 4, 5, 6] (T' := [(4, .ptr 0 0), (5, .ptr 1 0), (6, .ptr 2 0), (8, .ptr 3 0), (9, .d (.int .i64 r171)), (10, .ptr 4 0), (12, .ptr 5 0), (14, .ptr 6 0), (85, .d (.bool true))]) (H' := [.box [.d (.lit (List.map e_i64 r1210))], .box [.d (.lit (List.map e_i64 r1211))], .box [.d (.lit (List.map e_SPoint r1110))], .box [.d (.lit (List.map e_SPoint r1213))], .box [.d (.int .i64 r1214), .d (.int .i64 r139)], .box [.d (.int .i64 r1215), .d (.int .i64 r1310)], .box [.d (.int .i64 r1111), .d (.int .i64 r1311)]]) (hnd := by decide) (h := ?_)
       exact hj6 true
      ·refine oP (.d (.int .i64 r1411)) p_move ?_
       refine oP (.d (.bool (r1411 != 0))) (p_int (k := .i64) (p := r1411) (q := 0)) ?_
       refine oP (.d (.bool (r1411 != 0))) (p_pick (b := false)) ?_
       refine oHead [4, 5, 6, 8, 9, 10, 12, 14, 85] [0, 1, 2, 3, 4, 5, 6] (T' := [(4, .ptr 0 0), (5, .ptr 1 0), (6, .ptr 2 0), (8, .ptr 3 0), (9, .d (.int .i64 r171)), (10, .ptr 4 0), (12, .ptr 5 0), (14, .ptr 6 0), (85, .d (.bool (r1411 != 0)))]) (H' := [.box [.d (.lit (List.map e_i64 r1210))], .box [.d (.lit (List.map e_i64 r1211))], .box [.d (.lit (List.map e_SPoint r1110))], .box [.d (.lit (List.map e_SPoint r1213))], .box [.d (.int .i64 r1214), .d (.int .i64 r139)], .box [.d (.int .i64 r1215), .d (.int .i64 r1310)], .box [.d (.int .i64 r1111), .d (.int .i64 r1311)]]) (hnd := by decide) (h := ?_)
       exact hj6 (r1411 != 0)
    ·refine bPickF 78 (fun c => F (c || (r1410 != 0))) (h1 := fun hc => ?_) (h2 := fun hc => ?_)
     ·refine oNot (h := ?_)
      refine oNot (h := ?_)
      refine oP (.d (.bool true)) (p_pick (b := true)) ?_
      refine oHead [4, 5, 6, 8, 9, 10, 12, 14, 15, 81] [0, 1, 2, 3, 4, 5, 6] (T' := [(4, .ptr 0 0), (5, .ptr 1 0), (6, .ptr 2 0), (8, .ptr 3 0), (9, .d (.int .i64 r171)), (10, .ptr 4 0), (12, .ptr 5 0), (14, .ptr 6 0), (15, .d (.int .i64 r1411)), (81, .d (.bool true))]) (H' := [.box [.d (.lit (List.map e_i64 r1210))], .box [.d (.lit (List.map e_i64 r1211))], .box [.d (.lit (List.map e_SPoint r1110))], .box [.d (.lit (List.map e_SPoint r1213))], .box [.d (.int .i64 r1214), .d (.int .i64 r139)], .box [.d (.int .i64 r1215), .d (.int .i64 r1310)], .box [.d (.int .i64 r1111), .d (.int .i64 r1311)]]) (hnd := by decide) (h := ?_)
      exact hj5 true
     ·refine oP (.d (.int .i64 r1410)) p_move ?_
      refine oP (.d (.bool (r1410 != 0))) (p_int (k := .i64) (p := r1410) (q := 0)) ?_
      refine oP (.d (.bool (r1410 != 0))) (p_pick (b := false)) ?_
      refine oHead [4, 5, 6, 8, 9, 10, 12, 14, 15, 81] [0, 1, 2, 3, 4, 5, 6] (T' := [(4, .ptr 0 0), (5, .ptr 1 0), (6, .ptr 2 0), (8, .ptr 3 0), (9, .d (.int .i64 r171)), (10, .ptr 4 0), (12, .ptr 5 0), (14, .ptr 6 0), (15, .d (.int .i64 r1411)), (81, .d (.bool (r1410 != 0)))]) (H' := [.box [.d (.lit (List.map e_i64 r1210))], .box [.d (.lit (List.map e_i64 r1211))], .box [.d (.lit (List.map e_SPoint r1110))], .box [.d (.lit (List.map e_SPoint r1213))], .box [.d (.int .i64 r1214), .d (.int .i64 r139)], .box [.d (.int .i64 r1215), .d (.int .i64 r1310)], .box [.d (.int .i64 r1111), .d (.int .i64 r1311)]]) (hnd := by decide) (h := ?_)
      exact hj5 (r1410 != 0)
   ·refine bPickF 74 (fun c => F (c || (r149 != 0))) (h1 := fun hc => ?_) (h2 := fun hc => ?_)
    ·refine oNot (h := ?_)
     refine oNot (h := ?_)
     refine oP (.d (.bool true)) (p_pick (b := true)) ?_
     refine oHead [4, 5, 6, 8, 9, 10, 12, 13, 14, 15, 77] [1, 2, 3, 4, 5, 6, 7] (T' := [(4, .ptr 0 0), (5, .ptr 1 0), (6, .ptr 2 0), (8, .ptr 3 0), (9, .d (.int .i64 r171)), (10, .ptr 4 0), (12, .ptr 5 0), (13, .d (.int .i64 r1410)), (14, .ptr 6 0), (15, .d (.int .i64 r1411)), (77, .d (.bool true))]) (H' := [.box [.d (.lit (List.map e_i64 r1210))], .box [.d (.lit (List.map e_i64 r1211))], .box [.d (.lit (List.map e_SPoint r1110))], .box [.d (.lit (List.map e_SPoint r1213))], .box [.d (.int .i64 r1214), .d (.int .i64 r139)], .box [.d (.int .i64 r1215), .d (.int .i64 r1310)], .box [.d (.int .i64 r1111), .d (.int .i64 r1311)]]) (hnd := by decide) (h := ?_)
     exact hj4 true
    ·refine oP (.d (.int .i64 r149)) p_move ?_
     refine oP (.d (.bool (r149 != 0))) (p_int (k := .i64) (p := r149) (q := 0)) ?_
     refine oP (.d (.bool (r149 != 0))) (p_pick (b := false)) ?_
     refine oHead [4, 5, 6, 8, 9, 10, 12, 13, 14, 15, 77] [1, 2, 3, 4, 5, 6, 7] (T' := [(4, .ptr 0 0), (5, .ptr 1 0), (6, .ptr 2 0), (8, .ptr 3 0), (9, .d (.int .i64 r171)), (10, .ptr 4 0), (12, .ptr 5 0), (13, .d (.int .i64 r1410)), (14, .ptr 6 0), (15, .d (.int .i64 r1411)), (77, .d (.bool (r149 != 0)))]) (H' := [.box [.d (.lit (List.map e_i64 r1210))], .box [.d (.lit (List.map e_i64 r1211))], .box [.d (.lit (List.map e_SPoint r1110))], .box [.d (.lit (List.map e_SPoint r1213))], .box [.d (.int .i64 r1214), .d (.int .i64 r139)], .box [.d (.int .i64 r1215), .d (.int .i64 r1310)], .box [.d (.int .i64 r1111), .d (.int .i64 r1311)]]) (hnd := by decide) (h := ?_)
     exact hj4 (r149 != 0)

end Go.VM
