/- The call of a function of which it is known what it does. -/
import Derived.Test.YtdebnihlkdabpaaEngFM
namespace Go.VM
set_option linter.unusedVariables false
set_option linter.unusedSimpArgs false

theorem step_call {P : Program} {ops : Array Oper} {i : Nat} {rest : List Nat} {o : Oper} {b : Frame} {a : Act} {K : List Item} {cs : List Frame} {w w1 w2 : World} {g : FuncId} {args : Array Value} {v : Value} {fr : Frame} (ho : ops[i]? = some o) (hw : Region.wanted o (yielded ops a.tmps) = true)
    (hr : (execOp a.eval o).run P w = .ok (.enter g args) w1) (hs : Steps P (lone (Frame.enter P g args .normal) (b.at a (.inRegion ops (i :: rest) :: K) :: cs) w1) (lone fr (b.at a (.inRegion ops (i :: rest) :: K) :: cs) w2)) (hl : fr.leaving P w2 (.returned v)) :
    Steps P (lone (b.at a (.inRegion ops (i :: rest) :: K)) cs w) (lone (b.at (a.put o.dst v) (.inRegion ops rest :: K)) cs w2) := by
  have hg := stepG_op (P := P) (b := b) (k := K) (cs := cs) (w := w) (rest := rest) ho hw
  have hfin : (b.at a (.inRegion ops (i :: rest) :: K)).finish v = b.at (a.put o.dst v) (.inRegion ops rest :: K) := by rw [Frame.finish_at, ho]; rfl
  have henter : step P (lone (b.at a (.inRegion ops (i :: rest) :: K)) cs w) = .next (lone (Frame.enter P g args .normal) (b.at a (.inRegion ops (i :: rest) :: K) :: cs) w1) :=
    step_lone_go (by rw [hg]; simp [stepG.apply, hr, Frame.at])
  refine .head henter (hs.trans (.one ?_))
  rw [← hfin]
  exact step_leave_returned hl

section
variable {P : Program} {f : FuncId} {N m : Nat} {T : Tm} {H : List Blk} {r : V} {B : List Blk} {k : List VI}

/-- What a call by value, its blocks handed over by name, does to the caller's view. -/
theorem call_core {φ : List Plc} {I : Nat → Prop} {w : World} {σ : List Nat} {Bc Bc' : List Blk} {φc' : List Plc} {I' : Nat → Prop} {w' : World} (hR : Rel H φ I w) (hσ : ∀ b ∈ σ, b < H.length) (hnd : σ.Nodup) (hBl : Bc.length = σ.length) (hBl' : σ.length ≤ Bc'.length)
    (ht : TurnM Bc.length (pick σ φ) I w φc' I' w') (hR' : Rel Bc' φc' I' w') :
    ∃ φ', LE φ φ' ∧ (∀ m, TurnM m φ I w φ' I' w') ∧ Rel (putL σ (Bc'.map (mapB (backN σ H.length))) H ++ (Bc'.drop σ.length).map (mapB (backN σ H.length))) φ' I' w' ∧
      (∀ (v : V) (c : Value), VR φc' I' w' v c → VR φ' I' w' (mapV (backN σ H.length) v) c) ∧ Keeps φ φ' σ w w' := by
  have hlc : φc'.length = Bc'.length := hR'.len
  have hσφ : ∀ b ∈ σ, b < φ.length := by rw [hR.len]; exact hσ
  let φ' := putL σ φc' φ ++ φc'.drop σ.length
  have hφl : (putL σ φc' φ).length = H.length := by rw [putL_length, hR.len]
  -- where each index of the callee's lies
  have hρ : ∀ (j : Nat) (l : Plc), φc'[j]? = some l → φ'[backN σ H.length j]? = some l := fun j l hl => by
    have hj : j < φc'.length := (List.getElem?_eq_some_iff.1 hl).1
    simp only [φ', backN]
    cases hb : Nat.blt j σ.length with
    | true =>
      have hjs : j < σ.length := Nat.le_of_ble_eq_true hb
      simp only [cond_true]
      have hin := hσφ _ (by simp only [nth, List.getD_eq_getElem?_getD, List.getElem?_eq_getElem hjs, Option.getD_some]; exact List.getElem_mem hjs : nth σ j ∈ σ)
      rw [List.getElem?_append_left (by rw [putL_length]; exact hin), putL_in σ φc' φ j hnd hσφ hjs hj]
      exact hl
    | false =>
      have hjs : σ.length ≤ j := by
        rcases Nat.lt_or_ge j σ.length with h | h
        · have : Nat.blt j σ.length = true := Nat.ble_eq_true_of_le h
          rw [this] at hb; cases hb
        · exact h
      simp only [cond_false]
      rw [List.getElem?_append_right (by rw [hφl]; omega), hφl, List.getElem?_drop, show σ.length + (H.length + (j - σ.length) - H.length) = j by omega]
      exact hl
  -- each index of the caller's is an old one that wasn't handed over, or one of the callee's
  have hcase : ∀ (b : Nat) (l : Plc), φ'[b]? = some l → (b ∉ σ ∧ b < H.length ∧ φ[b]? = some l) ∨ ∃ j, b = backN σ H.length j ∧ φc'[j]? = some l := fun b l hl => by
    rcases Nat.lt_or_ge b H.length with hlt | hge
    · simp only [φ'] at hl
      rw [List.getElem?_append_left (by rw [hφl]; exact hlt)] at hl
      by_cases hb : b ∈ σ
      · obtain ⟨j, hj, hjb⟩ := List.getElem_of_mem hb
        have hn : nth σ j = b := by simp [nth, hj, hjb]
        rw [← hn, putL_in σ φc' φ j hnd hσφ hj (by omega)] at hl
        refine .inr ⟨j, ?_, hl⟩
        have hbl : Nat.blt j σ.length = true := Nat.ble_eq_true_of_le hj
        simp only [backN, hbl, cond_true, hn]
      · rw [putL_out σ φc' φ b hb] at hl
        exact .inl ⟨hb, hlt, hl⟩
    · simp only [φ'] at hl
      rw [List.getElem?_append_right (by rw [hφl]; exact hge), hφl, List.getElem?_drop] at hl
      refine .inr ⟨σ.length + (b - H.length), ?_, hl⟩
      have hbl : Nat.blt (σ.length + (b - H.length)) σ.length = false := by
        cases hb : Nat.blt (σ.length + (b - H.length)) σ.length with
        | true => have := Nat.le_of_ble_eq_true hb; omega
        | false => rfl
      simp only [backN, hbl, cond_false]
      omega
  have hran : ∀ (i : Nat) (l : Plc) (g : Nat), (pick σ φ)[i]? = some l → l.g? = some g → ∃ b ∈ σ, φ[b]? = some l := fun i l g hl hg => by
    have hi : i < σ.length := by have := (List.getElem?_eq_some_iff.1 hl).1; simpa [VM.pick] using this
    rw [pick_get hi hσφ] at hl
    exact ⟨_, by simp only [nth, List.getD_eq_getElem?_getD, List.getElem?_eq_getElem hi, Option.getD_some]; exact List.getElem_mem hi, hl⟩
  -- an old block that wasn't handed over stays
  have hkeep : ∀ (b : Nat) (l : Plc) (g : Nat), b ∉ σ → φ[b]? = some l → l.g? = some g → w'.heap[g]? = w.heap[g]? ∧ (I' g → I g) := fun b l g hb hl hg => by
    have hlt := hR.lt hl hg
    have hno : ∀ (i : Nat) (l0 : Plc), (pick σ φ)[i]? = some l0 → l0.g? ≠ some g := fun i l0 h0 hg0 => by
      obtain ⟨b', hb', hl'⟩ := hran i l0 g h0 hg0
      have := hR.inj b b' l l0 g hl hl' hg hg0
      subst this
      exact hb hb'
    refine ⟨ht.frame g hlt hno, fun hi => ?_⟩
    rcases ht.immNew g hi with h | h | ⟨i, l0, h0, hg0⟩
    · exact h
    · omega
    · exact absurd hg0 (hno i l0 h0)
  have hle : LE φ φ' := fun b l hl => by
    by_cases hb : b ∈ σ
    · obtain ⟨j, hj, hjb⟩ := List.getElem_of_mem hb
      have hn : nth σ j = b := by simp [nth, hj, hjb]
      have hp : (pick σ φ)[j]? = some l := by rw [pick_get hj hσφ, hn]; exact hl
      obtain ⟨l', h1, h2⟩ := ht.le j (by rw [hBl]; exact hj) l hp
      refine ⟨l', ?_, h2⟩
      have := hρ j l' h1
      have hbl : Nat.blt j σ.length = true := Nat.ble_eq_true_of_le hj
      simpa only [backN, hbl, cond_true, hn] using this
    · refine ⟨l, ?_, .refl l⟩
      have hlt : b < H.length := by rw [← hR.len]; exact (List.getElem?_eq_some_iff.1 hl).1
      simp only [φ']
      rw [List.getElem?_append_left (by rw [hφl]; exact hlt), putL_out σ φc' φ b hb]
      exact hl
  have hVR : ∀ (v : V) (c : Value), VR φc' I' w' v c → VR φ' I' w' (mapV (backN σ H.length) v) c := fun v c h => mapV_VR hρ h
  have hT : ∀ m, TurnM m φ I w φ' I' w' := fun m => by
    refine ⟨ht.os, ht.tape, ht.output, ht.drawn, ht.size, fun g hg hno => ht.frame g hg fun i l0 h0 hg0 => ?_, ht.same, ht.sub, fun b _ l hl => hle b l hl, fun b l g hb hg => ?_, fun g hg => ?_⟩
    · obtain ⟨b', _, hl'⟩ := hran i l0 g h0 hg0
      exact hno b' l0 hl' hg0
    · rcases hcase b l hb with ⟨_, _, hl⟩ | ⟨j, rfl, hl⟩
      · exact .inr ⟨b, l, hl, hg⟩
      · rcases ht.fresh j l g hl hg with h | ⟨i, l0, h0, hg0⟩
        · exact .inl h
        · obtain ⟨b', _, hl'⟩ := hran i l0 g h0 hg0
          exact .inr ⟨b', l0, hl', hg0⟩
    · rcases ht.immNew g hg with h | h | ⟨i, l0, h0, hg0⟩
      · exact .inl h
      · exact .inr (.inl h)
      · obtain ⟨b', _, hl'⟩ := hran i l0 g h0 hg0
        exact .inr (.inr ⟨b', l0, hl', hg0⟩)
  have hkp : Keeps φ φ' σ w w' := fun b l hb hl => ⟨by
      have hlt : b < H.length := by rw [← hR.len]; exact (List.getElem?_eq_some_iff.1 hl).1
      simp only [φ']
      rw [List.getElem?_append_left (by rw [hφl]; exact hlt), putL_out σ φc' φ b hb]
      exact hl, fun g hg => (hkeep b l g hb hl hg).1⟩
  refine ⟨φ', hle, hT, ?_, hVR, hkp⟩
  have hHl : (putL σ (Bc'.map (mapB (backN σ H.length))) H).length = H.length := putL_length ..
  refine ⟨by simp [φ', putL_length, hR.len, hlc], fun b k l hk hl => ?_, fun b b' l l' g hb hb' hg hg' => ?_, hR'.imm⟩
  · rcases hcase b l hl with ⟨hb, hlt, hl0⟩ | ⟨j, rfl, hlj⟩
    · rw [List.getElem?_append_left (by rw [hHl]; exact hlt), putL_out _ _ _ _ hb] at hk
      exact (hR.blk b k l hk hl0).mono hle ht.sub ht.same fun g hg => hkeep b l g hb hl0 hg
    · have hj : j < Bc'.length := by rw [← hlc]; exact (List.getElem?_eq_some_iff.1 hlj).1
      have hkj : k = mapB (backN σ H.length) Bc'[j] := by
        cases hb : Nat.blt j σ.length with
        | true =>
          have hjs : j < σ.length := Nat.le_of_ble_eq_true hb
          simp only [backN, hb, cond_true] at hk
          have hin := hσ _ (by simp only [nth, List.getD_eq_getElem?_getD, List.getElem?_eq_getElem hjs, Option.getD_some]; exact List.getElem_mem hjs : nth σ j ∈ σ)
          rw [List.getElem?_append_left (by rw [hHl]; exact hin), putL_in σ _ H j hnd hσ hjs (by simpa using hj)] at hk
          simp [hj] at hk
          exact hk.symm
        | false =>
          have hjs : σ.length ≤ j := by
            rcases Nat.lt_or_ge j σ.length with h | h
            · have : Nat.blt j σ.length = true := Nat.ble_eq_true_of_le h
              rw [this] at hb; cases hb
            · exact h
          simp only [backN, hb, cond_false] at hk
          rw [List.getElem?_append_right (by rw [hHl]; omega), hHl, List.getElem?_map, List.getElem?_drop, show σ.length + (H.length + (j - σ.length) - H.length) = j by omega] at hk
          simp [hj] at hk
          exact hk.symm
      subst hkj
      have hbr := hR'.blk j _ l (List.getElem?_eq_getElem hj) hlj
      generalize Bc'[j] = k0 at hbr
      cases hbr with
      | dead l h => exact .dead l h
      | virt => exact .virt _ _
      | sl esz xs fro g δ arr e hg hn hlen hc hz hI => exact .sl esz xs fro g δ arr e hg hn hlen hc hz hI
      | box cells g arr e hg hn ho hc hI =>
        simp only [mapB, mapVs_map]
        have := BR.box (φ := φ') (I := I') (w := w') (cells.map (mapV (backN σ H.length))) g arr e hg (by simpa using hn) (fun j v hv => by
          simp only [List.getElem?_map] at hv
          obtain ⟨v0, h0, rfl⟩ := Option.map_eq_some_iff.1 hv
          rw [mapV_one]; exact ho j v0 h0) (fun j v c hv hcj => by
          simp only [List.getElem?_map] at hv
          obtain ⟨v0, h0, rfl⟩ := Option.map_eq_some_iff.1 hv
          exact hVR v0 c (hc j v0 c h0 hcj)) hI
        simpa using this
  · have hold : ∀ (b : Nat) (l : Plc) (j : Nat) (l' : Plc) (g : Nat), b ∉ σ → φ[b]? = some l → φc'[j]? = some l' → l.g? = some g → l'.g? = some g → False := fun b l j l' g hb hl hj hg hg' => by
      have hlt := hR.lt hl hg
      rcases ht.fresh j l' g hj hg' with h | ⟨i, l0, h0, hg0⟩
      · omega
      · obtain ⟨b', hb', hl'⟩ := hran i l0 g h0 hg0
        have := hR.inj b b' l l0 g hl hl' hg hg0
        subst this
        exact hb hb'
    rcases hcase b l hb with ⟨h1, _, h2⟩ | ⟨j, rfl, h2⟩
    · rcases hcase b' l' hb' with ⟨h3, _, h4⟩ | ⟨j', rfl, h4⟩
      · exact hR.inj b b' l l' g h2 h4 hg hg'
      · exact (hold b l j' l' g h1 h2 h4 hg hg').elim
    · rcases hcase b' l' hb' with ⟨h3, _, h4⟩ | ⟨j', rfl, h4⟩
      · exact (hold b' l' j l g h3 h4 h2 hg' hg).elim
      · rw [hR'.inj j j' l l' g h2 h4 hg hg']

/-- The callee, out of what the operation names. -/
theorem run_call {a : Act} {o : Oper} {fop : Operand} {args : Array Operand} {tys : Array TypeId} {g : FuncId} {fn : Func} {c : Code} {ccaps : Array Value} {w : World} (ho : o.op = .call ⟨.value fop, args, tys⟩) (hf : a.eval fop = .func (.func g) #[] ccaps) (hfn : P.funcs[g]? = some fn) (hb : fn.body = some c)
    (hname : (fn.name == "runtime.NumGoroutine") = false) : (execOp a.eval o).run P w = .ok (.enter g (args.map a.eval ++ ccaps)) w := by
  have hn : ¬ fn.name = "runtime.NumGoroutine" := by simpa using hname
  simp [execOp, ho, resolve, hf, Deferred.ofValue, invoke, callFunc, hfn, hb, hn]

theorem VR.fn_inv {φ : List Plc} {I : Nat → Prop} {w : World} {g : FuncId} {caps : List V} {c : Value} (h : VR φ I w (.fn g caps) c) : ∃ cs, c = .func (.func g) #[] cs ∧ AllR φ I w caps cs := by
  cases h with
  | fn _ _ cs hl hc => exact ⟨cs, rfl, hl.symm, hc⟩

theorem AllR.append {φ : List Plc} {I : Nat → Prop} {w : World} {xs ys : List V} {as bs : Array Value} (h1 : AllR φ I w xs as) (h2 : AllR φ I w ys bs) : AllR φ I w (xs ++ ys) (as ++ bs) := by
  refine ⟨by simp [h1.1, h2.1], fun i v c hv hc => ?_⟩
  by_cases hi : i < xs.length
  · rw [List.getElem?_append_left hi] at hv
    rw [Array.getElem?_append_left (by rw [h1.1]; exact hi)] at hc
    exact h1.2 i v c hv hc
  · rw [List.getElem?_append_right (by omega)] at hv
    rw [Array.getElem?_append_right (by rw [h1.1]; omega), h1.1] at hc
    exact h2.2 _ v c hv hc

theorem gCall {all : Array Oper} {i : Nat} {o : Oper} {l : List Oper} {fop : Operand} {args : Array Operand} {tys : Array TypeId} {g : FuncId} {caps : List V} {fn : Func} {c : Code} {σ : List Nat} {vs args' : List V} {Bc Bc' : List Blk} {rc v : V} {H' : List Blk}
    (hw : vwanted T all o = some true) (hN : inN N o.dst = true) (ho : o.op = .call ⟨.value fop, args, tys⟩) (hf : ev T fop = .fn g caps) (hfn : P.funcs[g]? = some fn) (hb : fn.body = some c) (hname : (fn.name == "runtime.NumGoroutine") = false)
    (hconv : ConvRs H (args.toList.map (ev T) ++ caps) vs) (hargs : mapVs (nth σ) args' = vs) (hac : closedVs σ.length args' = true) (hσ : σ.all (fun b => Nat.blt b H.length) = true) (hnd : σ.Nodup)
    (hBc : σ.map (fun b => H[b]?) = Bc.map (fun k => some (mapB (nth σ) k))) (hcl : Bc.all (closedB σ.length) = true) (hruns : Runs P g args' Bc rc Bc') (hBl : Nat.ble σ.length Bc'.length = true)
    (hv : mapV (backN σ H.length) rc = v) (hH' : putL σ (Bc'.map (mapB (backN σ H.length))) H ++ (Bc'.drop σ.length).map (mapB (backN σ H.length)) = H')
    (h : Goes P f N m (.ops all (i + 1) l :: k) (tput T o.dst v) H' r B) : Goes P f N m (.ops all i (o :: l) :: k) T H r B := fun φ I w a b cs hR hT hd hsz hk hff hkd => by
  obtain ⟨ho', hl⟩ := drop_get (show all.toList.drop i = o :: l from hk (.ops all i (o :: l)) (by simp))
  have ho'' : all[i]? = some o := by simpa using ho'
  have hσ' : ∀ b ∈ σ, b < H.length := fun b hb => Nat.le_of_ble_eq_true (List.all_eq_true.1 hσ b hb)
  have hσφ : ∀ b ∈ σ, b < φ.length := by rw [hR.len]; exact hσ'
  have hBlen : Bc.length = σ.length := by have := congrArg List.length hBc; simp at this; omega
  have hRB := hR.pick hσ' hnd hBc (List.all_eq_true.1 hcl)
  obtain ⟨ccaps, hfc, hcaps⟩ := VR.fn_inv (hf ▸ ev_VR hT fop)
  have hrun := run_call (P := P) (w := w) ho hfc hfn hb hname
  have hall0 : AllR φ I w (args.toList.map (ev T) ++ caps) (args.map a.eval ++ ccaps) := AllR.append ⟨by simp, fun i v c h1 h2 => by
    simp only [List.getElem?_map, Array.getElem?_toList] at h1
    simp only [Array.getElem?_map] at h2
    obtain ⟨x, hx, rfl⟩ := Option.map_eq_some_iff.1 h1
    rw [hx] at h2
    simp at h2
    subst h2
    exact ev_VR hT x⟩ hcaps
  obtain ⟨hcl1, hcl2⟩ := hconv.VRs hR
  have hargs' : args'.map (mapV (nth σ)) = vs := by rw [← mapVs_map]; exact hargs
  have hal : args'.length = vs.length := by rw [← hargs']; simp
  obtain ⟨e, w1, fr, ⟨φc', I', cv, rfl, ht, hR', hvr⟩, hsteps, _, hleave⟩ := hruns (pick σ φ) I w (args.map a.eval ++ ccaps) hRB (by rw [hal, hcl1]; exact hall0.1) (fun j u cc hu hc => by
    refine mapV_back (n := σ.length) (fun b hb => (pick_get hb hσφ).symm) u cc ?_ ?_
    · rw [closedVs_all] at hac
      exact List.all_eq_true.1 hac u (List.mem_of_getElem? hu)
    · have : vs[j]? = some (mapV (nth σ) u) := by rw [← hargs']; simp [hu]
      exact hcl2 j _ this fun v0 h0 => hall0.2 j v0 cc h0 hc) (b.at a (.inRegion all (i :: List.range' (i + 1) l.length) :: k.map VI.item) :: cs)
  obtain ⟨φ', hle, hTm, hRel, hVR, _⟩ := call_core hR hσ' hnd hBlen (Nat.le_of_ble_eq_true hBl) ht hR'
  rw [hH'] at hRel
  have hvr' := hVR rc cv hvr
  rw [hv] at hvr'
  have hstep := step_call (P := P) (b := b) (K := k.map VI.item) (cs := cs) (rest := List.range' (i + 1) l.length) ho'' (vwanted_wanted hT hw) hrun hsteps hleave
  have hT1 : TR φ' I' w1 T a := fun t => (hT t).mono hle ht.sub ht.same
  obtain ⟨φ2, I2, w2, c', fr', hs, h1, h2, h3, h4⟩ := h φ' I' w1 (a.put o.dst cv) b cs hRel (hT1.tput hsz hN hvr') (by rw [put_defers]; exact hd) (by rw [put_size]; exact hsz) (fun x hx => by
    simp only [List.mem_cons] at hx
    rcases hx with rfl | hx
    · exact hl
    · exact hk x (by simp [hx])) hff hkd
  refine ⟨φ2, I2, w2, c', fr', Steps.trans ?_ hs, h1, h2, (hTm m).trans h3, h4⟩
  rw [List.map_cons, ops_cons]
  exact hstep
end
end Go.VM
namespace Go.VM
set_option linter.unusedVariables false
set_option linter.unusedSimpArgs false

def GoesO {R : Type} (P : Program) (f : FuncId) (N m : Nat) (todo : List VI) (T : Tm) (H : List Blk) (E : R → V × List Blk) (o : Option R) : Prop := ∀ r, o = some r → Goes P f N m todo T H (E r).1 (E r).2
def RunsO {R : Type} (P : Program) (f : FuncId) (args : List V) (B : List Blk) (E : R → V × List Blk) (o : Option R) : Prop := ∀ r, o = some r → Runs P f args B (E r).1 (E r).2

/-! ### the words of the plain functions -/
def gidx {α R : Type} (xs : List α) (i : Int) (k : α → Option R) : Option R := bif decide (0 ≤ i) then (xs[i.toNat]?).bind k else none
def gcap {R : Type} (n bytes : Nat) (k : Option R) : Option R := bif decide (n * bytes ≤ 140737488355328) then k else none
def gnz {R : Type} (y : Int) (k : Option R) : Option R := bif y == 0 then none else k
def gnn {R : Type} (y : Int) (k : Option R) : Option R := bif decide (0 ≤ y) then k else none
def gmake {R : Type} (n : Int) (bytes : Nat) (k : Option R) : Option R := bif decide (0 ≤ n) && decide (n.toNat * bytes ≤ 140737488355328) then k else none
def gcut {R : Type} (lo hi len : Int) (k : Option R) : Option R := bif decide (0 ≤ lo) && (decide (lo ≤ hi) && decide (hi ≤ len)) then k else none

section
variable {R : Type} {E : R → V × List Blk} {o : Option R} {P : Program} {f : FuncId} {N m : Nat} {T : Tm} {H : List Blk} {k : List VI}

theorem oSeq {x y : Code} (h : GoesO P f N m (.code x :: .code y :: k) T H E o) : GoesO P f N m (.code (.seq x y) :: k) T H E o := fun r hr => gSeq (h r hr)
theorem oSkip (h : GoesO P f N m k T H E o) : GoesO P f N m (.code .skip :: k) T H E o := fun r hr => gSkip (h r hr)
theorem oBlock {id : Nat} {c : Code} (h : GoesO P f N m (.code c :: .blk id :: k) T H E o) : GoesO P f N m (.code (.block id c) :: k) T H E o := fun r hr => gBlock (h r hr)
theorem oBlk {id : Nat} (h : GoesO P f N m k T H E o) : GoesO P f N m (.blk id :: k) T H E o := fun r hr => gBlk (h r hr)
theorem oLoop {c : Code} (h : GoesO P f N m (.code c :: .loop c :: k) T H E o) : GoesO P f N m (.code (.loop c) :: k) T H E o := fun r hr => gLoop (h r hr)
theorem oAgain {c : Code} (h : GoesO P f N m (.code c :: .loop c :: k) T H E o) : GoesO P f N m (.loop c :: k) T H E o := fun r hr => gAgain (h r hr)
theorem oExit {id : Nat} {k' : List VI} (he : vexit id k = some k') (h : GoesO P f N m k' T H E o) : GoesO P f N m (.code (.exit id) :: k) T H E o := fun r hr => gExit he (h r hr)
theorem oCondT {c : Operand} {x y : Code} (hc : ev T c = .d (.bool true) := by kernel_rfl) (h : GoesO P f N m (.code x :: k) T H E o) : GoesO P f N m (.code (.cond c x y) :: k) T H E o := fun r hr => gCondT hc (h r hr)
theorem oCondF {c : Operand} {x y : Code} (hc : ev T c = .d (.bool false) := by kernel_rfl) (h : GoesO P f N m (.code y :: k) T H E o) : GoesO P f N m (.code (.cond c x y) :: k) T H E o := fun r hr => gCondF hc (h r hr)
theorem oRegion {id : Nat} {all : Array Oper} {l : List Oper} (hl : all.toList = l) (h : GoesO P f N m (.ops all 0 l :: k) T H E o) : GoesO P f N m (.code (.region id all false) :: k) T H E o := fun r hr => gRegion hl (h r hr)
theorem oEnd {all : Array Oper} {i : Nat} (h : GoesO P f N m k T H E o) : GoesO P f N m (.ops all i [] :: k) T H E o := fun r hr => gEnd (h r hr)
theorem oOp {all : Array Oper} {i : Nat} {q : Oper} {l : List Oper} {H' : List Blk} {tc : List Nat} (v : V) (hw : vwanted T all q = some true := by kernel_rfl) (hN : inN N q.dst = true := by kernel_rfl) (hdo : Does P q T H v H' tc) (h : GoesO P f N m (.ops all (i + 1) l :: k) (tput T q.dst v) H' E o) :
    GoesO P f N m (.ops all i (q :: l) :: k) T H E o := fun r hr => gOp hw hN hdo (h r hr)
theorem oNot {all : Array Oper} {i : Nat} {q : Oper} {l : List Oper} (hw : vwanted T all q = some false := by kernel_rfl) (hN : inN N q.dst = true := by kernel_rfl) (h : GoesO P f N m (.ops all (i + 1) l :: k) (tput T q.dst (.tuple [])) H E o) :
    GoesO P f N m (.ops all i (q :: l) :: k) T H E o := fun r hr => gNot hw hN (h r hr)
theorem oHead {todo : List VI} (ks σ : List Nat) {T' : Tm} {H' : List Blk} (hT' : keepT ks T = T'.map fun p => (p.1, mapV (nth σ) p.2) := by kernel_rfl) (hTc : T'.all (fun p => closedV σ.length p.2) = true := by kernel_rfl)
    (hσm : σ.take m = List.range m := by kernel_rfl) (hσ : σ.all (fun b => Nat.blt b H.length) = true := by kernel_rfl) (hnd : σ.Nodup) (hB : σ.map (fun b => H[b]?) = H'.map (fun k => some (mapB (nth σ) k)) := by kernel_rfl) (hcl : H'.all (closedB σ.length) = true := by kernel_rfl)
    (h : GoesO P f N m todo T' H' E o) : GoesO P f N m todo T H E o := fun r hr => gHead ks σ hT' hTc hσm hσ hnd hB hcl (h r hr)
theorem oVirt {esz : Nat} {todo : List VI} (t : Nat) (ht : get T t = .nilc := by kernel_rfl) (h : GoesO P f N m todo ((t, .ref H.length 0 0 0) :: T) (H ++ [.sl esz [] false]) E o) : GoesO P f N m todo T H E o := fun r hr => gVirt t ht (h r hr)
theorem oVirtB {esz : Nat} {todo : List VI} (b off : Nat) {cells : List V} (hk : H[b]? = some (.box cells) := by kernel_rfl) (ho : cells[off]? = some .nilc := by kernel_rfl) (h : GoesO P f N m todo T (H.set b (.box (cells.set off (.ref H.length 0 0 0))) ++ [.sl esz [] false]) E o) : GoesO P f N m todo T H E o := fun r hr => gVirtB b off hk ho (h r hr)
theorem oFreeze {todo : List VI} (b : Nat) {esz : Nat} {xs : List (List D)} (hk : H[b]? = some (.sl esz xs false) := by kernel_rfl) (h : GoesO P f N m todo T (H.set b (.sl esz xs true)) E o) : GoesO P f N m todo T H E o := fun r hr => gFreeze b hk (h r hr)
theorem oConv {todo : List VI} (t : Nat) {v v' : V} (ht : get T t = v := by kernel_rfl) (hc : ConvR H v v') (h : GoesO P f N m todo ((t, v') :: T) H E o) : GoesO P f N m todo T H E o := fun r hr => gConv t ht hc (h r hr)
theorem oConvB {todo : List VI} (b : Nat) {cells cells' : List V} (hk : H[b]? = some (.box cells) := by kernel_rfl) (hc : ConvRs H cells cells') (h : GoesO P f N m todo T (H.set b (.box cells')) E o) : GoesO P f N m todo T H E o := fun r hr => gConvB b hk hc (h r hr)

/-- The same view in other words. -/
theorem oView {todo : List VI} {T' : Tm} {H' : List Blk} (hT : T = T' := by kernel_rfl) (hH : H = H' := by kernel_rfl) (h : GoesO P f N m todo T' H' E o) : GoesO P f N m todo T H E o := by subst hT; subst hH; exact h

theorem oNone {todo : List VI} : GoesO P f N m todo T H E (none : Option R) := fun r hr => by cases hr
theorem oSplit {todo : List VI} {o1 o2 : Option R} (t : Nat) {b : Bool} (ht : get T t = .d (.bool b)) (h1 : b = true → GoesO P f N m todo ((t, .d (.bool true)) :: T) H E o1) (h2 : b = false → GoesO P f N m todo ((t, .d (.bool false)) :: T) H E o2) :
    GoesO P f N m todo T H E (bif b then o1 else o2) := fun r hr => gSplit t ht (fun hb => by subst hb; exact h1 rfl r hr) (fun hb => by subst hb; exact h2 rfl r hr)
/-- A guard of the plain function's own. -/
theorem oGuard {todo : List VI} {b : Bool} (h : b = true → GoesO P f N m todo T H E o) : GoesO P f N m todo T H E (bif b then o else none) := fun r hr => by
  cases b with
  | true => exact h rfl r hr
  | false => cases hr
theorem oNz {todo : List VI} {y : Int} (h : y ≠ 0 → GoesO P f N m todo T H E o) : GoesO P f N m todo T H E (gnz y o) := fun r hr => by
  unfold gnz at hr
  by_cases hy : y = 0
  · subst hy; cases hr
  · have : (y == 0) = false := by simpa using hy
    rw [this] at hr
    exact h hy r hr
theorem oNn {todo : List VI} {y : Int} (h : 0 ≤ y → GoesO P f N m todo T H E o) : GoesO P f N m todo T H E (gnn y o) := oGuard fun hb => h (of_decide_eq_true hb)
theorem oCap {todo : List VI} {n bytes : Nat} (h : n * bytes ≤ 140737488355328 → GoesO P f N m todo T H E o) : GoesO P f N m todo T H E (gcap n bytes o) := oGuard fun hb => h (of_decide_eq_true hb)
theorem oMake {todo : List VI} {n : Int} {bytes : Nat} (h : 0 ≤ n → n.toNat * bytes ≤ 140737488355328 → GoesO P f N m todo T H E o) : GoesO P f N m todo T H E (gmake n bytes o) := oGuard fun hb => by
  have := Bool.and_eq_true_iff.1 hb
  exact h (of_decide_eq_true this.1) (of_decide_eq_true this.2)
theorem oCut {todo : List VI} {lo hi len : Int} (h : 0 ≤ lo → lo ≤ hi → hi ≤ len → GoesO P f N m todo T H E o) : GoesO P f N m todo T H E (gcut lo hi len o) := oGuard fun hb => by
  have h1 := Bool.and_eq_true_iff.1 hb
  have h2 := Bool.and_eq_true_iff.1 h1.2
  exact h (of_decide_eq_true h1.1) (of_decide_eq_true h2.1) (of_decide_eq_true h2.2)
theorem oIdx {α : Type} {todo : List VI} {xs : List α} {i : Int} {A : α → Option R} (h : ∀ e, 0 ≤ i → xs[i.toNat]? = some e → GoesO P f N m todo T H E (A e)) : GoesO P f N m todo T H E (gidx xs i A) := fun r hr => by
  unfold gidx at hr
  cases hd : decide (0 ≤ i) with
  | false => rw [hd] at hr; cases hr
  | true =>
    rw [hd] at hr
    cases he : xs[i.toNat]? with
    | none => rw [he] at hr; cases hr
    | some e => rw [he] at hr; exact h e (of_decide_eq_true hd) he r hr

theorem oRet {r0 : R} {fn : Func} {rs : List ResultVar} {vs : List V} {rv : V} {B : List Blk} {σ : List Nat} (hE : E r0 = (rv, B) := by kernel_rfl) (hf : P.funcs[f]? = some fn) (hrs : fn.results.toList = rs) (hres : ResRs P T H rs vs) (hr : mapV (nth σ) rv = resV vs := by kernel_rfl) (hrc : closedV σ.length rv = true := by kernel_rfl)
    (hσm : σ.take m = List.range m := by kernel_rfl) (hσ : σ.all (fun b => Nat.blt b H.length) = true := by kernel_rfl) (hnd : σ.Nodup) (hB : σ.map (fun b => H[b]?) = B.map (fun k => some (mapB (nth σ) k)) := by kernel_rfl) (hcl : B.all (closedB σ.length) = true := by kernel_rfl) :
    GoesO P f N m (.code .ret :: k) T H E (some r0) := fun r hr' => by
  cases hr'
  rw [hE]
  exact gRet hf hrs hres hr hrc hσm hσ hnd hB hcl

theorem oCall {Q : Type} {Ec : Q → V × List Blk} {oc : Option Q} {A : Q → Option R} {all : Array Oper} {i : Nat} {q : Oper} {l : List Oper} {fop : Operand} {args : Array Operand} {tys : Array TypeId} {g : FuncId} {caps : List V} {fn : Func} {c : Code} {vs : List V} {Bc : List Blk}
    (σ : List Nat) (args' : List V) {v : Q → V} {H' : Q → List Blk} (hruns : RunsO P g args' Bc Ec oc)
    (hw : vwanted T all q = some true) (hN : inN N q.dst = true) (ho : q.op = .call ⟨.value fop, args, tys⟩) (hf : ev T fop = .fn g caps) (hfn : P.funcs[g]? = some fn) (hb : fn.body = some c) (hname : (fn.name == "runtime.NumGoroutine") = false)
    (hconv : ConvRs H (args.toList.map (ev T) ++ caps) vs) (hargs : mapVs (nth σ) args' = vs) (hac : closedVs σ.length args' = true) (hσ : σ.all (fun b => Nat.blt b H.length) = true) (hnd : σ.Nodup)
    (hBc : σ.map (fun b => H[b]?) = Bc.map (fun k => some (mapB (nth σ) k))) (hcl : Bc.all (closedB σ.length) = true) (hBl : ∀ r, Nat.ble σ.length (Ec r).2.length = true)
    (hv : ∀ r, mapV (backN σ H.length) (Ec r).1 = v r) (hH' : ∀ r, putL σ ((Ec r).2.map (mapB (backN σ H.length))) H ++ ((Ec r).2.drop σ.length).map (mapB (backN σ H.length)) = H' r)
    (h : ∀ r, GoesO P f N m (.ops all (i + 1) l :: k) (tput T q.dst (v r)) (H' r) E (A r)) : GoesO P f N m (.ops all i (q :: l) :: k) T H E (oc.bind A) := fun r hr => by
  cases hoc : oc with
  | none => rw [hoc] at hr; cases hr
  | some rc =>
    rw [hoc] at hr
    exact gCall hw hN ho hf hfn hb hname hconv hargs hac hσ hnd hBc hcl (hruns rc hoc) (hBl rc) (hv rc) (hH' rc) (h rc r hr)

/-- A place where ways meet. -/
theorem oJoin {S : Type} {X : VI} (st : S → Tm) (hp : S → List Blk) (j : S → Option R) (hj : ∀ s, GoesO P f N m k (st s) (hp s) E (j s)) (h : (∀ s, GoesO P f N m k (st s) (hp s) E (j s)) → GoesO P f N m (X :: k) T H E o) : GoesO P f N m (X :: k) T H E o := h hj
/-- A loop: its own plain function, from its head to the function's end. -/
theorem oRounds {S : Type} {c : Code} (st : S → Tm) (hp : S → List Blk) (l : Nat → S → Option R) (h0 : ∀ s, l 0 s = none)
    (step : ∀ n, (∀ s, GoesO P f N m (.code c :: .loop c :: k) (st s) (hp s) E (l n s)) → ∀ s, GoesO P f N m (.code c :: .loop c :: k) (st s) (hp s) E (l (n + 1) s)) (n : Nat) (s : S) : GoesO P f N m (.code c :: .loop c :: k) (st s) (hp s) E (l n s) := by
  induction n generalizing s with
  | zero => rw [h0]; exact oNone
  | succ n ih => exact step n ih s

theorem RunsO.of_goes {fn : Func} {c : Code} {args : List V} {B : List Blk} (hf : P.funcs[f]? = some fn) (hc : fn.body = some c) (hN : fn.ntmps = N) (hl : Nat.ble args.length N = true := by kernel_rfl) (hT : argsT args = T := by kernel_rfl) (hm : B.length = m := by kernel_rfl) 
    (h : GoesO P f N m [.code c] T B E o) : RunsO P f args B E o := fun r hr => Runs.of_goes hf hc hN (Nat.le_of_ble_eq_true hl) hT hm (h r hr)

/-! ### lists under an encoding -/
theorem map_idx {α β : Type} {xs : List α} {i : Nat} {e : α} (enc : α → β) (h : xs[i]? = some e) : (xs.map enc)[i]? = some (enc e) := by simp [h]
theorem map_app1 {α β : Type} (enc : α → β) (xs : List α) (e : α) : xs.map enc ++ [enc e] = (xs ++ [e]).map enc := by simp
theorem map_app {α β : Type} (enc : α → β) (xs ys : List α) : xs.map enc ++ ys.map enc = (xs ++ ys).map enc := by simp
theorem map_len {α β : Type} (enc : α → β) (xs : List α) : (xs.map enc).length = xs.length := by simp
theorem map_set {α β : Type} (enc : α → β) (xs : List α) (i : Nat) (e : α) : (xs.map enc).set i (enc e) = (xs.set i e).map enc := by simp [List.map_set]
theorem map_rep {α β : Type} (enc : α → β) (n : Nat) (e : α) : List.replicate n (enc e) = (List.replicate n e).map enc := by simp
theorem map_cut {α β : Type} (enc : α → β) (xs : List α) (i n : Nat) : ((xs.map enc).drop i).take n = ((xs.drop i).take n).map enc := by simp [List.map_drop, List.map_take]
theorem cut_all {α : Type} (xs : List α) (n : Nat) (h : xs.length = n) : (xs.drop 0).take n = xs := by subst h; simp
theorem map_row {α : Type} {enc : α → List D} {sz : Nat} (h : ∀ a, (enc a).length = sz) (xs : List α) : ∀ (i : Nat) (e : List D), (xs.map enc)[i]? = some e → e.length = sz := fun i e he => by
  simp only [List.getElem?_map] at he
  obtain ⟨a, _, rfl⟩ := Option.map_eq_some_iff.1 he
  exact h a
theorem app_len {α : Type} (xs ys : List α) : (xs ++ ys).length = xs.length + ys.length := by simp
end
end Go.VM
