/- The rules in the form in which a printed proof uses them: the plain function stands in the goal, and is taken apart with the code. -/
import Derived.Test.YtdebnihlkdabpaaEngK
namespace Go.VM
set_option linter.unusedVariables false
set_option linter.unusedSimpArgs false

def GoesO {R : Type} (P : Program) (f : FuncId) (N m : Nat) (todo : List VI) (T : Tm) (H : List Blk) (E : R → V × List Blk) (o : Option R) : Prop := ∀ r, o = some r → Goes P f N m todo T H (E r).1 (E r).2
def RunsO {R : Type} (P : Program) (f : FuncId) (args : List V) (B : List Blk) (E : R → V × List Blk) (o : Option R) : Prop := ∀ r, o = some r → Runs P f args B (E r).1 (E r).2

/-! ### the words of the plain functions -/
def gidx {α R : Type} (xs : List α) (i : Int) (k : α → Option R) : Option R := bif decide (0 ≤ i) then (xs[i.toNat]?).bind k else none
def gcap {R : Type} (n bytes : Nat) (k : Option R) : Option R := bif decide (n * bytes ≤ 140737488355328) then k else none
def gnz {R : Type} (y : Int) (k : Option R) : Option R := bif y == 0 then none else k
def gnn {R : Type} (y : Int) (k : Option R) : Option R := bif decide (0 ≤ y) then k else none
def gmake {R : Type} (n : Int) (bytes : Nat) (k : Option R) : Option R := bif decide (0 ≤ n) && decide (n.toNat * bytes ≤ 140737488355328) then k else none
def gcut {R : Type} (lo hi len : Int) (k : Option R) : Option R := bif decide (0 ≤ lo) && (decide (lo ≤ hi) && decide (hi ≤ len)) then k else none

section
variable {R : Type} {E : R → V × List Blk} {o : Option R} {P : Program} {f : FuncId} {N m : Nat} {T : Tm} {H : List Blk} {k : List VI}

theorem oSeq {x y : Code} (h : GoesO P f N m (.code x :: .code y :: k) T H E o) : GoesO P f N m (.code (.seq x y) :: k) T H E o := fun r hr => gSeq (h r hr)
theorem oSkip (h : GoesO P f N m k T H E o) : GoesO P f N m (.code .skip :: k) T H E o := fun r hr => gSkip (h r hr)
theorem oBlock {id : Nat} {c : Code} (h : GoesO P f N m (.code c :: .blk id :: k) T H E o) : GoesO P f N m (.code (.block id c) :: k) T H E o := fun r hr => gBlock (h r hr)
theorem oBlk {id : Nat} (h : GoesO P f N m k T H E o) : GoesO P f N m (.blk id :: k) T H E o := fun r hr => gBlk (h r hr)
theorem oLoop {c : Code} (h : GoesO P f N m (.code c :: .loop c :: k) T H E o) : GoesO P f N m (.code (.loop c) :: k) T H E o := fun r hr => gLoop (h r hr)
theorem oAgain {c : Code} (h : GoesO P f N m (.code c :: .loop c :: k) T H E o) : GoesO P f N m (.loop c :: k) T H E o := fun r hr => gAgain (h r hr)
theorem oExit {id : Nat} {k' : List VI} (he : vexit id k = some k') (h : GoesO P f N m k' T H E o) : GoesO P f N m (.code (.exit id) :: k) T H E o := fun r hr => gExit he (h r hr)
theorem oCondT {c : Operand} {x y : Code} (hc : ev T c = .d (.bool true) := by kernel_rfl) (h : GoesO P f N m (.code x :: k) T H E o) : GoesO P f N m (.code (.cond c x y) :: k) T H E o := fun r hr => gCondT hc (h r hr)
theorem oCondF {c : Operand} {x y : Code} (hc : ev T c = .d (.bool false) := by kernel_rfl) (h : GoesO P f N m (.code y :: k) T H E o) : GoesO P f N m (.code (.cond c x y) :: k) T H E o := fun r hr => gCondF hc (h r hr)
theorem oRegion {id : Nat} {all : Array Oper} {l : List Oper} (hl : all.toList = l) (h : GoesO P f N m (.ops all 0 l :: k) T H E o) : GoesO P f N m (.code (.region id all false) :: k) T H E o := fun r hr => gRegion hl (h r hr)
theorem oEnd {all : Array Oper} {i : Nat} (h : GoesO P f N m k T H E o) : GoesO P f N m (.ops all i [] :: k) T H E o := fun r hr => gEnd (h r hr)
theorem oOp {all : Array Oper} {i : Nat} {q : Oper} {l : List Oper} {H' : List Blk} {tc : List Nat} (v : V) (hw : vwanted T all q = some true := by kernel_rfl) (hN : inN N q.dst = true := by kernel_rfl) (hdo : Does P q T H v H' tc) (h : GoesO P f N m (.ops all (i + 1) l :: k) (tput T q.dst v) H' E o) :
    GoesO P f N m (.ops all i (q :: l) :: k) T H E o := fun r hr => gOp hw hN hdo (h r hr)
theorem oNot {all : Array Oper} {i : Nat} {q : Oper} {l : List Oper} (hw : vwanted T all q = some false := by kernel_rfl) (hN : inN N q.dst = true := by kernel_rfl) (h : GoesO P f N m (.ops all (i + 1) l :: k) (tput T q.dst (.tuple [])) H E o) :
    GoesO P f N m (.ops all i (q :: l) :: k) T H E o := fun r hr => gNot hw hN (h r hr)
theorem oHead {todo : List VI} (ks σ : List Nat) {T' : Tm} {H' : List Blk} (hT' : keepT ks T = T'.map fun p => (p.1, mapV (nth σ) p.2) := by kernel_rfl) (hTc : T'.all (fun p => closedV σ.length p.2) = true := by kernel_rfl)
    (hσm : σ.take m = List.range m := by kernel_rfl) (hσ : σ.all (fun b => Nat.blt b H.length) = true := by kernel_rfl) (hnd : σ.Nodup) (hB : σ.map (fun b => H[b]?) = H'.map (fun k => some (mapB (nth σ) k)) := by kernel_rfl) (hcl : H'.all (closedB σ.length) = true := by kernel_rfl)
    (h : GoesO P f N m todo T' H' E o) : GoesO P f N m todo T H E o := fun r hr => gHead ks σ hT' hTc hσm hσ hnd hB hcl (h r hr)
theorem oVirt {esz : Nat} {todo : List VI} (t : Nat) (ht : get T t = .nilc := by kernel_rfl) (h : GoesO P f N m todo ((t, .ref H.length 0 0 0) :: T) (H ++ [.sl esz [] false]) E o) : GoesO P f N m todo T H E o := fun r hr => gVirt t ht (h r hr)
theorem oVirtB {esz : Nat} {todo : List VI} (b off : Nat) {cells : List V} (hk : H[b]? = some (.box cells) := by kernel_rfl) (ho : cells[off]? = some .nilc := by kernel_rfl) (h : GoesO P f N m todo T (H.set b (.box (cells.set off (.ref H.length 0 0 0))) ++ [.sl esz [] false]) E o) : GoesO P f N m todo T H E o := fun r hr => gVirtB b off hk ho (h r hr)
theorem oFreeze {todo : List VI} (b : Nat) {esz : Nat} {xs : List (List D)} (hk : H[b]? = some (.sl esz xs false) := by kernel_rfl) (h : GoesO P f N m todo T (H.set b (.sl esz xs true)) E o) : GoesO P f N m todo T H E o := fun r hr => gFreeze b hk (h r hr)
theorem oConv {todo : List VI} (t : Nat) {v v' : V} (ht : get T t = v := by kernel_rfl) (hc : ConvR H v v') (h : GoesO P f N m todo ((t, v') :: T) H E o) : GoesO P f N m todo T H E o := fun r hr => gConv t ht hc (h r hr)
theorem oConvB {todo : List VI} (b : Nat) {cells cells' : List V} (hk : H[b]? = some (.box cells) := by kernel_rfl) (hc : ConvRs H cells cells') (h : GoesO P f N m todo T (H.set b (.box cells')) E o) : GoesO P f N m todo T H E o := fun r hr => gConvB b hk hc (h r hr)

/-- The same view in other words. -/
theorem oView {todo : List VI} {T' : Tm} {H' : List Blk} (hT : T = T' := by kernel_rfl) (hH : H = H' := by kernel_rfl) (h : GoesO P f N m todo T' H' E o) : GoesO P f N m todo T H E o := by subst hT; subst hH; exact h

theorem oNone {todo : List VI} : GoesO P f N m todo T H E (none : Option R) := fun r hr => by cases hr
theorem oSplit {todo : List VI} {o1 o2 : Option R} (t : Nat) {b : Bool} (ht : get T t = .d (.bool b)) (h1 : b = true → GoesO P f N m todo ((t, .d (.bool true)) :: T) H E o1) (h2 : b = false → GoesO P f N m todo ((t, .d (.bool false)) :: T) H E o2) :
    GoesO P f N m todo T H E (bif b then o1 else o2) := fun r hr => gSplit t ht (fun hb => by subst hb; exact h1 rfl r hr) (fun hb => by subst hb; exact h2 rfl r hr)
/-- A guard of the plain function's own. -/
theorem oGuard {todo : List VI} {b : Bool} (h : b = true → GoesO P f N m todo T H E o) : GoesO P f N m todo T H E (bif b then o else none) := fun r hr => by
  cases b with
  | true => exact h rfl r hr
  | false => cases hr
theorem oNz {todo : List VI} {y : Int} (h : y ≠ 0 → GoesO P f N m todo T H E o) : GoesO P f N m todo T H E (gnz y o) := fun r hr => by
  unfold gnz at hr
  by_cases hy : y = 0
  · subst hy; cases hr
  · have : (y == 0) = false := by simpa using hy
    rw [this] at hr
    exact h hy r hr
theorem oNn {todo : List VI} {y : Int} (h : 0 ≤ y → GoesO P f N m todo T H E o) : GoesO P f N m todo T H E (gnn y o) := oGuard fun hb => h (of_decide_eq_true hb)
theorem oCap {todo : List VI} {n bytes : Nat} (h : n * bytes ≤ 140737488355328 → GoesO P f N m todo T H E o) : GoesO P f N m todo T H E (gcap n bytes o) := oGuard fun hb => h (of_decide_eq_true hb)
theorem oMake {todo : List VI} {n : Int} {bytes : Nat} (h : 0 ≤ n → n.toNat * bytes ≤ 140737488355328 → GoesO P f N m todo T H E o) : GoesO P f N m todo T H E (gmake n bytes o) := oGuard fun hb => by
  have := Bool.and_eq_true_iff.1 hb
  exact h (of_decide_eq_true this.1) (of_decide_eq_true this.2)
theorem oCut {todo : List VI} {lo hi len : Int} (h : 0 ≤ lo → lo ≤ hi → hi ≤ len → GoesO P f N m todo T H E o) : GoesO P f N m todo T H E (gcut lo hi len o) := oGuard fun hb => by
  have h1 := Bool.and_eq_true_iff.1 hb
  have h2 := Bool.and_eq_true_iff.1 h1.2
  exact h (of_decide_eq_true h1.1) (of_decide_eq_true h2.1) (of_decide_eq_true h2.2)
theorem oIdx {α : Type} {todo : List VI} {xs : List α} {i : Int} {A : α → Option R} (h : ∀ e, 0 ≤ i → xs[i.toNat]? = some e → GoesO P f N m todo T H E (A e)) : GoesO P f N m todo T H E (gidx xs i A) := fun r hr => by
  unfold gidx at hr
  cases hd : decide (0 ≤ i) with
  | false => rw [hd] at hr; cases hr
  | true =>
    rw [hd] at hr
    cases he : xs[i.toNat]? with
    | none => rw [he] at hr; cases hr
    | some e => rw [he] at hr; exact h e (of_decide_eq_true hd) he r hr

theorem oRet {r0 : R} {fn : Func} {rs : List ResultVar} {vs : List V} {rv : V} {B : List Blk} {σ : List Nat} (hE : E r0 = (rv, B) := by kernel_rfl) (hf : P.funcs[f]? = some fn) (hrs : fn.results.toList = rs) (hres : ResRs P T H rs vs) (hr : mapV (nth σ) rv = resV vs := by kernel_rfl) (hrc : closedV σ.length rv = true := by kernel_rfl)
    (hσm : σ.take m = List.range m := by kernel_rfl) (hσ : σ.all (fun b => Nat.blt b H.length) = true := by kernel_rfl) (hnd : σ.Nodup) (hB : σ.map (fun b => H[b]?) = B.map (fun k => some (mapB (nth σ) k)) := by kernel_rfl) (hcl : B.all (closedB σ.length) = true := by kernel_rfl) :
    GoesO P f N m (.code .ret :: k) T H E (some r0) := fun r hr' => by
  cases hr'
  rw [hE]
  exact gRet hf hrs hres hr hrc hσm hσ hnd hB hcl

theorem oCall {Q : Type} {Ec : Q → V × List Blk} {oc : Option Q} {A : Q → Option R} {all : Array Oper} {i : Nat} {q : Oper} {l : List Oper} {fop : Operand} {args : Array Operand} {tys : Array TypeId} {g : FuncId} {caps : List V} {fn : Func} {c : Code} {vs : List V} {Bc : List Blk}
    (σ : List Nat) (args' : List V) {v : Q → V} {H' : Q → List Blk} (hruns : RunsO P g args' Bc Ec oc)
    (hw : vwanted T all q = some true) (hN : inN N q.dst = true) (ho : q.op = .call ⟨.value fop, args, tys⟩) (hf : ev T fop = .fn g caps) (hfn : P.funcs[g]? = some fn) (hb : fn.body = some c) (hname : (fn.name == "runtime.NumGoroutine") = false)
    (hconv : ConvRs H (args.toList.map (ev T) ++ caps) vs) (hargs : mapVs (nth σ) args' = vs) (hac : closedVs σ.length args' = true) (hσ : σ.all (fun b => Nat.blt b H.length) = true) (hnd : σ.Nodup)
    (hBc : σ.map (fun b => H[b]?) = Bc.map (fun k => some (mapB (nth σ) k))) (hcl : Bc.all (closedB σ.length) = true) (hBl : ∀ r, Nat.ble σ.length (Ec r).2.length = true)
    (hv : ∀ r, mapV (backN σ H.length) (Ec r).1 = v r) (hH' : ∀ r, putL σ ((Ec r).2.map (mapB (backN σ H.length))) H ++ ((Ec r).2.drop σ.length).map (mapB (backN σ H.length)) = H' r)
    (h : ∀ r, GoesO P f N m (.ops all (i + 1) l :: k) (tput T q.dst (v r)) (H' r) E (A r)) : GoesO P f N m (.ops all i (q :: l) :: k) T H E (oc.bind A) := fun r hr => by
  cases hoc : oc with
  | none => rw [hoc] at hr; cases hr
  | some rc =>
    rw [hoc] at hr
    exact gCall hw hN ho hf hfn hb hname hconv hargs hac hσ hnd hBc hcl (hruns rc hoc) (hBl rc) (hv rc) (hH' rc) (h rc r hr)

/-- A place where ways meet. -/
theorem oJoin {S : Type} {X : VI} (st : S → Tm) (hp : S → List Blk) (j : S → Option R) (hj : ∀ s, GoesO P f N m k (st s) (hp s) E (j s)) (h : (∀ s, GoesO P f N m k (st s) (hp s) E (j s)) → GoesO P f N m (X :: k) T H E o) : GoesO P f N m (X :: k) T H E o := h hj
/-- A loop: its own plain function, from its head to the function's end. -/
theorem oRounds {S : Type} {c : Code} (st : S → Tm) (hp : S → List Blk) (l : Nat → S → Option R) (h0 : ∀ s, l 0 s = none)
    (step : ∀ n, (∀ s, GoesO P f N m (.code c :: .loop c :: k) (st s) (hp s) E (l n s)) → ∀ s, GoesO P f N m (.code c :: .loop c :: k) (st s) (hp s) E (l (n + 1) s)) (n : Nat) (s : S) : GoesO P f N m (.code c :: .loop c :: k) (st s) (hp s) E (l n s) := by
  induction n generalizing s with
  | zero => rw [h0]; exact oNone
  | succ n ih => exact step n ih s

theorem RunsO.of_goes {fn : Func} {c : Code} {args : List V} {B : List Blk} (hf : P.funcs[f]? = some fn) (hc : fn.body = some c) (hN : fn.ntmps = N) (hl : Nat.ble args.length N = true := by kernel_rfl) (hT : argsT args = T := by kernel_rfl) (hm : B.length = m := by kernel_rfl) 
    (h : GoesO P f N m [.code c] T B E o) : RunsO P f args B E o := fun r hr => Runs.of_goes hf hc hN (Nat.le_of_ble_eq_true hl) hT hm (h r hr)

/-! ### lists under an encoding -/
theorem map_idx {α β : Type} {xs : List α} {i : Nat} {e : α} (enc : α → β) (h : xs[i]? = some e) : (xs.map enc)[i]? = some (enc e) := by simp [h]
theorem map_app1 {α β : Type} (enc : α → β) (xs : List α) (e : α) : xs.map enc ++ [enc e] = (xs ++ [e]).map enc := by simp
theorem map_app {α β : Type} (enc : α → β) (xs ys : List α) : xs.map enc ++ ys.map enc = (xs ++ ys).map enc := by simp
theorem map_len {α β : Type} (enc : α → β) (xs : List α) : (xs.map enc).length = xs.length := by simp
theorem map_set {α β : Type} (enc : α → β) (xs : List α) (i : Nat) (e : α) : (xs.map enc).set i (enc e) = (xs.set i e).map enc := by simp [List.map_set]
theorem map_rep {α β : Type} (enc : α → β) (n : Nat) (e : α) : List.replicate n (enc e) = (List.replicate n e).map enc := by simp
theorem map_cut {α β : Type} (enc : α → β) (xs : List α) (i n : Nat) : ((xs.map enc).drop i).take n = ((xs.drop i).take n).map enc := by simp [List.map_drop, List.map_take]
theorem cut_all {α : Type} (xs : List α) (n : Nat) (h : xs.length = n) : (xs.drop 0).take n = xs := by subst h; simp
theorem map_row {α : Type} {enc : α → List D} {sz : Nat} (h : ∀ a, (enc a).length = sz) (xs : List α) : ∀ (i : Nat) (e : List D), (xs.map enc)[i]? = some e → e.length = sz := fun i e he => by
  simp only [List.getElem?_map] at he
  obtain ⟨a, _, rfl⟩ := Option.map_eq_some_iff.1 he
  exact h a
theorem app_len {α : Type} (xs ys : List α) : (xs ++ ys).length = xs.length + ys.length := by simp
end
end Go.VM
