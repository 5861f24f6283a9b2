/- The rules in the shape in which the printed proofs use them: the plain function's text is a chain of binds. -/
import Derived.Test.YtdebnihlkdabpaaEngM
namespace Go.VM
set_option linter.unusedVariables false
set_option linter.unusedSimpArgs false

def uc {α β γ : Type} (f : α → β → γ) : α × β → γ
  | (a, b) => f a b
def u0 {γ : Type} (c : γ) (_ : Unit) : γ := c
def blet {α X : Type} (a : α) (B : α → Option X) : Option X := B a
def gloop {S X : Type} (body : (S → Option X) → S → Option X) : Nat → S → Option X
  | 0, _ => none
  | n + 1, s => body (gloop body n) s

theorem bind_split {X R : Type} {b : Bool} {o1 o2 : Option X} {A : X → Option R} : (bif b then o1 else o2).bind A = bif b then o1.bind A else o2.bind A := by cases b <;> rfl
theorem bind_idx {α X R : Type} {xs : List α} {i : Int} {B : α → Option X} {A : X → Option R} : (gidx xs i B).bind A = gidx xs i fun e => (B e).bind A := by
  unfold gidx
  cases decide (0 ≤ i) with
  | false => rfl
  | true => cases xs[i.toNat]? <;> rfl
theorem bind_nz {X R : Type} {y : Int} {o : Option X} {A : X → Option R} : (gnz y o).bind A = gnz y (o.bind A) := by unfold gnz; cases y == 0 <;> rfl
theorem bind_nn {X R : Type} {y : Int} {o : Option X} {A : X → Option R} : (gnn y o).bind A = gnn y (o.bind A) := by unfold gnn; cases decide (0 ≤ y) <;> rfl
theorem bind_cap {X R : Type} {n b : Nat} {o : Option X} {A : X → Option R} : (gcap n b o).bind A = gcap n b (o.bind A) := by unfold gcap; cases decide (n * b ≤ 140737488355328) <;> rfl
theorem bind_make {X R : Type} {n : Int} {b : Nat} {o : Option X} {A : X → Option R} : (gmake n b o).bind A = gmake n b (o.bind A) := by unfold gmake; cases (decide (0 ≤ n) && decide (n.toNat * b ≤ 140737488355328)) <;> rfl
theorem bind_cut {X R : Type} {lo hi len : Int} {o : Option X} {A : X → Option R} : (gcut lo hi len o).bind A = gcut lo hi len (o.bind A) := by unfold gcut; cases (decide (0 ≤ lo) && (decide (lo ≤ hi) && decide (hi ≤ len))) <;> rfl
theorem bind_bind {X Y R : Type} {o : Option X} {B : X → Option Y} {A : Y → Option R} : (o.bind B).bind A = o.bind fun x => (B x).bind A := by cases o <;> rfl

section
variable {R X Y : Type} {E : R → V × List Blk} {A : X → Option R} {P : Program} {f : FuncId} {N m : Nat} {T : Tm} {H : List Blk} {k todo : List VI}

theorem bStart {o : Option R} (h : GoesO P f N m todo T H E (o.bind some)) : GoesO P f N m todo T H E o := by
  have : o.bind some = o := by cases o <;> rfl
  rw [this] at h; exact h
theorem GoesO.eq {o o' : Option R} (e : o = o') (h : GoesO P f N m todo T H E o') : GoesO P f N m todo T H E o := by subst e; exact h
theorem bSplit {o1 o2 : Option X} (t : Nat) {b : Bool} (ht : get T t = .d (.bool b) := by kernel_rfl) (h1 : b = true → GoesO P f N m todo ((t, .d (.bool true)) :: T) H E (o1.bind A)) (h2 : b = false → GoesO P f N m todo ((t, .d (.bool false)) :: T) H E (o2.bind A)) :
    GoesO P f N m todo T H E ((bif b then o1 else o2).bind A) := (oSplit t ht h1 h2).eq bind_split
/-- Both ways go on as one. -/
theorem bPick {B : Bool → Option X} (t : Nat) {b : Bool} (v : Bool → Bool) (ht : get T t = .d (.bool b)) (h1 : b = true → GoesO P f N m todo ((t, .d (.bool true)) :: T) H E ((B (v true)).bind A)) (h2 : b = false → GoesO P f N m todo ((t, .d (.bool false)) :: T) H E ((B (v false)).bind A)) :
    GoesO P f N m todo T H E ((blet (v b) B).bind A) := fun r hr => gSplit t ht (fun hb => by subst hb; exact h1 rfl r hr) (fun hb => by subst hb; exact h2 rfl r hr)
theorem bNone : GoesO P f N m todo T H E ((none : Option X).bind A) := fun r hr => by cases hr
theorem bIdx {α : Type} {xs : List α} {i : Int} {B : α → Option X} (h : ∀ e, 0 ≤ i → xs[i.toNat]? = some e → GoesO P f N m todo T H E ((B e).bind A)) : GoesO P f N m todo T H E ((gidx xs i B).bind A) := (oIdx h).eq bind_idx
theorem bNz {y : Int} {o : Option X} (h : y ≠ 0 → GoesO P f N m todo T H E (o.bind A)) : GoesO P f N m todo T H E ((gnz y o).bind A) := (oNz h).eq bind_nz
theorem bNn {y : Int} {o : Option X} (h : 0 ≤ y → GoesO P f N m todo T H E (o.bind A)) : GoesO P f N m todo T H E ((gnn y o).bind A) := (oNn h).eq bind_nn
theorem bCap {n b : Nat} {o : Option X} (h : n * b ≤ 140737488355328 → GoesO P f N m todo T H E (o.bind A)) : GoesO P f N m todo T H E ((gcap n b o).bind A) := (oCap h).eq bind_cap
theorem bMake {n : Int} {b : Nat} {o : Option X} (h : 0 ≤ n → n.toNat * b ≤ 140737488355328 → GoesO P f N m todo T H E (o.bind A)) : GoesO P f N m todo T H E ((gmake n b o).bind A) := (oMake h).eq bind_make
theorem bCut {lo hi len : Int} {o : Option X} (h : 0 ≤ lo → lo ≤ hi → hi ≤ len → GoesO P f N m todo T H E (o.bind A)) : GoesO P f N m todo T H E ((gcut lo hi len o).bind A) := (oCut h).eq bind_cut
theorem bLet {α : Type} {B : α → Option X} (a : α) (t : Nat) (u : α → V) {T0 : Tm} (hT : T = (t, u a) :: T0) (h : ∀ x, GoesO P f N m todo ((t, u x) :: T0) H E ((B x).bind A)) : GoesO P f N m todo T H E ((blet a B).bind A) := by subst hT; exact h a

/-- The same, for a way that leaves further. -/
theorem bJoinE {S : Type} {k2 : List VI} {x : VI} {o : Option X} (id : Nat) (he : vexit id k = some k2) (st : S → Tm) (hp : S → List Blk) (inj : S → X) (hj : ∀ s, GoesO P f N m k2 (st s) (hp s) E (A (inj s)))
    (h : (∀ s, GoesO P f N m k2 (st s) (hp s) E (A (inj s))) → GoesO P f N m (x :: k) T H E (o.bind A)) : GoesO P f N m (x :: k) T H E (o.bind A) := h hj
theorem bJoin {S : Type} {x : VI} {o : Option Y} {B : Y → Option X} (st : S → Tm) (hp : S → List Blk) (inj : S → Y) (hj : ∀ s, GoesO P f N m k (st s) (hp s) E ((B (inj s)).bind A))
    (h : (∀ s, GoesO P f N m k (st s) (hp s) E ((B (inj s)).bind A)) → GoesO P f N m (x :: k) T H E (o.bind fun y => (B y).bind A)) : GoesO P f N m (x :: k) T H E ((o.bind B).bind A) := (h hj).eq bind_bind
/-- The same, at an operation of the same region. -/
theorem bMeet {S : Type} {all : Array Oper} {i : Nat} {l l' : List Oper} {o : Option Y} {B : Y → Option X} (n : Nat) (hl : l.drop n = l') (st : S → Tm) (hp : S → List Blk) (inj : S → Y) (hj : ∀ s, GoesO P f N m (.ops all (i + n) l' :: k) (st s) (hp s) E ((B (inj s)).bind A))
    (h : (∀ s, GoesO P f N m (.ops all (i + n) l' :: k) (st s) (hp s) E ((B (inj s)).bind A)) → GoesO P f N m (.ops all i l :: k) T H E (o.bind fun y => (B y).bind A)) : GoesO P f N m (.ops all i l :: k) T H E ((o.bind B).bind A) := (h hj).eq bind_bind
/-- The same, for a truth value alone. -/
theorem bMeetB {all : Array Oper} {i : Nat} {l l' : List Oper} {b : Bool} {B : Bool → Option X} (n : Nat) (hl : l.drop n = l') (st : Bool → Tm) {H' : List Blk} (hj : ∀ s, GoesO P f N m (.ops all (i + n) l' :: k) (st s) H' E ((B s).bind A))
    (h : (∀ s, GoesO P f N m (.ops all (i + n) l' :: k) (st s) H' E ((B s).bind A)) → GoesO P f N m (.ops all i l :: k) T H E ((blet b B).bind A)) : GoesO P f N m (.ops all i l :: k) T H E ((blet b B).bind A) := h hj

theorem bLoop {S : Type} {c : Code} {body : (S → Option X) → S → Option X} (st : S → Tm) (hp : S → List Blk) (step : ∀ again : S → Option X, (∀ s, GoesO P f N m (.code c :: .loop c :: k) (st s) (hp s) E ((again s).bind A)) → ∀ s, GoesO P f N m (.code c :: .loop c :: k) (st s) (hp s) E ((body again s).bind A))
    (n : Nat) : ∀ s, GoesO P f N m (.code c :: .loop c :: k) (st s) (hp s) E ((gloop body n s).bind A) := by
  induction n with
  | zero => exact fun s => bNone
  | succ n ih => exact fun s => step (gloop body n) ih s

theorem bCall {Q : Type} {Ec : Q → V × List Blk} {oc : Option Q} {B : Q → Option X} {all : Array Oper} {i : Nat} {q : Oper} {l : List Oper} {fop : Operand} {args : Array Operand} {tys : Array TypeId} {g : FuncId} {caps : List V} {fn : Func} {c : Code} {vs : List V} {Bc : List Blk}
    (σ : List Nat) (args' : List V) {v : Q → V} {H' : Q → List Blk} (hruns : RunsO P g args' Bc Ec oc)
    (hw : vwanted T all q = some true := by kernel_rfl) (hN : inN N q.dst = true := by kernel_rfl) (ho : q.op = .call ⟨.value fop, args, tys⟩) (hf : ev T fop = .fn g caps := by kernel_rfl) (hfn : P.funcs[g]? = some fn) (hb : fn.body = some c) (hname : (fn.name == "runtime.NumGoroutine") = false := by kernel_rfl)
    (hconv : ConvRs H (args.toList.map (ev T) ++ caps) vs) (hargs : mapVs (nth σ) args' = vs := by kernel_rfl) (hac : closedVs σ.length args' = true := by kernel_rfl) (hσ : σ.all (fun b => Nat.blt b H.length) = true := by kernel_rfl) (hnd : σ.Nodup)
    (hBc : σ.map (fun b => H[b]?) = Bc.map (fun k => some (mapB (nth σ) k)) := by kernel_rfl) (hcl : Bc.all (closedB σ.length) = true := by kernel_rfl) (hBl : ∀ r, Nat.ble σ.length (Ec r).2.length = true)
    (hv : ∀ r, mapV (backN σ H.length) (Ec r).1 = v r) (hH' : ∀ r, putL σ ((Ec r).2.map (mapB (backN σ H.length))) H ++ ((Ec r).2.drop σ.length).map (mapB (backN σ H.length)) = H' r)
    (h : ∀ r, GoesO P f N m (.ops all (i + 1) l :: k) (tput T q.dst (v r)) (H' r) E ((B r).bind A)) : GoesO P f N m (.ops all i (q :: l) :: k) T H E ((oc.bind B).bind A) :=
  (oCall σ args' hruns hw hN ho hf hfn hb hname hconv hargs hac hσ hnd hBc hcl hBl hv hH' h).eq bind_bind
end

section
variable {R X Y : Type} {E : R → V × List Blk} {A : X → Option R} {P : Program} {f : FuncId} {N m : Nat} {T U : Tm} {H H0 : List Blk} {k : List VI} {all : Array Oper} {st : List (Nat × Nat)} {lv : List Nat}
theorem AnyO.eq {o o' : Option R} (e : o = o') (h : AnyO P f N m all st H0 lv k T U H E o') : AnyO P f N m all st H0 lv k T U H E o := by subst e; exact h
theorem dSplit {o1 o2 : Option X} (t : Nat) {b : Bool} (ht : get T t = .d (.bool b) := by kernel_rfl) (hu : get U t = .d (.bool b) := by kernel_rfl) (h1 : b = true → AnyO P f N m all st H0 lv k ((t, .d (.bool true)) :: T) ((t, .d (.bool true)) :: U) H E (o1.bind A))
    (h2 : b = false → AnyO P f N m all st H0 lv k ((t, .d (.bool false)) :: T) ((t, .d (.bool false)) :: U) H E (o2.bind A)) : AnyO P f N m all st H0 lv k T U H E ((bif b then o1 else o2).bind A) := (aSplit t ht hu h1 h2).eq bind_split
theorem dPick {B : Bool → Option X} (t : Nat) {b : Bool} (v : Bool → Bool) (ht : get T t = .d (.bool b)) (hu : get U t = .d (.bool b)) (h1 : b = true → AnyO P f N m all st H0 lv k ((t, .d (.bool true)) :: T) ((t, .d (.bool true)) :: U) H E ((B (v true)).bind A))
    (h2 : b = false → AnyO P f N m all st H0 lv k ((t, .d (.bool false)) :: T) ((t, .d (.bool false)) :: U) H E ((B (v false)).bind A)) : AnyO P f N m all st H0 lv k T U H E ((blet (v b) B).bind A) := by
  have : (blet (v b) B).bind A = bif b then (B (v true)).bind A else (B (v false)).bind A := by cases b <;> rfl
  rw [this]
  exact aSplit t ht hu h1 h2
theorem dIdx {α : Type} {xs : List α} {i : Int} {B : α → Option X} (h : ∀ e, 0 ≤ i → xs[i.toNat]? = some e → AnyO P f N m all st H0 lv k T U H E ((B e).bind A)) : AnyO P f N m all st H0 lv k T U H E ((gidx xs i B).bind A) := (aIdx h).eq bind_idx
theorem dNz {y : Int} {o : Option X} (h : y ≠ 0 → AnyO P f N m all st H0 lv k T U H E (o.bind A)) : AnyO P f N m all st H0 lv k T U H E ((gnz y o).bind A) := (aNz h).eq bind_nz
theorem dNn {y : Int} {o : Option X} (h : 0 ≤ y → AnyO P f N m all st H0 lv k T U H E (o.bind A)) : AnyO P f N m all st H0 lv k T U H E ((gnn y o).bind A) := (aNn h).eq bind_nn
theorem dCap {n b : Nat} {o : Option X} (h : n * b ≤ 140737488355328 → AnyO P f N m all st H0 lv k T U H E (o.bind A)) : AnyO P f N m all st H0 lv k T U H E ((gcap n b o).bind A) := (aCap h).eq bind_cap
theorem dMake {n : Int} {b : Nat} {o : Option X} (h : 0 ≤ n → n.toNat * b ≤ 140737488355328 → AnyO P f N m all st H0 lv k T U H E (o.bind A)) : AnyO P f N m all st H0 lv k T U H E ((gmake n b o).bind A) := (aMake h).eq bind_make
theorem dCut {lo hi len : Int} {o : Option X} (h : 0 ≤ lo → lo ≤ hi → hi ≤ len → AnyO P f N m all st H0 lv k T U H E (o.bind A)) : AnyO P f N m all st H0 lv k T U H E ((gcut lo hi len o).bind A) := (aCut h).eq bind_cut
theorem dMeet {S : Type} {o : Option Y} {B : Y → Option X} (lv' : List Nat) (sT sU : S → Tm) (hp : S → List Blk) (inj : S → Y) (hj : ∀ s, AnyO P f N m all st H0 lv' k (sT s) (sU s) (hp s) E ((B (inj s)).bind A))
    (h : (∀ s, AnyO P f N m all st H0 lv' k (sT s) (sU s) (hp s) E ((B (inj s)).bind A)) → AnyO P f N m all st H0 lv k T U H E (o.bind fun y => (B y).bind A)) : AnyO P f N m all st H0 lv k T U H E ((o.bind B).bind A) := (h hj).eq bind_bind
theorem dMeetB {b : Bool} {B : Bool → Option X} (lv' : List Nat) (sT sU : Bool → Tm) {H' : List Blk} (hj : ∀ s, AnyO P f N m all st H0 lv' k (sT s) (sU s) H' E ((B s).bind A))
    (h : (∀ s, AnyO P f N m all st H0 lv' k (sT s) (sU s) H' E ((B s).bind A)) → AnyO P f N m all st H0 lv k T U H E ((blet b B).bind A)) : AnyO P f N m all st H0 lv k T U H E ((blet b B).bind A) := h hj

theorem TR.keep {φ : List Plc} {I : Nat → Prop} {w : World} {a : Act} (h : TR φ I w T a) (ks : List Nat) : TR φ I w (keepT ks T) a := fun t => by
  rcases get_keep ks T t with e | e
  · rw [e]; exact h t
  · rw [e]; exact .undef _
theorem dView {o : Option R} {T' U' : Tm} {H' : List Blk} (hT : T = T') (hU : U = U') (hH : H = H' := by kernel_rfl) (h : AnyO P f N m all st H0 lv k T' U' H' E o) : AnyO P f N m all st H0 lv k T U H E o := by subst hT; subst hU; subst hH; exact h
theorem dDrop {o : Option R} (kt ku : List Nat) {T' U' : Tm} (hT : keepT kt T = T' := by kernel_rfl) (hU : keepT ku U = U' := by kernel_rfl) (h : AnyO P f N m all st H0 lv k T' U' H E o) : AnyO P f N m all st H0 lv k T U H E o := by
  subst hT; subst hU
  intro r hr φ0 I0 w0 φ I w a b cs A listed fuel Q hM
  exact h r hr φ0 I0 w0 φ I w a b cs A listed fuel Q ⟨hM.rel0, hM.rel, hM.tr.keep kt, hM.tu.keep ku, hM.le, hM.tm, hM.stk, hM.size, hM.lst, hM.early, hM.out, hM.one, hM.dist⟩
theorem dCall {Q : Type} {Ec : Q → V × List Blk} {oc : Option Q} {B : Q → Option X} {i : Nat} {q : Oper} {fop : Operand} {args : Array Operand} {tys : Array TypeId} {g : FuncId} {caps : List V} {fn : Func} {c : Code} {vs : List V} {Bc : List Blk}
    (σ : List Nat) (args' : List V) {v : Q → V} {H' : Q → List Blk} (hruns : RunsO P g args' Bc Ec oc)
    (hi : all[i]? = some q) (hun : lv.contains i = false := by kernel_rfl) (hna : isAlloc q = false := by kernel_rfl) (hpre : predsV all lv q = true := by kernel_rfl) (honly : onlyV all (lv ++ lateA all lv) i = true := by kernel_rfl) (hok : lateOk P N all (lateA all lv) T U q.dst = true := by kernel_rfl) (hst : writesV all st lv i σ = true := by kernel_rfl)
    (hw : vwanted T all q = some true := by kernel_rfl) (hN : inN N q.dst = true := by kernel_rfl) (ho : q.op = .call ⟨.value fop, args, tys⟩) (hf : ev T fop = .fn g caps := by kernel_rfl) (hfn : P.funcs[g]? = some fn) (hb : fn.body = some c) (hname : (fn.name == "runtime.NumGoroutine") = false := by kernel_rfl)
    (hconv : ConvRs H (args.toList.map (ev T) ++ caps) vs) (hargs : mapVs (nth σ) args' = vs := by kernel_rfl) (hac : closedVs σ.length args' = true := by kernel_rfl) (hσ : σ.all (fun b => Nat.blt b H.length) = true := by kernel_rfl) (hnd : σ.Nodup)
    (hBc : σ.map (fun b => H[b]?) = Bc.map (fun k => some (mapB (nth σ) k)) := by kernel_rfl) (hcl : Bc.all (closedB σ.length) = true := by kernel_rfl) (hBl : ∀ r, Nat.ble σ.length (Ec r).2.length = true)
    (hv : ∀ r, mapV (backN σ H.length) (Ec r).1 = v r) (hH' : ∀ r, putL σ ((Ec r).2.map (mapB (backN σ H.length))) H ++ ((Ec r).2.drop σ.length).map (mapB (backN σ H.length)) = H' r)
    (h : ∀ r, AnyO P f N m all st H0 (i :: lv) k (tput T q.dst (v r)) (tput U q.dst (scal (v r))) (H' r) E ((B r).bind A)) : AnyO P f N m all st H0 lv k T U H E ((oc.bind B).bind A) := by
  refine AnyO.eq bind_bind ?_
  intro r hr
  cases hoc : oc with
  | none => rw [hoc] at hr; cases hr
  | some rc =>
    rw [hoc] at hr
    exact aOne hi hun hna hpre honly hok hw hN (acts_call ho hf hfn hb hname hconv hargs hac hσ hnd hBc hcl (hruns rc hoc) (hBl rc) (hv rc) (hH' rc)) hst (h rc) r hr
theorem sCall {Q : Type} {Ec : Q → V × List Blk} {oc : Option Q} {B : Q → Option X} {i : Nat} {q : Oper} {fop : Operand} {args : Array Operand} {tys : Array TypeId} {g : FuncId} {caps : List V} {fn : Func} {c : Code} {vs : List V} {Bc : List Blk}
    (σ : List Nat) (args' : List V) {v : Q → V} {H' : Q → List Blk} (hruns : RunsO P g args' Bc Ec oc)
    (hi : all[i]? = some q) (hun : lv.contains i = false := by kernel_rfl) (hna : isAlloc q = false := by kernel_rfl) (hok : lateOk P N all (lateA all lv) T U q.dst = true := by kernel_rfl) (hst : writesV all st lv i σ = true := by kernel_rfl)
    (hw : vwanted T all q = some true := by kernel_rfl) (hN : inN N q.dst = true := by kernel_rfl) (ho : q.op = .call ⟨.value fop, args, tys⟩) (hf : ev T fop = .fn g caps := by kernel_rfl) (hfn : P.funcs[g]? = some fn) (hb : fn.body = some c) (hname : (fn.name == "runtime.NumGoroutine") = false := by kernel_rfl)
    (hconv : ConvRs H (args.toList.map (ev T) ++ caps) vs) (hargs : mapVs (nth σ) args' = vs := by kernel_rfl) (hac : closedVs σ.length args' = true := by kernel_rfl) (hσ : σ.all (fun b => Nat.blt b H.length) = true := by kernel_rfl) (hnd : σ.Nodup)
    (hBc : σ.map (fun b => H[b]?) = Bc.map (fun k => some (mapB (nth σ) k)) := by kernel_rfl) (hcl : Bc.all (closedB σ.length) = true := by kernel_rfl) (hBl : ∀ r, Nat.ble σ.length (Ec r).2.length = true)
    (hv : ∀ r, mapV (backN σ H.length) (Ec r).1 = v r) (hH' : ∀ r, putL σ ((Ec r).2.map (mapB (backN σ H.length))) H ++ ((Ec r).2.drop σ.length).map (mapB (backN σ H.length)) = H' r)
    (h : ∀ r, AnyO P f N m all st H0 (i :: lv) k (tput T q.dst (v r)) (tput U q.dst (scal (v r))) (H' r) E ((B r).bind A)) : StepO P f N m all st H0 lv k T U H E ((oc.bind B).bind A) i := by
  intro r hr
  rw [bind_bind] at hr
  cases hoc : oc with
  | none => rw [hoc] at hr; cases hr
  | some rc =>
    rw [hoc] at hr
    exact sOne hi hun hna hok hw hN (acts_call ho hf hfn hb hname hconv hargs hac hσ hnd hBc hcl (hruns rc hoc) (hBl rc) (hv rc) (hH' rc)) hst (h rc) r hr
end
end Go.VM
