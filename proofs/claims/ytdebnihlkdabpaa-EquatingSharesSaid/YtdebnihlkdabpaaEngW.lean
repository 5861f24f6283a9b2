/- More single steps: a byte of a constant string, elements of arrays, and others. -/
import Derived.Test.YtdebnihlkdabpaaEngS
import Derived.Laws.Strings
import Derived.Laws.Externs
namespace Go.VM
set_option linter.unusedVariables false
set_option linter.unusedSimpArgs false
section
variable {P : Program} {T : Tm} {H : List Blk} {dst : Option Tmp} {type : TypeId} {pos : String} {after : Array Edge} {guard : Option (Nat × Bool)}

/-- The bytes of a string, as numbers. -/
def strBytes (s : ByteArray) : List Int := s.data.toList.map fun b => (b.toNat : Int)
/-- The bytes of a string. -/
def strI : V → Option (List Int)
  | .d (.str s) => some (strBytes s)
  | _ => none
theorem strI_some {v : V} {xs : List Int} (h : strI v = some xs) : ∃ s, v = .d (.str s) ∧ strBytes s = xs := by
  unfold strI at h
  split at h
  · next s => exact ⟨s, rfl, Option.some.inj h⟩
  · cases h
theorem k_idxStr {t : TypeId} {x y : Operand} {k : IntKind} {i e : Int} {xs : List Int} (hx : strI (ev T x) = some xs := by kernel_rfl) (hy : ev T y = .d (.int k i) := by kernel_rfl) (hu : P.underlying t = some .string) (h0 : 0 ≤ i) (he : xs[i.toNat]? = some e) :
    PureV P ⟨dst, .index t x y, type, pos, after, guard⟩ T H (.d (.int .u8 e)) := fun φ I w a hR hT => by
  obtain ⟨s, hx, hs⟩ := strI_some hx
  have e1 := (hx ▸ ev_VR hT x).str_inv
  have e2 := (hy ▸ ev_VR hT y).int_inv
  have hlt : i.toNat < s.size := by
    have := (List.getElem?_eq_some_iff.1 he).1
    rw [← hs] at this
    simpa [strBytes] using this
  have hv : e = ((s[i.toNat]'hlt).toNat : Int) := by
    rw [← hs] at he
    have h1 : (strBytes s)[i.toNat]? = some ((s[i.toNat]'hlt).toNat : Int) := by
      unfold strBytes
      rw [List.getElem?_map, Array.getElem?_toList]
      have : s.data[i.toNat]? = some (s[i.toNat]'hlt) := by
        rw [Array.getElem?_eq_getElem hlt]; rfl
      rw [this]; rfl
    rw [h1] at he
    exact (Option.some.inj he).symm
  refine ⟨.int .u8 e, fun w' => ?_, .d _ _ (.int _ _)⟩
  have hb : 0 ≤ i ∧ i < s.size := by omega
  simp [execOp, e1, e2, run_index_string w' t s k i hu, hb, hv]

/-! ### sums and differences of 64 bits with a carry -/
def gcarry {R : Type} (x y c : Int) (k : Option R) : Option R := bif (decide (0 ≤ x) && decide (0 ≤ y)) && (decide (0 ≤ c) && decide (c ≤ 1)) then k else none
def sub64Entry : Array Value → Sem Value := fun args => do
  let (x, y, b) ← Extern.MathBitsCarry.three "Sub64" args
  pure (Extern.MathBitsCarry.pair ((x + Extern.MathBitsCarry.m64 - y - b) % Extern.MathBitsCarry.m64) (if x < y + b then 1 else 0))
theorem run_sub64 {P : Program} (x y c : Int) (hx : 0 ≤ x) (hy : 0 ≤ y) (hy2 : y ≤ 18446744073709551615) (hc0 : 0 ≤ c) (hc : c ≤ 1) (w : World) :
    (sub64Entry #[.int .u64 x, .int .u64 y, .int .u64 c]).run P w = .ok (.tuple #[.int .u64 ((x - y - c) % 18446744073709551616), .int .u64 (if x < y + c then 1 else 0)]) w := by
  have key : ∀ k : Nat, k ≤ 1 → (sub64Entry #[.int .u64 x, .int .u64 y, .int .u64 (k : Int)]).run P w =
      .ok (Extern.MathBitsCarry.pair ((x.toNat + Extern.MathBitsCarry.m64 - y.toNat - k) % Extern.MathBitsCarry.m64) (if x.toNat < y.toNat + k then 1 else 0)) w := by
    intro k hk
    have : k = 0 ∨ k = 1 := by omega
    rcases this with rfl | rfl <;> rfl
  obtain ⟨k, rfl⟩ := Int.eq_ofNat_of_zero_le hc0
  rw [key k (by omega)]
  obtain ⟨X, rfl⟩ := Int.eq_ofNat_of_zero_le hx
  obtain ⟨Y, rfl⟩ := Int.eq_ofNat_of_zero_le hy
  simp only [Extern.MathBitsCarry.pair, Extern.MathBitsCarry.m64, Int.toNat_natCast]
  have e1 : (Int.ofNat ((X + 2 ^ 64 - Y - k) % 2 ^ 64)) = ((X : Int) - Y - k) % 18446744073709551616 := by
    simp only [Int.ofNat_eq_natCast]
    omega
  have e2 : (Int.ofNat (if X < Y + k then 1 else 0)) = if (X : Int) < Y + k then 1 else 0 := by
    by_cases h : X < Y + k
    · have h' : (X : Int) < Y + k := by omega
      rw [if_pos h, if_pos h']; rfl
    · have h' : ¬ (X : Int) < Y + k := by omega
      rw [if_neg h, if_neg h']; rfl
  rw [e1, e2]
theorem p_extern {fop : Operand} {args : Array Operand} {tys : Array TypeId} {g : FuncId} {fn : Func} {e : Array Value → Sem Value} {v : V} (hf : ev T fop = .fn g []) (hfn : P.funcs[g]? = some fn) (hname : (fn.name == "runtime.NumGoroutine") = false) (hb : fn.body.isNone = true) (hn : Extern.findNext fn = none) (he : Extern.find fn = some e)
    (h : ∀ (φ : List Plc) (I : Nat → Prop) (w : World) (a : Act), Rel H φ I w → TR φ I w T a → ∃ c, (∀ w' : World, (e (args.map a.eval)).run P w' = .ok c w') ∧ VR φ I w v c) : PureV P ⟨dst, .call ⟨.value fop, args, tys⟩, type, pos, after, guard⟩ T H v := fun φ I w a hR hT => by
  obtain ⟨cs, e1, hcs⟩ := VR.fn_inv (hf ▸ ev_VR hT fop)
  have hcs0 : cs = #[] := by
    have := hcs.1
    simpa using this
  subst hcs0
  obtain ⟨c, h1, h2⟩ := h φ I w a hR hT
  refine ⟨c, fun w' => ?_, h2⟩
  have h3 := run_callFunc_extern (P := P) hfn hname hb hn he (args.map a.eval) w'
  simp [execOp, resolve, e1, Deferred.ofValue, invoke, h3, h1 w']
theorem p_add64 {fop x y z : Operand} {tys : Array TypeId} {g : FuncId} {fn : Func} {p q c : Int} (hf : ev T fop = .fn g [] := by kernel_rfl) (hfn : P.funcs[g]? = some fn) (hname : (fn.name == "runtime.NumGoroutine") = false := by kernel_rfl) (hb : fn.body.isNone = true := by kernel_rfl) (hn : Extern.findNext fn = none := by kernel_rfl) (he : Extern.find fn = some add64Entry := by kernel_rfl)
    (hx : ev T x = .d (.int .u64 p) := by kernel_rfl) (hy : ev T y = .d (.int .u64 q) := by kernel_rfl) (hz : ev T z = .d (.int .u64 c) := by kernel_rfl) (hc : ((decide (0 ≤ p) && decide (0 ≤ q)) && (decide (0 ≤ c) && decide (c ≤ 1))) = true) :
    PureV P ⟨dst, .call ⟨.value fop, #[x, y, z], tys⟩, type, pos, after, guard⟩ T H (.tuple [.d (.int .u64 ((p + q + c) % 18446744073709551616)), .d (.int .u64 ((p + q + c) / 18446744073709551616))]) := by
  simp only [Bool.and_eq_true, decide_eq_true_eq] at hc
  refine p_extern hf hfn hname hb hn he fun φ I w a hR hT => ?_
  have e1 := (hx ▸ ev_VR hT x).int_inv
  have e2 := (hy ▸ ev_VR hT y).int_inv
  have e3 := (hz ▸ ev_VR hT z).int_inv
  refine ⟨_, fun w' => by simpa [e1, e2, e3] using run_add64 (P := P) p q c hc.1.1 hc.1.2 hc.2.1 hc.2.2 w', .tuple _ _ rfl fun i v c' h1 h2 => ?_⟩
  match i, h1, h2 with
  | 0, h1, h2 => cases h1; cases h2; exact .d _ _ (.int _ _)
  | 1, h1, h2 => cases h1; cases h2; exact .d _ _ (.int _ _)
  | i + 2, h1, h2 => simp at h1
theorem p_sub64 {fop x y z : Operand} {tys : Array TypeId} {g : FuncId} {fn : Func} {p q c : Int} (hf : ev T fop = .fn g [] := by kernel_rfl) (hfn : P.funcs[g]? = some fn) (hname : (fn.name == "runtime.NumGoroutine") = false := by kernel_rfl) (hb : fn.body.isNone = true := by kernel_rfl) (hn : Extern.findNext fn = none := by kernel_rfl) (he : Extern.find fn = some sub64Entry := by kernel_rfl)
    (hx : ev T x = .d (.int .u64 p) := by kernel_rfl) (hy : ev T y = .d (.int .u64 q) := by kernel_rfl) (hz : ev T z = .d (.int .u64 c) := by kernel_rfl) (hc : ((decide (0 ≤ p) && decide (0 ≤ q)) && (decide (0 ≤ c) && decide (c ≤ 1))) = true) (hq : q ≤ 18446744073709551615) :
    PureV P ⟨dst, .call ⟨.value fop, #[x, y, z], tys⟩, type, pos, after, guard⟩ T H (.tuple [.d (.int .u64 ((p - q - c) % 18446744073709551616)), .d (.int .u64 (if p < q + c then 1 else 0))]) := by
  simp only [Bool.and_eq_true, decide_eq_true_eq] at hc
  refine p_extern hf hfn hname hb hn he fun φ I w a hR hT => ?_
  have e1 := (hx ▸ ev_VR hT x).int_inv
  have e2 := (hy ▸ ev_VR hT y).int_inv
  have e3 := (hz ▸ ev_VR hT z).int_inv
  refine ⟨_, fun w' => by simpa [e1, e2, e3] using run_sub64 (P := P) p q c hc.1.1 hc.1.2 hq hc.2.1 hc.2.2 w', .tuple _ _ rfl fun i v c' h1 h2 => ?_⟩
  match i, h1, h2 with
  | 0, h1, h2 => cases h1; cases h2; exact .d _ _ (.int _ _)
  | 1, h1, h2 => cases h1; cases h2; exact .d _ _ (.int _ _)
  | i + 2, h1, h2 => simp at h1
end
/-! ### the same operations in another order -/

def sameL (a b : List Nat) : Bool := (a.all fun i => b.contains i) && b.all fun i => a.contains i
theorem sameL_iff {a b : List Nat} (h : sameL a b = true) (i : Nat) : i ∈ a ↔ i ∈ b := by
  unfold sameL at h
  rw [Bool.and_eq_true, List.all_eq_true, List.all_eq_true] at h
  exact ⟨fun hi => by simpa using h.1 i hi, fun hi => by simpa using h.2 i hi⟩
theorem dLv {P : Program} {R : Type} {E : R → V × List Blk} {f : FuncId} {N m : Nat} {T U : Tm} {H H0 : List Blk} {k : List VI} {all : Array Oper} {st : List (Nat × Nat)} {lv : List Nat} {o : Option R} (lv' : List Nat) (h : sameL lv lv' = true := by kernel_rfl)
    (h1 : AnyO P f N m all st H0 lv' k T U H E o) : AnyO P f N m all st H0 lv k T U H E o := fun r hr φ0 I0 w0 φ I w a b cs A listed fuel Q hM =>
  h1 r hr φ0 I0 w0 φ I w a b cs A listed fuel Q
    ⟨hM.rel0, hM.rel, hM.tr, hM.tu, hM.le, hM.tm, hM.stk, hM.size, fun j hj => by rw [← sameL_iff h]; exact hM.lst j hj, hM.early, fun p hp hc => hM.out p hp ((sameL_iff h _).2 hc), hM.one, hM.dist⟩

section
variable {R X : Type} {E : R → V × List Blk} {A : X → Option R} {P : Program} {f : FuncId} {N m : Nat} {T U : Tm} {H H0 : List Blk} {k : List VI} {all : Array Oper} {st : List (Nat × Nat)} {lv : List Nat}
theorem bind_carry {x y c : Int} {o : Option X} : (gcarry x y c o).bind A = gcarry x y c (o.bind A) := by unfold gcarry; cases ((decide (0 ≤ x) && decide (0 ≤ y)) && (decide (0 ≤ c) && decide (c ≤ 1))) <;> rfl
theorem bCarry {x y c : Int} {o : Option X} (h : ((decide (0 ≤ x) && decide (0 ≤ y)) && (decide (0 ≤ c) && decide (c ≤ 1))) = true → GoesO P f N m k T H E (o.bind A)) : GoesO P f N m k T H E ((gcarry x y c o).bind A) := by
  rw [bind_carry]
  exact oGuard h
theorem dCarry {x y c : Int} {o : Option X} (h : ((decide (0 ≤ x) && decide (0 ≤ y)) && (decide (0 ≤ c) && decide (c ≤ 1))) = true → AnyO P f N m all st H0 lv k T U H E (o.bind A)) : AnyO P f N m all st H0 lv k T U H E ((gcarry x y c o).bind A) := by
  rw [bind_carry]
  exact aGuard h
theorem bind_le {x y : Int} {o : Option X} : (bif decide (x ≤ y) then o else none : Option X).bind A = bif decide (x ≤ y) then o.bind A else none := by cases decide (x ≤ y) <;> rfl
def gle {R : Type} (x y : Int) (k : Option R) : Option R := bif decide (x ≤ y) then k else none
theorem bLe {x y : Int} {o : Option X} (h : x ≤ y → GoesO P f N m k T H E (o.bind A)) : GoesO P f N m k T H E ((gle x y o).bind A) := by
  unfold gle
  rw [bind_le]
  exact oGuard fun hb => h (of_decide_eq_true hb)
theorem dLe {x y : Int} {o : Option X} (h : x ≤ y → AnyO P f N m all st H0 lv k T U H E (o.bind A)) : AnyO P f N m all st H0 lv k T U H E ((gle x y o).bind A) := by
  unfold gle
  rw [bind_le]
  exact aGuard fun hb => h (of_decide_eq_true hb)
end
end Go.VM
