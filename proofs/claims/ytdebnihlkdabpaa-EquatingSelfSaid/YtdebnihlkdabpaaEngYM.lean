/- Sorting: what the library's sort of a slice by a comparison does to a block of the machine. -/
import Derived.Test.YtdebnihlkdabpaaEngOM
import Derived.Shelf.SlSortCmp.InsertionK
import Derived.Sort.LotA
import Derived.Shelf.SlSortCmp.NoneTotal
set_option linter.unusedVariables false
set_option linter.unusedSimpArgs false
namespace Go.VM
open Go.Sort Go.Proofs Go.Shelf

/-! ### the plain function -/
def ltC {α : Type} (c : α → α → Option Int) (x y : α) : Bool := match c x y with
  | some n => decide (n < 0)
  | none => false
def insL {α : Type} (lt : α → α → Bool) (x : α) : List α → List α
  | [] => [x]
  | y :: ys => bif lt y x then y :: insL lt x ys else x :: y :: ys
def sortL {α : Type} (lt : α → α → Bool) : List α → List α
  | [] => []
  | x :: xs => insL lt x (sortL lt xs)
/-- The comparison answers for all that is sorted, and is a strict order in which only equals are not told apart. -/
def sortOk {α : Type} [DecidableEq α] (c : α → α → Option Int) (xs : List α) : Bool :=
  xs.all fun x => !ltC c x x && xs.all fun y => (c x y).isSome && (ltC c x y || ltC c y x || decide (x = y)) && xs.all fun z => (!(ltC c x y && ltC c y z) || ltC c x z) && (ltC c x y || ltC c y z || !ltC c x z)
def gsort {α : Type} [DecidableEq α] (c : α → α → Option Int) (xs : List α) : Option (List α) := bif sortOk c xs && decide (xs.length < 4611686018427387904) then some (sortL (ltC c) xs) else none

theorem insL_map {α β : Type} (f : α → β) (lt : β → β → Bool) (x : α) : ∀ l : List α, insL lt (f x) (l.map f) = (insL (fun a b => lt (f a) (f b)) x l).map f
  | [] => rfl
  | y :: ys => by
    simp only [List.map_cons, insL]
    rw [insL_map f lt x ys]
    cases lt (f y) (f x) <;> rfl
theorem sortL_map {α β : Type} (f : α → β) (lt : β → β → Bool) : ∀ l : List α, sortL lt (l.map f) = (sortL (fun a b => lt (f a) (f b)) l).map f
  | [] => rfl
  | x :: l => by simp only [List.map_cons, sortL]; rw [sortL_map f lt l, insL_map]
theorem insL_perm {α : Type} (lt : α → α → Bool) (x : α) : ∀ l : List α, (insL lt x l).Perm (x :: l)
  | [] => .refl _
  | y :: ys => by
    simp only [insL]
    cases lt y x with
    | false => exact .refl _
    | true => exact ((insL_perm lt x ys).cons y).trans (List.Perm.swap x y ys)
theorem sortL_perm {α : Type} (lt : α → α → Bool) : ∀ l : List α, (sortL lt l).Perm l
  | [] => .refl _
  | x :: l => (insL_perm lt x _).trans ((sortL_perm lt l).cons x)
theorem insL_sorted {α : Type} {lt : α → α → Bool} (h : SWO lt) (x : α) : ∀ l : List α, l.Pairwise (fun a b => lt b a = false) → (insL lt x l).Pairwise (fun a b => lt b a = false)
  | [], _ => by simp [insL]
  | y :: ys, hp => by
    obtain ⟨h1, h2⟩ := List.pairwise_cons.1 hp
    simp only [insL]
    cases hl : lt y x with
    | false =>
      refine List.pairwise_cons.2 ⟨fun z hz => ?_, hp⟩
      rw [List.mem_cons] at hz
      rcases hz with rfl | hz
      · exact hl
      · exact h.ntrans _ _ _ (h1 z hz) hl
    | true =>
      refine List.pairwise_cons.2 ⟨fun z hz => ?_, insL_sorted h x ys h2⟩
      have hz' := (insL_perm lt x ys).subset hz
      rw [List.mem_cons] at hz'
      rcases hz' with rfl | hz'
      · cases hc : lt z y with
        | false => rfl
        | true => have := h.trans _ _ _ hl hc; rw [h.irrefl] at this; cases this
      · exact h1 z hz'
theorem sortL_sorted {α : Type} {lt : α → α → Bool} (h : SWO lt) : ∀ l : List α, (sortL lt l).Pairwise (fun a b => lt b a = false)
  | [] => by simp [sortL]
  | x :: l => insL_sorted h x _ (sortL_sorted h l)
/-- At a strict order that tells all apart there is one sorted list. -/
theorem sortL_merge {α : Type} [Inhabited α] {lt : α → α → Bool} (h : SWO lt) (ht : ∀ x y, lt x y = false → lt y x = false → x = y) (l : List α) : l.mergeSort (fun x y => !lt y x) = sortL lt l := by
  have hl := (sortL_perm lt l).length_eq
  have := sorted_unique_holds h ht l.toArray (sortL lt l).toArray ⟨by simp [hl], fun i hi => ?_, ?_⟩ fun i j _ hij hj => ?_
  · exact this.symm
  · rcases hi with hi | hi
    · omega
    · have e1 : ¬ i < (sortL lt l).length := by simp at hi; omega
      have e2 : ¬ i < l.length := by simpa using hi
      simp [getElem!_def, e1, e2]
  · have e0 : l.toArray.size = (sortL lt l).toArray.size := by simp [hl]
    have e1 : ((sortL lt l).toArray.extract 0 l.toArray.size).toList = sortL lt l := by rw [e0, Array.extract_size]
    have e2 : (l.toArray.extract 0 l.toArray.size).toList = l := by rw [Array.extract_size]
    rw [e1, e2]
    exact sortL_perm lt l
  · simp only [List.size_toArray] at hj
    have hj' : j < (sortL lt l).length := by omega
    have := List.pairwise_iff_getElem.1 (sortL_sorted h l) i j (by omega) hj' hij
    rw [getElem!_pos _ i (by simp; omega), getElem!_pos _ j (by simpa using hj')]
    simpa using this

/-! ### what the comparison must be -/
theorem sortOk_spec {α : Type} [DecidableEq α] {c : α → α → Option Int} {xs : List α} (h : sortOk c xs = true) :
    (∀ x ∈ xs, ltC c x x = false) ∧ (∀ x ∈ xs, ∀ y ∈ xs, ∃ n, c x y = some n) ∧ (∀ x ∈ xs, ∀ y ∈ xs, ltC c x y = false → ltC c y x = false → x = y) ∧
    (∀ x ∈ xs, ∀ y ∈ xs, ∀ z ∈ xs, ltC c x y = true → ltC c y z = true → ltC c x z = true) ∧ (∀ x ∈ xs, ∀ y ∈ xs, ∀ z ∈ xs, ltC c x y = false → ltC c y z = false → ltC c x z = false) := by
  unfold sortOk at h
  simp only [List.all_eq_true, Bool.and_eq_true, Bool.or_eq_true, Bool.not_eq_true', decide_eq_true_eq] at h
  refine ⟨fun x hx => (h x hx).1, fun x hx y hy => ?_, fun x hx y hy h1 h2 => ?_, fun x hx y hy z hz h1 h2 => ?_, fun x hx y hy z hz h1 h2 => ?_⟩
  · exact Option.isSome_iff_exists.1 ((h x hx).2 y hy).1.1
  · rcases ((h x hx).2 y hy).1.2 with (h3 | h3) | h3
    · rw [h1] at h3; cases h3
    · rw [h2] at h3; cases h3
    · exact h3
  · rcases (((h x hx).2 y hy).2 z hz).1 with h3 | h3
    · rw [h1, h2] at h3; cases h3
    · exact h3
  · rcases (((h x hx).2 y hy).2 z hz).2 with (h3 | h3) | h3
    · rw [h1] at h3; cases h3
    · rw [h2] at h3; cases h3
    · exact h3

/-! ### the block -/
def dval : D → Value
  | .int k n => .int k n
  | .bool b => .bool b
  | .str s => .string s
  | .lit _ => .slice none 0 0
  | .val v => v
def D.plain : D → Bool
  | .lit _ => false
  | .val _ => false
  | _ => true
theorem DR.dval {I : Nat → Prop} {w : World} {d : D} {c : Value} (h : DR I w d c) (hp : d.plain = true) : c = Go.VM.dval d := by
  cases h with
  | int => rfl
  | bool => rfl
  | str => rfl
  | nil => cases hp
  | lit => cases hp
  | val => cases hp
theorem dval_DR (I : Nat → Prop) (w : World) {d : D} (hp : d.plain = true) : DR I w d (dval d) := by
  cases d with
  | int => exact .int _ _
  | bool => exact .bool _
  | str => exact .str _
  | lit => cases hp
  | val => cases hp
theorem dval_one {d : D} (hp : d.plain = true) : (dval d).oneCell' = true := by
  cases d with
  | int => rfl
  | bool => rfl
  | str => rfl
  | lit => cases hp
  | val => cases hp

/-- A world that differs by new blocks and draws alone. -/
theorem grown_of {W W' : World} (h1 : W'.os = W.os) (h2 : W'.tape = W.tape) (h3 : W'.output = W.output) (h4 : W.drawn ≤ W'.drawn) (h5 : W.heap.size ≤ W'.heap.size) (h6 : ∀ g, g < W.heap.size → W'.heap[g]? = W.heap[g]?) :
    W' = grow (W.drewN (W'.drawn - W.drawn)) (W'.heap.extract W.heap.size W'.heap.size) := by
  have hh : W'.heap = W.heap ++ W'.heap.extract W.heap.size W'.heap.size := by
    apply Array.ext_getElem?
    intro i
    rw [Array.getElem?_append]
    by_cases hi : i < W.heap.size
    · rw [if_pos hi, h6 i hi]
    · rw [if_neg hi, Array.getElem?_extract]
      by_cases hl : i < W'.heap.size
      · rw [if_pos (by omega)]
        congr 1; omega
      · rw [if_neg (by omega), Array.getElem?_eq_none (by omega)]
  cases W with | mk heap tape drawn os output =>
  cases W' with | mk heap' tape' drawn' os' output' =>
  simp only at h1 h2 h3 h4 hh
  subst h1 h2 h3
  unfold grow World.drewN
  simp only [World.mk.injEq, true_and, and_true]
  exact ⟨hh, by omega⟩
end Go.VM
namespace Go.VM
open Go.Sort Go.Proofs Go.Shelf

/-- The objects behind a sort. -/
theorem sortWorld_heap {β : Type} [Inhabited β] (enc : β → List Value) (k : Nat) (w : World) (g δ n : Nat) (d : Array β) (os : Array Obj) {arr : Array Value} {e : TypeId} {fr : Nat × Nat} (hg : w.heap[g]? = some (.cells arr e fr)) :
    (sortWorldK enc k w g δ n d os).os = w.os ∧ (sortWorldK enc k w g δ n d os).tape = w.tape ∧ (sortWorldK enc k w g δ n d os).output = w.output ∧ w.drawn ≤ (sortWorldK enc k w g δ n d os).drawn ∧ w.heap.size ≤ (sortWorldK enc k w g δ n d os).heap.size ∧
    (∀ g', g' < w.heap.size → g' ≠ g → (sortWorldK enc k w g δ n d os).heap[g']? = w.heap[g']?) ∧ (sortWorldK enc k w g δ n d os).heap[g]? = some (.cells (putCells id δ (flatK enc k d) arr) e fr) := by
  have hlt : g < w.heap.size := (Array.getElem?_eq_some_iff.1 hg).1
  have hheap : (sortWorldK enc k w g δ n d os).heap = w.heap.modify g (onCells (putCells id δ (flatK enc k d))) ++ os := rfl
  refine ⟨rfl, rfl, rfl, Nat.le_add_right _ _, by rw [hheap]; simp, fun g' h1 h2 => ?_, ?_⟩
  · rw [hheap, Array.getElem?_append, if_pos (by simpa using h1), Array.getElem?_modify, if_neg (fun h => h2 h.symm)]
  · rw [hheap, Array.getElem?_append, if_pos (by simpa using hlt), Array.getElem?_modify, if_pos rfl, hg]
    rfl
theorem ref_nil {φ : List Plc} {I : Nat → Prop} {w : World} {l : Plc} {k m : Nat} {X : List (List D)} {v : Value} (hl : φ[0]? = some l) (hb : BR φ I w (.sl k X false) l) (hX : X.length = m) (hm : m = 0) (h : VR φ I w (.ref 0 m 0 m) v) : ∃ p cap, v = .slice p 0 cap := by
  cases h with
  | ref b L off len g δ esz n cap hb' h1 h2 h3 h4 => subst hm; exact ⟨_, _, rfl⟩
  | refZ => exact ⟨_, _, rfl⟩
  | virt => exact ⟨_, _, rfl⟩
  | refStale b L off len loc a n c hb' hs =>
    rw [hl] at hb'
    cases hb'
    cases hb with
    | virt => exact hs.elim
    | sl => simp only [Plc.stale] at hs; omega
theorem get!_map {α β : Type} [Inhabited β] (f : α → β) (l : List α) {i : Nat} (h : i < l.length) : (l.map f)[i]! = f l[i] := by
  rw [getElem!_pos _ i (by simpa using h)]
  simp
theorem sort_goes {P : Program} {ρ : Ren} {α : Type} [DecidableEq α] (L : SlLaysF0.n6 P ρ) {k : Nat} {enc : α → List D} {g : Nat} (aE : ∀ w, (isAgg (ρ.t 24)).run P w = .ok true w) (zE : ∀ w, (Go.sizeOf (ρ.t 24)).run P w = .ok k w)
    (hlen : ∀ x, (enc x).length = k) (hplain : ∀ x, ∀ d ∈ enc x, d.plain = true) (hk0 : 0 < k) (eg : ∀ args w, (callFunc g args).run P w = .ok (.enter g args) w) (c : α → α → Option Int)
    (hc : ∀ x y, RunsO P g [.agg ((enc x).map .d), .agg ((enc y).map .d)] [] (fun r => (.d (.int .i64 r), [])) (c x y)) {f : FuncId} (hf : ρ.f 6 = f) (xs : List α) :
    RunsO P f [.ref 0 xs.length 0 xs.length, .fn g []] [.sl k (xs.map enc) false] (fun r => (.tuple [], [.sl k (r.map enc) false])) (gsort c xs) := by
  subst hf
  intro r hr φ I w cargs hR hsz hall
  obtain ⟨v0, v1, rfl⟩ : ∃ v0 v1, cargs = #[v0, v1] := by
    match cargs, hsz with
    | ⟨[a, b]⟩, _ => exact ⟨a, b, rfl⟩
  have hv0 : VR φ I w (.ref 0 xs.length 0 xs.length) v0 := hall 0 _ _ rfl rfl
  have hv1 : VR φ I w (.fn g []) v1 := hall 1 _ _ rfl rfl
  obtain ⟨cs, e1, hcs⟩ := VR.fn_inv hv1
  have hcs0 : cs = #[] := by have := hcs.1; simpa using this
  subst hcs0 e1
  unfold gsort at hr
  cases hok : sortOk c xs && decide (xs.length < 4611686018427387904) with
  | false => rw [hok] at hr; cases hr
  | true =>
    rw [hok, cond_true] at hr
    cases hr
    obtain ⟨hok, hsz62⟩ := Bool.and_eq_true_iff.1 hok
    have hsz62 := of_decide_eq_true hsz62
    obtain ⟨k1, k2, k3, k4, k5⟩ := sortOk_spec hok
    obtain ⟨l, hl⟩ : ∃ l, φ[0]? = some l := ⟨φ[0]'(by rw [hR.len]; simp), List.getElem?_eq_getElem _⟩
    have hb := hR.blk 0 _ l rfl hl
    obtain ⟨m, hm⟩ : ∃ m, m = xs.length := ⟨_, rfl⟩
    rw [← hm] at hv0
    by_cases hx : xs = []
    · subst hx
      obtain ⟨p, cap, rfl⟩ := ref_nil hl hb (by rw [hm]; rfl) hm hv0
      refine (AnyF.slices_SortFunc_none L p cap _ w).mono fun e w' ⟨he, hw⟩ => ?_
      subst hw
      exact ⟨φ, I, _, he, (Turn.refl φ I w').toM _, hR, .tuple [] #[] rfl (by simp)⟩
    · have hpos : 0 < xs.length := List.length_pos_iff.2 hx
      generalize hxs : xs.map enc = X at hb
      have hXl : X.length = xs.length := by rw [← hxs]; simp
      cases hb with
      | virt => simp at hXl; omega
      | sl _ _ _ gb δ arr e hg hn hlen' hc' hz hI =>
        have hnI : ¬ I gb := fun h => by have := hI.2 h; cases this
        obtain ⟨cap, rfl⟩ : ∃ cap, v0 = .slice (some ⟨gb, δ, none⟩) xs.length cap := by
          cases hv0 with
          | ref b L off len g δ' esz n cap hb' h1 h2 h3 h4 =>
            rw [hl] at hb'
            cases hb'
            exact ⟨cap, by rw [hm]; simp⟩
          | refZ b L off => omega
          | virt => omega
          | refStale b L off len loc a n c hb' hs =>
            rw [hl] at hb'
            cases hb'
            simp only [Plc.stale] at hs
            omega
        obtain ⟨a0, ha0⟩ : ∃ a, a ∈ xs := ⟨xs[0], List.getElem_mem _⟩
        letI : Inhabited {x // x ∈ xs} := ⟨⟨a0, ha0⟩⟩
        let d : Array {x // x ∈ xs} := xs.attach.toArray
        have hdl : d.size = xs.length := by simp [d]
        let enc' : {x // x ∈ xs} → List Value := fun x => (enc x.1).map dval
        let cf : {x // x ∈ xs} → {x // x ∈ xs} → Int := fun x y => (c x.1 y.1).getD 0
        have hlt : ltOf cf = fun x y : {x // x ∈ xs} => ltC c x.1 y.1 := by
          funext x y
          obtain ⟨n, hn⟩ := k2 x.1 x.2 y.1 y.2
          simp only [ltOf, ltC, cf, hn, Option.getD_some]
        have hO : SWO (ltOf cf) := by
          rw [hlt]
          refine ⟨fun x => k1 x.1 x.2, fun x y z => k4 x.1 x.2 y.1 y.2 z.1 z.2, fun x y z => k5 x.1 x.2 y.1 y.2 z.1 z.2⟩
        have hT : ∀ x y, (ltOf cf) x y = false → (ltOf cf) y x = false → x = y := by
          rw [hlt]
          exact fun x y h1 h2 => Subtype.ext (k3 x.1 x.2 y.1 y.2 h1 h2)
        have hke : ∀ x, (enc' x).length = k := fun x => by simp [enc', hlen]
        have h1e : ∀ x, ∀ v ∈ enc' x, v.oneCell' = true := fun x v hv => by
          simp only [enc', List.mem_map] at hv
          obtain ⟨dd, hd, rfl⟩ := hv
          exact dval_one (hplain _ dd hd)
        have hblk : gb < w.heap.size := (Array.getElem?_eq_some_iff.1 hg).1
        have hcell : ∀ t, t < xs.length * k → ∃ (h1 : t / k < xs.length) (h2 : t % k < (enc xs[t / k]).length), arr[δ + t]? = some (dval (enc xs[t / k])[t % k]) := fun t ht => by
          have h1 : t / k < xs.length := Nat.div_lt_of_lt_mul (by rw [Nat.mul_comm]; exact ht)
          have h2 : t % k < (enc xs[t / k]).length := by rw [hlen]; exact Nat.mod_lt _ hk0
          refine ⟨h1, h2, ?_⟩
          have hlt' : δ + t < arr.size := by rw [hXl] at hn; omega
          have hget : get2 X (t / k) (t % k) = some (enc xs[t / k])[t % k] := by
            unfold get2
            rw [← hxs]
            simp [List.getElem?_eq_getElem h1, List.getElem?_eq_getElem h2]
          have e3 : δ + t / k * k + t % k = δ + t := by have := Nat.div_add_mod t k; rw [Nat.mul_comm] at this; omega
          have := hc' (t / k) (t % k) _ arr[δ + t] hget (by rw [e3]; exact Array.getElem?_eq_getElem hlt')
          rw [Array.getElem?_eq_getElem hlt', this.dval (hplain _ _ (List.getElem_mem _))]
        have hH : HoldsK enc' k w gb δ d := by
          intro t ht
          have ht' : t < xs.length * k := by rw [size_flatK, hdl] at ht; exact ht
          obtain ⟨h1, h2, h3⟩ := hcell t ht'
          refine ⟨?_, ?_⟩
          · have e4 : (flatK enc' k d)[t]! = dval (enc xs[t / k])[t % k] := by
              rw [get_flatK _ _ _ _ (by rw [hdl]; exact ht'), getElem!_pos d (t / k) (by rw [hdl]; exact h1)]
              have e5 : (d[t / k]'(by rw [hdl]; exact h1)).1 = xs[t / k] := by simp [d]
              show ((enc (d[t / k]'(by rw [hdl]; exact h1)).1).map dval)[t % k]! = _
              rw [e5, get!_map _ _ h2]
            show w.cell? ⟨gb, δ + t, none⟩ = some (id (flatK enc' k d)[t]!)
            unfold World.cell?
            simp only [hg]
            simpa [e4] using h3
          · unfold World.frozen?
            simp only [hg]
            simp
        have hcmp : CmpLays P g #[] enc' k cf gb δ d.size w := fun mm os dk hs x y => by
          obtain ⟨n, hn⟩ := k2 x.1 x.2 y.1 y.2
          have hcf : cf x y = n := by simp only [cf, hn, Option.getD_some]
          rw [hcf]
          generalize sortWorldK enc' k w gb δ mm dk os = W
          have hrun := hc x.1 y.1 n hn [] (fun _ => False) W #[.agg (enc' x).toArray, .agg (enc' y).toArray] ⟨rfl, fun b kk l hk => by simp at hk, fun b b' l l' g hb => by simp at hb, fun g h => h.elim⟩ rfl ?_
          · refine hrun.mono fun ee W' ⟨φ', I', cc, he, ht, _, hv⟩ => ⟨by rw [he, hv.int_inv], _, _, grown_of ht.os ht.tape ht.output ht.drawn ht.size fun g' hg' => ht.frame g' hg' fun b l hb => by simp at hb⟩
          · have hagg : ∀ z : {x // x ∈ xs}, VR [] (fun _ => False) W (.agg ((enc z.1).map .d)) (.agg (enc' z).toArray) := fun z => by
              refine .agg _ _ (by simp [enc']) fun i v cc h1 h2 => ?_
              simp only [List.getElem?_map, List.getElem?_toArray, enc'] at h1 h2
              cases hd : (enc z.1)[i]? with
              | none => rw [hd] at h1; cases h1
              | some dd =>
                rw [hd] at h1 h2
                cases h1; cases h2
                exact .d _ _ (dval_DR _ _ (hplain _ _ (List.mem_of_getElem? hd)))
            intro i v cc h1 h2
            match i, h1, h2 with
            | 0, h1, h2 => cases h1; cases h2; exact hagg x
            | 1, h1, h2 => cases h1; cases h2; exact hagg y
            | i + 2, h1, h2 => simp at h1
        have hcon := AnyQ.slices_SortFunc_total L k aE zE enc' hke h1e cf hO g #[] gb δ cap d w eg hcmp hH hblk (by rw [hdl]; exact hsz62) hT
        rw [hdl] at hcon
        refine hcon.mono fun ee w' ⟨he, n, os, hw'⟩ => ?_
        have hS : d.toList.mergeSort (fun x y => !(ltOf cf) y x) = sortL (ltOf cf) xs.attach := sortL_merge hO hT _
        rw [hS] at hw'
        obtain ⟨S, hSe⟩ : ∃ S, S = sortL (ltOf cf) xs.attach := ⟨_, rfl⟩
        rw [← hSe] at hw'
        have hSl : S.length = xs.length := by rw [hSe, (sortL_perm _ _).length_eq]; simp
        have hSm : sortL (ltC c) xs = S.map Subtype.val := by
          rw [hSe, hlt, ← sortL_map Subtype.val (ltC c) xs.attach]
          simp
        obtain ⟨w1, w2, w3, w4, w5, w6, w7⟩ := sortWorld_heap enc' k w gb δ n S.toArray os hg
        rw [← hw'] at w1 w2 w3 w4 w5 w6 w7
        rw [hSm]
        have hφ : ∀ (b : Nat) (l' : Plc), φ[b]? = some l' → b = 0 ∧ l' = .at gb δ k X.length arr.size [] := fun b l' hb' => by
          have hlt' : b < φ.length := (List.getElem?_eq_some_iff.1 hb').1
          rw [hR.len] at hlt'
          have : b = 0 := by simpa using hlt'
          subst this
          rw [hl] at hb'
          cases hb'
          exact ⟨rfl, rfl⟩
        have hsame : ∀ g', I g' → w'.heap[g']? = w.heap[g']? := fun g' hg' => w6 g' (hR.imm g' hg') fun h => hnI (h ▸ hg')
        have harr : (putCells id δ (flatK enc' k S.toArray) arr).size = arr.size := by unfold putCells; simp
        have hbr : BR φ I w' (.sl k ((S.map Subtype.val).map enc) false) (.at gb δ k X.length arr.size []) := by
          have hlenX : X.length = ((S.map Subtype.val).map enc).length := by simp [hXl, hSl]
          rw [hlenX, ← harr]
          refine .sl k _ false gb δ _ e w7 ?_ ?_ ?_ hz ⟨fun h => (by cases h), fun h => (hnI h).elim⟩
          · rw [harr]
            have : ((S.map Subtype.val).map enc).length = X.length := hlenX.symm
            rw [this]; exact hn
          · intro i x hx
            simp only [List.getElem?_map] at hx
            cases hd : S[i]? with
            | none => rw [hd] at hx; cases hx
            | some z => rw [hd] at hx; cases hx; exact hlen _
          · intro i j dd cc h1 h2
            unfold get2 at h1
            simp only [List.getElem?_map] at h1
            cases hd : S[i]? with
            | none => rw [hd] at h1; cases h1
            | some z =>
              rw [hd] at h1
              simp only [Option.map_some, Option.bind_some] at h1
              have hi : i < S.length := (List.getElem?_eq_some_iff.1 hd).1
              have hj : j < k := by have := (List.getElem?_eq_some_iff.1 h1).1; rw [hlen] at this; exact this
              have hdp := hplain _ dd (List.mem_of_getElem? h1)
              have ht : i * k + j < S.toArray.size * k := by
                have := Nat.mul_le_mul_right k (show i + 1 ≤ S.length from hi)
                rw [Nat.add_mul, Nat.one_mul] at this
                simp only [List.size_toArray]
                omega
              have e5 : (i * k + j) / k = i := by rw [Nat.mul_comm, Nat.mul_add_div hk0, Nat.div_eq_of_lt hj]; omega
              have e6 : (i * k + j) % k = j := by rw [Nat.mul_comm, Nat.mul_add_mod, Nat.mod_eq_of_lt hj]
              have e7 : (flatK enc' k S.toArray)[i * k + j]! = dval dd := by
                rw [get_flatK _ _ _ _ ht, e5, e6, getElem!_pos S.toArray i (by simpa using hi)]
                have ez : S.toArray[i]'(by simpa using hi) = z := by
                  have := (List.getElem?_eq_some_iff.1 hd).2
                  simpa using this
                rw [ez]
                show ((enc z.1).map dval)[j]! = _
                rw [get!_map _ _ (List.getElem?_eq_some_iff.1 h1).1, (List.getElem?_eq_some_iff.1 h1).2]
              unfold putCells at h2
              rw [Array.getElem?_mapIdx] at h2
              have hin : δ ≤ δ + i * k + j ∧ δ + i * k + j < δ + (flatK enc' k S.toArray).size := ⟨by omega, by rw [size_flatK]; omega⟩
              have e8 : δ + i * k + j - δ = i * k + j := by omega
              obtain ⟨x0, _, h3⟩ := Option.map_eq_some_iff.1 h2
              rw [if_pos hin, e8] at h3
              have h4 : dval dd = cc := by rw [← e7]; exact h3
              rw [← h4]
              exact dval_DR _ _ hdp
        refine ⟨φ, I, _, he, ⟨w1, w2, w3, w4, w5, fun g' h1 h2 => w6 g' h1 fun h => h2 0 _ hl (by rw [h]; rfl), hsame, fun _ h => h, fun b _ l' hb' => ⟨l', hb', .refl _⟩, fun b l' g' hb' hg' => .inr ⟨b, l', hb', hg'⟩, fun _ h => .inl h⟩, ?_, .tuple [] #[] rfl (by simp)⟩
        refine hR.step 0 (by rw [hR.len]; rfl) (LE.refl φ) (fun _ h => h) hsame (fun b kk l' hk hl' => ?_) (fun b l' g' hb' hg' => .inl ⟨l', hb', hg'⟩) (fun g' h => Nat.lt_of_lt_of_le (hR.imm g' h) w5)
        obtain ⟨rfl, rfl⟩ := hφ b l' hl'
        cases hk
        exact .inr hbr
end Go.VM
namespace Go.VM
theorem enter_of {P : Program} {f : FuncId} {fn : Func} {c : Code} (hf : P.funcs[f]? = some fn) (hb : fn.body = some c) (hname : (fn.name == "runtime.NumGoroutine") = false) : ∀ args w, (callFunc f args).run P w = .ok (.enter f args) w := by
  intro args w
  have h : ¬fn.name = "runtime.NumGoroutine" := by simpa using hname
  simp [callFunc, hf, hb, h]
end Go.VM
