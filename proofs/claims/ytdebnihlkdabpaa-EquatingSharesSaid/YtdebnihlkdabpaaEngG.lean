/- append, elements stored, cuts, copy, structs compared. -/
import Derived.Test.YtdebnihlkdabpaaEngF
namespace Go.VM
set_option linter.unusedVariables false
set_option linter.unusedSimpArgs false

theorem run_append_none {P : Program} {t t2 e e2 ty : TypeId} {w : World} {z : Value} {sz bytes : Nat} (hu : P.underlying t = some (.slice e)) (hu2 : P.underlying t2 = some (.slice e2)) (hi : TyI P e z sz bytes) (base : Option Addr) (len cap : Nat) (a : Option Addr) (c : Nat) (hle : len ≤ cap) :
    (Builtin.append_ #[t, t2] ty #[.slice base len cap, .slice a 0 c]).run P w = .ok (.slice base len cap) w := by
  cases base <;> cases a <;> simp [Builtin.append_, run_underlying hu, run_underlying hu2, run_sizeOf hi, Builtin.lenOf, hle, Builtin.firstCells, loadCells, loadCellsFrom, storeCells]

theorem run_append_in {P : Program} {t t2 e e2 ty : TypeId} {w : World} {z : Value} {sz bytes : Nat} (hu : P.underlying t = some (.slice e)) (hu2 : P.underlying t2 = some (.slice e2)) (hi : TyI P e z sz bytes) (g o len cap : Nat) (a : Addr) (n c : Nat) (news : List Value)
    {cur : Array Value} {ct : TypeId} (hg : w.heap[g]? = some (.cells cur ct (0, 0))) (hl : news.length = n * sz) (hnews : ∀ (j : Nat) (v : Value), news[j]? = some v → w.cell? (a.add j) = some v) (h1 : ∀ v ∈ news, v.oneCell' = true) (hle : len + n ≤ cap) (hfit : o + len * sz + n * sz ≤ cur.size) :
    (Builtin.append_ #[t, t2] ty #[.slice (some ⟨g, o, none⟩) len cap, .slice (some a) n c]).run P w =
      .ok (.slice (some ⟨g, o, none⟩) (len + n) cap) (w.setRow g (cur.toList.take (o + len * sz) ++ news ++ cur.toList.drop (o + len * sz + news.length)).toArray) := by
  have hf := run_firstCells_some (P := P) w sz n a n c news hl hnews
  have hst := run_storeCells_at P g (o + len * sz) ct news 0 cur w hg (by omega) h1
  simp only [Nat.add_zero] at hst
  simp [Builtin.append_, run_underlying hu, run_underlying hu2, run_sizeOf hi, Builtin.lenOf, hle, hf, add_none, hst]

theorem run_append_new {P : Program} {t t2 e e2 ty : TypeId} {w : World} {z : Value} {sz bytes : Nat} (hu : P.underlying t = some (.slice e)) (hu2 : P.underlying t2 = some (.slice e2)) (hi : TyI P e z sz bytes) (base : Option Addr) (len cap : Nat) (olds : List Value)
    (holds : (Builtin.firstCells sz len (.slice base len cap)).run P w.drew = .ok olds.toArray w.drew) (a : Addr) (n c : Nat) (news : List Value) (hl : news.length = n * sz) (hnews : ∀ (j : Nat) (v : Value), news[j]? = some v → w.cell? (a.add j) = some v)
    (hgt : cap < len + n) (hfit : (len + n) * bytes ≤ 140737488355328) (h63 : len + n ≤ 9223372036854775807) :
    ∃ newCap, len + n ≤ newCap ∧ (Builtin.append_ #[t, t2] ty #[.slice base len cap, .slice (some a) n c]).run P w =
      .ok (.slice (some ⟨w.heap.size, 0, none⟩) (len + n) newCap) (w.drew.alloc (.cells (olds.toArray ++ news.toArray ++ Builtin.zeroCells z.cells (newCap - (len + n))) e)) := by
  obtain ⟨i, t1, t2', t3, t4⟩ := hi.get
  subst t3
  subst t4
  have hn : ¬ (len + n ≤ cap) := by omega
  have h63' : ¬ (9223372036854775807 < ((len : Int) + (n : Int))) := by omega
  have h48 := growslice_fits hgt hfit
  have h48' : ¬ (281474976710656 < Builtin.nextslicecap (len + n) cap * i.bytes) := by omega
  have hf := run_firstCells_some (P := P) w.drew i.size n a n c news hl (by simpa using hnews)
  refine ⟨grownCap w (len + n) cap e, ?_, ?_⟩
  · simp [grownCap, Question.cut]
  · simp [Builtin.append_, run_underlying hu, run_underlying hu2, sizeOf, typeInfo, zeroValue, t1, t2', Builtin.lenOf, hn, h63', h48', Question.forced, hf, holds, newRow, grownCap]
    congr 2
    apply Array.ext'
    simp [List.append_assoc]

section
variable {P : Program} {T : Tm} {H : List Blk} {dst : Option Tmp} {type : TypeId} {pos : String} {after : Array Edge} {guard : Option (Nat × Bool)}

theorem get2_append {xs ys : List (List D)} {i j : Nat} {d : D} (h : get2 (xs ++ ys) i j = some d) : (i < xs.length ∧ get2 xs i j = some d) ∨ (xs.length ≤ i ∧ get2 ys (i - xs.length) j = some d) := by
  obtain ⟨e, h1, h2⟩ := get2_some h
  by_cases hi : i < xs.length
  · rw [List.getElem?_append_left hi] at h1
    exact .inl ⟨hi, get2_mk h1 h2⟩
  · rw [List.getElem?_append_right (by omega)] at h1
    exact .inr ⟨by omega, get2_mk h1 h2⟩

theorem rows_append {xs ys : List (List D)} {sz : Nat} (h1 : ∀ (i : Nat) (x : List D), xs[i]? = some x → x.length = sz) (h2 : ∀ (i : Nat) (x : List D), ys[i]? = some x → x.length = sz) : ∀ (i : Nat) (x : List D), (xs ++ ys)[i]? = some x → x.length = sz := fun i x h => by
  by_cases hi : i < xs.length
  · rw [List.getElem?_append_left hi] at h; exact h1 _ _ h
  · rw [List.getElem?_append_right (by omega)] at h; exact h2 _ _ h

/-- Behind the last element of a block. -/
theorem d_append_at {t t2 e e2 : TypeId} {x y : Operand} {b L esz0 sz bytes L' : Nat} {xs ys zs : List (List D)} {z : Value} {vy : V} (hu : P.underlying t = some (.slice e)) (hu2 : P.underlying t2 = some (.slice e2)) (hi : TyI P e z sz bytes) (hz : 0 < sz) (hzs : z.cells.size = sz)
    (hk : H[b]? = some (.sl esz0 xs false)) (hL : xs.length = L) (hesz : esz0 = sz ∨ esz0 = 0) (hy : Holds H sz vy ys) (hzz : xs ++ ys = zs) (hL' : zs.length = L') (hfit : L' * bytes ≤ 140737488355328) (h63 : L' ≤ 9223372036854775807)
    (φ : List Plc) (I : Nat → Prop) (w : World) (a : Act) (hR : Rel H φ I w) (hX : VR φ I w (.ref b L 0 L) (a.eval x)) (hY : VR φ I w vy (a.eval y)) :
    ∃ φ' I' w' c, ((execOp a.eval ⟨dst, .call ⟨.builtin .append, #[x, y], #[t, t2]⟩, type, pos, after, guard⟩).run P w = .ok (.value c) w' ∨ ((execOp a.eval ⟨dst, .call ⟨.builtin .append, #[x, y], #[t, t2]⟩, type, pos, after, guard⟩).run P w = .ok .skip w' ∧ c = undef)) ∧
      Turn φ I w φ' I' w' ∧ Rel (H.set b (.sl sz zs false)) φ' I' w' ∧ VR φ' I' w' (.ref b L' 0 L') c ∧ Keeps φ φ' [b] w w' := by
  subst hzz
  subst hL'
  have hbφ : b < φ.length := by rw [hR.len]; exact (List.getElem?_eq_some_iff.1 hk).1
  have hbH : b < H.length := (List.getElem?_eq_some_iff.1 hk).1
  obtain ⟨ay, cy, hcy, hylen, hyne⟩ := hy.rows hR hY
  have hinv := VR.ref_inv hR hk hL hX
  have hexec : ∀ (c : Value) (w' : World), (Builtin.append_ #[t, t2] type #[a.eval x, a.eval y]).run P w = .ok c w' → (execOp a.eval ⟨dst, .call ⟨.builtin .append, #[x, y], #[t, t2]⟩, type, pos, after, guard⟩).run P w = .ok (.value c) w' := fun c w' h => by
    simp [execOp, resolve, invoke, builtin, h]
  have hrefl : ∀ {l : Plc}, φ[b]? = some l → φ.set b l = φ := fun h => set_same h
  by_cases hys : ys = []
  · -- nothing is appended
    subst hys
    simp only [List.append_nil] at *
    have hlen0 : ∃ base cap, a.eval x = .slice base L cap ∧ L ≤ cap := by
      rcases hinv with ⟨_, _, h1, _, h2, hc⟩ | ⟨h1, h2, a0, _, _, _, hc, _⟩ | ⟨g, δ, arr, ty, cap, hc, _, _, _, _, _, _, _, _, h2, _⟩
      · exact ⟨none, 0, by rw [hc, h1], by omega⟩
      · exact ⟨a0, 0, by rw [hc, h1], by omega⟩
      · exact ⟨_, cap, hc, h2⟩
    obtain ⟨base, cap, hc, hle⟩ := hlen0
    have hrun := run_append_none (P := P) (ty := type) (w := w) hu hu2 hi base L cap ay cy hle
    have hvx : VR φ I w (.ref b L 0 L) (.slice base L cap) := by rw [← hc]; exact hX
    have hbl := hR.blk b _ _ hk (List.getElem?_eq_getElem hbφ)
    have hφb := List.getElem?_eq_getElem hbφ
    refine ⟨φ, I, w, _, .inl (hexec _ _ (by rw [hc, hcy]; exact hrun)), Turn.refl φ I w, ?_, by rw [hL]; exact hvx, Keeps.refl φ [b] w⟩
    have hnb : BR φ I w (.sl sz xs false) φ[b] := by
      generalize φ[b] = l at hbl
      cases hbl with
      | virt => exact .virt sz false
      | sl _ _ _ g δ arr ty hg hn hlen hcs hz0 hI =>
        have : esz0 = sz := hesz.resolve_right (Nat.pos_iff_ne_zero.1 hz0)
        subst this
        exact .sl esz0 xs false g δ arr ty hg hn hlen hcs hz0 hI
    refine hR.step b (by simp [hR.len]) (LE.refl φ) (fun _ h => h) (fun _ _ => rfl) (fun b' k0 l0 hk0 hl0 => ?_) (fun b' l0 g h0 hg0 => .inl ⟨l0, h0, hg0⟩) hR.imm
    by_cases he : b = b'
    · subst he
      simp [hbH] at hk0
      subst hk0
      rw [hφb] at hl0
      cases hl0
      exact .inr hnb
    · rw [get_set_ne _ _ _ _ he] at hk0
      exact .inl ⟨hk0, hl0, fun g _ => ⟨rfl, fun h => h⟩⟩
  · obtain ⟨gy, oy, cvy, hay, hcelly, hdy⟩ := hyne hys
    subst hay
    have hm : 0 < ys.length := List.length_pos_iff.2 hys
    obtain ⟨news, hnl, hnews, hnd, hn1⟩ := Rows_.flat hylen hcelly hdy hz
    have hLen : (xs ++ ys).length = L + ys.length := by simp [hL]
    -- the block moves: what it holds is laid anew
    have moved : ∀ (olds : List Value) (cap : Nat) (base : Option Addr) (l0 : Plc), φ[b]? = some l0 → (∀ newg newn, PlcLE l0 (.at newg 0 sz (L + ys.length) newn)) → a.eval x = .slice base L cap → cap < L + ys.length → olds.length = L * sz →
        (Builtin.firstCells sz L (.slice base L cap)).run P w.drew = .ok olds.toArray w.drew → (∀ (i : Nat) (x : List D), xs[i]? = some x → x.length = sz) → (∀ (i j : Nat) (d : D) (c : Value), get2 xs i j = some d → olds[i * sz + j]? = some c → DR I w d c) →
        ∃ φ' I' w' c, ((execOp a.eval ⟨dst, .call ⟨.builtin .append, #[x, y], #[t, t2]⟩, type, pos, after, guard⟩).run P w = .ok (.value c) w' ∨ (execOp a.eval ⟨dst, .call ⟨.builtin .append, #[x, y], #[t, t2]⟩, type, pos, after, guard⟩).run P w = .ok .skip w' ∧ c = undef) ∧ Turn φ I w φ' I' w' ∧ Rel (H.set b (.sl sz (xs ++ ys) false)) φ' I' w' ∧ VR φ' I' w' (.ref b (xs ++ ys).length 0 (xs ++ ys).length) c ∧ Keeps φ φ' [b] w w' := by
      intro olds cap base l0 hl0 hple hc hgt hol hold hxlen hxd
      obtain ⟨newCap, hcap, hrun⟩ := run_append_new (P := P) (ty := type) (w := w) hu hu2 hi base L cap olds hold ⟨gy, oy, none⟩ ys.length cy news hnl hnews hgt (by rw [← hLen]; exact hfit) (by rw [← hLen]; exact h63)
      let arr := olds.toArray ++ news.toArray ++ Builtin.zeroCells z.cells (newCap - (L + ys.length))
      have hzc : (Builtin.zeroCells z.cells (newCap - (L + ys.length))).size = (newCap - (L + ys.length)) * sz := by simp [Builtin.zeroCells, hzs]
      have harr : arr.size = newCap * sz := by
        simp only [arr, Array.size_append, List.size_toArray, hol, hnl, hzc]
        rw [← Nat.add_mul, ← Nat.add_mul]
        congr 1
        omega
      have hsize : w.drew.heap.size = w.heap.size := rfl
      let w' := w.drew.alloc (.cells arr e)
      let l' : Plc := .at w.heap.size 0 sz (xs ++ ys).length arr.size
      have hheap : ∀ g, g < w.heap.size → w'.heap[g]? = w.heap[g]? := fun g hg => heap_alloc w.drew _ g hg
      have hsame : ∀ g, I g → w'.heap[g]? = w.heap[g]? := fun g hg => hheap g (hR.imm g hg)
      have hnI : ¬ I w.heap.size := fun h => Nat.lt_irrefl _ (hR.imm _ h)
      have hLE : LE φ (φ.set b l') := fun b' l1 h1 => by
        by_cases he : b = b'
        · subst he
          rw [hl0] at h1
          cases h1
          exact ⟨l', by simp [hbφ], by simp only [l', hLen]; exact hple _ _⟩
        · exact ⟨l1, by rw [get_set_ne _ _ _ _ he]; exact h1, .refl _⟩
      have hφb : (φ.set b l')[b]? = some l' := by simp [hbφ]
      have hbr : BR (φ.set b l') I w' (.sl sz (xs ++ ys) false) l' := by
        refine .sl sz (xs ++ ys) false w.heap.size 0 arr e (heap_alloc_at w.drew _) ?_ (rows_append hxlen hylen) (fun i j d c hd hcj => ?_) hz ⟨fun h => (by cases h), fun h => (hnI h).elim⟩
        · rw [hLen, harr, Nat.zero_add]
          exact Nat.mul_le_mul_right _ hcap
        · rw [Nat.zero_add] at hcj
          have hlow : ∀ (i j : Nat), i < L → j < sz → i * sz + j < L * sz := fun i j h1 h2 => by
            have : i * sz + sz ≤ L * sz := by rw [← Nat.succ_mul]; exact Nat.mul_le_mul_right _ h1
            omega
          refine DR.mono (fun _ h => h) hsame (I := I) (w := w) ?_
          rcases get2_append hd with ⟨h1, h2⟩ | ⟨h1, h2⟩
          · obtain ⟨_, hj⟩ := get2_lt hxlen h2
            refine hxd i j d c h2 ?_
            have := hlow i j (by omega) hj
            simp only [arr] at hcj
            rw [Array.getElem?_append_left (by simp; omega), Array.getElem?_append_left (by simp; omega)] at hcj
            simpa using hcj
          · obtain ⟨h3, hj⟩ := get2_lt hylen h2
            refine hnd _ j d c h2 ?_
            have h4 : i * sz + j = L * sz + ((i - xs.length) * sz + j) := by
              have : i = L + (i - xs.length) := by omega
              rw [show i * sz = (L + (i - xs.length)) * sz by rw [← this], Nat.add_mul]
              omega
            have h5 : (i - xs.length) * sz + j < ys.length * sz := by
              have : (i - xs.length) * sz + sz ≤ ys.length * sz := by rw [← Nat.succ_mul]; exact Nat.mul_le_mul_right _ h3
              omega
            simp only [arr] at hcj
            rw [Array.getElem?_append_left (by simp; omega), Array.getElem?_append_right (by simp; omega)] at hcj
            simp only [List.size_toArray, hol, List.getElem?_toArray] at hcj
            rwa [h4, show L * sz + ((i - xs.length) * sz + j) - L * sz = (i - xs.length) * sz + j by omega] at hcj
      refine ⟨φ.set b l', I, w', .slice (some ⟨w.heap.size, 0, none⟩) (L + ys.length) newCap, .inl (hexec _ _ (by rw [hc, hcy]; exact hrun)), ?_, ?_, ?_, fun b' l1 hb' h1 => ⟨by rw [get_set_ne _ _ _ _ (fun e => hb' (by simp [e]))]; exact h1, fun g' hg1 => hheap g' (hR.lt h1 hg1)⟩⟩
      · refine ⟨rfl, rfl, rfl, by simp [w'], fun g hg _ => hheap g hg, hsame, fun _ h => h, hLE, fun b' l1 g h1 hg1 => ?_, fun _ h => .inl h⟩
        by_cases he : b = b'
        · subst he
          rw [hφb] at h1
          cases h1
          cases hg1
          exact .inl (Nat.le_refl _)
        · rw [get_set_ne _ _ _ _ he] at h1
          exact .inr ⟨l1, h1, hg1⟩
      · refine hR.step b (by simp [hR.len]) hLE (fun _ h => h) hsame (fun b' k0 l1 hk0 hl1 => ?_) (fun b' l1 g h1 hg1 => ?_) (fun g hg => ?_)
        · by_cases he : b = b'
          · subst he
            simp [hbH] at hk0
            rw [hφb] at hl1
            cases hl1
            subst hk0
            exact .inr hbr
          · rw [get_set_ne _ _ _ _ he] at hk0 hl1
            exact .inl ⟨hk0, hl1, fun g hg => ⟨hheap g (hR.lt hl1 hg), fun h => h⟩⟩
        · by_cases he : b = b'
          · subst he
            rw [hφb] at h1
            cases h1
            cases hg1
            exact .inr ⟨rfl, Nat.le_refl _⟩
          · rw [get_set_ne _ _ _ _ he] at h1
            exact .inl ⟨l1, h1, hg1⟩
        · have := hR.imm g hg
          simp only [w', World.size_alloc, World.size_drew]
          omega
      · rw [hLen]
        have := VR.ref (φ := φ.set b l') (I := I) (w := w') b (L + ys.length) 0 (L + ys.length) w.heap.size 0 sz arr.size newCap (by rw [hφb]; simp only [l', hLen]) (by omega) hcap (by omega) (by rw [harr]; simp)
        simpa using this
    rcases hinv with ⟨hb, hxs, hL0, _, _, hc⟩ | ⟨hl0, _, a0, g, δ, n, hc, hb⟩ | ⟨g, δ, arr, ty, cap, hc, hb, hg, hn, hxlen, hxd, hz0, hI, g1, g2, g3, g4⟩
    · subst hxs
      subst hL0
      exact moved [] 0 none .virt hb (fun newg newn => .first _ _ _ _ _ (by omega)) hc (by omega) (by simp) (by simp [Builtin.firstCells]) (by simp) (by simp [get2])
    · subst hl0
      obtain rfl : xs = [] := List.eq_nil_of_length_eq_zero hL
      exact moved [] 0 a0 _ hb (fun newg newn => .more _ _ _ _ _ _ _ _ _ _ (by omega)) hc (by omega) (by simp) (by cases a0 <;> simp [Builtin.firstCells, loadCells, loadCellsFrom]) (by simp) (by simp [get2])
    · have hes : esz0 = sz := hesz.resolve_right (Nat.pos_iff_ne_zero.1 hz0)
      subst hes
      simp only [Nat.zero_mul, Nat.add_zero, Nat.zero_add] at hc g4 g3
      by_cases hroom : L + ys.length ≤ cap
      · -- in place
        have hfit2 : δ + L * esz0 + ys.length * esz0 ≤ arr.size := by
          have : (L + ys.length) * esz0 ≤ cap * esz0 := Nat.mul_le_mul_right _ hroom
          rw [Nat.add_mul] at this
          omega
        have hrun := run_append_in (P := P) (ty := type) (w := w) hu hu2 hi g δ L cap ⟨gy, oy, none⟩ ys.length cy news hg hnl hnews hn1 hroom hfit2
        have hnI : ¬ I g := fun h => by have := hI.2 h; cases this
        have hlt : L < L + ys.length := by omega
        have hfitA : δ + L * esz0 + news.length ≤ arr.toList.length := by rw [hnl, Array.length_toList]; exact hfit2
        obtain ⟨arr', harr'⟩ : ∃ arr', arr' = (arr.toList.take (δ + L * esz0) ++ news ++ arr.toList.drop (δ + L * esz0 + news.length)).toArray := ⟨_, rfl⟩
        rw [← harr'] at hrun
        have hsz : arr'.size = arr.size := by
          have h0 := Array.length_toList (xs := arr)
          subst harr'
          simp only [List.size_toArray, List.length_append, List.length_take, List.length_drop]
          omega
        have hw := hR.write (b := b) (l := .at g δ esz0 L arr.size) (l' := .at g δ esz0 (xs ++ ys).length arr'.size) (g := g) hb rfl hnI
          (by rw [hLen]; exact .more _ _ _ _ _ _ _ _ _ _ hlt) rfl arr' (.sl esz0 (xs ++ ys) false)
        have hsame : ∀ g', I g' → (w.setRow g arr').heap[g']? = w.heap[g']? := fun g' hg' => setRow_other w g g' _ fun e => hnI (e ▸ hg')
        obtain ⟨h1, h2, hkp⟩ := hw (.sl esz0 (xs ++ ys) false g δ _ ty (setRow_heap w g arr _ ty (0, 0) hg) (by rw [hsz, hLen, Nat.add_mul]; omega) (rows_append hxlen hylen) (fun i j d c hd hcj => by
          refine DR.mono (fun _ h => h) hsame (I := I) (w := w) ?_
          subst harr'
          simp only [List.getElem?_toArray] at hcj
          rw [splice_get _ _ _ hfitA, hnl] at hcj
          rcases get2_append hd with ⟨h1, h2⟩ | ⟨h1, h2⟩
          · obtain ⟨_, hj⟩ := get2_lt hxlen h2
            have : i * esz0 + esz0 ≤ L * esz0 := by rw [← Nat.succ_mul]; exact Nat.mul_le_mul_right _ (by omega)
            rw [if_neg (by omega)] at hcj
            exact hxd i j d c h2 (by simpa using hcj)
          · obtain ⟨h3, hj⟩ := get2_lt hylen h2
            have h4 : i * esz0 = L * esz0 + (i - xs.length) * esz0 := by
              have : i = L + (i - xs.length) := by omega
              rw [show i * esz0 = (L + (i - xs.length)) * esz0 by rw [← this], Nat.add_mul]
            have h5 : (i - xs.length) * esz0 + esz0 ≤ ys.length * esz0 := by rw [← Nat.succ_mul]; exact Nat.mul_le_mul_right _ h3
            rw [if_pos (by omega)] at hcj
            refine hnd _ j d c h2 ?_
            rwa [show δ + i * esz0 + j - (δ + L * esz0) = (i - xs.length) * esz0 + j by omega] at hcj) hz0 ⟨fun h => (by cases h), fun h => (hnI h).elim⟩)
        refine ⟨_, I, _, .slice (some ⟨g, δ, none⟩) (L + ys.length) cap, .inl (hexec _ _ (by rw [hc, hcy]; exact hrun)), h2, h1, ?_, hkp⟩
        have hv := VR.ref (φ := φ.set b (.at g δ esz0 (xs ++ ys).length arr'.size)) (I := I) (w := w.setRow g arr') b (xs ++ ys).length 0 (xs ++ ys).length g δ esz0 _ cap (by simp [hbφ]; rfl) (by omega) (by rw [hLen]; exact hroom) (by rw [hLen]; omega) (by rw [hsz]; simpa using g4)
        rw [hLen] at hv ⊢
        simpa using hv
      · -- it grows
        have hLe : L * esz0 ≤ arr.size - δ := by omega
        refine moved ((arr.toList.drop δ).take (L * esz0)) cap _ _ hb (fun newg newn => .more _ _ _ _ _ _ _ _ _ _ (by omega)) hc (by omega) (by simp; omega) ?_ hxlen (fun i j d c hd hcj => ?_)
        · refine run_firstCells_some (P := P) w.drew esz0 L ⟨g, δ, none⟩ L cap _ (by simp; omega) fun j v hj => ?_
          have hjs : j < L * esz0 := by have := (List.getElem?_eq_some_iff.1 hj).1; simp at this; omega
          rw [List.getElem?_take_of_lt hjs] at hj
          rw [add_none, World.cell?_drew, cell_of hg]
          simpa using hj
        · obtain ⟨h1, hj⟩ := get2_lt hxlen hd
          have : i * esz0 + esz0 ≤ L * esz0 := by rw [← Nat.succ_mul]; exact Nat.mul_le_mul_right _ (by omega)
          rw [List.getElem?_take_of_lt (by omega)] at hcj
          refine hxd i j d c hd ?_
          rw [Nat.add_assoc]
          simpa using hcj

theorem d_append {t t2 e e2 : TypeId} {x y : Operand} {b L len esz0 sz bytes L' : Nat} {xs ys zs : List (List D)} {z : Value} (hu : P.underlying t = some (.slice e)) (hu2 : P.underlying t2 = some (.slice e2)) (hi : TyI P e z sz bytes) (hz : 0 < sz) (hzs : z.cells.size = sz)
    (hx : ev T x = .ref b L 0 L) (hk : H[b]? = some (.sl esz0 xs false)) (hL : xs.length = L) (hesz : esz0 = sz ∨ esz0 = 0) (hy : Holds H sz (ev T y) ys) (hzz : xs ++ ys = zs) (hL' : zs.length = L') (hfit : L' * bytes ≤ 140737488355328) (h63 : L' ≤ 9223372036854775807) :
    Does P ⟨dst, .call ⟨.builtin .append, #[x, y], #[t, t2]⟩, type, pos, after, guard⟩ T H (.ref b L' 0 L') (H.set b (.sl sz zs false)) [b] := fun φ I w a hR hT =>
  d_append_at hu hu2 hi hz hzs hk hL hesz hy hzz hL' hfit h63 φ I w a hR (hx ▸ ev_VR hT x) (ev_VR hT y)
end
end Go.VM
