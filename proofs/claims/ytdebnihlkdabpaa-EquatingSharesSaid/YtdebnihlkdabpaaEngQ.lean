/- From what a law computes to what its row asks for. -/
import Derived.Test.YtdebnihlkdabpaaEngP
import Derived.Below
import Derived.DataReads
namespace Go.VM
open Go.RowKit
set_option linter.unusedVariables false

theorem Runs.below {P : Program} {f : FuncId} {args : List V} {r : V} {B' : List Blk} {cargs : Array Value} {w : World} (h : Runs P f args [] r B') (hsz : cargs.size = args.length)
    (hv : ∀ (i : Nat) (v : V) (c : Value), args[i]? = some v → cargs[i]? = some c → VR [] (fun g => g < w.heap.size) w v c) :
    Calls P f cargs w fun e w' => (∃ (φ' : List Plc) (I' : Nat → Prop) (c : Value), e = .returned c ∧ VR φ' I' w' r c) ∧ Below w.heap.size w w' := by
  have hR : Rel ([] : List Blk) [] (fun g => g < w.heap.size) w := ⟨rfl, fun b k l h => by simp at h, fun b b' l l' g h => by simp at h, fun g h => h⟩
  refine (h [] _ w cargs hR hsz hv).mono fun e w' ⟨φ', I', c, he, ht, hR', hvr⟩ => ⟨⟨φ', I', c, he, hvr⟩, ht.os, ht.tape, ht.output, ht.size, fun k hk => ht.same k hk⟩

/-- A slice of numbers, as a row hands it over. -/
theorem VR.row {w : World} {a : Option Addr} {len cap : Nat} {k : IntKind} {zs : List Int} (enc : Int → List D) (he : ∀ x, enc x = [.int k x])
    (h : (a = none ∧ len = 0 ∧ cap = 0 ∧ zs = []) ∨ ∃ x : Addr, a = some x ∧ len ≤ cap ∧ zs.length = cap ∧ (∀ i, i < zs.length → w.cell? (x.add i) = some (.int k (zs.getD i 0)))) :
    VR [] (fun g => g < w.heap.size) w (.d (.lit ((zs.take len).map enc))) (.slice a len cap) := by
  cases len with
  | zero => exact .d _ _ (by simpa using DR.nil a cap)
  | succ n =>
    rcases h with ⟨_, h, _⟩ | ⟨x, rfl, hle, hl, hc⟩
    · cases h
    · have h0 := hc 0 (by omega)
      have hsp : x.spot = none := by
        have := World.cell?_spot h0
        simpa [Addr.add] using this
      obtain ⟨g, o, sp⟩ := x
      simp only at hsp
      subst hsp
      have hadd : ∀ i, (⟨g, o, none⟩ : Addr).add i = ⟨g, o + i, none⟩ := fun i => by
        unfold Addr.add
        split
        · next h => subst h; rfl
        · rfl
      have hlen : ((zs.take (n + 1)).map enc).length = n + 1 := by simp; omega
      have hget : ∀ (i : Nat) (e : List D), ((zs.take (n + 1)).map enc)[i]? = some e → i < zs.length ∧ e = [.int k (zs.getD i 0)] := fun i e hi => by
        have hlt := (List.getElem?_eq_some_iff.1 hi).1
        rw [hlen] at hlt
        have hlz : i < zs.length := by omega
        refine ⟨hlz, ?_⟩
        simp only [List.getElem?_map, List.getElem?_take, hlt, if_true, List.getElem?_eq_getElem hlz, Option.map_some, Option.some.injEq] at hi
        rw [← hi, he]
        simp [List.getD, hlz]
      have hd := DR.lit (I := fun g => g < w.heap.size) (w := w) ((zs.take (n + 1)).map enc) g o 1 cap (fun i _ => .int k (zs.getD i 0)) (by
          have := hc 0 (by omega)
          unfold World.cell? at this
          split at this
          · next hh => exact (Array.getElem?_eq_some_iff.1 hh).1
          · cases this) (fun i e hi => by rw [(hget i e hi).2]; rfl) (fun i j d hd => by
          obtain ⟨e, h1, h2⟩ := get2_some hd
          obtain ⟨h3, rfl⟩ := hget i e h1
          cases j with
          | zero =>
            have := hc i h3
            rw [hadd] at this
            simpa using this
          | succ j => simp at h2) (fun i j d hd => by
          obtain ⟨e, h1, h2⟩ := get2_some hd
          obtain ⟨h3, rfl⟩ := hget i e h1
          cases j with
          | zero => simp at h2; subst h2; exact .int _ _
          | succ j => simp at h2) (by rw [hlen]; exact hle)
      rw [hlen] at hd
      exact .d _ _ hd
end Go.VM
