/- New fractions as rational numbers: plain reasoning about the printed functions. -/
import Derived.Test.YtdebnihlkdabpaaHPRatioN
import Derived.Test.YtdebnihlkdabpaaHPRatioBN
import Derived.Test.YtdebnihlkdabpaaHPRatG
namespace Go.VM
set_option linter.unusedVariables false
set_option linter.unusedSimpArgs false

theorem new_rat {n d : Int} (hn : -1152921504606846976 ≤ n) (hn2 : n ≤ 1152921504606846976) (hd : 1 ≤ d) (hd2 : d ≤ 1152921504606846976) : ratio_New fuel n d = some ((mkRat n d.toNat).num, ((mkRat n d.toNat).den : Int), 0) := by
  rw [New_ok hn hn2 hd hd2 (by unfold fuel; omega)]
  have h1 := rnum_rat n (d := d.toNat) (by omega)
  have h2 := rden_rat n (d := d.toNat) (by omega)
  rw [show ((d.toNat : Nat) : Int) = d by omega] at h1 h2
  rw [h1, h2]
theorem rnew_rat {n d : Int} (hn : -1152921504606846976 ≤ n) (hn2 : n ≤ 1152921504606846976) (hd : 1 ≤ d) (hd2 : d ≤ 1152921504606846976) : ref01_New fuel n d = some ((mkRat n d.toNat).num, ((mkRat n d.toNat).den : Int), 0) := by
  rw [rNew_ok hn hn2 hd hd2 (by unfold fuel; omega)]
  have h1 := rnum_rat n (d := d.toNat) (by omega)
  have h2 := rden_rat n (d := d.toNat) (by omega)
  rw [show ((d.toNat : Nat) : Int) = d by omega] at h1 h2
  rw [h1, h2]
end Go.VM
