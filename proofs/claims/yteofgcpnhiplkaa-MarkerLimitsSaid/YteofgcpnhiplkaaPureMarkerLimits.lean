/- The pure statement of MarkerLimits: for each of the 256 numbers the printed function answers true (computed). -/
import Derived.Test.YteofgcpnhiplkaaMFuns
import Derived.Test.YteofgcpnhiplkaaEngV
namespace Go.VM
theorem limits_all : ∀ n : Fin 256, law24_MarkerLimits 100 (n.val : Int) = some true := by decide +kernel
theorem pure_MarkerLimits (n : Int) (hn : fitsI .u8 n) : ∃ k, law24_MarkerLimits k n = some true := by
  obtain ⟨h1, h2⟩ := fits8.1 hn
  have := limits_all ⟨n.toNat, by omega⟩
  rw [show ((⟨n.toNat, by omega⟩ : Fin 256).val : Int) = n from Int.toNat_of_nonneg h1] at this
  exact ⟨100, this⟩
end Go.VM
