/- The tables are right. -/
import Derived.Test.YtebgjabalnffdaaGreatDoorTokP
import Derived.Test.YtebgjabalnffdaaGreatDoorCodR
import Derived.Test.YtebgjabalnffdaaGreatDoorVniR
set_option linter.unusedVariables false
set_option linter.unusedSimpArgs false
set_option maxRecDepth 1000000
namespace Go.Proofs.YtebgjabalnffdaaGreatDoor
open Go.RowKit

theorem asc_lit : singR asc128 = ascLit := by kernel_rfl
theorem thai_lit : thaiR 256 = thaiLit := by kernel_rfl
theorem vis_lit : visRules = visLit := by kernel_rfl
theorem tcv_lit : tcvRules = tcvLit := by kernel_rfl
theorem tam_lit : tamRules = tamLit := by kernel_rfl
theorem vni_lit : vniRules = vniLit := by kernel_rfl
theorem asc_ok : TabOk ascLit := TOk_codes (rs := ascLit) ascC1 ascC2 (by kernel_rfl) (by kernel_rfl) (by kernel_rfl) (by kernel_rfl) (by kernel_rfl) (by decide +kernel) (by decide +kernel) (by kernel_rfl)
theorem thai_ok : TabOk thaiLit := TOk_codes (rs := thaiLit) thaiC1 thaiC2 (by kernel_rfl) (by kernel_rfl) (by kernel_rfl) (by kernel_rfl) (by kernel_rfl) (by decide +kernel) (by decide +kernel) (by kernel_rfl)
theorem vis_ok : TabOk visLit := TOk_codes (rs := visLit) visC1 visC2 (by kernel_rfl) (by kernel_rfl) (by kernel_rfl) (by kernel_rfl) (by kernel_rfl) (by decide +kernel) (by decide +kernel) (by kernel_rfl)
theorem tcv_ok : TabOk tcvLit := TOk_codes (rs := tcvLit) tcvC1 tcvC2 (by kernel_rfl) (by kernel_rfl) (by kernel_rfl) (by kernel_rfl) (by kernel_rfl) (by decide +kernel) (by decide +kernel) (by kernel_rfl)
theorem vni_ok : TabOk vniLit := TOk_codes (rs := vniLit) vniC1 vniC2 (by kernel_rfl) (by kernel_rfl) (by kernel_rfl) (by kernel_rfl) (by kernel_rfl) (by decide +kernel) (by decide +kernel) (by kernel_rfl)
theorem tam_ok : TabOk tamLit := TOk_codes (rs := tamLit) tamC1 tamC2 (by kernel_rfl) (by kernel_rfl) (by kernel_rfl) (by kernel_rfl) (by kernel_rfl) (by decide +kernel) (by decide +kernel) (by kernel_rfl)
theorem ind_ok : TabOk indLit := TOk_codes (rs := indLit) indC1 indC2 (by kernel_rfl) (by kernel_rfl) (by kernel_rfl) (by kernel_rfl) (by kernel_rfl) (by decide +kernel) (by decide +kernel) (by kernel_rfl)
end Go.Proofs.YtebgjabalnffdaaGreatDoor
