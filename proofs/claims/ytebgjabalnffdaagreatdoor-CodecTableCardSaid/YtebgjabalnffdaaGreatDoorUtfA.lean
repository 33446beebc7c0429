/- utf.Scalar, utf.Size, utf.lead, utf.One: what they answer. -/
import Derived.Test.YtebgjabalnffdaaGreatDoorBase
import Derived.Test.YtebgjabalnffdaaGreatDoorInfo
namespace Go.Proofs.YtebgjabalnffdaaGreatDoor
open Go.RowKit

def isScalar (s : Int) : Bool := decide (0 ≤ s) && decide (s ≤ 1114111) && (decide (s < 55296) || decide (57343 < s))

theorem utf_Scalar (s : Int) (w : World) :
    Calls Tryz.prog 33 #[.int .i64 s] w fun e w' => e = .returned (.bool (isScalar s)) ∧ w = w' := by
  go_enter Tryz.func33, Tryz.ntmps33
  go_wp2
  all_goals (go_ret; refine ⟨bret ?_, rfl⟩; go_light; simp [isScalar]; omega)

def uLead (c : Int) : Int × Int × Int × Int :=
  if c < 128 then (1, c, 128, 191) else if c < 194 then (0, 0, 128, 191) else if 244 < c then (0, 0, 128, 191) else if c < 224 then (2, c % 32, 128, 191)
  else if c = 224 then (3, 0, 160, 191) else if c = 237 then (3, 13, 128, 159) else if c < 240 then (3, c % 16, 128, 191)
  else if c = 240 then (4, 0, 144, 191) else if c = 244 then (4, 4, 128, 143) else (4, c % 8, 128, 191)

theorem utf_lead (c : Int) (w : World) (h0 : 0 ≤ c) (h1 : c ≤ 255) :
    Calls Tryz.prog 186 #[.int .u8 c] w fun e w' => e = .returned (.tuple #[.int .i64 (uLead c).1, .int .i64 (uLead c).2.1, .int .u8 (uLead c).2.2.1, .int .u8 (uLead c).2.2.2]) ∧ w = w' := by
  go_enter Tryz.func186, Tryz.ntmps186
  go_wp2
  all_goals ((try simp only [Exit.inBlock, Exit.then]); refine bodyPost_ret (results_tmp4 rfl _ _ _) rfl ?_; refine ⟨?_, rfl⟩)
  all_goals go_light
  all_goals (simp only [beq_iff_eq, beq_eq_false_iff_ne, ne_eq] at *; simp [uLead]; (repeat' split) <;> first | (exfalso; omega) | simp)

theorem utf_Size (s : Int) (w : World) :
    Calls Tryz.prog 70 #[.int .i64 s] w fun e w' => e = .returned (.int .i64 (if isScalar s then (if s < 128 then 1 else if s < 2048 then 2 else if s < 65536 then 3 else 4) else 0)) ∧ w = w' := by
  cases hs : isScalar s
  all_goals
    go_enter Tryz.func70, Tryz.ntmps70
    go_wp2_with (go_at_call 33; refine (utf_Scalar _ _).mono ?_; rintro e w' ⟨rfl, rfl⟩)
  all_goals (go_ret; refine ⟨iret ?_, rfl⟩; go_light; (try simp); (try omega))
end Go.Proofs.YtebgjabalnffdaaGreatDoor
