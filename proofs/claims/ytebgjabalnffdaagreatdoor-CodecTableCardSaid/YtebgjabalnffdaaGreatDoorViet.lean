/- viet.rows. -/
import Derived.Test.YtebgjabalnffdaaGreatDoorCodR
set_option linter.unusedVariables false
set_option linter.unusedSimpArgs false
set_option maxRecDepth 100000
namespace Go.Proofs.YtebgjabalnffdaaGreatDoor
open Go.RowKit

def vietL : List (Int × Int × List Int) := [
  (97, 0, [97, 224, 225, 7843, 227, 7841]),
  (97, 1, [259, 7857, 7855, 7859, 7861, 7863]),
  (97, 2, [226, 7847, 7845, 7849, 7851, 7853]),
  (101, 0, [101, 232, 233, 7867, 7869, 7865]),
  (101, 2, [234, 7873, 7871, 7875, 7877, 7879]),
  (105, 0, [105, 236, 237, 7881, 297, 7883]),
  (111, 0, [111, 242, 243, 7887, 245, 7885]),
  (111, 2, [244, 7891, 7889, 7893, 7895, 7897]),
  (111, 3, [417, 7901, 7899, 7903, 7905, 7907]),
  (117, 0, [117, 249, 250, 7911, 361, 7909]),
  (117, 3, [432, 7915, 7913, 7917, 7919, 7921]),
  (121, 0, [121, 7923, 253, 7927, 7929, 7925]),
  (100, 0, [100, 0, 0, 0, 0, 0]),
  (100, 4, [273, 0, 0, 0, 0, 0])]
def vietRow (r : Int × Int × List Int) : List Value := [.int .i64 r.1, .int .i64 r.2.1] ++ (List.range 6).map fun k => Value.int .i64 (r.2.2.getD k 0)
def eV : Enc (Int × Int × List Int) := Enc.flat 8 vietRow (fun r => by simp [vietRow]) (fun r u hu => by
  simp only [vietRow, List.mem_append, List.mem_cons, List.not_mem_nil, or_false, List.mem_map] at hu
  rcases hu with (rfl | rfl) | ⟨k, _, rfl⟩ <;> rfl)
def vietC : Array Value := (vietL.flatMap vietRow).toArray
set_option maxHeartbeats 4000000 in
theorem viet_rows (w : World) : Calls Tryz.prog 131 #[] w fun e w' => e = .returned (.slice (some ⟨w.heap.size, 0, none⟩) 14 14) ∧ w' = w.alloc (.cells vietC 226) := by
  go_enter Tryz.func131, Tryz.ntmps131
  go_upto_region 0 with fail
  refine wp_region_lit ?_
  refine wp_value (v := .slice none 0 0) (w' := w) rfl (by kernel_rfl) ?_
  go_upto_region 1 with fail
  refine wp_region_lit ?_
  refine wp_value (v := .agg #[.int .i64 97, .int .i64 224, .int .i64 225, .int .i64 7843, .int .i64 227, .int .i64 7841]) (w' := w) rfl (by kernel_rfl) ?_
  refine wp_value (v := .agg #[.int .i64 97, .int .i64 0, .int .i64 97, .int .i64 224, .int .i64 225, .int .i64 7843, .int .i64 227, .int .i64 7841]) (w' := w) rfl (by kernel_rfl) ?_
  refine wp_value (v := .agg #[.int .i64 259, .int .i64 7857, .int .i64 7855, .int .i64 7859, .int .i64 7861, .int .i64 7863]) (w' := w) rfl (by kernel_rfl) ?_
  refine wp_value (v := .agg #[.int .i64 97, .int .i64 1, .int .i64 259, .int .i64 7857, .int .i64 7855, .int .i64 7859, .int .i64 7861, .int .i64 7863]) (w' := w) rfl (by kernel_rfl) ?_
  refine wp_value (v := .agg #[.int .i64 226, .int .i64 7847, .int .i64 7845, .int .i64 7849, .int .i64 7851, .int .i64 7853]) (w' := w) rfl (by kernel_rfl) ?_
  refine wp_value (v := .agg #[.int .i64 97, .int .i64 2, .int .i64 226, .int .i64 7847, .int .i64 7845, .int .i64 7849, .int .i64 7851, .int .i64 7853]) (w' := w) rfl (by kernel_rfl) ?_
  refine wp_value (v := .agg #[.int .i64 101, .int .i64 232, .int .i64 233, .int .i64 7867, .int .i64 7869, .int .i64 7865]) (w' := w) rfl (by kernel_rfl) ?_
  refine wp_value (v := .agg #[.int .i64 101, .int .i64 0, .int .i64 101, .int .i64 232, .int .i64 233, .int .i64 7867, .int .i64 7869, .int .i64 7865]) (w' := w) rfl (by kernel_rfl) ?_
  refine wp_value (v := .agg #[.int .i64 234, .int .i64 7873, .int .i64 7871, .int .i64 7875, .int .i64 7877, .int .i64 7879]) (w' := w) rfl (by kernel_rfl) ?_
  refine wp_value (v := .agg #[.int .i64 101, .int .i64 2, .int .i64 234, .int .i64 7873, .int .i64 7871, .int .i64 7875, .int .i64 7877, .int .i64 7879]) (w' := w) rfl (by kernel_rfl) ?_
  refine wp_value (v := .agg #[.int .i64 105, .int .i64 236, .int .i64 237, .int .i64 7881, .int .i64 297, .int .i64 7883]) (w' := w) rfl (by kernel_rfl) ?_
  refine wp_value (v := .agg #[.int .i64 105, .int .i64 0, .int .i64 105, .int .i64 236, .int .i64 237, .int .i64 7881, .int .i64 297, .int .i64 7883]) (w' := w) rfl (by kernel_rfl) ?_
  refine wp_value (v := .agg #[.int .i64 111, .int .i64 242, .int .i64 243, .int .i64 7887, .int .i64 245, .int .i64 7885]) (w' := w) rfl (by kernel_rfl) ?_
  refine wp_value (v := .agg #[.int .i64 111, .int .i64 0, .int .i64 111, .int .i64 242, .int .i64 243, .int .i64 7887, .int .i64 245, .int .i64 7885]) (w' := w) rfl (by kernel_rfl) ?_
  refine wp_value (v := .agg #[.int .i64 244, .int .i64 7891, .int .i64 7889, .int .i64 7893, .int .i64 7895, .int .i64 7897]) (w' := w) rfl (by kernel_rfl) ?_
  refine wp_value (v := .agg #[.int .i64 111, .int .i64 2, .int .i64 244, .int .i64 7891, .int .i64 7889, .int .i64 7893, .int .i64 7895, .int .i64 7897]) (w' := w) rfl (by kernel_rfl) ?_
  refine wp_value (v := .agg #[.int .i64 417, .int .i64 7901, .int .i64 7899, .int .i64 7903, .int .i64 7905, .int .i64 7907]) (w' := w) rfl (by kernel_rfl) ?_
  refine wp_value (v := .agg #[.int .i64 111, .int .i64 3, .int .i64 417, .int .i64 7901, .int .i64 7899, .int .i64 7903, .int .i64 7905, .int .i64 7907]) (w' := w) rfl (by kernel_rfl) ?_
  refine wp_value (v := .agg #[.int .i64 117, .int .i64 249, .int .i64 250, .int .i64 7911, .int .i64 361, .int .i64 7909]) (w' := w) rfl (by kernel_rfl) ?_
  refine wp_value (v := .agg #[.int .i64 117, .int .i64 0, .int .i64 117, .int .i64 249, .int .i64 250, .int .i64 7911, .int .i64 361, .int .i64 7909]) (w' := w) rfl (by kernel_rfl) ?_
  refine wp_value (v := .agg #[.int .i64 432, .int .i64 7915, .int .i64 7913, .int .i64 7917, .int .i64 7919, .int .i64 7921]) (w' := w) rfl (by kernel_rfl) ?_
  refine wp_value (v := .agg #[.int .i64 117, .int .i64 3, .int .i64 432, .int .i64 7915, .int .i64 7913, .int .i64 7917, .int .i64 7919, .int .i64 7921]) (w' := w) rfl (by kernel_rfl) ?_
  refine wp_value (v := .agg #[.int .i64 121, .int .i64 7923, .int .i64 253, .int .i64 7927, .int .i64 7929, .int .i64 7925]) (w' := w) rfl (by kernel_rfl) ?_
  refine wp_value (v := .agg #[.int .i64 121, .int .i64 0, .int .i64 121, .int .i64 7923, .int .i64 253, .int .i64 7927, .int .i64 7929, .int .i64 7925]) (w' := w) rfl (by kernel_rfl) ?_
  refine wp_value (v := .agg #[.int .i64 100, .int .i64 0, .int .i64 0, .int .i64 0, .int .i64 0, .int .i64 0]) (w' := w) rfl (by kernel_rfl) ?_
  refine wp_value (v := .agg #[.int .i64 100, .int .i64 0, .int .i64 100, .int .i64 0, .int .i64 0, .int .i64 0, .int .i64 0, .int .i64 0]) (w' := w) rfl (by kernel_rfl) ?_
  refine wp_value (v := .agg #[.int .i64 273, .int .i64 0, .int .i64 0, .int .i64 0, .int .i64 0, .int .i64 0]) (w' := w) rfl (by kernel_rfl) ?_
  refine wp_value (v := .agg #[.int .i64 100, .int .i64 4, .int .i64 273, .int .i64 0, .int .i64 0, .int .i64 0, .int .i64 0, .int .i64 0]) (w' := w) rfl (by kernel_rfl) ?_
  refine wp_value (v := .slice (some ⟨w.heap.size, 0, none⟩) 14 14) (w' := w.alloc (.cells vietC 226)) rfl (by kernel_rfl) ?_
  refine wp_value (v := .slice (some ⟨w.heap.size, 0, none⟩) 14 14) (w' := w.alloc (.cells vietC 226)) rfl (by kernel_rfl) ?_
  go_upto_region 100 with fail
  exact bodyPost_ret (v := .slice (some ⟨w.heap.size, 0, none⟩) 14 14) (by kernel_rfl) (by kernel_rfl) ⟨rfl, rfl⟩
def upV (s : Int) : Int := if s < 256 then s - 32 else s - 1
theorem viet_Upper (w : World) (s : Int) (h0 : 0 ≤ s) (h1 : s ≤ 100000) : Calls Tryz.prog 132 #[.int .i64 s] w fun e w' => e = .returned (.int .i64 (upV s)) ∧ w = w' := by
  by_cases h : s < 256
  · have hd : decide (s < 256) = true := by simpa using h
    go_enter Tryz.func132, Tryz.ntmps132
    go_wp2
    go_ret
    rw [upV, if_pos h]
    exact ⟨rfl, rfl⟩
  · have hd : decide (s < 256) = false := by simpa using h
    go_enter Tryz.func132, Tryz.ntmps132
    go_wp2
    go_ret
    rw [upV, if_neg (by omega)]
    exact ⟨rfl, rfl⟩
end Go.Proofs.YtebgjabalnffdaaGreatDoor
