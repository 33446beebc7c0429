/- viet.All. -/
import Derived.Test.YtebgjabalnffdaaGreatDoorViet
import Derived.Deep.CutBlock
set_option linter.unusedVariables false
set_option linter.unusedSimpArgs false
set_option maxRecDepth 100000
namespace Go.Proofs.YtebgjabalnffdaaGreatDoor
open Go.RowKit

/-- The bits of a small whole number. -/
def fB (n : Int) : Nat := if n = 1 then 4607182418800017408 else if n = 2 then 4611686018427387904 else if n = 3 then 4613937818241073152 else if n = 4 then 4616189618054758400 else if n = 5 then 4617315517961601024 else 0
theorem conv_f (n : Int) (h0 : 0 ≤ n) (h1 : n ≤ 5) (w : World) : (convert 3 204 (.int .i64 n)).run Tryz.prog w = .ok (.float .f64 (fB n)) w := by
  obtain rfl | rfl | rfl | rfl | rfl | rfl : n = 0 ∨ n = 1 ∨ n = 2 ∨ n = 3 ∨ n = 4 ∨ n = 5 := by omega
  all_goals kernel_rfl
abbrev L3 := Int × Int × Int
def eL : Enc L3 := Enc.flat 2 (fun x => [.int .i64 x.1, .complex .f64 (fB x.2.1) (fB x.2.2)]) (fun _ => rfl) (fun x u h => by simp at h; rcases h with rfl | rfl <;> rfl)
def perRow (up : Bool) (r : Int × Int × List Int) (n : Nat) : List (L3 × Int) :=
  (List.range n).flatMap fun (t : Nat) => if r.2.2.getD t 0 = 0 then [] else [((if up then upV r.1 else r.1, r.2.1, (t : Int)), if up then upV (r.2.2.getD t 0) else r.2.2.getD t 0)]
theorem perRow_succ (up : Bool) (r : Int × Int × List Int) (n : Nat) : perRow up r (n + 1) = perRow up r n ++ (if r.2.2.getD n 0 = 0 then [] else [((if up then upV r.1 else r.1, r.2.1, (n : Int)), if up then upV (r.2.2.getD n 0) else r.2.2.getD n 0)]) := by simp [perRow, List.range_succ]
def perUp (up : Bool) (rs : List (Int × Int × List Int)) : List (L3 × Int) := rs.flatMap fun r => perRow up r 6
theorem perUp_snoc (up : Bool) (rs : List (Int × Int × List Int)) (r) : perUp up (rs ++ [r]) = perUp up rs ++ perRow up r 6 := by simp [perUp]
def allV : List (L3 × Int) := perUp false vietL ++ perUp true vietL
theorem info_Letter : (Tryz.prog.info? 133).map (fun i => (i.zero, i.size, i.bytes)) = some (some (.agg #[.int .i64 0, .complex .f64 0 0]), 2, 24) := by kernel_rfl
def VAt (FS : Nat → Prop) (w : World) (L : List (L3 × Int)) (v2 v3 : Value) (wr : World) : Prop :=
  ∃ (A2 : Option Addr) (n2 c2 : Nat) (A3 : Option Addr) (n3 c3 : Nat), v2 = .slice A2 n2 c2 ∧ v3 = .slice A3 n3 c3 ∧ Own eL 133 FS w.heap.size wr (.slice A2 n2 c2) (L.map (·.1)) ∧ Own (eI .i64) 3 FS w.heap.size wr (.slice A3 n3 c3) (L.map (·.2)) ∧
    ∀ k, Value.ownBlock (.slice A2 n2 c2) = some k → Value.ownBlock (.slice A3 n3 c3) ≠ some k
theorem VAt.upd {FS T : Nat → Prop} {w w1 w2 : World} {L : List (L3 × Int)} {v2 v3 : Value} (h : VAt FS w L v2 v3 w1) (hu : Upd T w1 w2) (hn : ∀ k, FS k → ¬ T k) : VAt FS w L v2 v3 w2 := by
  obtain ⟨A2, n2, c2, A3, n3, c3, rfl, rfl, h2, h3, hd⟩ := h
  exact ⟨A2, n2, c2, A3, n3, c3, rfl, rfl, h2.upd hu hn, h3.upd hu hn, hd⟩
theorem VAt.foot {FS FS' : Nat → Prop} {w w1 : World} {L : List (L3 × Int)} {v2 v3 : Value} (h : VAt FS w L v2 v3 w1) (hf : ∀ k, FS k → k < w1.heap.size → FS' k) : VAt FS' w L v2 v3 w1 := by
  obtain ⟨A2, n2, c2, A3, n3, c3, rfl, rfl, h2, h3, hd⟩ := h
  exact ⟨A2, n2, c2, A3, n3, c3, rfl, rfl, h2.bound.mono (fun k hk => hf k hk.1 hk.2), h3.bound.mono (fun k hk => hf k hk.1 hk.2), hd⟩
end Go.Proofs.YtebgjabalnffdaaGreatDoor
