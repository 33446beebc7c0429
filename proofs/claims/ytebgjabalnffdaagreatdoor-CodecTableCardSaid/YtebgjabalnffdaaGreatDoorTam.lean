/- thai.Decode; tamil.one, vowels, consonants. -/
import Derived.Test.YtebgjabalnffdaaGreatDoorTcv2
set_option linter.unusedVariables false
set_option linter.unusedSimpArgs false
set_option maxRecDepth 100000
namespace Go.Proofs.YtebgjabalnffdaaGreatDoor
open Go.RowKit

theorem iB {k1 : IntKind} {a a' : Int} {b b' : Bool} (h : a = a' ∧ b = b') : Ending.returned (.tuple #[.int k1 a, .bool b]) = Ending.returned (.tuple #[.int k1 a', .bool b']) := by obtain ⟨rfl, rfl⟩ := h; rfl
def thaiD (c : Int) : Int × Bool := if c < 128 then (c, true) else if (161 ≤ c ∧ c ≤ 218) ∨ (223 ≤ c ∧ c ≤ 251) then (3424 + c, true) else (0, false)
theorem thai_Decode (w : World) (c : Int) (h0 : 0 ≤ c) (h1 : c ≤ 255) : Calls Tryz.prog 65 #[.int .u8 c] w fun e w' => e = .returned (.tuple #[.int .i64 (thaiD c).1, .bool (thaiD c).2]) ∧ w = w' := by
  go_enter Tryz.func65, Tryz.ntmps65
  go_wp2
  all_goals (go_ret2; refine ⟨iB ?_, rfl⟩; go_light; unfold thaiD; first | (rw [if_pos (by omega)]; exact ⟨by (simp only); omega, rfl⟩) | (rw [if_pos (by omega)]; exact ⟨rfl, rfl⟩) | (rw [if_neg (by omega), if_pos (by omega)]; exact ⟨by (simp only); omega, rfl⟩) | (rw [if_neg (by omega), if_neg (by omega)]; exact ⟨rfl, rfl⟩))

theorem tamil_one (w : World) (i o : Value) (Ai Ao : Option Addr) (ni ci no co : Nat) : Calls Tryz.prog 97 #[.slice Ai ni ci, .slice Ao no co] w fun e w' => e = .returned (.agg #[.slice Ai ni ci, .slice Ao no co]) ∧ Upd No w w' := by
  go_enter Tryz.func97, Tryz.ntmps97
  go_wp2
  refine bodyPost_ret (v := .agg #[.slice Ai ni ci, .slice Ao no co]) (by simp [results, Tryz.results97, go_sem, cell_set, *]) rfl ⟨rfl, (Upd.refl _ _).alloc _⟩

def tamV : List Int := [0xb85, 0xb86, 0xb87, 0xb88, 0xb89, 0xb8a, 0xb8e, 0xb8f, 0xb90, 0xb92, 0xb93, 0xb94, 0xb83]
def tamC : List Int := [0xb95, 0xb99, 0xb9a, 0xb9e, 0xb9f, 0xba3, 0xba4, 0xba8, 0xbaa, 0xbae, 0xbaf, 0xbb0, 0xbb2, 0xbb5, 0xbb4, 0xbb3, 0xbb1, 0xba9, 0xb9c, 0xbb7, 0xbb8, 0xbb9]
theorem flat1 {α β : Type} (f : α → β) : ∀ xs : List α, (xs.map fun n => [f n]).flatten = xs.map f := by
  intro xs
  induction xs with
  | nil => rfl
  | cons y ys ih => simp [ih]
theorem Rd.lits (w : World) (xs : List Int) (t : TypeId) (hl : xs.length ≤ 1000000) : Rd (eI .i64) (fun k => k = w.heap.size) (w.alloc (.cells (xs.map fun n => Value.int .i64 n).toArray t)) (.slice (some ⟨w.heap.size, 0, none⟩) xs.length xs.length) xs := by
  have h := (Own.lit (E := eI .i64) (e := t) (F := fun k => k = w.heap.size) (base := 0) w xs (xs.map fun n => [Value.int .i64 n]) (by simp) (by omega) (Nat.zero_le _) rfl (fun k x cs hx hc => by
    simp only [List.getElem?_map, hx, Option.map_some, Option.some.injEq] at hc
    subst hc; rfl)).rd
  have e := flat1 (fun n => Value.int .i64 n) xs
  rw [e] at h
  exact h
theorem tamil_vowels (w : World) : Calls Tryz.prog 98 #[] w fun e w' => e = .returned (.slice (some ⟨w.heap.size, 0, none⟩) 13 13) ∧ w' = w.alloc (.cells (tamV.map fun n => Value.int .i64 n).toArray 3) := by
  go_enter Tryz.func98, Tryz.ntmps98
  go_wp2
  go_ret
  exact ⟨rfl, rfl⟩
theorem tamil_consonants (w : World) : Calls Tryz.prog 99 #[] w fun e w' => e = .returned (.slice (some ⟨w.heap.size, 0, none⟩) 22 22) ∧ w' = w.alloc (.cells (tamC.map fun n => Value.int .i64 n).toArray 3) := by
  go_enter Tryz.func99, Tryz.ntmps99
  go_wp2
  go_ret
  exact ⟨rfl, rfl⟩
theorem rule_new (w : World) (xs ys : List Int) (hl : xs.length ≤ 1000 ∧ ys.length ≤ 1000) :
    eRule.rep (fun k => k = w.heap.size ∨ k = w.heap.size + 1) ((w.alloc (.cells (xs.map fun n => Value.int .i64 n).toArray 3)).alloc (.cells (ys.map fun n => Value.int .i64 n).toArray 3)) (xs, ys)
      [.slice (some ⟨w.heap.size, 0, none⟩) xs.length xs.length, .slice (some ⟨w.heap.size + 1, 0, none⟩) ys.length ys.length] := by
  have h1 := Rd.lits w xs 3 (by omega)
  have h2 := Rd.lits (w.alloc (.cells (xs.map fun n => Value.int .i64 n).toArray 3)) ys 3 (by omega)
  simp at h2
  exact eRule_mk ((h1.upd (S := No) ((Upd.refl _ _).alloc _) (fun _ _ h => h)).mono (fun k hk => .inl hk)) (h2.mono (fun k hk => .inr hk))
end Go.Proofs.YtebgjabalnffdaaGreatDoor
