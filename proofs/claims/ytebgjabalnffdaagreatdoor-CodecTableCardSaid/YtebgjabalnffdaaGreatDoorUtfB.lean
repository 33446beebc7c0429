/- utf.One: what it answers. -/
import Derived.Test.YtebgjabalnffdaaGreatDoorUtfA
set_option linter.unusedVariables false
namespace Go.Proofs.YtebgjabalnffdaaGreatDoor
open Go.RowKit

theorem i64_or6 (s x : Int) (h0 : 0 ≤ s) (h1 : s ≤ 1000000000) : bits .or .i64 (s * 64) (x % 64) = s * 64 + x % 64 :=
  bits_join .i64 62 (by decide) (fun n h0 h1 => by rw [IntKind.wrap_i64]; omega) 6 _ _ (by omega) (by omega) (by omega) (by omega) (by omega) (by omega)

def uCore (n : Nat) (x1 x2 x3 sz s lo hi : Int) : Int × Int × Int :=
  if sz = 0 then (0, 1, 1) else if 1 = sz then (s, 1, 0) else if 1 = n then (0, n, 2) else if x1 < lo then (0, 1, 1) else if hi < x1 then (0, 1, 1)
  else if 2 = sz then (s * 64 + x1 % 64, 2, 0) else if 2 = n then (0, n, 2) else if x2 < 128 then (0, 2, 1) else if 191 < x2 then (0, 2, 1)
  else if 3 = sz then ((s * 64 + x1 % 64) * 64 + x2 % 64, 3, 0) else if 3 = n then (0, n, 2) else if x3 < 128 then (0, 3, 1) else if 191 < x3 then (0, 3, 1)
  else (((s * 64 + x1 % 64) * 64 + x2 % 64) * 64 + x3 % 64, 4, 0)

set_option maxRecDepth 100000 in
set_option maxHeartbeats 1000000 in
theorem one_core1 (b off c n : Nat) (x0 x1 x2 x3 sz s lo hi : Int) (w : World) (hn : n = 1) (hn' : n ≤ 9223372036854775807)
    (h0 : w.cell? ⟨b, off, none⟩ = some (.int .u8 x0))
    (r1 : 0 ≤ x1) (r1' : x1 ≤ 255) (r2 : 0 ≤ x2) (r2' : x2 ≤ 255) (r3 : 0 ≤ x3) (r3' : x3 ≤ 255) (hs : 0 ≤ s) (hs' : s ≤ 127) (hz : 0 ≤ sz) (hz' : sz ≤ 4)
    (hL : Calls Tryz.prog 186 #[.int .u8 x0] w fun e w' => e = .returned (.tuple #[.int .i64 sz, .int .i64 s, .int .u8 lo, .int .u8 hi]) ∧ w = w') :
    Calls Tryz.prog 185 #[.slice (some ⟨b, off, none⟩) n c] w fun e w' => e = .returned (.tuple #[.int .i64 (uCore n x1 x2 x3 sz s lo hi).1, .int .i64 (uCore n x1 x2 x3 sz s lo hi).2.1, .int .i64 (uCore n x1 x2 x3 sz s lo hi).2.2]) ∧ w = w' := by
  have HL : Hd (Calls Tryz.prog 186 #[.int .u8 x0] w fun e w' => e = .returned (.tuple #[.int .i64 sz, .int .i64 s, .int .u8 lo, .int .u8 hi]) ∧ w = w') := ⟨hL⟩
  clear hL
  subst hn
  have o1 := i64_or6 s x1 hs (by omega)
  have o2 := i64_or6 (s * 64 + x1 % 64) x2 (by omega) (by omega)
  have o3 := i64_or6 ((s * 64 + x1 % 64) * 64 + x2 % 64) x3 (by omega) (by omega)
  go_enter Tryz.func185, Tryz.ntmps185
  go_wp2
  refine wp_scope_n 6 ?_
  go_wp2_with (go_at_call 186; refine HL.out.mono ?_; rintro e w' ⟨rfl, rfl⟩)
  iterate 7 (all_goals (try go_step3); all_goals (try (refine jumps_goto _ _ _ rfl ?_)); go_wp2)
  all_goals (refine jumps_ret_i _ ?_; go_ret3)
  all_goals (refine ⟨iret3p ?_, rfl⟩)
  all_goals go_light
  all_goals clear h0 HL o1 o2 o3
  all_goals (simp only [beq_iff_eq, beq_eq_false_iff_ne, ne_eq] at *; unfold uCore; repeat first | rw [if_pos (by assumption)] | rw [if_neg (by assumption)] | rw [if_neg (Int.not_lt.mpr (by assumption))] | rw [if_pos rfl] | rw [if_neg (by decide)] | rw [if_neg (by omega)])
  all_goals first | rfl | (exfalso; omega)

set_option maxRecDepth 100000 in
set_option maxHeartbeats 1000000 in
theorem one_core2 (b off c n : Nat) (x0 x1 x2 x3 sz s lo hi : Int) (w : World) (hn : n = 2) (hn' : n ≤ 9223372036854775807)
    (h0 : w.cell? ⟨b, off, none⟩ = some (.int .u8 x0)) (h1 : w.cell? ⟨b, off + 1, none⟩ = some (.int .u8 x1))
    (r1 : 0 ≤ x1) (r1' : x1 ≤ 255) (r2 : 0 ≤ x2) (r2' : x2 ≤ 255) (r3 : 0 ≤ x3) (r3' : x3 ≤ 255) (hs : 0 ≤ s) (hs' : s ≤ 127) (hz : 0 ≤ sz) (hz' : sz ≤ 4)
    (hL : Calls Tryz.prog 186 #[.int .u8 x0] w fun e w' => e = .returned (.tuple #[.int .i64 sz, .int .i64 s, .int .u8 lo, .int .u8 hi]) ∧ w = w') :
    Calls Tryz.prog 185 #[.slice (some ⟨b, off, none⟩) n c] w fun e w' => e = .returned (.tuple #[.int .i64 (uCore n x1 x2 x3 sz s lo hi).1, .int .i64 (uCore n x1 x2 x3 sz s lo hi).2.1, .int .i64 (uCore n x1 x2 x3 sz s lo hi).2.2]) ∧ w = w' := by
  have HL : Hd (Calls Tryz.prog 186 #[.int .u8 x0] w fun e w' => e = .returned (.tuple #[.int .i64 sz, .int .i64 s, .int .u8 lo, .int .u8 hi]) ∧ w = w') := ⟨hL⟩
  clear hL
  subst hn
  have o1 := i64_or6 s x1 hs (by omega)
  have o2 := i64_or6 (s * 64 + x1 % 64) x2 (by omega) (by omega)
  have o3 := i64_or6 ((s * 64 + x1 % 64) * 64 + x2 % 64) x3 (by omega) (by omega)
  go_enter Tryz.func185, Tryz.ntmps185
  go_wp2
  refine wp_scope_n 6 ?_
  go_wp2_with (go_at_call 186; refine HL.out.mono ?_; rintro e w' ⟨rfl, rfl⟩)
  iterate 7 (all_goals (try go_step3); all_goals (try (refine jumps_goto _ _ _ rfl ?_)); go_wp2)
  all_goals (refine jumps_ret_i _ ?_; go_ret3)
  all_goals (refine ⟨iret3p ?_, rfl⟩)
  all_goals go_light
  all_goals clear h0 HL o1 o2 o3 h1
  all_goals (simp only [beq_iff_eq, beq_eq_false_iff_ne, ne_eq] at *; unfold uCore; repeat first | rw [if_pos (by assumption)] | rw [if_neg (by assumption)] | rw [if_neg (Int.not_lt.mpr (by assumption))] | rw [if_pos rfl] | rw [if_neg (by decide)] | rw [if_neg (by omega)])
  all_goals first | rfl | (exfalso; omega)

set_option maxRecDepth 100000 in
set_option maxHeartbeats 1000000 in
theorem one_core3 (b off c n : Nat) (x0 x1 x2 x3 sz s lo hi : Int) (w : World) (hn : n = 3) (hn' : n ≤ 9223372036854775807)
    (h0 : w.cell? ⟨b, off, none⟩ = some (.int .u8 x0)) (h1 : w.cell? ⟨b, off + 1, none⟩ = some (.int .u8 x1)) (h2 : w.cell? ⟨b, off + 2, none⟩ = some (.int .u8 x2))
    (r1 : 0 ≤ x1) (r1' : x1 ≤ 255) (r2 : 0 ≤ x2) (r2' : x2 ≤ 255) (r3 : 0 ≤ x3) (r3' : x3 ≤ 255) (hs : 0 ≤ s) (hs' : s ≤ 127) (hz : 0 ≤ sz) (hz' : sz ≤ 4)
    (hL : Calls Tryz.prog 186 #[.int .u8 x0] w fun e w' => e = .returned (.tuple #[.int .i64 sz, .int .i64 s, .int .u8 lo, .int .u8 hi]) ∧ w = w') :
    Calls Tryz.prog 185 #[.slice (some ⟨b, off, none⟩) n c] w fun e w' => e = .returned (.tuple #[.int .i64 (uCore n x1 x2 x3 sz s lo hi).1, .int .i64 (uCore n x1 x2 x3 sz s lo hi).2.1, .int .i64 (uCore n x1 x2 x3 sz s lo hi).2.2]) ∧ w = w' := by
  have HL : Hd (Calls Tryz.prog 186 #[.int .u8 x0] w fun e w' => e = .returned (.tuple #[.int .i64 sz, .int .i64 s, .int .u8 lo, .int .u8 hi]) ∧ w = w') := ⟨hL⟩
  clear hL
  subst hn
  have o1 := i64_or6 s x1 hs (by omega)
  have o2 := i64_or6 (s * 64 + x1 % 64) x2 (by omega) (by omega)
  have o3 := i64_or6 ((s * 64 + x1 % 64) * 64 + x2 % 64) x3 (by omega) (by omega)
  go_enter Tryz.func185, Tryz.ntmps185
  go_wp2
  refine wp_scope_n 6 ?_
  go_wp2_with (go_at_call 186; refine HL.out.mono ?_; rintro e w' ⟨rfl, rfl⟩)
  iterate 7 (all_goals (try go_step3); all_goals (try (refine jumps_goto _ _ _ rfl ?_)); go_wp2)
  all_goals (refine jumps_ret_i _ ?_; go_ret3)
  all_goals (refine ⟨iret3p ?_, rfl⟩)
  all_goals go_light
  all_goals clear h0 HL o1 o2 o3 h1 h2
  all_goals (simp only [beq_iff_eq, beq_eq_false_iff_ne, ne_eq] at *; unfold uCore; repeat first | rw [if_pos (by assumption)] | rw [if_neg (by assumption)] | rw [if_neg (Int.not_lt.mpr (by assumption))] | rw [if_pos rfl] | rw [if_neg (by decide)] | rw [if_neg (by omega)])
  all_goals first | rfl | (exfalso; omega)

set_option maxRecDepth 100000 in
set_option maxHeartbeats 1000000 in
theorem one_core4 (b off c n : Nat) (x0 x1 x2 x3 sz s lo hi : Int) (w : World) (hn : 4 ≤ n) (hn' : n ≤ 9223372036854775807)
    (h0 : w.cell? ⟨b, off, none⟩ = some (.int .u8 x0)) (h1 : w.cell? ⟨b, off + 1, none⟩ = some (.int .u8 x1)) (h2 : w.cell? ⟨b, off + 2, none⟩ = some (.int .u8 x2)) (h3 : w.cell? ⟨b, off + 3, none⟩ = some (.int .u8 x3))
    (r1 : 0 ≤ x1) (r1' : x1 ≤ 255) (r2 : 0 ≤ x2) (r2' : x2 ≤ 255) (r3 : 0 ≤ x3) (r3' : x3 ≤ 255) (hs : 0 ≤ s) (hs' : s ≤ 127) (hz : 0 ≤ sz) (hz' : sz ≤ 4)
    (hL : Calls Tryz.prog 186 #[.int .u8 x0] w fun e w' => e = .returned (.tuple #[.int .i64 sz, .int .i64 s, .int .u8 lo, .int .u8 hi]) ∧ w = w') :
    Calls Tryz.prog 185 #[.slice (some ⟨b, off, none⟩) n c] w fun e w' => e = .returned (.tuple #[.int .i64 (uCore n x1 x2 x3 sz s lo hi).1, .int .i64 (uCore n x1 x2 x3 sz s lo hi).2.1, .int .i64 (uCore n x1 x2 x3 sz s lo hi).2.2]) ∧ w = w' := by
  have HL : Hd (Calls Tryz.prog 186 #[.int .u8 x0] w fun e w' => e = .returned (.tuple #[.int .i64 sz, .int .i64 s, .int .u8 lo, .int .u8 hi]) ∧ w = w') := ⟨hL⟩
  clear hL
  have e0 : ((n : Int) == 0) = false := by simp; omega
  have e1 : ((1 : Int) == (n : Int)) = false := by simp; omega
  have e2 : ((2 : Int) == (n : Int)) = false := by simp; omega
  have e3 : ((3 : Int) == (n : Int)) = false := by simp; omega
  have o1 := i64_or6 s x1 hs (by omega)
  have o2 := i64_or6 (s * 64 + x1 % 64) x2 (by omega) (by omega)
  have o3 := i64_or6 ((s * 64 + x1 % 64) * 64 + x2 % 64) x3 (by omega) (by omega)
  go_enter Tryz.func185, Tryz.ntmps185
  go_wp2
  refine wp_scope_n 6 ?_
  go_wp2_with (go_at_call 186; refine HL.out.mono ?_; rintro e w' ⟨rfl, rfl⟩)
  iterate 7 (all_goals (try go_step3); all_goals (try (refine jumps_goto _ _ _ rfl ?_)); go_wp2)
  all_goals (refine jumps_ret_i _ ?_; go_ret3)
  all_goals (refine ⟨iret3p ?_, rfl⟩)
  all_goals go_light
  all_goals clear h0 HL o1 o2 o3 h1 h2 h3
  all_goals (simp only [beq_iff_eq, beq_eq_false_iff_ne, ne_eq] at *; unfold uCore; repeat first | rw [if_pos (by assumption)] | rw [if_neg (by assumption)] | rw [if_neg (Int.not_lt.mpr (by assumption))] | rw [if_pos rfl] | rw [if_neg (by decide)] | rw [if_neg (by omega)])
  all_goals first | rfl | (exfalso; omega)


def uOne (bs : List Int) : Int × Int × Int :=
  if bs.length = 0 then (0, 0, 2) else
  uCore bs.length (bs.getD 1 0) (bs.getD 2 0) (bs.getD 3 0) (uLead (bs.getD 0 0)).1 (uLead (bs.getD 0 0)).2.1 (uLead (bs.getD 0 0)).2.2.1 (uLead (bs.getD 0 0)).2.2.2

theorem uLead_bd (c : Int) (h0 : 0 ≤ c) : 0 ≤ (uLead c).1 ∧ (uLead c).1 ≤ 4 ∧ 0 ≤ (uLead c).2.1 ∧ (uLead c).2.1 ≤ 127 := by
  unfold uLead
  (repeat' split) <;> simp <;> omega

/-- Bytes, as numbers. -/
def Bytes8 (bs : List Int) : Prop := ∀ b ∈ bs, 0 ≤ b ∧ b ≤ 255
theorem Bytes8.at_ {bs : List Int} (h : Bytes8 bs) (k : Nat) : 0 ≤ bs.getD k 0 ∧ bs.getD k 0 ≤ 255 := by
  rw [List.getD_eq_getElem?_getD]
  cases hk : bs[k]? with
  | none => simp
  | some x => exact h x (List.mem_of_getElem? hk)
theorem Rd.int_at {F : Nat → Prop} {k : IntKind} {w : World} {A : Option Addr} {n c : Nat} {xs : List Int} (h : Rd (eI k) F w (.slice A n c) xs) (hn : 0 < n) :
    ∃ b off, A = some ⟨b, off, none⟩ ∧ F b ∧ b < w.heap.size ∧ ∀ j, j < n → w.cell? ⟨b, off + j, none⟩ = some (.int k (xs.getD j 0)) := by
  obtain ⟨b, off, _, _, rfl, hF, hb, _⟩ := h.at_ hn
  refine ⟨b, off, rfl, hF, hb, fun j hj => ?_⟩
  obtain ⟨b', off', x, cs, he, _, _, hx, rfl, hc⟩ := h.at_ hj
  have := hc 0 _ rfl
  simp only [Option.some.injEq, Addr.mk.injEq] at he
  obtain ⟨rfl, rfl, _⟩ := he
  simpa [List.getD_eq_getElem?_getD, hx] using this

theorem utf_One {F : Nat → Prop} {w : World} {v : Value} {bs : List Int} (hr : Rd (eI .u8) F w v bs) (hb : Bytes8 bs) :
    Calls Tryz.prog 185 #[v] w fun e w' => e = .returned (.tuple #[.int .i64 (uOne bs).1, .int .i64 (uOne bs).2.1, .int .i64 (uOne bs).2.2]) ∧ w = w' := by
  obtain ⟨A, c, rfl⟩ := hr.form
  have hm := hr.max
  unfold uOne
  by_cases hn : bs.length = 0
  · rw [if_pos hn, hn]
    go_enter Tryz.func185, Tryz.ntmps185
    go_wp2
    refine wp_scope_n 6 ?_
    go_wp2
    iterate 1 (all_goals (try go_step3); all_goals (try (refine jumps_goto _ _ _ rfl ?_)); go_wp2)
    refine jumps_ret_i _ ?_
    go_ret3
    exact ⟨rfl, rfl⟩
  · rw [if_neg hn]
    obtain ⟨b, off, rfl, _, _, hcell⟩ := hr.int_at (by omega)
    have b0 := hb.at_ 0
    have b1 := hb.at_ 1
    have b2 := hb.at_ 2
    have b3 := hb.at_ 3
    have hl := uLead_bd _ b0.1
    have hL := utf_lead _ w b0.1 b0.2
    by_cases h1 : bs.length = 1
    · exact one_core1 b off c _ _ _ _ _ _ _ _ _ w h1 hm (hcell 0 (by omega)) b1.1 b1.2 b2.1 b2.2 b3.1 b3.2 hl.2.2.1 hl.2.2.2 hl.1 hl.2.1 hL
    by_cases h2 : bs.length = 2
    · exact one_core2 b off c _ _ _ _ _ _ _ _ _ w h2 hm (hcell 0 (by omega)) (hcell 1 (by omega)) b1.1 b1.2 b2.1 b2.2 b3.1 b3.2 hl.2.2.1 hl.2.2.2 hl.1 hl.2.1 hL
    by_cases h3 : bs.length = 3
    · exact one_core3 b off c _ _ _ _ _ _ _ _ _ w h3 hm (hcell 0 (by omega)) (hcell 1 (by omega)) (hcell 2 (by omega)) b1.1 b1.2 b2.1 b2.2 b3.1 b3.2 hl.2.2.1 hl.2.2.2 hl.1 hl.2.1 hL
    · exact one_core4 b off c _ _ _ _ _ _ _ _ _ w (by omega) hm (hcell 0 (by omega)) (hcell 1 (by omega)) (hcell 2 (by omega)) (hcell 3 (by omega)) b1.1 b1.2 b2.1 b2.2 b3.1 b3.2 hl.2.2.1 hl.2.2.2 hl.1 hl.2.1 hL
end Go.Proofs.YtebgjabalnffdaaGreatDoor
