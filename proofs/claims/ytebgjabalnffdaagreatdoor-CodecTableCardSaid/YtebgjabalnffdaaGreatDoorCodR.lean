/- codec.rules, at each name but vni's. -/
import Derived.Test.YtebgjabalnffdaaGreatDoorTamR
set_option linter.unusedVariables false
set_option linter.unusedSimpArgs false
set_option maxRecDepth 100000
namespace Go.Proofs.YtebgjabalnffdaaGreatDoor
open Go.RowKit

def nmViscii : ByteArray := ⟨#[118, 105, 115, 99, 105, 105]⟩
def nmTcvn : ByteArray := ⟨#[116, 99, 118, 110, 51]⟩
def nmVni : ByteArray := ⟨#[118, 110, 105]⟩
def nmTscii : ByteArray := ⟨#[116, 115, 99, 105, 105]⟩
def nmTis : ByteArray := ⟨#[116, 105, 115, 45, 54, 50, 48]⟩
def nmAscii : ByteArray := ⟨#[97, 115, 99, 105, 105]⟩
def nmUtf : ByteArray := ⟨#[117, 116, 102, 45, 56]⟩
def nmIscii : ByteArray := ⟨#[105, 115, 99, 105, 105]⟩

def NewRules (w : World) (rs : List Rule) (e : Ending) (w' : World) : Prop :=
  ∃ A n c, e = .returned (.slice A n c) ∧ Own eRule 115 (fun k => w.heap.size ≤ k) w.heap.size w' (.slice A n c) rs ∧ Upd No w w'

theorem rules_viscii (w : World) : Calls Tryz.prog 59 #[.string nmViscii] w (NewRules w visRules) := by
  have hn : nmViscii.toList = [118, 105, 115, 99, 105, 105] := by kernel_rfl
  go_enter Tryz.func59, Tryz.ntmps59
  go_wp2_with (go_at_call 61; refine (viscii_Rules _).mono ?_; rintro e w1 ⟨A1, n1, c1, rfl, hown, hu⟩)
  go_ret
  exact ⟨A1, n1, c1, rfl, hown, hu⟩
theorem rules_tcvn (w : World) : Calls Tryz.prog 59 #[.string nmTcvn] w (NewRules w tcvRules) := by
  have hn : nmTcvn.toList = [116, 99, 118, 110, 51] := by kernel_rfl
  go_enter Tryz.func59, Tryz.ntmps59
  go_wp2_with (go_at_call 62; refine (tcvn_Rules _).mono ?_; rintro e w1 ⟨A1, n1, c1, rfl, hown, hu⟩)
  go_ret
  exact ⟨A1, n1, c1, rfl, hown, hu⟩
theorem rules_tscii (w : World) : Calls Tryz.prog 59 #[.string nmTscii] w (NewRules w tamRules) := by
  have hn : nmTscii.toList = [116, 115, 99, 105, 105] := by kernel_rfl
  go_enter Tryz.func59, Tryz.ntmps59
  go_wp2_with (go_at_call 64; refine (tamil_Rules _).mono ?_; rintro e w1 ⟨A1, n1, c1, rfl, hown, hu⟩)
  go_ret
  exact ⟨A1, n1, c1, rfl, hown, hu⟩
theorem rules_utf (w : World) : Calls Tryz.prog 59 #[.string nmUtf] w fun e w' => e = .returned (.slice none 0 0) ∧ w = w' := by
  have hn : nmUtf.toList = [117, 116, 102, 45, 56] := by kernel_rfl
  go_enter Tryz.func59, Tryz.ntmps59
  go_wp2
  go_ret
  exact ⟨rfl, rfl⟩
theorem rules_iscii (w : World) : Calls Tryz.prog 59 #[.string nmIscii] w fun e w' => e = .returned (.slice none 0 0) ∧ w = w' := by
  have hn : nmIscii.toList = [105, 115, 99, 105, 105] := by kernel_rfl
  go_enter Tryz.func59, Tryz.ntmps59
  go_wp2
  go_ret
  exact ⟨rfl, rfl⟩

set_option maxHeartbeats 4000000 in
theorem rules_ascii (w : World) : Calls Tryz.prog 59 #[.string nmAscii] w (NewRules w (singR asc128)) := by
  have hn : nmAscii.toList = [97, 115, 99, 105, 105] := by kernel_rfl
  have HL : Hd (asc128.length = 128) := ⟨by simp [asc128]⟩
  go_enter Tryz.func59, Tryz.ntmps59
  go_wp2
  go_loopg [3, 44] 128 (TamRel (fun k => w.heap.size ≤ k) w w [] asc128)
  case atStart => exact ⟨none, 0, 0, 0, rfl, rfl, HL.out.symm ▸ rfl, Nat.zero_le _, Own.nil _ _ _ _ _, Upd.refl _ _⟩
  case round =>
    obtain ⟨A1, n1, c1, j, rfl, rfl, hgj, hj, hown, hup⟩ := hrel
    rw [HL.out] at hgj hj
    have hup0 : Upd No w wr := hup.mono (fun i hi h => by omega)
    by_cases hlt : j < 128
    · have hlt1 : decide ((j : Int) < 128) = true := by simp; omega
      obtain ⟨acc, hacc⟩ : ∃ acc, acc = [] ++ singR (asc128.take j) := ⟨_, rfl⟩
      have HA : Hd (acc = [] ++ singR (asc128.take j)) := ⟨hacc⟩
      have hal : acc.length = j := by rw [hacc]; have := HL.out; simp [singR]; omega
      rw [← hacc] at hown
      clear hacc
      have RN : ∀ x y : Int, eRule.rep (fun k => k = wr.heap.size ∨ k = wr.heap.size + 1) ((wr.alloc (.cells #[.int .i64 x] 3)).alloc (.cells #[.int .i64 y] 3)) ([x], [y]) [.slice (some ⟨wr.heap.size, 0, none⟩) 1 1, .slice (some ⟨wr.heap.size + 1, 0, none⟩) 1 1] := fun x y => rule_new wr [x] [y] ⟨by simp, by simp⟩
      go_wp2_with (at_builtin; go_loud (refine wp_appendLit (F := fun k => w.heap.size ≤ k) eRule w.heap.size rfl (.tmp 47) (.tmp 53) 49 115 _ 48 rfl Tryz.underlying49 info_Rule rfl (by decide) (.slice A1 n1 c1) acc [([(j : Int)], [(j : Int)])] [[.slice (some ⟨wr.heap.size, 0, none⟩) 1 1, .slice (some ⟨wr.heap.size + 1, 0, none⟩) 1 1]] _ 1 rfl (by show Value.slice (some ⟨wr.heap.size + 1 + 1, 0, none⟩) 1 1 = _; simp) rfl rfl rfl ?qo ?qhr ?qnew ?qb ?ql (by decide) ?_))
      case qo => exact (hown.alloc _).alloc _
      case qhr =>
        have := hup.size
        intro k y cs hy hc
        cases k with
        | zero =>
          simp at hy hc; subst hy; subst hc
          refine eRule.mono (fun k hk => ⟨by omega, fun e => ?_⟩) (RN _ _)
          have := (hown.lt k e.symm).2; omega
        | succ k => simp at hy
      case qnew => intro k hk; have := hup.size; simp at *; omega
      case qb => have := hup.size; simp at *; omega
      case ql => simp; omega
      intro A3 n3 c3 w7 hown7 hup7 hat7
      go_wp2
      go_roundg (gk - 1)
      case measure => omega
      case rel =>
        go_light
        have hl128 := HL.out
        refine ⟨A3, n3, c3, j + 1, rfl, by go_num, by omega, by omega, by rw [asc128_at j hlt, singR_snoc, ← List.append_assoc, ← HA.out]; exact hown7, ?_⟩
        exact (((hup.alloc _).alloc _).trans hup7 (fun _ _ h => h) (fun i hi e => hown.1 i e.symm))
    · have hlt1 : decide ((j : Int) < 128) = false := by simp; omega
      have h1 : asc128.take j = asc128 := List.take_of_length_le (by have := HL.out; omega)
      rw [h1] at hown
      go_wp2
      go_ret
      go_light
      exact ⟨A1, n1, c1, rfl, hown, hup0⟩

def thaiR (n : Nat) : List Rule := (List.range n).flatMap fun (c : Nat) => if (thaiD c).2 = true then [(([(c : Int)], [(thaiD c).1]) : Rule)] else []
theorem thaiR_succ (n : Nat) : thaiR (n + 1) = thaiR n ++ (if (thaiD n).2 = true then [(([(n : Int)], [(thaiD n).1]) : Rule)] else []) := by simp [thaiR, List.range_succ]
theorem thaiR_len (n : Nat) : (thaiR n).length ≤ n := by
  induction n with
  | zero => simp [thaiR]
  | succ n ih => rw [thaiR_succ, List.length_append]; split <;> simp <;> omega
def ThaiRel (w : World) (g : Nat) (v k : Value) (wr : World) : Prop :=
  ∃ (A : Option Addr) (n c j : Nat), v = .slice A n c ∧ k = .int .i64 j ∧ g + j = 256 ∧ j ≤ 256 ∧ Own eRule 115 (fun k => w.heap.size ≤ k) w.heap.size wr (.slice A n c) (thaiR j) ∧ Upd No w wr

set_option maxHeartbeats 4000000 in
theorem rules_tis (w : World) : Calls Tryz.prog 59 #[.string nmTis] w (NewRules w (thaiR 256)) := by
  have hn : nmTis.toList = [116, 105, 115, 45, 54, 50, 48] := by kernel_rfl
  go_enter Tryz.func59, Tryz.ntmps59
  go_wp2
  go_loopg [3, 23] 256 (ThaiRel w)
  case atStart => exact ⟨none, 0, 0, 0, rfl, rfl, rfl, Nat.zero_le _, Own.nil _ _ _ _ _, Upd.refl _ _⟩
  case round =>
    obtain ⟨A1, n1, c1, j, rfl, rfl, hgj, hj, hown, hup⟩ := hrel
    by_cases hlt : j < 256
    · have hlt1 : decide ((j : Int) < 256) = true := by simp; omega
      have hm : (j : Int) % 256 = j := by omega
      obtain ⟨s, ok, hs⟩ : ∃ s ok, thaiD j = (s, ok) := ⟨_, _, rfl⟩
      have hD := fun W => thai_Decode W j (by omega) (by omega)
      rw [hs] at hD
      have HD : Hd _ := ⟨hD⟩
      have HS : Hd (thaiD j = (s, ok)) := ⟨hs⟩
      clear hD hs
      obtain ⟨acc, hacc⟩ : ∃ acc, acc = thaiR j := ⟨_, rfl⟩
      have HA : Hd (acc = thaiR j) := ⟨hacc⟩
      have hal : acc.length ≤ 256 := by rw [hacc]; have := thaiR_len j; omega
      rw [← hacc] at hown
      clear hacc
      have RN : ∀ x y : Int, eRule.rep (fun k => k = wr.heap.size ∨ k = wr.heap.size + 1) ((wr.alloc (.cells #[.int .i64 x] 3)).alloc (.cells #[.int .i64 y] 3)) ([x], [y]) [.slice (some ⟨wr.heap.size, 0, none⟩) 1 1, .slice (some ⟨wr.heap.size + 1, 0, none⟩) 1 1] := fun x y => rule_new wr [x] [y] ⟨by simp, by simp⟩
      cases ok with
      | true =>
        go_wp2_with (first
          | (go_at_call 65; refine (HD.out _).mono ?_; rintro e w1 ⟨rfl, rfl⟩)
          | (at_builtin; go_loud (refine wp_appendLit (F := fun k => w.heap.size ≤ k) eRule w.heap.size rfl (.tmp 33) (.tmp 39) 49 115 _ 48 rfl Tryz.underlying49 info_Rule rfl (by decide) (.slice A1 n1 c1) acc [([(j : Int)], [s])] [[.slice (some ⟨wr.heap.size, 0, none⟩) 1 1, .slice (some ⟨wr.heap.size + 1, 0, none⟩) 1 1]] _ 1 rfl (by show Value.slice (some ⟨wr.heap.size + 1 + 1, 0, none⟩) 1 1 = _; simp) rfl rfl rfl ?qo ?qhr ?qnew ?qb ?ql (by decide) ?_)))
        case qo => exact (hown.alloc _).alloc _
        case qhr =>
          have := hup.size
          intro k y cs hy hc
          cases k with
          | zero =>
            simp at hy hc; subst hy; subst hc
            refine eRule.mono (fun k hk => ⟨by omega, fun e => ?_⟩) (RN _ _)
            have := (hown.lt k e.symm).2; omega
          | succ k => simp at hy
        case qnew => intro k hk; have := hup.size; simp at *; omega
        case qb => have := hup.size; simp at *; omega
        case ql => simp; omega
        intro A3 n3 c3 w7 hown7 hup7 hat7
        go_wp2
        go_roundg (gk - 1)
        case measure => omega
        case rel =>
          go_light
          refine ⟨A3, n3, c3, j + 1, rfl, by go_num, by omega, by omega, by rw [thaiR_succ, HS.out, if_pos rfl, ← HA.out]; exact hown7, ?_⟩
          exact (((hup.alloc _).alloc _).trans hup7 (fun _ _ h => h) (fun i hi e => by have := (hown.lt i e.symm).1; omega))
      | false =>
        go_wp2_with (go_at_call 65; refine (HD.out _).mono ?_; rintro e w1 ⟨rfl, rfl⟩)
        go_roundg (gk - 1)
        case measure => omega
        case rel =>
          go_light
          exact ⟨A1, n1, c1, j + 1, rfl, by go_num, by omega, by omega, by rw [thaiR_succ, HS.out, if_neg (fun e => Bool.noConfusion e), List.append_nil, ← HA.out]; exact hown, hup⟩
    · have hlt1 : decide ((j : Int) < 256) = false := by simp; omega
      obtain rfl : j = 256 := by omega
      go_wp2
      go_ret
      go_light
      exact ⟨A1, n1, c1, rfl, hown, hup⟩
end Go.Proofs.YtebgjabalnffdaaGreatDoor
