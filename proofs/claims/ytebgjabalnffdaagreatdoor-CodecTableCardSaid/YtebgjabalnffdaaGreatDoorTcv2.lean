/- rule.Singles; tcvn.Rules. -/
import Derived.Test.YtebgjabalnffdaaGreatDoorTcv
set_option linter.unusedVariables false
set_option linter.unusedSimpArgs false
set_option maxRecDepth 100000
namespace Go.Proofs.YtebgjabalnffdaaGreatDoor
open Go.RowKit

theorem info_arr2 : (Tryz.prog.info? 167).map (fun i => (i.zero, i.size, i.bytes)) = some (some (.agg #[.int .i64 0, .int .i64 0]), 2, 16) := by kernel_rfl
def singR (xs : List (Int × Int)) : List Rule := xs.map fun p => ([p.1], [p.2])
def SingRel (w : World) (F : Nat → Prop) (xs : List (Int × Int)) (g : Nat) (v k : Value) (wr : World) : Prop :=
  ∃ (A : Option Addr) (n c j : Nat), v = .slice A n c ∧ k = .int .i64 j ∧ g + j = xs.length ∧ j ≤ xs.length ∧ Own eRule 115 (fun k => w.heap.size ≤ k) w.heap.size wr (.slice A n c) (singR (xs.take j)) ∧ Upd No w wr

set_option maxHeartbeats 4000000 in
theorem rule_Singles {w : World} {F : Nat → Prop} {v : Value} {xs : List (Int × Int)} (hr : Rd e2 F w v xs) (hl : xs.length ≤ 1000) : Calls Tryz.prog 93 #[v] w fun e w' => ∃ A n c, e = .returned (.slice A n c) ∧ Own eRule 115 (fun k => w.heap.size ≤ k) w.heap.size w' (.slice A n c) (singR xs) ∧ Upd No w w' := by
  obtain ⟨A, c, rfl⟩ := hr.form
  have HR : Hd _ := ⟨hr⟩
  clear hr
  go_enter Tryz.func93, Tryz.ntmps93
  go_wp2
  go_loopg [3, 8] xs.length (SingRel w F xs)
  case atStart => exact ⟨none, 0, 0, 0, rfl, rfl, rfl, Nat.zero_le _, Own.nil _ _ _ _ _, Upd.refl _ _⟩
  case round =>
    obtain ⟨A1, n1, c1, j, rfl, rfl, hgj, hj, hown, hup⟩ := hrel
    by_cases hlt : j < xs.length
    · have hr1 := HR.out.upd hup (fun _ _ h => h)
      obtain ⟨b0, off, x, cs, rfl, hb0, hb0z, hx, hrep, hcell⟩ := hr1.at_ hlt
      obtain rfl := e2_of hrep
      have e0 := hcell 0 _ rfl
      have e1 := hcell 1 _ rfl
      simp at e0 e1
      obtain ⟨acc, hacc⟩ : ∃ acc, acc = singR (xs.take j) := ⟨_, rfl⟩
      have HA : Hd (acc = singR (xs.take j)) := ⟨hacc⟩
      have hal : acc.length = j := by rw [hacc]; simp [singR]; omega
      have HX : Hd (singR (xs.take (j + 1)) = singR (xs.take j) ++ [([x.1], [x.2])]) := ⟨by rw [List.take_add_one, hx]; simp [singR]⟩
      rw [← hacc] at hown
      clear hacc hx hcell hrep
      go_wp2_with (at_builtin; go_loud (refine wp_appendLit (F := fun k => w.heap.size ≤ k) eRule w.heap.size rfl (.tmp 12) (.tmp 20) 49 115 _ 48 rfl Tryz.underlying49 info_Rule rfl (by decide) (.slice A1 n1 c1) acc [([x.1], [x.2])] [[.slice (some ⟨wr.heap.size + 1, 0, none⟩) 1 1, .slice (some ⟨wr.heap.size + 1 + 1, 0, none⟩) 1 1]] _ 1 rfl (by show Value.slice (some ⟨wr.heap.size + 1 + 1 + 1, 0, none⟩) 1 1 = _; simp) rfl rfl rfl ?qo ?qhr ?qnew ?qb ?ql (by decide) ?_))
      case qo => exact ((hown.alloc _).alloc _).alloc _
      case qhr =>
        have := hup.size
        intro k y cs hy hc
        cases k with
        | zero =>
          simp at hy hc; subst hy; subst hc
          have r1 : Rd (eI .i64) (fun k => k = wr.heap.size + 1) ((wr.alloc (.cells #[.int .i64 x.1, .int .i64 x.2] 167)).alloc (.cells #[.int .i64 x.1] 3)) (.slice (some ⟨wr.heap.size + 1, 0, none⟩) 1 1) [x.1] := by
            have := Rd.one (F := fun k => k = wr.heap.size + 1) .i64 x.1 (wr.alloc (.cells #[.int .i64 x.1, .int .i64 x.2] 167)) 3 (by simp)
            simpa using this
          have r2 : Rd (eI .i64) (fun k => k = wr.heap.size + 1 + 1) (((wr.alloc (.cells #[.int .i64 x.1, .int .i64 x.2] 167)).alloc (.cells #[.int .i64 x.1] 3)).alloc (.cells #[.int .i64 x.2] 3)) (.slice (some ⟨wr.heap.size + 1 + 1, 0, none⟩) 1 1) [x.2] := by
            have := Rd.one (F := fun k => k = wr.heap.size + 1 + 1) .i64 x.2 ((wr.alloc (.cells #[.int .i64 x.1, .int .i64 x.2] 167)).alloc (.cells #[.int .i64 x.1] 3)) 3 (by simp)
            simpa using this
          refine eRule_mk ((r1.upd (S := No) ((Upd.refl _ _).alloc _) (fun _ _ h => h)).mono (fun k hk => ⟨by omega, fun e => ?_⟩)) (r2.mono (fun k hk => ⟨by omega, fun e => ?_⟩))
          all_goals (have := (hown.lt k e.symm).2; omega)
        | succ k => simp at hy
      case qnew => intro k hk; have := hup.size; simp at *; omega
      case qb => have := hup.size; simp at *; omega
      case ql => simp; omega
      intro A3 n3 c3 w7 hown7 hup7 hat7
      go_wp2
      go_roundg (gk - 1)
      case measure => omega
      case rel =>
        go_light
        refine ⟨A3, n3, c3, j + 1, rfl, by go_num, by omega, by omega, by rw [HX.out, ← HA.out]; exact hown7, ?_⟩
        exact (((hup.alloc _).alloc _).alloc _).trans hup7 (fun _ _ h => h) (fun i hi e => by have := (hown.lt i e.symm).1; omega)
    · have h1 : xs.take j = xs := List.take_of_length_le (by omega)
      rw [h1] at hown
      go_wp2
      go_ret
      go_light
      exact ⟨_, _, _, rfl, hown, hup⟩

def asc128 : List (Int × Int) := (List.range 128).map fun (c : Nat) => (((c : Int), (c : Int)) : Int × Int)
theorem asc128_at (j : Nat) (h : j < 128) : asc128.take (j + 1) = asc128.take j ++ [((j : Int), (j : Int))] := by
  have : asc128[j]? = some ((j : Int), (j : Int)) := by simp [asc128, h]
  rw [List.take_add_one, this]; rfl
def tcvRules : List Rule := singR (asc128 ++ tcvL)
def TcvRel (w : World) (g : Nat) (v k : Value) (wr : World) : Prop :=
  ∃ (A : Option Addr) (n c j : Nat), v = .slice A n c ∧ k = .int .i64 j ∧ g + j = 128 ∧ j ≤ 128 ∧ Own e2 167 (fun k => w.heap.size ≤ k) w.heap.size wr (.slice A n c) (asc128.take j) ∧ Upd No w wr

set_option maxHeartbeats 4000000 in
theorem tcvn_Rules (w : World) : Calls Tryz.prog 62 #[] w fun e w' => ∃ A n c, e = .returned (.slice A n c) ∧ Own eRule 115 (fun k => w.heap.size ≤ k) w.heap.size w' (.slice A n c) tcvRules ∧ Upd No w w' := by
  have HL : Hd (asc128.length = 128) := ⟨by simp [asc128]⟩
  have HT : Hd (tcvL.length = 74) := ⟨by decide⟩
  go_enter Tryz.func62, Tryz.ntmps62
  go_wp2
  go_loopg [1, 3] 128 (TcvRel w)
  case atStart => exact ⟨none, 0, 0, 0, rfl, rfl, rfl, by decide, Own.nil _ _ _ _ _, Upd.refl _ _⟩
  case round =>
    obtain ⟨A1, n1, c1, j, rfl, rfl, hgj, hj, hown, hup⟩ := hrel
    by_cases hlt : j < 128
    · have hlt1 : decide ((j : Int) < 128) = true := by simp; omega
      obtain ⟨acc, hacc⟩ : ∃ acc, acc = asc128.take j := ⟨_, rfl⟩
      have HA : Hd (acc = asc128.take j) := ⟨hacc⟩
      have hal : acc.length = j := by rw [hacc]; have := HL.out; simp; omega
      rw [← hacc] at hown
      clear hacc
      go_wp2_with (at_builtin; go_loud (refine wp_appendLit (F := fun k => w.heap.size ≤ k) e2 w.heap.size rfl (.tmp 6) (.tmp 10) 166 167 _ 16 rfl Tryz.underlying166 info_arr2 rfl (by decide) (.slice A1 n1 c1) acc [((j : Int), (j : Int))] [[.int .i64 j, .int .i64 j]] _ 1 rfl rfl rfl rfl rfl hown ?qhr ?qnew ?qb ?ql (by decide) ?_))
      case qhr =>
        intro k y cs hy hc
        cases k with
        | zero => simp at hy hc; subst hy; subst hc; exact e2_mk
        | succ k => simp at hy
      case qnew => intro k hk; have := hup.size; omega
      case qb => exact hup.size
      case ql => simp; omega
      intro A3 n3 c3 w7 hown7 hup7 hat7
      go_wp2
      go_roundg (gk - 1)
      case measure => omega
      case rel =>
        go_light
        refine ⟨A3, n3, c3, j + 1, rfl, by go_num, by omega, by omega, by rw [asc128_at j hlt, ← HA.out]; exact hown7, ?_⟩
        exact hup.trans hup7 (fun _ _ h => h) (fun i hi e => by have := (hown.lt i e.symm).1; omega)
    · have hlt1 : decide ((j : Int) < 128) = false := by simp; omega
      have h1 : asc128.take j = asc128 := List.take_of_length_le (by have := HL.out; omega)
      rw [h1] at hown
      have hT74 := HT.out
      have hA128 := HL.out
      go_wp2_with (first
        | (go_at_call 94; refine (tcvn_rows _).mono ?_; rintro e w2 ⟨rfl, rfl⟩)
        | (at_builtin; go_loud (refine wp_appendRow (F := fun k => w.heap.size ≤ k) e2 (fun k => wr.heap.size ≤ k) w.heap.size rfl (.tmp 13) (.tmp 14) 166 167 _ 16 rfl Tryz.underlying166 info_arr2 rfl (by decide) (.slice A1 n1 c1) (.slice (some ⟨wr.heap.size, 0, none⟩) 74 74) asc128 tcvL rfl rfl (hown.alloc _) ?qrd ?qel ?qnew ?qb ?ql (by decide) ?_)))
      case qrd => have := (Own.lit2 wr tcvL 167 (by omega)).rd; rw [hT74] at this; exact this
      case qel => intro y cs hy; exact hy
      case qnew => intro k hk; have := hup.size; simp at hk; omega
      case qb => have := hup.size; simp; omega
      case ql => omega
      intro A3 n3 c3 w7 hown7 hup7 hat7 _
      go_wp2_with (go_at_call 93; go_loud (refine (rule_Singles hown7.rd (by simp; omega)).mono ?_; rintro e w8 ⟨A8, n8, c8, rfl, hown8, hup8⟩))
      go_ret
      go_light
      have hw7 : Upd No w w7 := (hup.alloc _).trans hup7 (fun _ _ h => h) (fun i hi e => by have := (hown.lt i e.symm).1; omega)
      exact ⟨A8, n8, c8, rfl, (hown8.lower hw7.size).mono (fun k hk => Nat.le_trans hw7.size hk), hw7.trans hup8 (fun _ _ h => h) (fun _ _ h => h)⟩
end Go.Proofs.YtebgjabalnffdaaGreatDoor
