/- The law's rules. -/
import Derived.Test.YtebgjabalnffdaaGreatDoorAwake
set_option linter.unusedVariables false
set_option linter.unusedSimpArgs false
set_option maxRecDepth 100000
namespace Go.Proofs.YtebgjabalnffdaaGreatDoor
open Go.RowKit

/-- Names, made anew at block b. -/
def NmAt (b : Nat) (w : World) : Prop := ∀ (j : Nat) nm, nms[j]? = some nm → w.cell? ⟨b, j, none⟩ = some (.string nm)
theorem NmAt.new (w : World) : NmAt w.heap.size (w.alloc (.cells namesC 9)) := by
  intro j nm h
  have : namesC[j]? = some (.string nm) := by simp [namesC, h]
  simp only [World.cell?, heap_alloc_new]
  exact this
theorem NmAt.upd {b : Nat} {S : Nat → Prop} {w w' : World} (h : NmAt b w) (hu : Upd S w w') (hn : ¬ S b) : NmAt b w' := fun j nm hj => hu.cell (h j nm hj) hn
theorem law_names' (w : World) : Calls Tryz.prog 17 #[] w fun e w' => e = .returned (.slice (some ⟨w.heap.size, 0, none⟩) 8 8) ∧ NmAt w.heap.size w' ∧ Upd No w w' :=
  (law_names w).mono fun e w' ⟨h1, h2⟩ => ⟨h1, by rw [h2]; exact NmAt.new w, by rw [h2]; exact (Upd.refl _ _).alloc _⟩
theorem NewRules.from {w w1 w' : World} {rs : List Rule} {e : Ending} (h : NewRules w1 rs e w') (hu : Upd No w w1) : NewRules w rs e w' := by
  obtain ⟨A, n, c, he, hown, hup⟩ := h
  exact ⟨A, n, c, he, (hown.mono (fun k hk => Nat.le_trans hu.size hk)).lower hu.size, hu.trans hup (fun _ _ h => h) (fun _ _ h => h)⟩
theorem lawRules_2 (w : World) : Calls Tryz.prog 27 #[.int .i64 2] w (NewRules w visLit) := by
  have hn : nmViscii.toList = [118, 105, 115, 99, 105, 105] := by kernel_rfl
  go_enter Tryz.func27, Tryz.ntmps27
  go_wp2_with (first
    | (go_at_call 17; refine (law_names' _).mono ?_; rintro e w1 ⟨rfl, hnm, u1⟩; have hc := hnm 2 nmViscii rfl)
    | (go_at_call 61; refine (viscii_Rules _).mono ?_; rintro e w2 ⟨A1, n1, c1, rfl, hown, hu⟩))
  go_ret
  go_light
  exact NewRules.from ⟨A1, n1, c1, rfl, by rw [← vis_lit]; exact hown, hu⟩ u1
theorem lawRules_3 (w : World) : Calls Tryz.prog 27 #[.int .i64 3] w (NewRules w tcvLit) := by
  have hn : nmTcvn.toList = [116, 99, 118, 110, 51] := by kernel_rfl
  go_enter Tryz.func27, Tryz.ntmps27
  go_wp2_with (first
    | (go_at_call 17; refine (law_names' _).mono ?_; rintro e w1 ⟨rfl, hnm, u1⟩; have hc := hnm 3 nmTcvn rfl)
    | (go_at_call 62; refine (tcvn_Rules _).mono ?_; rintro e w2 ⟨A1, n1, c1, rfl, hown, hu⟩))
  go_ret
  go_light
  exact NewRules.from ⟨A1, n1, c1, rfl, by rw [← tcv_lit]; exact hown, hu⟩ u1
theorem lawRules_4 (w : World) : Calls Tryz.prog 27 #[.int .i64 4] w (NewRules w vniLit) := by
  have hn : nmVni.toList = [118, 110, 105] := by kernel_rfl
  go_enter Tryz.func27, Tryz.ntmps27
  go_wp2_with (first
    | (go_at_call 17; refine (law_names' _).mono ?_; rintro e w1 ⟨rfl, hnm, u1⟩; have hc := hnm 4 nmVni rfl)
    | (go_at_call 63; refine (vni_Rules _).mono ?_; rintro e w2 ⟨A1, n1, c1, rfl, hown, hu⟩))
  go_ret
  go_light
  exact NewRules.from ⟨A1, n1, c1, rfl, by rw [← vni_lit]; exact hown, hu⟩ u1
theorem lawRules_6 (w : World) : Calls Tryz.prog 27 #[.int .i64 6] w (NewRules w tamLit) := by
  have hn : nmTscii.toList = [116, 115, 99, 105, 105] := by kernel_rfl
  go_enter Tryz.func27, Tryz.ntmps27
  go_wp2_with (first
    | (go_at_call 17; refine (law_names' _).mono ?_; rintro e w1 ⟨rfl, hnm, u1⟩; have hc := hnm 6 nmTscii rfl)
    | (go_at_call 64; refine (tamil_Rules _).mono ?_; rintro e w2 ⟨A1, n1, c1, rfl, hown, hu⟩))
  go_ret
  go_light
  exact NewRules.from ⟨A1, n1, c1, rfl, by rw [← tam_lit]; exact hown, hu⟩ u1

set_option maxHeartbeats 4000000 in
theorem lawRules_1 (w : World) : Calls Tryz.prog 27 #[.int .i64 1] w (NewRules w ascLit) := by
  rw [← asc_lit]
  have hn : nmAscii.toList = [97, 115, 99, 105, 105] := by kernel_rfl
  have HL : Hd (asc128.length = 128) := ⟨by simp [asc128]⟩
  have NF : ∀ (w1 : World), Upd No w w1 → ∀ e w', NewRules w1 (singR asc128) e w' → NewRules w (singR asc128) e w' := fun w1 hu e w' h => h.from hu
  have HNF : Hd _ := ⟨NF⟩
  clear NF
  go_enter Tryz.func27, Tryz.ntmps27
  go_wp2_with (go_at_call 17; refine (law_names' _).mono ?_; rintro e w1 ⟨rfl, hnm, u1⟩; have hc := hnm 1 nmAscii rfl)
  have HU1 : Hd _ := ⟨u1⟩
  clear hc hnm u1
  go_loopg [3, 7] 128 (TamRel (fun k => w1.heap.size ≤ k) w1 w1 [] asc128)
  case atStart => exact ⟨none, 0, 0, 0, rfl, rfl, HL.out.symm ▸ rfl, Nat.zero_le _, Own.nil _ _ _ _ _, Upd.refl _ _⟩
  case round =>
    obtain ⟨A1, n1, c1, j, rfl, rfl, hgj, hj, hown, hup⟩ := hrel
    rw [HL.out] at hgj hj
    have hup0 : Upd No w1 wr := hup.mono (fun i hi h => by omega)
    by_cases hlt : j < 128
    · have hlt1 : decide ((j : Int) < 128) = true := by simp; omega
      obtain ⟨acc, hacc⟩ : ∃ acc, acc = [] ++ singR (asc128.take j) := ⟨_, rfl⟩
      have HA : Hd (acc = [] ++ singR (asc128.take j)) := ⟨hacc⟩
      have hal : acc.length = j := by rw [hacc]; have := HL.out; simp [singR]; omega
      rw [← hacc] at hown
      clear hacc
      have RN : ∀ x y : Int, eRule.rep (fun k => k = wr.heap.size ∨ k = wr.heap.size + 1) ((wr.alloc (.cells #[.int .i64 x] 3)).alloc (.cells #[.int .i64 y] 3)) ([x], [y]) [.slice (some ⟨wr.heap.size, 0, none⟩) 1 1, .slice (some ⟨wr.heap.size + 1, 0, none⟩) 1 1] := fun x y => rule_new wr [x] [y] ⟨by simp, by simp⟩
      go_wp2_with (at_builtin; go_loud (refine wp_appendLit (F := fun k => w1.heap.size ≤ k) eRule w1.heap.size rfl (.tmp 51) (.tmp 57) 49 115 _ 48 rfl Tryz.underlying49 info_Rule rfl (by decide) (.slice A1 n1 c1) acc [([(j : Int)], [(j : Int)])] [[.slice (some ⟨wr.heap.size, 0, none⟩) 1 1, .slice (some ⟨wr.heap.size + 1, 0, none⟩) 1 1]] _ 1 rfl (by show Value.slice (some ⟨wr.heap.size + 1 + 1, 0, none⟩) 1 1 = _; simp) rfl rfl rfl ?qo ?qhr ?qnew ?qb ?ql (by decide) ?_))
      case qo => exact (hown.alloc _).alloc _
      case qhr =>
        have := hup.size
        intro k y cs hy hc
        cases k with
        | zero =>
          simp at hy hc; subst hy; subst hc
          refine eRule.mono (fun k hk => ⟨by omega, fun e => ?_⟩) (RN _ _)
          have := (hown.lt k e.symm).2; omega
        | succ k => simp at hy
      case qnew => intro k hk; have := hup.size; simp at *; omega
      case qb => have := hup.size; simp at *; omega
      case ql => simp; omega
      intro A3 n3 c3 w7 hown7 hup7 hat7
      go_wp2
      go_roundg (gk - 1)
      case measure => omega
      case rel =>
        go_light
        have hl128 := HL.out
        refine ⟨A3, n3, c3, j + 1, rfl, by go_num, by omega, by omega, by rw [asc128_at j hlt, singR_snoc, ← List.append_assoc, ← HA.out]; exact hown7, ?_⟩
        exact (((hup.alloc _).alloc _).trans hup7 (fun _ _ h => h) (fun i hi e => hown.1 i e.symm))
    · have hlt1 : decide ((j : Int) < 128) = false := by simp; omega
      have h1 : asc128.take j = asc128 := List.take_of_length_le (by have := HL.out; omega)
      rw [h1] at hown
      go_wp2
      go_ret
      go_light
      exact HNF.out w1 HU1.out _ _ ⟨A1, n1, c1, rfl, hown, hup0⟩

set_option maxHeartbeats 4000000 in
theorem lawRules_5 (w : World) : Calls Tryz.prog 27 #[.int .i64 5] w (NewRules w thaiLit) := by
  rw [← thai_lit]
  have hn : nmTis.toList = [116, 105, 115, 45, 54, 50, 48] := by kernel_rfl
  have NF : ∀ (w1 : World), Upd No w w1 → ∀ e w', NewRules w1 (thaiR 256) e w' → NewRules w (thaiR 256) e w' := fun w1 hu e w' h => h.from hu
  have HNF : Hd _ := ⟨NF⟩
  clear NF
  go_enter Tryz.func27, Tryz.ntmps27
  go_wp2_with (go_at_call 17; refine (law_names' _).mono ?_; rintro e w1 ⟨rfl, hnm, u1⟩; have hc := hnm 5 nmTis rfl)
  have HU1 : Hd _ := ⟨u1⟩
  clear hc hnm u1
  go_loopg [3, 4] 256 (ThaiRel w1)
  case atStart => exact ⟨none, 0, 0, 0, rfl, rfl, rfl, Nat.zero_le _, Own.nil _ _ _ _ _, Upd.refl _ _⟩
  case round =>
    obtain ⟨A1, n1, c1, j, rfl, rfl, hgj, hj, hown, hup⟩ := hrel
    by_cases hlt : j < 256
    · have hlt1 : decide ((j : Int) < 256) = true := by simp; omega
      have hm : (j : Int) % 256 = j := by omega
      obtain ⟨s, ok, hs⟩ : ∃ s ok, thaiD j = (s, ok) := ⟨_, _, rfl⟩
      have hD := fun W => thai_Decode W j (by omega) (by omega)
      rw [hs] at hD
      have HD : Hd _ := ⟨hD⟩
      have HS : Hd (thaiD j = (s, ok)) := ⟨hs⟩
      clear hD hs
      obtain ⟨acc, hacc⟩ : ∃ acc, acc = thaiR j := ⟨_, rfl⟩
      have HA : Hd (acc = thaiR j) := ⟨hacc⟩
      have hal : acc.length ≤ 256 := by rw [hacc]; have := thaiR_len j; omega
      rw [← hacc] at hown
      clear hacc
      have RN : ∀ x y : Int, eRule.rep (fun k => k = wr.heap.size ∨ k = wr.heap.size + 1) ((wr.alloc (.cells #[.int .i64 x] 3)).alloc (.cells #[.int .i64 y] 3)) ([x], [y]) [.slice (some ⟨wr.heap.size, 0, none⟩) 1 1, .slice (some ⟨wr.heap.size + 1, 0, none⟩) 1 1] := fun x y => rule_new wr [x] [y] ⟨by simp, by simp⟩
      cases ok with
      | true =>
        go_wp2_with (first
          | (go_at_call 65; refine (HD.out _).mono ?_; rintro e w1 ⟨rfl, rfl⟩)
          | (at_builtin; go_loud (refine wp_appendLit (F := fun k => w1.heap.size ≤ k) eRule w1.heap.size rfl (.tmp 37) (.tmp 43) 49 115 _ 48 rfl Tryz.underlying49 info_Rule rfl (by decide) (.slice A1 n1 c1) acc [([(j : Int)], [s])] [[.slice (some ⟨wr.heap.size, 0, none⟩) 1 1, .slice (some ⟨wr.heap.size + 1, 0, none⟩) 1 1]] _ 1 rfl (by show Value.slice (some ⟨wr.heap.size + 1 + 1, 0, none⟩) 1 1 = _; simp) rfl rfl rfl ?qo ?qhr ?qnew ?qb ?ql (by decide) ?_)))
        case qo => exact (hown.alloc _).alloc _
        case qhr =>
          have := hup.size
          intro k y cs hy hc
          cases k with
          | zero =>
            simp at hy hc; subst hy; subst hc
            refine eRule.mono (fun k hk => ⟨by omega, fun e => ?_⟩) (RN _ _)
            have := (hown.lt k e.symm).2; omega
          | succ k => simp at hy
        case qnew => intro k hk; have := hup.size; simp at *; omega
        case qb => have := hup.size; simp at *; omega
        case ql => simp; omega
        intro A3 n3 c3 w7 hown7 hup7 hat7
        go_wp2
        go_roundg (gk - 1)
        case measure => omega
        case rel =>
          go_light
          refine ⟨A3, n3, c3, j + 1, rfl, by go_num, by omega, by omega, by rw [thaiR_succ, HS.out, if_pos rfl, ← HA.out]; exact hown7, ?_⟩
          exact (((hup.alloc _).alloc _).trans hup7 (fun _ _ h => h) (fun i hi e => by have := (hown.lt i e.symm).1; omega))
      | false =>
        go_wp2_with (go_at_call 65; refine (HD.out _).mono ?_; rintro e w1 ⟨rfl, rfl⟩)
        go_roundg (gk - 1)
        case measure => omega
        case rel =>
          go_light
          exact ⟨A1, n1, c1, j + 1, rfl, by go_num, by omega, by omega, by rw [thaiR_succ, HS.out, if_neg (fun e => Bool.noConfusion e), List.append_nil, ← HA.out]; exact hown, hup⟩
    · have hlt1 : decide ((j : Int) < 256) = false := by simp; omega
      obtain rfl : j = 256 := by omega
      go_wp2
      go_ret
      go_light
      exact HNF.out w1 HU1.out _ _ ⟨A1, n1, c1, rfl, hown, hup⟩
def nmX : ByteArray := ⟨#[120]⟩
theorem rules_x (w : World) : Calls Tryz.prog 59 #[.string nmX] w fun e w' => e = .returned (.slice none 0 0) ∧ w = w' := by
  have hn : nmX.toList = [120] := by kernel_rfl
  go_enter Tryz.func59, Tryz.ntmps59
  go_wp2
  go_ret
  exact ⟨rfl, rfl⟩
end Go.Proofs.YtebgjabalnffdaaGreatDoor
