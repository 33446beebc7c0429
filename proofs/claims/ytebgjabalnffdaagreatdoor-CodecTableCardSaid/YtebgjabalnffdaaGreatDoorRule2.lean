/- rule.Turn, table.used, table.closed, rule.Singles: what they answer. -/
import Derived.Test.YtebgjabalnffdaaGreatDoorRule
set_option linter.unusedVariables false
set_option linter.unusedSimpArgs false
set_option maxRecDepth 100000
namespace Go.Proofs.YtebgjabalnffdaaGreatDoor
open Go.RowKit

def usedR (rs : List Rule) (u : Int) : Bool := rs.any fun r => rdI r.1 (r.1.length - 1) == u

theorem idxF_any {α : Type} (p : α → Bool) (xs : List α) : decide (0 ≤ idxF p xs) = xs.any p := by
  cases h : xs.findIdx? p with
  | none =>
    have h1 := List.findIdx?_eq_none_iff.1 h
    simp only [idxF, h]
    have : xs.any p = false := List.any_eq_false.2 (fun x hx => by simpa using h1 x hx)
    rw [this]; rfl
  | some k =>
    simp only [idxF, h]
    rw [List.findIdx?_eq_some_iff_getElem] at h
    obtain ⟨hk, hp, _⟩ := h
    have : xs.any p = true := List.any_eq_true.2 ⟨xs[k], by simp, hp⟩
    rw [this]; simp

theorem table_used {F : Nat → Prop} {w : World} {v : Value} {rs : List Rule} {u : Int} (hr : Rd eRule F w v rs) (hok : ∀ r ∈ rs, 0 < r.1.length ∧ r.1.length ≤ 8) :
    Calls Tryz.prog 129 #[v, .int .i64 u] w fun e w' => e = .returned (.bool (usedR rs u)) ∧ Upd No w w' := by
  obtain ⟨A, c, rfl⟩ := hr.form
  have hu : Upd No w (w.alloc (.cells #[.int .i64 u] 3)) := (Upd.refl _ _).alloc _
  have hr' := hr.upd hu (fun _ _ h => h)
  have hcell : (w.alloc (.cells #[.int .i64 u] 3)).cell? ⟨w.heap.size, 0, none⟩ = some (.int .i64 u) := by simp [go_sem]
  have H := indexFunc_used (fun r : Rule => rdI r.1 (r.1.length - 1) == u) hr' (.pointer (some ⟨w.heap.size, 0, none⟩)) (fun x i o W hx hW hi ho => table_used1 hi (hW.cell hcell (fun h => h)) (hok x hx).1 (hok x hx).2)
  have HH : Hd _ := ⟨H⟩
  have hany := idxF_any (fun r : Rule => rdI r.1 (r.1.length - 1) == u) rs
  have HA : Hd _ := ⟨hany⟩
  clear H hany
  have HC : Calls Tryz.prog 148 #[.slice A rs.length c, .func (.func 149) #[] #[.pointer (some ⟨w.heap.size, 0, none⟩)]] (w.alloc (.cells #[.int .i64 u] 3)) fun e w' => e = .returned (.bool (usedR rs u)) ∧ Upd No (w.alloc (.cells #[.int .i64 u] 3)) w' := by
    go_enter Tryz.func148, Tryz.ntmps148
    go_wp2_with (go_at_call 100; refine HH.out.mono ?_; rintro e w2 ⟨rfl, hd⟩)
    go_ret
    refine ⟨bret ?_, hd⟩
    go_light
    rw [HA.out]; exact Iff.rfl
  have HCC : Hd _ := ⟨HC⟩
  clear HC
  go_enter Tryz.func129, Tryz.ntmps129
  go_wp2_with (go_at_call 148; refine HCC.out.mono ?_; rintro e w2 ⟨rfl, hd⟩)
  go_ret
  exact ⟨rfl, hu.trans hd (fun _ _ h => h) (fun _ _ h => h)⟩

def turnStep (acc : List Rule) (r : Rule) : List Rule := if findR acc r.2 < 0 then acc ++ [(r.2, r.1)] else acc
def turnR (rs : List Rule) : List Rule := rs.foldl turnStep []
theorem turnR_snoc (rs : List Rule) (r : Rule) : turnR (rs ++ [r]) = turnStep (turnR rs) r := by simp [turnR]
theorem turnR_len (rs : List Rule) : (turnR rs).length ≤ rs.length := by
  have : ∀ acc : List Rule, (rs.foldl turnStep acc).length ≤ acc.length + rs.length := by
    induction rs with
    | nil => intro acc; simp
    | cons r rs ih =>
      intro acc
      have := ih (turnStep acc r)
      have h2 : (turnStep acc r).length ≤ acc.length + 1 := by unfold turnStep; split <;> simp
      simp only [List.foldl_cons, List.length_cons]; omega
  simpa [turnR] using this []

theorem turn_el {B : Nat} {base : Nat} {W w3 w4 : World} {v : Value} {acc : List Rule} {x : Rule} {A3 A4 : Option Addr} {c3 c4 : Nat} (hown : Own eRule 115 (fun k => B ≤ k) base W v acc) (hB : B ≤ W.heap.size)
    (hq3 : Own (eI .i64) 3 (fun k => W.heap.size ≤ k) W.heap.size w3 (.slice A3 x.2.length c3) x.2) (hup3 : Upd No W w3) (hq4 : Own (eI .i64) 3 (fun k => w3.heap.size ≤ k) w3.heap.size w4 (.slice A4 x.1.length c4) x.1) (hup4 : Upd No w3 w4) :
    ∀ (k : Nat) (y : Rule) (cs : List Value), [(x.2, x.1)][k]? = some y → [[Value.slice A3 x.2.length c3, .slice A4 x.1.length c4]][k]? = some cs → eRule.rep (fun b => B ≤ b ∧ some b ≠ v.ownBlock) w4 y cs := by
  intro k y cs hy hc
  cases k with
  | succ k => simp at hy
  | zero =>
    simp at hy hc; subst hy; subst hc
    have hs := hup3.size
    refine eRule_mk (x := (x.2, x.1)) ((hq3.rd.upd hup4 (fun _ _ h => h)).mono (fun k hk => ⟨by omega, fun e => ?_⟩)) (hq4.rd.mono (fun k hk => ⟨by omega, fun e => ?_⟩))
    · have := (hown.lt k e.symm).2; omega
    · have := (hown.lt k e.symm).2; omega

theorem rule_Turn {F : Nat → Prop} {w : World} {v : Value} {rs : List Rule} (hr : Rd eRule F w v rs) (hl : rs.length ≤ 512) (hok : ∀ r ∈ rs, r.1.length ≤ 8 ∧ r.2.length ≤ 8) :
    Calls Tryz.prog 30 #[v] w fun e w' => ∃ A n c, e = .returned (.slice A n c) ∧ Own eRule 115 (fun k => w.heap.size ≤ k) w.heap.size w' (.slice A n c) (turnR rs) ∧ Upd No w w' := by
  obtain ⟨A, c, rfl⟩ := hr.form
  by_cases h0 : rs.length = 0
  · obtain rfl : rs = [] := List.eq_nil_of_length_eq_zero h0
    go_enter Tryz.func30, Tryz.ntmps30
    go_wp2
    refine wp_loop_once ?_
    go_wp2
    go_ret
    exact ⟨_, _, _, rfl, Own.nil _ _ _ _ _, Upd.refl _ _⟩
  · obtain ⟨b, off, _, _, rfl, _⟩ := hr.at_ (k := 0) (by omega)
    go_enter Tryz.func30, Tryz.ntmps30
    go_wp2
    go_loopg [3, 8] rs.length (fun g v i wr => ∃ (k : Nat) (A : Option Addr) (n c : Nat), k ≤ rs.length ∧ g + k = rs.length ∧ i = .int .i64 k ∧ v = .slice A n c ∧
      Own eRule 115 (fun k => w.heap.size ≤ k) w.heap.size wr (.slice A n c) (turnR (rs.take k)) ∧ Upd No w wr)
    case atStart => exact ⟨0, none, 0, 0, Nat.zero_le _, rfl, rfl, rfl, Own.nil _ _ _ _ _, Upd.refl _ _⟩
    case round =>
      obtain ⟨k, A, n, c', hk, hgk, rfl, rfl, hown, hup⟩ := hrel
      by_cases hlt : k < rs.length
      · have hrr := hr.upd hup (fun _ _ h => h)
        obtain ⟨x, cs, hxk, hrep, hcell, _, hbs⟩ := hrr.at' hlt
        obtain ⟨ci, co, rfl, hi, ho⟩ := eRule_of hrep
        have hc0 := hcell 0 _ rfl
        have hc1 := hcell 1 _ rfl
        simp only [pair_sz, row_sz, Nat.add_zero, Nat.reduceAdd] at hc0 hc1
        obtain ⟨Ai, ni, rfl⟩ := hi.form
        obtain ⟨Ao, no, rfl⟩ := ho.form
        have HX : Hd (rs[k]? = some x) := ⟨hxk⟩
        have hxm := hok x (List.mem_of_getElem? hxk)
        obtain ⟨acc, hacc⟩ : ∃ acc, acc = turnR (rs.take k) := ⟨_, rfl⟩
        have HA : Hd (acc = turnR (rs.take k)) := ⟨hacc⟩
        have hal : acc.length ≤ 512 := by rw [hacc]; have := turnR_len (rs.take k); simp at this; omega
        rw [← hacc] at hown
        have hu1 : Upd No wr (wr.alloc (.cells #[.slice Ai x.1.length ni, .slice Ao x.2.length no] 115)) := (Upd.refl _ _).alloc _
        have hi1 := hi.upd hu1 (fun _ _ h => h)
        have ho1 := ho.upd hu1 (fun _ _ h => h)
        have hown1 := hown.upd hu1 (fun _ _ h => h)
        have hl2 := hown.rd.lenEq
        clear hxk hcell hacc
        by_cases hf : findR acc x.2 < 0
        · go_wp2_with (go_at_call 66; refine (rule_Find hown1.rd ho1).mono ?_; rintro e w2 ⟨rfl, hup2⟩)
          have hu2 : Upd No wr w2 := hu1.trans hup2 (fun _ _ h => h) (fun _ _ h => h)
          have hd2 : Upd No w2 w2.drew := (Upd.refl _ _).drew
          have hp0 : w2.cell? ⟨wr.heap.size, 0, none⟩ = some (.slice Ai x.1.length ni) := hup2.cell (by simp [go_sem]) (fun h => h)
          have hp1 : w2.cell? ⟨wr.heap.size, 1, none⟩ = some (.slice Ao x.2.length no) := hup2.cell (by simp [go_sem]) (fun h => h)
          have ho2 := ho1.upd (hup2.trans hd2 (fun _ _ h => h) (fun _ _ h => h)) (fun _ _ h => h)
          have hi2 := hi1.upd (hup2.trans hd2 (fun _ _ h => h) (fun _ _ h => h)) (fun _ _ h => h)
          have hown2 := hown1.upd (hup2.trans hd2 (fun _ _ h => h) (fun _ _ h => h)) (fun _ _ h => h)
          go_region_held3 (fun w' => w'.cell? ⟨wr.heap.size, 0, none⟩ = some (.slice Ai x.1.length ni) ∧ w'.cell? ⟨wr.heap.size, 1, none⟩ = some (.slice Ao x.2.length no))
            (first | exact ⟨hp0, hp1⟩ | exact hS6 | exact hS4 | exact hS3 | exact ⟨((Upd.refl No _).alloc _).cell hS4.1 (fun h => h), ((Upd.refl No _).alloc _).cell hS4.2 (fun h => h)⟩)
            (first
              | (go_at_call 67; ((with_reducible refine (slices_Clone ho2 (by omega)).mono ?_)); rintro e w3 ⟨A3, c3, rfl, hq3, hup3⟩; have hS3 : w3.cell? ⟨wr.heap.size, 0, none⟩ = some (.slice Ai x.1.length ni) ∧ w3.cell? ⟨wr.heap.size, 1, none⟩ = some (.slice Ao x.2.length no) := ⟨hup3.cell hp0 (fun h => h), hup3.cell hp1 (fun h => h)⟩)
              | (go_at_call 67; ((with_reducible refine (slices_Clone (hi2.upd hup3 (fun _ _ h => h)) (by omega)).mono ?_)); rintro e w4 ⟨A4, c4, rfl, hq4, hup4⟩; have hS4 : w4.cell? ⟨wr.heap.size, 0, none⟩ = some (.slice Ai x.1.length ni) ∧ w4.cell? ⟨wr.heap.size, 1, none⟩ = some (.slice Ao x.2.length no) := ⟨hup4.cell hS3.1 (fun h => h), hup4.cell hS3.2 (fun h => h)⟩)
              | (have HO := (hown2.upd hup3 (fun _ _ h => h)).upd hup4 (fun _ _ h => h); have HR := turn_el hown2 (by have := hup.size; have := hu2.size; simp at *; omega) hq3 hup3 hq4 hup4; refine step_appendLit (F := fun k => w.heap.size ≤ k) eRule w.heap.size _ (.tmp 17) (.tmp 25) 49 115 _ 48 rfl Tryz.underlying49 info_Rule rfl (by decide) (.slice A n c') acc [(x.2, x.1)] [[.slice A3 x.2.length c3, .slice A4 x.1.length c4]] _ 1 (by rfl) (by rfl) rfl rfl rfl HO HR (fun k hk => by have := hup.size; have := hu2.size; have := hup3.size; have := hup4.size; simp at *; omega) (by have := hup.size; have := hu2.size; have := hup3.size; have := hup4.size; simp at *; omega) (by simp; omega) (by decide) ?_; intro A6 n6 c6 w6 hown6 hup6 hat6; have hS6 : w6.cell? ⟨wr.heap.size, 0, none⟩ = some (.slice Ai x.1.length ni) ∧ w6.cell? ⟨wr.heap.size, 1, none⟩ = some (.slice Ao x.2.length no) := ⟨hup6.cell hS4.1 (fun h => absurd (hown.lt _ h.symm).2 (Nat.lt_irrefl _)), hup6.cell hS4.2 (fun h => absurd (hown.lt _ h.symm).2 (Nat.lt_irrefl _))⟩))
          go_wp2
          go_roundg (gk - 1)
          case measure => omega
          case rel =>
            go_light
            have hw4 : Upd No w w4 := (((hup.trans hu2 (fun _ _ h => h) (fun _ _ h => h)).trans hd2 (fun _ _ h => h) (fun _ _ h => h)).trans hup3 (fun _ _ h => h) (fun _ _ h => h)).trans hup4 (fun _ _ h => h) (fun _ _ h => h)
            refine ⟨k + 1, A6, n6, c6, by omega, by omega, by go_num, rfl, ?_, hw4.trans hup6 (fun _ _ h => h) (fun i hi e => absurd (hown.lt i e.symm).1 (by omega))⟩
            rw [List.take_add_one, HX.out, Option.toList_some, turnR_snoc, ← HA.out, turnStep, if_pos hf]
            exact hown6
        · have hf' : decide (findR acc x.2 < 0) = false := by simpa using hf
          go_wp2_with (go_at_call 66; refine (rule_Find hown1.rd ho1).mono ?_; rintro e w2 ⟨rfl, hup2⟩)
          go_roundg (gk - 1)
          case measure => omega
          case rel =>
            go_light
            have hu2 : Upd No wr w2 := hu1.trans hup2 (fun _ _ h => h) (fun _ _ h => h)
            refine ⟨k + 1, A, n, c', by omega, by omega, by go_num, rfl, ?_, hup.trans hu2 (fun _ _ h => h) (fun _ _ h => h)⟩
            rw [List.take_add_one, HX.out, Option.toList_some, turnR_snoc, ← HA.out, turnStep, if_neg (by omega)]
            exact hown1.upd hup2 (fun _ _ h => h)
      · go_wp2
        go_ret
        go_light
        rw [List.take_of_length_le (by omega)] at hown
        exact ⟨_, _, _, rfl, hown, hup⟩

/-- All beginnings are Ins, or their unit ends none. -/
def closedAt (rs : List Rule) (r : Rule) (n : Nat) : Bool := decide (0 ≤ findR rs (r.1.take n)) || (decide (n ≤ 1) && !usedR rs (rdI r.1 0))

theorem table_closed {F : Nat → Prop} {w : World} {v : Value} {rs : List Rule} (hr : Rd eRule F w v rs) (hl : rs.length ≤ 512) (hok : ∀ r ∈ rs, 0 < r.1.length ∧ r.1.length ≤ 8)
    (hcl : ∀ r ∈ rs, ∀ n, 0 < n → n < r.1.length → closedAt rs r n = true) :
    Calls Tryz.prog 91 #[v] w fun e w' => e = .returned (.bool true) ∧ Upd No w w' := by
  obtain ⟨A, c, rfl⟩ := hr.form
  by_cases h0 : rs.length = 0
  · obtain rfl : rs = [] := List.eq_nil_of_length_eq_zero h0
    go_enter Tryz.func91, Tryz.ntmps91
    go_wp2
    refine wp_loop_once ?_
    go_wp2
    go_ret
    exact ⟨rfl, Upd.refl _ _⟩
  · obtain ⟨b, off, _, _, rfl, _⟩ := hr.at_ (k := 0) (by omega)
    have HCL : Hd (∀ r ∈ rs, ∀ n, 0 < n → n < r.1.length → closedAt rs r n = true) := ⟨hcl⟩
    have HOK : Hd (∀ r ∈ rs, 0 < r.1.length ∧ r.1.length ≤ 8) := ⟨hok⟩
    clear hcl hok
    go_enter Tryz.func91, Tryz.ntmps91
    go_wp2
    go_loopg [8] rs.length (fun g i wr => ∃ k : Nat, k ≤ rs.length ∧ g + k = rs.length ∧ i = .int .i64 k ∧ Upd No w wr)
    case atStart => exact ⟨0, Nat.zero_le _, rfl, rfl, Upd.refl _ _⟩
    case round =>
      obtain ⟨k, hk, hgk, rfl, hup⟩ := hrel
      by_cases hlt : k < rs.length
      · have hrr := hr.upd hup (fun _ _ h => h)
        obtain ⟨x, cs, hxk, hrep, hcell, _, hbs⟩ := hrr.at' hlt
        obtain ⟨ci, co, rfl, hi, ho⟩ := eRule_of hrep
        have hc0 := hcell 0 _ rfl
        have hc1 := hcell 1 _ rfl
        simp only [pair_sz, row_sz, Nat.add_zero, Nat.reduceAdd] at hc0 hc1
        obtain ⟨Ai, ni, rfl⟩ := hi.form
        obtain ⟨Ao, no, rfl⟩ := ho.form
        have hxm := List.mem_of_getElem? hxk
        have hx8 := HOK.out x hxm
        obtain ⟨bi, oi, rfl, _, _, hci⟩ := hi.int_cell hx8.1
        have hu1 : Upd No wr (wr.alloc (.cells #[.slice (some ⟨bi, oi, none⟩) x.1.length ni, .slice Ao x.2.length no] 115)) := (Upd.refl _ _).alloc _
        have hi1 := hi.upd hu1 (fun _ _ h => h)
        have hr1 := hrr.upd hu1 (fun _ _ h => h)
        clear hxk hcell hci
        have hup1 := hup.trans hu1 (fun _ _ h => h) (fun _ _ h => h)
        go_wp2
        obtain ⟨wo, rfl⟩ : ∃ wo : World, wo = wr := ⟨_, rfl⟩
        obtain ⟨g0, rfl⟩ : ∃ g0 : Nat, g0 = gk := ⟨_, rfl⟩
        go_loopg [5] (x.1.length - 1) (fun g i w2 => i = .int .i64 g ∧ g < x.1.length ∧ Upd No (wo.alloc (.cells #[.slice (some ⟨bi, oi, none⟩) x.1.length ni, .slice Ao x.2.length no] 115)) w2)
        case atStart => exact ⟨by first | rfl | go_num, by omega, Upd.refl _ _⟩
        case round =>
          obtain ⟨rfl, hg, hup2⟩ := hrel
          have hp0 : wr.cell? ⟨wo.heap.size, 0, none⟩ = some (.slice (some ⟨bi, oi, none⟩) x.1.length ni) := hup2.cell (by simp [go_sem]) (fun h => h)
          have hi2 := hi1.upd hup2 (fun _ _ h => h)
          have hr2 := hr1.upd hup2 (fun _ _ h => h)
          by_cases hz : gk = 0
          · subst hz
            go_wp2
            go_roundg (g0 - 1)
            case measure => omega
            case rel =>
              go_light
              exact ⟨k + 1, by omega, by omega, by go_num, hup1.trans hup2 (fun _ _ h => h) (fun _ _ h => h)⟩
          · obtain ⟨c2, hcut, hrt⟩ := hi2.cutH (P := Tryz.prog) Tryz.underlying34 size_int gk (by omega)
            obtain ⟨bi', oi', he, _, _, hci⟩ := hi2.int_cell hx8.1
            simp only [Option.some.injEq, Addr.mk.injEq] at he
            obtain ⟨rfl, rfl, _⟩ := he
            have hci0 := hci 0 hx8.1
            rw [Nat.add_zero] at hci0
            have hcond := HCL.out x hxm gk (by omega) hg
            clear hci
            by_cases hf : 0 ≤ findR rs (x.1.take gk)
            · have hf' : decide (findR rs (x.1.take gk) < 0) = false := by simp; omega
              clear hcond
              go_wp2_with (go_at_call 66; refine (rule_Find hr2 hrt).mono ?_; rintro e w3 ⟨rfl, hup3⟩)
              go_roundg (gk - 1)
              case measure => omega
              case rel =>
                go_light
                exact ⟨by first | rfl | go_num, by omega, hup2.trans hup3 (fun _ _ h => h) (fun _ _ h => h)⟩
            · have hf' : decide (findR rs (x.1.take gk) < 0) = true := by simp; omega
              have hcc : gk = 1 ∧ usedR rs (rdI x.1 0) = false := by
                simp only [closedAt, Bool.or_eq_true, Bool.and_eq_true, decide_eq_true_eq, Bool.not_eq_true'] at hcond
                rcases hcond with h | ⟨h, h'⟩
                · exact absurd h hf
                · exact ⟨by omega, h'⟩
              obtain ⟨hg1, hu⟩ := hcc
              have hd1 : decide (1 < gk) = false := by simp; omega
              have hd2 : decide ((1 : Int) < (gk : Int)) = false := by simp; omega
              have hd3 : (gk : Int) ≤ 1 := by omega
              have HG : Hd (gk = 1) := ⟨hg1⟩
              have hz' : 0 < gk := by omega
              clear hcond hz hg1
              go_wp2_with (first
                | (go_at_call 66; refine (rule_Find hr2 hrt).mono ?_; rintro e w3 ⟨rfl, hup3⟩; have hp3 := hup3.cell hp0 (fun h => h); have hi3 := hup3.cell hci0 (fun h => h))
                | (go_at_call 129; refine (table_used (hr2.upd hup3 (fun _ _ h => h)) HOK.out).mono ?_; rintro e w4 ⟨rfl, hup4⟩; rw [hu]))
              have hg1 := HG.out
              go_roundg (gk - 1)
              case measure => omega
              case rel =>
                go_light
                exact ⟨by first | rfl | go_num, by omega, (hup2.trans hup3 (fun _ _ h => h) (fun _ _ h => h)).trans hup4 (fun _ _ h => h) (fun _ _ h => h)⟩
      · go_wp2
        go_ret
        go_light
        exact ⟨rfl, hup⟩
end Go.Proofs.YtebgjabalnffdaaGreatDoor
