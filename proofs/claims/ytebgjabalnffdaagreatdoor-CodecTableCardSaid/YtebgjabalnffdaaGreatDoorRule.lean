/- rule.Check, rule.Turn, rule.Longest, table.used, table.closed: what they answer. -/
import Derived.Test.YtebgjabalnffdaaGreatDoorSl
import Derived.Deep.RegionHeld3
import Derived.BigRegion
set_option linter.unusedVariables false
set_option linter.unusedSimpArgs false
set_option maxRecDepth 100000
namespace Go.Proofs.YtebgjabalnffdaaGreatDoor
open Go.RowKit

/-- Rules that are right, the first n of them. -/
def chkAt (rs : List Rule) (k : Nat) : Bool := sideOk (rs.getD k ([], [])).1 && sideOk (rs.getD k ([], [])).2 && decide (findR (rs.take k) (rs.getD k ([], [])).1 < 0)

set_option maxRecDepth 100000 in
theorem rule_Check {F : Nat → Prop} {w : World} {v : Value} {rs : List Rule} (hr : Rd eRule F w v rs) (hl : rs.length ≤ 512) (hok : ∀ k, k < rs.length → chkAt rs k = true) :
    Calls Tryz.prog 127 #[v] w fun e w' => e = .returned (.tuple #[.int .i64 (-1), .int .i64 0]) ∧ Upd No w w' := by
  obtain ⟨A, c, rfl⟩ := hr.form
  by_cases h0 : rs.length = 0
  · obtain rfl : rs = [] := List.eq_nil_of_length_eq_zero h0
    go_enter Tryz.func127, Tryz.ntmps127
    go_wp2
    refine wp_loop_once ?_
    go_wp2
    go_ret2
    exact ⟨rfl, Upd.refl _ _⟩
  · obtain ⟨b, off, _, _, rfl, _⟩ := hr.at_ (k := 0) (by omega)
    go_enter Tryz.func127, Tryz.ntmps127
    go_wp2
    go_loopg [8] rs.length (fun g i wr => ∃ k : Nat, k ≤ rs.length ∧ g + k = rs.length ∧ i = .int .i64 k ∧ Upd No w wr)
    case atStart => exact ⟨0, Nat.zero_le _, rfl, rfl, Upd.refl _ _⟩
    case round =>
      obtain ⟨k, hk, hgk, rfl, hup⟩ := hrel
      by_cases hlt : k < rs.length
      · have hrr := hr.upd hup (fun _ _ h => h)
        obtain ⟨x, cs, hxk, hrep, hcell, _, hbs⟩ := hrr.at' hlt
        obtain ⟨ci, co, rfl, hi, ho⟩ := eRule_of hrep
        have hc0 := hcell 0 _ rfl
        have hc1 := hcell 1 _ rfl
        simp only [pair_sz, row_sz, Nat.add_zero, Nat.reduceAdd] at hc0 hc1
        have HX : Hd (rs[k]? = some x) := ⟨hxk⟩
        have hck := hok k hlt
        simp only [chkAt, List.getD_eq_getElem?_getD, hxk, Option.getD_some, Bool.and_eq_true, decide_eq_true_eq] at hck
        obtain ⟨⟨hs1, hs2⟩, hs3⟩ := hck
        have hs3' : decide (0 ≤ findR (rs.take k) x.1) = false := by simp; omega
        obtain ⟨Ai, ni, rfl⟩ := hi.form
        obtain ⟨Ao, no, rfl⟩ := ho.form
        have hu1 : Upd No wr (wr.alloc (.cells #[.slice Ai x.1.length ni, .slice Ao x.2.length no] 115)) := (Upd.refl _ _).alloc _
        have hi1 := hi.upd hu1 (fun _ _ h => h)
        have ho1 := ho.upd hu1 (fun _ _ h => h)
        obtain ⟨c2, hcut, hrt⟩ := (hrr.upd hu1 (fun _ _ h => h)).cutH (P := Tryz.prog) Tryz.underlying49 size_Rule k (by omega)
        clear hxk hcell hs3
        go_wp2_with (first
          | (go_at_call 147; ((with_reducible refine (rule_side hi1).mono ?_)); rintro e w2 ⟨rfl, hup2⟩; rw [hs1]; obtain ⟨hc2, hf2⟩ := hup2.both (B := wr.heap.size + 1) (by simp) (fun _ _ h => h))
          | (go_at_call 147; ((with_reducible refine (rule_side (ho1.upd hup2 (fun _ _ h => h))).mono ?_)); rintro e w3 ⟨rfl, hup3⟩; rw [hs2]))
        have hu3 : Upd No (wr.alloc (.cells #[.slice Ai x.1.length ni, .slice Ao x.2.length no] 115)) w3 := hup2.trans hup3 (fun _ _ h => h) (fun _ _ h => h)
        have hrt3 := hrt.upd hu3 (fun _ _ h => h)
        have hi3 := hi1.upd hu3 (fun _ _ h => h)
        have hcell3 : w3.cell? ⟨wr.heap.size, 0, none⟩ = some (.slice Ai x.1.length ni) := hu3.cell (by simp [go_sem]) (fun h => h)
        have hup3' : Upd No w w3 := (hup.trans hu1 (fun _ _ h => h) (fun _ _ h => h)).trans hu3 (fun _ _ h => h) (fun _ _ h => h)
        clear hup2 hup3 hc2 hf2 hc0 hc1 hu3
        have hd3 : Upd No w3 w3.drew := (Upd.refl _ _).drew
        have hrt4 := hrt3.upd hd3 (fun _ _ h => h)
        have hi4 := hi3.upd hd3 (fun _ _ h => h)
        go_region_held3 (fun w' => w'.cell? ⟨wr.heap.size, 0, none⟩ = some (.slice Ai x.1.length ni))
          (first | exact hcell3 | exact hc4)
          (first | (go_at_call 66; refine (rule_Find hrt4 hi4).mono ?_; rintro e w4 ⟨rfl, hup4⟩; have hc4 := hup4.cell (p := ⟨wr.heap.size, 0, none⟩) hcell3 (fun h => h)))
        go_wp2
        go_roundg (gk - 1)
        case measure => omega
        case rel =>
          go_light
          exact ⟨k + 1, by omega, by omega, by go_num, hup3'.trans (hd3.trans hup4 (fun _ _ h => h) (fun _ _ h => h)) (fun _ _ h => h) (fun _ _ h => h)⟩
      · go_wp2
        go_ret2
        go_light
        exact ⟨rfl, hup⟩

theorem slices_Clone {F : Nat → Prop} {w : World} {v : Value} {xs : List Int} (hr : Rd (eI .i64) F w v xs) (hl : xs.length ≤ 1000000) :
    Calls Tryz.prog 67 #[v] w fun e w' => ∃ A c, e = .returned (.slice A xs.length c) ∧ Own (eI .i64) 3 (fun k => w.heap.size ≤ k) w.heap.size w' (.slice A xs.length c) xs ∧ Upd No w w' := by
  obtain ⟨A, c, rfl⟩ := hr.form
  cases A with
  | none =>
    obtain rfl : xs = [] := by
      obtain ⟨A', c', hv, _, _, hq⟩ := hr
      injection hv with h1 h2 h3
      by_cases hp : 0 < xs.length
      · obtain ⟨b, off, _, _, _, ha, _⟩ := hq hp
        rw [← h1] at ha; cases ha
      · exact List.eq_nil_of_length_eq_zero (by omega)
    have hq := fun W : World => Lib.run_eql_slice_nil (P := Tryz.prog) W 34 3 none 0 c 0 0 Tryz.underlying34
    go_enter Tryz.func67, Tryz.ntmps67
    go_wp2
    go_ret
    exact ⟨none, 0, rfl, Own.nil _ _ _ _ _, Upd.refl _ _⟩
  | some a =>
    have hq := fun W : World => Lib.run_eql_slice_nil (P := Tryz.prog) W 34 3 (some a) xs.length c 0 0 Tryz.underlying34
    go_enter Tryz.func67, Tryz.ntmps67
    go_wp2_with (at_builtin; refine wp_appendRow (F := fun k => w.heap.size ≤ k) (eI .i64) Any w.heap.size rfl (.tmp 5) (.tmp 6) 34 3 (.int .i64 0) 8 rfl Tryz.underlying34 info_int rfl (by decide) _ _ [] xs rfl rfl ?qo ?qr (fun _ _ h => h) ?qn ?qb ?ql (by decide) ?_)
    case qo => exact (Own.lit (E := eI .i64) (F := fun k => w.heap.size ≤ k) (base := w.heap.size) w ([] : List Int) [] rfl (by simp) (Nat.le_refl _) (Nat.le_refl _) (fun k x cs h => by simp at h))
    case qr => exact (hr.mono (fun _ _ => trivial)).upd (S := No) ((Upd.refl _ _).alloc _) (fun _ _ h => h)
    case qn => intro k hk; simp at hk; omega
    case qb => simp
    case ql => simp; omega
    intro A1 n1 c1 w1 hown hupd _ _
    have hl1 : n1 = xs.length := by have := hown.rd.lenEq; simpa using this.symm
    go_wp2
    go_ret
    go_light
    subst hl1
    refine ⟨A1, c1, rfl, by simpa using hown, ((Upd.refl No w).alloc _).trans hupd (fun _ _ h => h) (fun k hk e => ?_)⟩
    simp [Value.ownBlock] at e; omega

/-- The longest In. -/
def longR (rs : List Rule) : Nat := rs.foldl (fun n r => max n r.1.length) 0
theorem longR_snoc (rs : List Rule) (r : Rule) : longR (rs ++ [r]) = max (longR rs) r.1.length := by simp [longR]

theorem rule_Longest {F : Nat → Prop} {w : World} {v : Value} {rs : List Rule} (hr : Rd eRule F w v rs) :
    Calls Tryz.prog 29 #[v] w fun e w' => e = .returned (.int .i64 (longR rs)) ∧ Upd No w w' := by
  obtain ⟨A, c, rfl⟩ := hr.form
  have hm := hr.max
  by_cases h0 : rs.length = 0
  · obtain rfl : rs = [] := List.eq_nil_of_length_eq_zero h0
    go_enter Tryz.func29, Tryz.ntmps29
    go_wp2
    refine wp_loop_once ?_
    go_wp2
    go_ret
    exact ⟨rfl, Upd.refl _ _⟩
  · obtain ⟨b, off, _, _, rfl, _⟩ := hr.at_ (k := 0) (by omega)
    go_enter Tryz.func29, Tryz.ntmps29
    go_wp2
    go_loopg [3, 8] rs.length (fun g n i wr => ∃ k : Nat, k ≤ rs.length ∧ g + k = rs.length ∧ i = .int .i64 k ∧ n = .int .i64 (longR (rs.take k)) ∧ Upd No w wr)
    case atStart => exact ⟨0, Nat.zero_le _, rfl, rfl, rfl, Upd.refl _ _⟩
    case round =>
      obtain ⟨k, hk, hgk, rfl, rfl, hup⟩ := hrel
      by_cases hlt : k < rs.length
      · have hrr := hr.upd hup (fun _ _ h => h)
        obtain ⟨x, cs, hxk, hrep, hcell, _, hbs⟩ := hrr.at' hlt
        obtain ⟨ci, co, rfl, hi, ho⟩ := eRule_of hrep
        have hc0 := hcell 0 _ rfl
        have hc1 := hcell 1 _ rfl
        simp only [pair_sz, row_sz, Nat.add_zero, Nat.reduceAdd] at hc0 hc1
        obtain ⟨Ai, ni, rfl⟩ := hi.form
        obtain ⟨Ao, no, rfl⟩ := ho.form
        have HX : Hd (rs[k]? = some x) := ⟨hxk⟩
        have hix := hi.max
        clear hxk hcell
        obtain ⟨q, hq⟩ : ∃ q, q = longR (rs.take k) := ⟨_, rfl⟩
        have HQ : Hd (q = longR (rs.take k)) := ⟨hq⟩
        rw [← hq]
        clear hq
        go_wp2
        all_goals
          go_roundg (gk - 1)
          case measure => omega
          case rel =>
            go_light
            refine ⟨k + 1, by omega, by omega, by go_num, ?_, ?_⟩
            · have hx := HX.out
              have hq := HQ.out
              rw [List.take_add_one, hx, Option.toList_some, longR_snoc, ← hq]
              congr 1; omega
            · refine hup.trans (S' := No) ?_ (fun _ _ h => h) (fun _ _ h => h)
              first | exact (Upd.refl _ _).alloc _ | exact (((Upd.refl _ _).alloc _).setCell (fun h => by simp at h) _).setCell (fun h => by simp at h) _
      · go_wp2
        go_ret
        go_light
        exact ⟨iret (by rw [List.take_of_length_le (by omega)]), hup⟩

theorem table_used1 {F : Nat → Prop} {w : World} {i o : Value} {x : Rule} {a : Nat} {u : Int} (hi : Rd (eI .i64) F w i x.1) (hc : w.cell? ⟨a, 0, none⟩ = some (.int .i64 u)) (hn : 0 < x.1.length) (hm : x.1.length ≤ 8) :
    Calls Tryz.prog 149 #[.agg #[i, o], .pointer (some ⟨a, 0, none⟩)] w fun e w' => e = .returned (.bool (rdI x.1 (x.1.length - 1) == u)) ∧ Upd No w w' := by
  have ha : a < w.heap.size := World.block_lt_of_cell? w ⟨a, 0, none⟩ hc
  obtain ⟨Ai, ci, rfl⟩ := hi.form
  obtain ⟨b, off, rfl, _, hb, hcell⟩ := hi.int_cell hn
  have hcl := hcell (x.1.length - 1) (by omega)
  have e1 : ((x.1.length : Int) - 1).toNat = x.1.length - 1 := by omega
  have h1 : (0 : Int) ≤ (x.1.length : Int) - 1 := by omega
  have h2 : (x.1.length : Int) - 1 < (x.1.length : Int) := by omega
  go_enter Tryz.func149, Tryz.ntmps149
  go_wp2
  go_quiet (fail)
  go_wp2
  go_ret
  go_light
  exact ⟨rfl, ((Upd.refl _ _).alloc _).drewN _⟩
end Go.Proofs.YtebgjabalnffdaaGreatDoor
