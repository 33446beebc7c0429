/- The laws' own words: Units, Longest. -/
import Derived.Test.YtebgjabalnffdaaGreatDoorLgP
set_option linter.unusedVariables false
set_option linter.unusedSimpArgs false
set_option maxRecDepth 100000
namespace Go.Proofs.YtebgjabalnffdaaGreatDoor
open Go.RowKit

theorem law_Units {F F' : Nat → Prop} {w : World} {v v' : Value} {xs ys : List Int} (hx : Rd (eI .i64) F w v xs) (hy : Rd (eI .i64) F' w v' ys) :
    Calls Tryz.prog 25 #[v, v'] w fun e w' => e = .returned (.bool (decide (xs = ys))) ∧ Drew w w' := by
  obtain ⟨A, c, rfl⟩ := hx.form
  obtain ⟨A', c', rfl⟩ := hy.form
  have hm := hx.max
  by_cases hl : xs.length = ys.length
  · have hl1 : ((xs.length : Int) != (ys.length : Int)) = false := by simp [hl]
    by_cases h0 : xs.length = 0
    · have h1 : xs = [] := List.eq_nil_of_length_eq_zero h0
      have h2 : ys = [] := List.eq_nil_of_length_eq_zero (by omega)
      subst h1; subst h2
      go_enter Tryz.func25, Tryz.ntmps25
      go_wp2
      refine wp_loop_once ?_
      go_wp2
      go_ret
      exact ⟨rfl, 0, rfl⟩
    · obtain ⟨b, off, rfl, _, _, hc⟩ := hx.int_cell (by omega)
      obtain ⟨b', off', rfl, _, _, hc'⟩ := hy.int_cell (by omega)
      go_enter Tryz.func25, Tryz.ntmps25
      go_wp2
      go_loopg [13] xs.length (fun g i wr => ∃ k : Nat, k ≤ xs.length ∧ g + k = xs.length ∧ i = .int .i64 k ∧ xs.take k = ys.take k ∧ Drew w wr)
      case atStart => exact ⟨0, Nat.zero_le _, rfl, rfl, rfl, 0, rfl⟩
      case round =>
        obtain ⟨k, hk, hgk, rfl, htk, m, rfl⟩ := hrel
        have HT2 : Hd (xs.take k = ys.take k) := ⟨htk⟩
        clear htk
        by_cases hlt : k < xs.length
        · have hA := hc k hlt
          have hB := hc' k (by omega)
          have HT : Hd (xs.take (k + 1) = ys.take (k + 1) ↔ xs.take k = ys.take k ∧ rdI xs k = rdI ys k) := ⟨take_eq_succ (xs := xs) (ys := ys) hlt (by omega)⟩
          clear hc hc'
          cases hd : (rdI xs k != rdI ys k) with
          | true =>
            go_wp2
            go_quiet (fail)
            go_wp2
            go_ret
            go_light
            refine ⟨bret ?_, ⟨_, World.drewN_drewN ..⟩⟩
            simp only [decide_eq_true_eq, Bool.false_eq_true, false_iff]
            intro e
            have := (HT.out.1 (by rw [e])).2
            simp [this] at hd
          | false =>
            go_wp2
            go_quiet (fail)
            go_wp2
            go_roundg (gk - 1)
            case measure => omega
            case rel => exact ⟨k + 1, by omega, by omega, by go_num, HT.out.2 ⟨HT2.out, by simpa using hd⟩, m + nq, rfl⟩
        · go_wp2
          go_ret
          go_light
          refine ⟨bret ?_, m, rfl⟩
          have e1 : xs.take k = xs := List.take_of_length_le (by omega)
          have e2 : ys.take k = ys := List.take_of_length_le (by omega)
          have := HT2.out
          rw [e1, e2] at this
          simp [this]
  · have hl1 : ((xs.length : Int) != (ys.length : Int)) = true := by simp; omega
    go_enter Tryz.func25, Tryz.ntmps25
    go_wp2
    go_ret
    exact ⟨by simp; intro h; exact hl (by rw [h]), 0, rfl⟩

def LgRel (w : World) (us : List Int) (rs : List Rule) (g : Nat) (k n o i : Value) (wr : World) : Prop :=
  ∃ j : Nat, i = .int .i64 j ∧ g + j = rs.length ∧ j ≤ rs.length ∧ k = .int .i64 (lgN us rs j).1 ∧ n = .int .i64 (lgN us rs j).2.1 ∧ o = .bool (lgN us rs j).2.2 ∧ Upd No w wr
set_option maxHeartbeats 8000000 in
theorem law_Longest {F F' : Nat → Prop} {w : World} {v v' : Value} {rs : List Rule} {us : List Int} (hr : Rd eRule F w v rs) (hu : Rd (eI .i64) F' w v' us) (hl : rs.length ≤ 100000) :
    Calls Tryz.prog 69 #[v, v'] w fun e w' => e = .returned (.tuple #[.int .i64 (lgN us rs rs.length).1, .int .i64 (lgN us rs rs.length).2.1, .bool (lgN us rs rs.length).2.2]) ∧ Upd No w w' := by
  obtain ⟨A, c, rfl⟩ := hr.form
  obtain ⟨A', c', rfl⟩ := hu.form
  have HR : Hd _ := ⟨hr⟩
  have HU : Hd _ := ⟨hu⟩
  have hum := hu.max
  clear hr hu
  go_enter Tryz.func69, Tryz.ntmps69
  go_wp2
  go_loopg [7, 8, 9, 14] rs.length (LgRel w us rs)
  case atStart => exact ⟨0, rfl, rfl, Nat.zero_le _, rfl, rfl, rfl, Upd.refl _ _⟩
  case round =>
    obtain ⟨j, rfl, hgj, hj, rfl, rfl, rfl, hup⟩ := hrel
    by_cases hlt : j < rs.length
    · obtain ⟨b, off, x, cs, rfl, _, hbz, hx, hrep, hcl⟩ := (HR.out.upd hup (fun _ _ h => h)).at_ hlt
      obtain ⟨ci, co, rfl, hi, ho⟩ := eRule_of hrep
      have hc0 := hcl 0 _ rfl
      have hc1 := hcl 1 _ rfl
      simp only [pair_sz, row_sz, Nat.add_zero, Nat.reduceAdd] at hc0 hc1
      obtain ⟨Ai, ni, rfl⟩ := hi.form
      obtain ⟨Ao, no, rfl⟩ := ho.form
      have hix := hi.max
      have hxe : rs.getD j ([], []) = x := by rw [List.getD_eq_getElem?_getD, hx]; rfl
      obtain ⟨k, n, o, hkn⟩ : ∃ k n o, lgN us rs j = (k, n, o) := ⟨_, _, _, rfl⟩
      have HN : Hd (lgN us rs (j + 1) = (if lgHit us n x = true then (j : Int) else k, if lgHit us n x = true then x.1.length else n, o || lgOpn us x)) := ⟨by rw [lgN, hkn, hxe]⟩
      have HB : Hd (n ≤ us.length) := ⟨by
        have := (lgN_char us rs j hj).2.1
        rw [hkn] at this
        rcases this with h | ⟨i, h, _, h2, h3, _⟩
        · have := h.2; simp only at this; omega
        · simp only at h2; omega⟩
      have hnb := HB.out
      rw [hkn]
      obtain ⟨wb, hwb⟩ : ∃ wb : World, wb = wr.alloc (.cells #[.slice Ai x.1.length ni, .slice Ao x.2.length no] 115) := ⟨_, rfl⟩
      have d0 : wb.cell? ⟨wr.heap.size, 0, none⟩ = some (.slice Ai x.1.length ni) := by rw [hwb]; simp [go_sem]
      have ub : Upd No wr wb := by rw [hwb]; exact (Upd.refl _ _).alloc _
      have HI : Hd _ := ⟨hi.upd ub (fun _ _ h => h)⟩
      have HU1 : Hd _ := ⟨(HU.out.upd hup (fun _ _ h => h)).upd ub (fun _ _ h => h)⟩
      have HWb : Hd _ := ⟨hwb⟩
      have HUp : Hd _ := ⟨hup.trans ub (fun _ _ h => h) (fun _ _ h => h)⟩
      clear hx hcl hrep hi ho hkn hxe hwb ub hup
      by_cases hle : x.1.length ≤ us.length
      · have HLe : Hd _ := ⟨hle⟩
        have k1 : decide (x.1.length ≤ us.length) = true := by simpa using hle
        have k2 : decide (us.length < x.1.length) = false := by simp; omega
        obtain ⟨c2, hrun, hrd⟩ := HU1.out.cutH (P := Tryz.prog) Tryz.underlying34 size_int x.1.length hle
        obtain ⟨b1, hb1⟩ : ∃ b1, decide (x.1 = us.take x.1.length) = b1 := ⟨_, rfl⟩
        have HC : Hd (∀ m, Calls Tryz.prog 25 #[.slice Ai x.1.length ni, .slice A' x.1.length c2] (wb.drewN m) fun e w' => e = .returned (.bool b1) ∧ ∃ m', w' = (wb.drewN m).drewN m') :=
          ⟨fun m => by rw [← hb1]; exact law_Units (HI.out.upd ((Upd.refl No _).drewN m) (fun _ _ h => h)) (hrd.upd ((Upd.refl No _).drewN m) (fun _ _ h => h))⟩
        have HB1 : Hd _ := ⟨hb1⟩
        clear hb1 hrd
        have hopn : Hd (lgOpn us x = false) := ⟨by rw [lgOpn, k2]; rfl⟩
        cases b1 with
        | false =>
          have HH : Hd (lgHit us n x = false) := ⟨by rw [lgHit, HB1.out]; simp⟩
          cases o
          all_goals
            go_upto_region 5 with fail
            rw [← HWb.out]
            go_quiet ((go_at_call 25; exact Calls.quiet_of (HC.out _)))
            go_wp2
            go_roundg (gk - 1)
            case measure => omega
            case rel =>
              go_light
              exact ⟨j + 1, by go_num, by omega, by omega, by rw [HN.out, HH.out]; rfl, by rw [HN.out, HH.out]; rfl, by rw [HN.out, hopn.out]; rfl, HUp.out.drewN _⟩
        | true =>
          by_cases hn : n < x.1.length
          · have k3 : decide (n < x.1.length) = true := by simpa using hn
            have HH : Hd (lgHit us n x = true) := ⟨by rw [lgHit, HB1.out, k3, k1]; rfl⟩
            cases o
            all_goals
              go_upto_region 5 with fail
              rw [← HWb.out]
              go_quiet ((go_at_call 25; exact Calls.quiet_of (HC.out _)))
              go_wp2
              go_quiet (fail)
              go_wp2
              go_roundg (gk - 1)
              case measure => omega
              case rel =>
                go_light
                exact ⟨j + 1, by go_num, by omega, by omega, by rw [HN.out, HH.out]; rfl, by rw [HN.out, HH.out]; rfl, by rw [HN.out, hopn.out]; rfl, HUp.out.drewN _⟩
          · have k3 : decide (n < x.1.length) = false := by simpa using hn
            have HH : Hd (lgHit us n x = false) := ⟨by rw [lgHit, k3]; simp⟩
            cases o
            all_goals
              go_upto_region 5 with fail
              rw [← HWb.out]
              go_quiet ((go_at_call 25; exact Calls.quiet_of (HC.out _)))
              go_wp2
              go_roundg (gk - 1)
              case measure => omega
              case rel =>
                go_light
                exact ⟨j + 1, by go_num, by omega, by omega, by rw [HN.out, HH.out]; rfl, by rw [HN.out, HH.out]; rfl, by rw [HN.out, hopn.out]; rfl, HUp.out.drewN _⟩
      · have k1 : decide (x.1.length ≤ us.length) = false := by simpa using hle
        have k2 : decide (us.length < x.1.length) = true := by simp; omega
        have HH : Hd (lgHit us n x = false) := ⟨by rw [lgHit, k1]; rfl⟩
        obtain ⟨c2, hrun, hrd⟩ := HI.out.cutH (P := Tryz.prog) Tryz.underlying34 size_int us.length (by omega)
        obtain ⟨b1, hb1⟩ : ∃ b1, decide (x.1.take us.length = us) = b1 := ⟨_, rfl⟩
        have HC : Hd (∀ W, Upd No wb W → Calls Tryz.prog 25 #[.slice Ai us.length c2, .slice A' us.length c'] W fun e w' => e = .returned (.bool b1) ∧ Drew W w') :=
          ⟨fun W hW => by rw [← hb1]; exact law_Units (hrd.upd hW (fun _ _ h => h)) (HU1.out.upd hW (fun _ _ h => h))⟩
        have hopn : Hd (lgOpn us x = b1) := ⟨by rw [lgOpn, k2, hb1]; simp⟩
        clear hb1 hrd
        cases o
        · go_upto_region 5 with fail
          rw [← HWb.out]
          go_quiet (fail)
          go_wp2_with (go_at_call 25; refine (HC.out _ ?_).mono ?_; exact (Upd.refl _ _).drewN _; rintro e w2 ⟨rfl, hd2⟩)
          go_roundg (gk - 1)
          case measure => omega
          case rel =>
            go_light
            exact ⟨j + 1, by go_num, by omega, by omega, by rw [HN.out, HH.out]; rfl, by rw [HN.out, HH.out]; rfl, by rw [HN.out, hopn.out]; rfl, (HUp.out.drewN _).trans hd2.upd (fun _ _ h => h) (fun _ _ h => h)⟩
        · go_upto_region 5 with fail
          rw [← HWb.out]
          go_quiet (fail)
          go_wp2
          go_roundg (gk - 1)
          case measure => omega
          case rel =>
            go_light
            exact ⟨j + 1, by go_num, by omega, by omega, by rw [HN.out, HH.out]; rfl, by rw [HN.out, HH.out]; rfl, by rw [HN.out]; rfl, HUp.out.drewN _⟩
    · have hlt1 : decide (j < rs.length) = false := by simpa using hlt
      obtain rfl : j = rs.length := by omega
      go_wp2
      go_ret3
      go_light
      exact ⟨rfl, hup⟩
end Go.Proofs.YtebgjabalnffdaaGreatDoor
