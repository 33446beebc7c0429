/- viet.Join; vni.alone, signs. -/
import Derived.Test.YtebgjabalnffdaaGreatDoorVietB
set_option linter.unusedVariables false
set_option linter.unusedSimpArgs false
set_option maxRecDepth 100000
namespace Go.Proofs.YtebgjabalnffdaaGreatDoor
open Go.RowKit

theorem run_store_cx (P : Program) (w : World) (a : Addr) (m : Mode) (x y : Nat) : (store a (.complex .f64 x y) m).run P w = stored P w a (.complex .f64 x y) m := run_store P w a _ m rfl
attribute [local go_sem] run_store_cx
theorem fB_eq (a b : Int) (h0 : 0 ≤ a) (h1 : a ≤ 5) (h2 : 0 ≤ b) (h3 : b ≤ 5) : Op.floatEq .f64 (fB a) (fB b) = decide (a = b) := by
  obtain rfl | rfl | rfl | rfl | rfl | rfl : a = 0 ∨ a = 1 ∨ a = 2 ∨ a = 3 ∨ a = 4 ∨ a = 5 := by omega
  all_goals
    obtain rfl | rfl | rfl | rfl | rfl | rfl : b = 0 ∨ b = 1 ∨ b = 2 ∨ b = 3 ∨ b = 4 ∨ b = 5 := by omega
    all_goals kernel_rfl
theorem cx_eq (a b c d : Int) (ha : 0 ≤ a ∧ a ≤ 5) (hb : 0 ≤ b ∧ b ≤ 5) (hc : 0 ≤ c ∧ c ≤ 5) (hd : 0 ≤ d ∧ d ≤ 5) (n : Nat) (W : World) :
    (Op.equalIn (n + 1) 131 (.complex .f64 (fB a) (fB b)) (.complex .f64 (fB c) (fB d))).run Tryz.prog W = .ok (decide (a = c) && decide (b = d)) W := by
  have e : (Op.equalIn (n + 1) 131 (.complex .f64 (fB a) (fB b)) (.complex .f64 (fB c) (fB d))).run Tryz.prog W = .ok (Op.floatEq .f64 (fB a) (fB c) && Op.floatEq .f64 (fB b) (fB d)) W := by kernel_rfl
  rw [e, fB_eq a c ha.1 ha.2 hc.1 hc.2, fB_eq b d hb.1 hb.2 hd.1 hd.2]
def joinS (l : L3) : Option Int := (allV.find? (fun p => p.1 == l)).map (·.2)
theorem allV_len : allV.length = 148 := by kernel_rfl
def bd5 (p : L3 × Int) : Bool := decide (0 ≤ p.1.2.1) && decide (p.1.2.1 ≤ 5) && decide (0 ≤ p.1.2.2) && decide (p.1.2.2 ≤ 5)
theorem allV_bd5 : allV.all bd5 = true := by kernel_rfl
theorem allV_bd (p : L3 × Int) (h : p ∈ allV) : (0 ≤ p.1.2.1 ∧ p.1.2.1 ≤ 5) ∧ (0 ≤ p.1.2.2 ∧ p.1.2.2 ≤ 5) := by
  have := List.all_eq_true.1 allV_bd5 p h
  simp [bd5] at this
  omega
def VJoinRel (w1 : World) (l : L3) (g : Nat) (k : Value) (wr : World) : Prop := ∃ j : Nat, k = .int .i64 j ∧ g + j = 148 ∧ j ≤ 148 ∧ Upd No w1 wr ∧ (allV.take j).find? (fun p => p.1 == l) = none
theorem joinS_hit {l : L3} {j : Nat} {p : L3 × Int} (h : (allV.take j).find? (fun p => p.1 == l) = none) (hp : allV[j]? = some p) (he : p.1 = l) : joinS l = some p.2 := by
  have hj : j < allV.length := (List.getElem?_eq_some_iff.1 hp).1
  have e : allV = allV.take j ++ p :: allV.drop (j + 1) := by
    conv => lhs; rw [← List.take_append_drop j allV, List.drop_eq_getElem_cons hj]
    rw [List.getElem?_eq_getElem hj] at hp
    injection hp with hp
    rw [hp]
  rw [joinS, e, List.find?_append, h]
  simp [he]
theorem find_snoc {l : L3} {j : Nat} {p : L3 × Int} (h : (allV.take j).find? (fun p => p.1 == l) = none) (hp : allV[j]? = some p) (he : ¬ p.1 = l) : (allV.take (j + 1)).find? (fun p => p.1 == l) = none := by
  rw [List.take_add_one, hp, List.find?_append, h]
  simp [he]
set_option maxHeartbeats 4000000 in
theorem viet_Join (w : World) (l : L3) (h0 : 0 ≤ l.2.1 ∧ l.2.1 ≤ 5) (h2 : 0 ≤ l.2.2 ∧ l.2.2 ≤ 5) : Calls Tryz.prog 116 #[.agg #[.int .i64 l.1, .complex .f64 (fB l.2.1) (fB l.2.2)]] w fun e w' => e = .returned (.tuple #[.int .i64 ((joinS l).getD 0), .bool (joinS l).isSome]) ∧ Upd No w w' := by
  have HL0 : Hd (0 ≤ l.2.1 ∧ l.2.1 ≤ 5) := ⟨h0⟩
  have HL2 : Hd (0 ≤ l.2.2 ∧ l.2.2 ≤ 5) := ⟨h2⟩
  clear h0 h2
  obtain ⟨l1, l2, l3⟩ := l
  simp only at HL0 HL2 ⊢
  obtain ⟨bl2, hbl2⟩ : ∃ b, b = fB l2 := ⟨_, rfl⟩
  obtain ⟨bl3, hbl3⟩ : ∃ b, b = fB l3 := ⟨_, rfl⟩
  rw [← hbl2, ← hbl3]
  have HB2 : Hd (bl2 = fB l2) := ⟨hbl2⟩
  have HB3 : Hd (bl3 = fB l3) := ⟨hbl3⟩
  obtain ⟨W0, hW0⟩ : ∃ W0 : World, W0 = w.alloc (.cells #[.int .i64 l1, .complex .f64 bl2 bl3] 133) := ⟨_, rfl⟩
  have q0 : W0.cell? ⟨w.heap.size, 0, none⟩ = some (.int .i64 l1) := by rw [hW0]; simp [go_sem]
  have q1 : W0.cell? ⟨w.heap.size, 1, none⟩ = some (.complex .f64 bl2 bl3) := by rw [hW0]; simp [go_sem]
  have qz : W0.heap.size = w.heap.size + 1 := by rw [hW0]; simp
  have qu : Upd No w W0 := by rw [hW0]; exact (Upd.refl _ _).alloc _
  have HQz : Hd _ := ⟨qz⟩
  have HW0 : Hd _ := ⟨hW0⟩
  clear hbl2 hbl3 hW0 qz
  go_enter Tryz.func116, Tryz.ntmps116
  go_wp2_with fail
  rw [← HW0.out]
  refine (viet_All _).mono ?_
  rintro e w1 ⟨A2, n2, c2, A3, n3, c3, rfl, o2, o3, u1⟩
  go_wp2
  have d0 := u1.cell q0 (fun h => h)
  have d1 := u1.cell q1 (fun h => h)
  have hn2 : n2 = 148 := by rw [← o2.rd.lenEq]; simp [allV_len]
  have hn3 : n3 = 148 := by rw [← o3.rd.lenEq]; simp [allV_len]
  subst hn2 hn3
  have HO2 : Hd _ := ⟨o2.rd⟩
  have HO3 : Hd _ := ⟨o3.rd⟩
  have hwz1 : w.heap.size < w1.heap.size := World.block_lt_of_cell? w1 ⟨w.heap.size, 0, none⟩ d0
  clear o2 o3 q0 q1
  go_loopg [14] 148 (VJoinRel w1 (l1, l2, l3))
  case atStart => exact ⟨0, rfl, rfl, by omega, Upd.refl _ _, rfl⟩
  case round =>
    obtain ⟨j, rfl, hgj, hj, hup, hno⟩ := hrel
    have HN : Hd _ := ⟨hno⟩
    have f0 := hup.cell d0 (fun h => h)
    have f1 := hup.cell d1 (fun h => h)
    have hzr := hup.size
    have hwzr : w.heap.size < wr.heap.size := by omega
    have hwzn : ¬ w.heap.size = wr.heap.size := by omega
    have hwzm : ¬ wr.heap.size = w.heap.size := by omega
    clear hno d0 d1
    by_cases hlt : j < 148
    · have hlt1 : decide ((j : Int) < 148) = true := by simp; omega
      obtain ⟨p, hp⟩ : ∃ p, allV[j]? = some p := ⟨allV[j]'(by rw [allV_len]; exact hlt), by simp⟩
      obtain ⟨b2, off2, x, cs, rfl, _, hb2, hx, hrep, hcl⟩ := (HO2.out.upd hup (fun _ _ h => h)).at_ hlt
      obtain rfl : x = p.1 := by simpa [hp] using hx.symm
      obtain rfl : cs = [.int .i64 p.1.1, .complex .f64 (fB p.1.2.1) (fB p.1.2.2)] := hrep
      have e0 := hcl 0 _ rfl
      have e1 := hcl 1 _ rfl
      obtain ⟨b3, off3, s, cs3, rfl, _, hb3, hs, hrep3, hcl3⟩ := (HO3.out.upd hup (fun _ _ h => h)).at_ hlt
      obtain rfl : s = p.2 := by simpa [hp] using hs.symm
      obtain rfl : cs3 = [.int .i64 p.2] := hrep3
      have e2 := hcl3 0 _ rfl
      simp only [show eL.sz = 2 from rfl, flat_sz, Nat.add_zero, Nat.mul_one] at e0 e1 e2
      have hbd := allV_bd p (List.mem_of_getElem? hp)
      have HP : Hd (allV[j]? = some p) := ⟨hp⟩
      have hcx := fun W => cx_eq p.1.2.1 p.1.2.2 l2 l3 hbd.1 hbd.2 HL0.out HL2.out 9998 W
      rw [← HB2.out, ← HB3.out] at hcx
      obtain ⟨⟨p1, p2, p3⟩, ps⟩ := p
      simp only at e0 e1 e2 hcx hbd
      obtain ⟨bp2, hbp2⟩ : ∃ b, b = fB p2 := ⟨_, rfl⟩
      obtain ⟨bp3, hbp3⟩ : ∃ b, b = fB p3 := ⟨_, rfl⟩
      rw [← hbp2, ← hbp3] at hcx e1
      have hb2n : ¬ b2 = wr.heap.size := by omega
      have hb3n : ¬ b3 = wr.heap.size := by omega
      clear hbd hcl hcl3 hx hs hp hbp2 hbp3
      by_cases he : p1 = l1 ∧ p2 = l2 ∧ p3 = l3
      · have HE : Hd _ := ⟨he⟩
        have k1 : (p1 == l1) = true := by simp [he.1]
        have k2 : (decide (p2 = l2) && decide (p3 = l3)) = true := by simp [he.2.1, he.2.2]
        rw [k2] at hcx
        have k3 : p1 = l1 := he.1
        clear he k2
        go_wp2
        go_ret2
        go_light
        have hJ := joinS_hit HN.out HP.out (show ((p1, p2, p3) : L3) = (l1, l2, l3) by rw [HE.out.1, HE.out.2.1, HE.out.2.2])
        rw [hJ]
        exact ⟨rfl, ((qu.trans u1 (T := No) (fun _ _ h => h) (fun _ _ h => h)).trans hup (fun _ _ h => h) (fun _ _ h => h)).alloc _⟩
      · have HE : Hd _ := ⟨he⟩
        have k2 : p1 = l1 → (decide (p2 = l2) && decide (p3 = l3)) = false := by
          intro h; by_cases h2 : p2 = l2 <;> by_cases h3 : p3 = l3 <;> simp [h2, h3]; exact he ⟨h, h2, h3⟩
        by_cases k3 : p1 = l1
        · have k4 := k2 k3
          rw [k4] at hcx
          clear he k2 k4
          go_wp2
          go_roundg (gk - 1)
          case measure => omega
          case rel =>
            go_light
            exact ⟨j + 1, by go_num, by omega, by omega, hup.alloc _, find_snoc HN.out HP.out (by simp; intro a b c; exact HE.out ⟨a, b, c⟩)⟩
        · clear he k2
          go_wp2
          go_roundg (gk - 1)
          case measure => omega
          case rel =>
            go_light
            exact ⟨j + 1, by go_num, by omega, by omega, hup.alloc _, find_snoc HN.out HP.out (by simp; intro a b c; exact HE.out ⟨a, b, c⟩)⟩
    · have hlt1 : decide ((j : Int) < 148) = false := by simp; omega
      go_wp2
      go_ret2
      go_light
      obtain rfl : j = 148 := by omega
      have h1 : allV.take 148 = allV := List.take_of_length_le (by rw [allV_len]; omega)
      have h2 : joinS (l1, l2, l3) = none := by rw [joinS, ← h1, HN.out]; rfl
      rw [h2]
      exact ⟨rfl, (qu.trans u1 (T := No) (fun _ _ h => h) (fun _ _ h => h)).trans hup (fun _ _ h => h) (fun _ _ h => h)⟩

def aloneV (s : Int) : Int := if s = 236 then 236 else if s = 237 then 237 else if s = 7881 then 230 else if s = 297 then 243 else if s = 7883 then 242 else if s = 7925 then 238 else if s = 273 then 241 else 0
theorem vni_alone (w : World) (s : Int) : Calls Tryz.prog 133 #[.int .i64 s] w fun e w' => e = .returned (.int .i64 (aloneV s)) ∧ w = w' := by
  by_cases h : s = 236 ∨ s = 237 ∨ s = 7881 ∨ s = 297 ∨ s = 7883 ∨ s = 7925 ∨ s = 273
  · rcases h with rfl | rfl | rfl | rfl | rfl | rfl | rfl
    all_goals
      go_enter Tryz.func133, Tryz.ntmps133
      go_wp2
      go_ret
      exact ⟨rfl, rfl⟩
  · have k1 : (s == 236) = false := by simp; omega
    have k2 : (s == 237) = false := by simp; omega
    have k3 : (s == 7881) = false := by simp; omega
    have k4 : (s == 297) = false := by simp; omega
    have k5 : (s == 7883) = false := by simp; omega
    have k6 : (s == 7925) = false := by simp; omega
    have k7 : (s == 273) = false := by simp; omega
    go_enter Tryz.func133, Tryz.ntmps133
    go_wp2
    go_ret
    refine ⟨iret ?_, rfl⟩
    unfold aloneV
    rw [if_neg (by omega), if_neg (by omega), if_neg (by omega), if_neg (by omega), if_neg (by omega), if_neg (by omega), if_neg (by omega)]

def signsV (m : Int) : List Int := if m = 1 then [234, 232, 233, 250, 252, 235] else if m = 2 then [226, 224, 225, 229, 227, 228] else [0, 248, 249, 251, 245, 239]
theorem vni_signs (w : World) (m : Int) : Calls Tryz.prog 134 #[.int .i64 m] w fun e w' => e = .returned (.agg ((signsV m).map (Value.int .i64)).toArray) ∧ Upd No w w' := by
  by_cases h1 : m = 1
  · subst h1
    go_enter Tryz.func134, Tryz.ntmps134
    go_wp2
    exact bodyPost_ret (v := .agg ((signsV 1).map (Value.int .i64)).toArray) (by simp [results, Tryz.results134, go_sem, cell_set, signsV, *]) rfl ⟨rfl, by repeat first | exact Upd.refl _ _ | (refine Upd.alloc ?_ _) | (refine Upd.setCell ?_ (fun h => by simp at h; omega) _)⟩
  · by_cases h2 : m = 2
    · subst h2
      go_enter Tryz.func134, Tryz.ntmps134
      go_wp2
      exact bodyPost_ret (v := .agg ((signsV 2).map (Value.int .i64)).toArray) (by simp [results, Tryz.results134, go_sem, cell_set, signsV, *]) rfl ⟨rfl, by repeat first | exact Upd.refl _ _ | (refine Upd.alloc ?_ _) | (refine Upd.setCell ?_ (fun h => by simp at h; omega) _)⟩
    · have k1 : (m == 1) = false := by simpa using h1
      have k2 : (m == 2) = false := by simpa using h2
      have e : signsV m = [0, 248, 249, 251, 245, 239] := by rw [signsV, if_neg h1, if_neg h2]
      rw [e]
      clear e
      go_enter Tryz.func134, Tryz.ntmps134
      go_wp2
      exact bodyPost_ret (v := .agg (([0, 248, 249, 251, 245, 239] : List Int).map (Value.int .i64)).toArray) (by simp [results, Tryz.results134, go_sem, cell_set, *]) rfl ⟨rfl, by repeat first | exact Upd.refl _ _ | (refine Upd.alloc ?_ _) | (refine Upd.setCell ?_ (fun h => by simp at h; omega) _)⟩
end Go.Proofs.YtebgjabalnffdaaGreatDoor
