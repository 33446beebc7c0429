/- viet.All. -/
import Derived.Test.YtebgjabalnffdaaGreatDoorVietA
set_option linter.unusedVariables false
set_option linter.unusedSimpArgs false
set_option maxRecDepth 100000
namespace Go.Proofs.YtebgjabalnffdaaGreatDoor
open Go.RowKit

def upsL (j : Nat) : List (L3 × Int) := ([false, true].take j).flatMap fun up => perUp up vietL
theorem upsL_succ (j : Nat) (h : j < 2) : upsL (j + 1) = upsL j ++ perUp ([false, true].getD j false) vietL := by
  obtain rfl | rfl : j = 0 ∨ j = 1 := by omega
  · simp [upsL]
  · simp [upsL]
theorem upsL_2 : upsL 2 = allV := by simp [upsL, allV]

theorem viet_bd : ∀ r ∈ vietL, (97 ≤ r.1 ∧ r.1 ≤ 122) ∧ (0 ≤ r.2.1 ∧ r.2.1 ≤ 4) ∧ ∀ s ∈ r.2.2, 0 ≤ s ∧ s ≤ 10000 := by decide
theorem idx6 (r : Int × Int × List Int) (t : Nat) (h : t < 6) (W : World) : (Instr.index 224 (.agg #[.int .i64 (r.2.2.getD 0 0), .int .i64 (r.2.2.getD 1 0), .int .i64 (r.2.2.getD 2 0), .int .i64 (r.2.2.getD 3 0), .int .i64 (r.2.2.getD 4 0), .int .i64 (r.2.2.getD 5 0)]) (.int .i64 t)).run Tryz.prog W = .ok (.int .i64 (r.2.2.getD t 0)) W := by
  have hu : Tryz.prog.underlying 224 = some (.array 6 3) := by kernel_rfl
  obtain rfl | rfl | rfl | rfl | rfl | rfl : t = 0 ∨ t = 1 ∨ t = 2 ∨ t = 3 ∨ t = 4 ∨ t = 5 := by omega
  all_goals simp [Instr.index, go_sem, hu]
theorem Rd.vietRows (w : World) : Rd eV (fun k => k = w.heap.size) (w.alloc (.cells vietC 226)) (.slice (some ⟨w.heap.size, 0, none⟩) 14 14) vietL :=
  (Own.lit (E := eV) (e := 226) (F := fun k => k = w.heap.size) (base := 0) w vietL (vietL.map vietRow) (by simp) (by decide) (Nat.zero_le _) rfl (fun k x cs hx hc => by
    simp only [List.getElem?_map, hx, Option.map_some, Option.some.injEq] at hc
    exact hc.symm)).rd

theorem VAt.push {FS : Nat → Prop} {w wr W1 w4 W4 w5 : World} {L : List (L3 × Int)} {x : L3} {s : Int} {A2 A3 A4 A5 : Option Addr} {n2 c2 n3 c3 n4 c4 n5 c5 : Nat}
    (h3 : Own (eI .i64) 3 FS w.heap.size wr (.slice A3 n3 c3) (L.map (·.2))) (h2z : ∀ k, Value.ownBlock (.slice A2 n2 c2) = some k → FS k ∧ k < wr.heap.size) (hd : ∀ k, Value.ownBlock (.slice A2 n2 c2) = some k → Value.ownBlock (.slice A3 n3 c3) ≠ some k)
    (u1 : Upd No wr W1) (h4 : Own eL 133 FS w.heap.size w4 (.slice A4 n4 c4) (L.map (·.1) ++ [x])) (u4 : Upd (fun k => some k = Value.ownBlock (.slice A2 n2 c2)) W1 w4)
    (a4 : Value.ownBlock (.slice A4 n4 c4) = Value.ownBlock (.slice A2 n2 c2) ∨ ∃ b, Value.ownBlock (.slice A4 n4 c4) = some b ∧ W1.heap.size ≤ b)
    (u5 : Upd No w4 W4) (h5 : Own (eI .i64) 3 FS w.heap.size w5 (.slice A5 n5 c5) (L.map (·.2) ++ [s])) (u6 : Upd (fun k => some k = Value.ownBlock (.slice A3 n3 c3)) W4 w5)
    (a5 : Value.ownBlock (.slice A5 n5 c5) = Value.ownBlock (.slice A3 n3 c3) ∨ ∃ b, Value.ownBlock (.slice A5 n5 c5) = some b ∧ W4.heap.size ≤ b) :
    VAt FS w (L ++ [(x, s)]) (.slice A4 n4 c4) (.slice A5 n5 c5) w5 ∧ Upd FS wr w5 := by
  have s1 := u1.size; have s4 := u4.size; have s5 := u5.size; have s6 := u6.size
  have hne : ∀ k, Value.ownBlock (.slice A4 n4 c4) = some k → Value.ownBlock (.slice A3 n3 c3) ≠ some k := by
    intro k hk e
    rcases a4 with a4 | ⟨b, hb, hb'⟩
    · rw [a4] at hk; exact hd k hk e
    · rw [hb] at hk; injection hk with hk; have := (h3.lt k e).2; omega
  refine ⟨⟨A4, n4, c4, A5, n5, c5, rfl, rfl, ?_, by simpa using h5, ?_⟩, ?_⟩
  · rw [List.map_append]
    exact (h4.keep u5 (fun _ _ h => h)).keep u6 (fun k hk e => hne k hk e.symm)
  · intro k hk e
    rcases a5 with a5 | ⟨b, hb, hb'⟩
    · rw [a5] at e; exact hne k hk e
    · rw [hb] at e; injection e with e; have := (h4.lt k hk).2; omega
  · exact ((u1.trans u4 (T := FS) (fun _ _ h => h.elim) (fun i hi e => (h2z i e.symm).1)).trans u5 (T := FS) (fun _ _ h => h) (fun _ _ h => h.elim)).trans u6 (fun _ _ h => h) (fun i hi e => h3.1 i e.symm)

theorem perRow_len (up : Bool) (r : Int × Int × List Int) (n : Nat) : (perRow up r n).length ≤ n := by
  induction n with
  | zero => simp [perRow]
  | succ n ih => rw [perRow_succ, List.length_append]; split <;> simp <;> omega
theorem perUp_len (up : Bool) (rs : List (Int × Int × List Int)) : (perUp up rs).length ≤ 6 * rs.length := by
  induction rs with
  | nil => simp [perUp]
  | cons r rs ih =>
    have e : perUp up (r :: rs) = perRow up r 6 ++ perUp up rs := by simp [perUp]
    have := perRow_len up r 6
    rw [e, List.length_append, List.length_cons]; omega
theorem upsL_len (j : Nat) (h : j < 2) : (upsL j).length ≤ 84 := by
  obtain rfl | rfl : j = 0 ∨ j = 1 := by omega
  · simp [upsL]
  · have := perUp_len false vietL
    have e : vietL.length = 14 := by decide
    simp only [upsL, List.take_succ_cons, List.take_zero, List.flatMap_cons, List.flatMap_nil, List.append_nil]; omega
theorem viet_getD {r : Int × Int × List Int} (h : ∀ s ∈ r.2.2, 0 ≤ s ∧ s ≤ 10000) (t : Nat) : 0 ≤ r.2.2.getD t 0 ∧ r.2.2.getD t 0 ≤ 10000 := by
  rw [List.getD_eq_getElem?_getD]
  cases e : r.2.2[t]? with
  | none => simp
  | some x => exact h x (List.mem_of_getElem? e)
set_option maxHeartbeats 8000000 in
theorem viet_All (w : World) : Calls Tryz.prog 95 #[] w fun e w' => ∃ A2 n2 c2 A3 n3 c3, e = .returned (.tuple #[.slice A2 n2 c2, .slice A3 n3 c3]) ∧
      Own eL 133 (fun k => w.heap.size ≤ k) w.heap.size w' (.slice A2 n2 c2) (allV.map (·.1)) ∧ Own (eI .i64) 3 (fun k => w.heap.size ≤ k) w.heap.size w' (.slice A3 n3 c3) (allV.map (·.2)) ∧ Upd No w w' := by
  go_enter Tryz.func95, Tryz.ntmps95
  go_upto_block 0 with fail
  obtain ⟨w0, hw0⟩ : ∃ w0 : World, w0 = w.alloc (.cells #[.bool false, .bool true] 4) := ⟨_, rfl⟩
  rw [← hw0]
  have hb0 : w0.cell? ⟨w.heap.size, 0, none⟩ = some (.bool false) := by rw [hw0]; simp [go_sem]
  have hb1 : w0.cell? ⟨w.heap.size, 1, none⟩ = some (.bool true) := by rw [hw0]; simp [go_sem]
  have hz0 : w0.heap.size = w.heap.size + 1 := by rw [hw0]; simp
  have hu0 : Upd No w w0 := by rw [hw0]; exact (Upd.refl _ _).alloc _
  clear hw0
  go_cut [2, 3] (fun v2 v3 wx => VAt (fun k => w.heap.size ≤ k) w allV v2 v3 wx ∧ Upd No w wx)
  case first =>
    go_wp2_with fail
    go_loopg [2, 3, 13] 2 (fun g v2 v3 k wr => ∃ j : Nat, k = .int .i64 j ∧ g + j = 2 ∧ VAt (fun k => w.heap.size < k) w (upsL j) v2 v3 wr ∧ Upd (fun k => w.heap.size < k) w0 wr)
    case atStart => exact ⟨0, rfl, rfl, ⟨none, 0, 0, none, 0, 0, rfl, rfl, Own.nil _ _ _ _ _, Own.nil _ _ _ _ _, fun k h => by simp [Value.ownBlock] at h⟩, Upd.refl _ _⟩
    case round =>
      obtain ⟨j, rfl, hgj, hv, hup⟩ := hrel
      by_cases hlt : j < 2
      · have hlt1 : decide ((j : Int) < 2) = true := by simp; omega
        obtain ⟨up, hupd⟩ : ∃ up, up = [false, true].getD j false := ⟨_, rfl⟩
        have hcell : wr.cell? ⟨w.heap.size, j, none⟩ = some (.bool up) := by
          obtain rfl | rfl : j = 0 ∨ j = 1 := by omega
          · rw [hupd]; exact hup.cell hb0 (by simp)
          · rw [hupd]; exact hup.cell hb1 (by simp)
        have HU : Hd (up = [false, true].getD j false) := ⟨hupd⟩
        have HV : Hd _ := ⟨hv⟩
        clear hupd
        go_upto_block 2 with (go_at_call 131; refine (viet_rows _).mono ?_; rintro e w2 ⟨rfl, rfl⟩)
        have hrows := Rd.vietRows wr
        have HRows : Hd _ := ⟨hrows⟩
        have hwz : w.heap.size < wr.heap.size := World.block_lt_of_cell? wr ⟨w.heap.size, j, none⟩ hcell
        obtain ⟨w1, hw1⟩ : ∃ w1 : World, w1 = wr.alloc (.cells vietC 226) := ⟨_, rfl⟩
        have hu1 : Upd No wr w1 := by rw [hw1]; exact (Upd.refl _ _).alloc _
        have hz1 : w1.heap.size = wr.heap.size + 1 := by rw [hw1]; simp
        rw [← hw1] at HRows ⊢
        clear hrows hw1
        obtain ⟨L, hL⟩ : ∃ L, L = upsL j := ⟨_, rfl⟩
        have HL : Hd (L = upsL j) := ⟨hL⟩
        rw [← hL] at hv
        clear hL HV
        obtain ⟨wo, rfl⟩ : ∃ wo : World, wo = wr := ⟨_, rfl⟩
        obtain ⟨g0, rfl⟩ : ∃ g0 : Nat, g0 = gk := ⟨_, rfl⟩
        go_wp2
        · go_loopg [2, 3, 19] 14 (fun g v2 v3 k wr2 => ∃ i : Nat, k = .int .i64 i ∧ g + i = 14 ∧ VAt (fun k => w.heap.size < k ∧ k ≠ wo.heap.size) w (L ++ perUp up (vietL.take i)) v2 v3 wr2 ∧ Upd (fun k => w.heap.size < k ∧ k ≠ wo.heap.size) w1 wr2)
          case atStart => exact ⟨0, rfl, rfl, by simpa [perUp] using (hv.foot (FS' := fun k => w.heap.size < k ∧ k ≠ wo.heap.size) (fun k h h' => ⟨h, by omega⟩)).upd hu1 (fun _ _ h => h), Upd.refl _ _⟩
          case round =>
            obtain ⟨i, rfl, hgi, hv2, hup2⟩ := hrel
            by_cases hlti : i < 14
            · have hlti1 : decide ((i : Int) < 14) = true := by simp; omega
              obtain ⟨r, cs, hx, hrep, hcl, _, hbz⟩ := (HRows.out.upd hup2 (fun k hk h => h.2 hk)).at' hlti
              obtain rfl : cs = vietRow r := hrep
              have e0 := hcl 0 _ rfl
              have e1 := hcl 1 _ rfl
              have e2 := hcl 2 _ rfl
              have e3 := hcl 3 _ rfl
              have e4 := hcl 4 _ rfl
              have e5 := hcl 5 _ rfl
              have e6 := hcl 6 _ rfl
              have e7 := hcl 7 _ rfl
              simp only [show eV.sz = 8 from rfl, Nat.zero_add, Nat.add_zero] at e0 e1 e2 e3 e4 e5 e6 e7
              have hbd := viet_bd r (List.mem_of_getElem? hx)
              have HBd : Hd _ := ⟨hbd⟩
              have HX : Hd (vietL.take (i + 1) = vietL.take i ++ [r]) := ⟨by rw [List.take_add_one, hx]; rfl⟩
              obtain ⟨s0, q0⟩ : ∃ s0, s0 = r.2.2.getD 0 0 := ⟨_, rfl⟩
              obtain ⟨s1, q1⟩ : ∃ s1, s1 = r.2.2.getD 1 0 := ⟨_, rfl⟩
              obtain ⟨s2, q2⟩ : ∃ s2, s2 = r.2.2.getD 2 0 := ⟨_, rfl⟩
              obtain ⟨s3, q3⟩ : ∃ s3, s3 = r.2.2.getD 3 0 := ⟨_, rfl⟩
              obtain ⟨s4, q4⟩ : ∃ s4, s4 = r.2.2.getD 4 0 := ⟨_, rfl⟩
              obtain ⟨s5, q5⟩ : ∃ s5, s5 = r.2.2.getD 5 0 := ⟨_, rfl⟩
              rw [← q0] at e2; rw [← q1] at e3; rw [← q2] at e4; rw [← q3] at e5; rw [← q4] at e6; rw [← q5] at e7
              have HIdx : Hd (∀ t : Nat, t < 6 → ∀ W, (Instr.index 224 (.agg #[.int .i64 s0, .int .i64 s1, .int .i64 s2, .int .i64 s3, .int .i64 s4, .int .i64 s5]) (.int .i64 t)).run Tryz.prog W = .ok (.int .i64 (r.2.2.getD t 0)) W) := ⟨fun t ht W => by rw [q0, q1, q2, q3, q4, q5]; exact idx6 r t ht W⟩
              clear q0 q1 q2 q3 q4 q5 hcl hx hbd
              obtain ⟨wp, rfl⟩ : ∃ wp : World, wp = wr := ⟨_, rfl⟩
              obtain ⟨g1, rfl⟩ : ∃ g1 : Nat, g1 = gk := ⟨_, rfl⟩
              obtain ⟨w3, hw3⟩ : ∃ w3 : World, w3 = wp.alloc (.cells #[.int .i64 r.1, .int .i64 r.2.1, .int .i64 s0, .int .i64 s1, .int .i64 s2, .int .i64 s3, .int .i64 s4, .int .i64 s5] 226) := ⟨_, rfl⟩
              have c0 : w3.cell? ⟨wp.heap.size, 0, none⟩ = some (.int .i64 r.1) := by rw [hw3]; simp [go_sem]
              have c1 : w3.cell? ⟨wp.heap.size, 1, none⟩ = some (.int .i64 r.2.1) := by rw [hw3]; simp [go_sem]
              have hu3 : Upd No wp w3 := by rw [hw3]; exact (Upd.refl _ _).alloc _
              have hwpz : wo.heap.size < wp.heap.size := by have := hup2.size; omega
              obtain ⟨M, hM⟩ : ∃ M, M = L ++ perUp up (vietL.take i) := ⟨_, rfl⟩
              have HM : Hd (M = L ++ perUp up (vietL.take i)) := ⟨hM⟩
              rw [← hM] at hv2
              have HLen : Hd (∀ up r t, t ≤ 6 → (M ++ perRow up r t).length ≤ 100000) := ⟨fun u2 r2 t2 h2 => by
                have a1 := perRow_len u2 r2 t2
                have a2 := perUp_len up (vietL.take i)
                have a3 := upsL_len j (by omega)
                have a4 : (vietL.take i).length ≤ 14 := by rw [List.length_take]; have : vietL.length = 14 := by decide
                                                           omega
                rw [hM, HL.out]; simp only [List.length_append]; omega⟩
              have hz3 : w3.heap.size = wp.heap.size + 1 := by rw [hw3]; simp
              have HW3 : Hd _ := ⟨hw3⟩
              clear hM hw3
              go_wp2
              rw [← HW3.out]
              clear e0 e1 e2 e3 e4 e5 e6 e7
              go_loopg [2, 3, 25] 6 (fun g v2 v3 k wr3 => ∃ t : Nat, k = .int .i64 t ∧ g + t = 6 ∧ VAt (fun k => w.heap.size < k ∧ k ≠ wo.heap.size ∧ k ≠ wp.heap.size) w (M ++ perRow up r t) v2 v3 wr3 ∧ Upd (fun k => w.heap.size < k ∧ k ≠ wo.heap.size ∧ k ≠ wp.heap.size) w3 wr3)
              case atStart => exact ⟨0, rfl, rfl, by simpa [perRow] using (hv2.foot (FS' := fun k => w.heap.size < k ∧ k ≠ wo.heap.size ∧ k ≠ wp.heap.size) (fun k h h' => ⟨h.1, h.2, by omega⟩)).upd hu3 (fun _ _ h => h), Upd.refl _ _⟩
              case round =>
                obtain ⟨t, rfl, hgt, hv3, hup3⟩ := hrel
                have d0 := hup3.cell c0 (fun h => h.2.2 rfl)
                have d1 := hup3.cell c1 (fun h => h.2.2 rfl)
                by_cases hltt : t < 6
                · have hltt1 : decide ((t : Int) < 6) = true := by simp; omega
                  have hidx := HIdx.out t hltt
                  obtain ⟨s, hs⟩ : ∃ s, s = r.2.2.getD t 0 := ⟨_, rfl⟩
                  have HS : Hd (s = r.2.2.getD t 0) := ⟨hs⟩
                  rw [← hs] at hidx
                  clear hs
                  by_cases hsz : s = 0
                  · have k1 : (s == 0) = true := by simp [hsz]
                    have HZ : Hd (s = 0) := ⟨hsz⟩
                    clear hsz
                    go_wp2
                    go_roundg (gk - 1)
                    case measure => omega
                    case rel =>
                      go_light
                      exact ⟨t + 1, by go_num, by omega, by rw [perRow_succ, ← HS.out, if_pos HZ.out, List.append_nil]; exact hv3, hup3⟩
                  · have k1 : (s == 0) = false := by simpa using hsz
                    have HZ : Hd (¬ s = 0) := ⟨hsz⟩
                    obtain ⟨A2, n2, c2, A3, n3, c3, rfl, rfl, h2, h3, hd⟩ := hv3
                    have hbd := HBd.out
                    have hwrz : wp.heap.size < wr.heap.size := by have := hup3.size; omega
                    have hww : w.heap.size < wo.heap.size := hwz
                    have hsb : 0 ≤ s ∧ s ≤ 10000 := by rw [HS.out]; exact viet_getD hbd.2.2 t
                    have hcm := fun W => conv_f r.2.1 (by omega) (by omega) W
                    have hct := fun W => conv_f t (by omega) (by omega) W
                    have hl2 : ((M ++ perRow up r t).map (·.1)).length ≤ 100000 := by rw [List.length_map]; exact HLen.out up r t (by omega)
                    have hl3 : ((M ++ perRow up r t).map (·.2)).length ≤ 100000 := by rw [List.length_map]; exact HLen.out up r t (by omega)
                    clear hsz
                    cases up with
                    | false =>
                      go_wp2_with (first
                        | (at_builtin; go_loud (refine wp_appendLit (F := fun k => w.heap.size < k ∧ k ≠ wo.heap.size ∧ k ≠ wp.heap.size) eL w.heap.size rfl (.tmp 38) (.tmp 47) 170 133 _ 24 rfl Tryz.underlying170 info_Letter rfl (by decide) (.slice A2 n2 c2) _ [(r.1, r.2.1, (t : Int))] [[.int .i64 r.1, .complex .f64 (fB r.2.1) (fB t)]] _ 1 rfl rfl rfl rfl rfl h2 ?qhr ?qnew ?qb ?ql (by decide) ?_)))
                      case qhr => intro k y cs hy hc; cases k with
                        | zero => simp at hy hc; subst hy; subst hc; rfl
                        | succ k => simp at hy
                      case qnew => intro k hk; omega
                      case qb => omega
                      case ql => simp at hl2 ⊢; omega
                      intro A4 n4 c4 w4 h4 u4 a4
                      have hz4 := u4.size
                      have h34 := h3.keep u4 (fun k hk e => hd k e.symm hk)
                      go_wp2_with (at_builtin; go_loud (refine wp_appendLit (F := fun k => w.heap.size < k ∧ k ≠ wo.heap.size ∧ k ≠ wp.heap.size) (eI .i64) w.heap.size rfl (.tmp 49) (.tmp 51) 34 3 _ 8 rfl Tryz.underlying34 info_int rfl (by decide) (.slice A3 n3 c3) _ [s] [[.int .i64 s]] _ 1 rfl rfl rfl rfl rfl h34 ?qhr ?qnew ?qb ?ql (by decide) ?_))
                      case qhr => intro k y cs hy hc; cases k with
                        | zero => simp at hy hc; subst hy; subst hc; rfl
                        | succ k => simp at hy
                      case qnew => intro k hk; (try simp at hz4); omega
                      case qb => (try simp at hz4); omega
                      case ql => simp at hl3 ⊢; omega
                      intro A5 n5 c5 w5 h5 u5 a5
                      go_wp2
                      go_roundg (gk - 1)
                      case measure => omega
                      case rel =>
                        go_light
                        obtain ⟨hva, hua⟩ := VAt.push h3 (fun k hk => ⟨h2.1 k hk, (h2.lt k hk).2⟩) hd (Upd.refl _ _) (by simpa using h4) u4 a4 (Upd.refl _ _) (by simpa using h5) u5 a5
                        exact ⟨t + 1, by go_num, by omega, by rw [perRow_succ, ← HS.out, if_neg HZ.out, ← List.append_assoc]; exact hva, hup3.trans hua (fun _ _ h => h) (fun _ _ h => h)⟩
                    | true =>
                      go_wp2_with (first
                        | (go_at_call 132; go_loud (refine (viet_Upper _ _ (by omega) (by omega)).mono ?_; rintro e w9 ⟨rfl, rfl⟩))
                        | (at_builtin; go_loud (refine wp_appendLit (F := fun k => w.heap.size < k ∧ k ≠ wo.heap.size ∧ k ≠ wp.heap.size) eL w.heap.size rfl (.tmp 38) (.tmp 47) 170 133 _ 24 rfl Tryz.underlying170 info_Letter rfl (by decide) (.slice A2 n2 c2) _ [((upV r.1), r.2.1, (t : Int))] [[.int .i64 (upV r.1), .complex .f64 (fB r.2.1) (fB t)]] _ 1 rfl rfl rfl rfl rfl h2 ?qhr ?qnew ?qb ?ql (by decide) ?_)))
                      case qhr => intro k y cs hy hc; cases k with
                        | zero => simp at hy hc; subst hy; subst hc; rfl
                        | succ k => simp at hy
                      case qnew => intro k hk; omega
                      case qb => omega
                      case ql => simp at hl2 ⊢; omega
                      intro A4 n4 c4 w4 h4 u4 a4
                      have hz4 := u4.size
                      have h34 := h3.keep u4 (fun k hk e => hd k e.symm hk)
                      go_wp2_with (at_builtin; go_loud (refine wp_appendLit (F := fun k => w.heap.size < k ∧ k ≠ wo.heap.size ∧ k ≠ wp.heap.size) (eI .i64) w.heap.size rfl (.tmp 49) (.tmp 51) 34 3 _ 8 rfl Tryz.underlying34 info_int rfl (by decide) (.slice A3 n3 c3) _ [(upV s)] [[.int .i64 (upV s)]] _ 1 rfl rfl rfl rfl rfl h34 ?qhr ?qnew ?qb ?ql (by decide) ?_))
                      case qhr => intro k y cs hy hc; cases k with
                        | zero => simp at hy hc; subst hy; subst hc; rfl
                        | succ k => simp at hy
                      case qnew => intro k hk; (try simp at hz4); omega
                      case qb => (try simp at hz4); omega
                      case ql => simp at hl3 ⊢; omega
                      intro A5 n5 c5 w5 h5 u5 a5
                      go_wp2
                      go_roundg (gk - 1)
                      case measure => omega
                      case rel =>
                        go_light
                        obtain ⟨hva, hua⟩ := VAt.push h3 (fun k hk => ⟨h2.1 k hk, (h2.lt k hk).2⟩) hd (Upd.refl _ _) (by simpa using h4) u4 a4 (Upd.refl _ _) (by simpa using h5) u5 a5
                        exact ⟨t + 1, by go_num, by omega, by rw [perRow_succ, ← HS.out, if_neg HZ.out, ← List.append_assoc]; exact hva, hup3.trans hua (fun _ _ h => h) (fun _ _ h => h)⟩
                · have hltt1 : decide ((t : Int) < 6) = false := by simp; omega
                  obtain rfl : t = 6 := by omega
                  go_wp2
                  go_roundg (g1 - 1)
                  case measure => omega
                  case rel =>
                    go_light
                    exact ⟨i + 1, by go_num, by omega, by rw [HX.out, perUp_snoc, ← List.append_assoc, ← HM.out]; exact hv3.foot (fun k h _ => ⟨h.1, h.2.1⟩), (hup2.trans hu3 (T := fun k => w.heap.size < k ∧ k ≠ wo.heap.size) (fun _ _ h => h) (fun _ _ h => h.elim)).trans hup3 (fun _ _ h => h) (fun _ _ h => ⟨h.1, h.2.1⟩)⟩
            · have hlti1 : decide ((i : Int) < 14) = false := by simp; omega
              have h1 : vietL.take i = vietL := List.take_of_length_le (by have : vietL.length = 14 := by decide
                                                                           omega)
              rw [h1] at hv2
              go_wp2
              go_roundg (g0 - 1)
              case measure => omega
              case rel =>
                go_light
                exact ⟨j + 1, by go_num, by omega, by rw [upsL_succ j hlt, ← HL.out, ← HU.out]; exact hv2.foot (fun k h _ => h.1), (hup.trans hu1 (T := fun k => w.heap.size < k) (fun _ _ h => h) (fun _ _ h => h.elim)).trans hup2 (fun _ _ h => h) (fun _ _ h => h.1)⟩
      · have hlt1 : decide ((j : Int) < 2) = false := by simp; omega
        obtain rfl : j = 2 := by omega
        rw [upsL_2] at hv
        go_wp2_with fail
        go_meet
        go_light
        exact ⟨hv.foot (fun k h _ => by omega), (hu0.trans hup (T := No) (fun _ _ h => h) (fun i hi h => by omega))⟩
  case rest =>
    obtain ⟨⟨A2, n2, c2, A3, n3, c3, rfl, rfl, h2, h3, hd⟩, hu⟩ := hcut
    go_wp2
    go_ret2
    exact ⟨A2, n2, c2, A3, n3, c3, rfl, h2, h3, hu⟩
end Go.Proofs.YtebgjabalnffdaaGreatDoor
