/- vni.Small. -/
import Derived.Test.YtebgjabalnffdaaGreatDoorVni
import Derived.Maps.Own
import Derived.Maps.Views
set_option linter.unusedVariables false
set_option linter.unusedSimpArgs false
set_option maxRecDepth 100000
namespace Go.Proofs.YtebgjabalnffdaaGreatDoor
open Go.RowKit

theorem Tryz.mapII : Tryz.prog.underlying 227 = some (.map 3 3) := by kernel_rfl
theorem Tryz.uint64 : Tryz.prog.underlying 3 = some (.int .i64) := by kernel_rfl
theorem Tryz.zeroInt (w : World) : (zeroValue 3).run Tryz.prog w = .ok (.int .i64 0) w := by kernel_rfl

def smallS (l : L3) : List Int :=
  match joinS l with
  | none => []
  | some s => if aloneV s > 0 then [aloneV s] else
    if (signsV l.2.1).getD l.2.2.toNat 0 > 0 then [if l.2.1 = 3 then (if l.1 = 111 then 244 else 246) else l.1, (signsV l.2.1).getD l.2.2.toNat 0] else [if l.2.1 = 3 then (if l.1 = 111 then 244 else 246) else l.1]
theorem conv_i (n : Int) (h0 : 0 ≤ n) (h1 : n ≤ 5) (w : World) : (convert 204 3 (.float .f64 (fB n))).run Tryz.prog w = .ok (.int .i64 n) w := by
  obtain rfl | rfl | rfl | rfl | rfl | rfl : n = 0 ∨ n = 1 ∨ n = 2 ∨ n = 3 ∨ n = 4 ∨ n = 5 := by omega
  all_goals kernel_rfl
theorem idxS (m : Int) (t : Nat) (h : t < 6) (W : World) : (Instr.index 224 (.agg ((signsV m).map (Value.int .i64)).toArray) (.int .i64 t)).run Tryz.prog W = .ok (.int .i64 ((signsV m).getD t 0)) W := by
  unfold signsV
  split
  · obtain rfl | rfl | rfl | rfl | rfl | rfl : t = 0 ∨ t = 1 ∨ t = 2 ∨ t = 3 ∨ t = 4 ∨ t = 5 := by omega
    all_goals kernel_rfl
  · split
    · obtain rfl | rfl | rfl | rfl | rfl | rfl : t = 0 ∨ t = 1 ∨ t = 2 ∨ t = 3 ∨ t = 4 ∨ t = 5 := by omega
      all_goals kernel_rfl
    · obtain rfl | rfl | rfl | rfl | rfl | rfl : t = 0 ∨ t = 1 ∨ t = 2 ∨ t = 3 ∨ t = 4 ∨ t = 5 := by omega
      all_goals kernel_rfl
def NewInts (w : World) (xs : List Int) (e : Ending) (w' : World) : Prop :=
  ∃ A n c, e = .returned (.slice A n c) ∧ Own (eI .i64) 3 (fun k => w.heap.size ≤ k) w.heap.size w' (.slice A n c) xs ∧ Upd No w w'
theorem NewInts.one {w w1 : World} (h : Upd No w w1) (x : Int) {ty : Nat} (ht : ty = 3) : NewInts w [x] (.returned (.slice (some ⟨w1.heap.size, 0, none⟩) 1 1)) (w1.alloc (.cells #[.int .i64 x] ty)) := by
  subst ht
  refine ⟨_, _, _, rfl, ?_, h.alloc _⟩
  exact Own.lit (E := eI .i64) (e := 3) (F := fun k => w.heap.size ≤ k) (base := w.heap.size) w1 [x] [[.int .i64 x]] rfl (by simp) h.size h.size (fun j y cs hx hc => by
    cases j with
    | zero => simp at hx hc; subst hx; subst hc; rfl
    | succ j => simp at hx)
theorem NewInts.two {w w1 : World} (h : Upd No w w1) (x y : Int) {ty : Nat} (ht : ty = 3) : NewInts w [x, y] (.returned (.slice (some ⟨w1.heap.size, 0, none⟩) 2 2)) (w1.alloc (.cells #[.int .i64 x, .int .i64 y] ty)) := by
  subst ht
  refine ⟨_, _, _, rfl, ?_, h.alloc _⟩
  exact Own.lit (E := eI .i64) (e := 3) (F := fun k => w.heap.size ≤ k) (base := w.heap.size) w1 [x, y] [[.int .i64 x], [.int .i64 y]] rfl (by simp) h.size h.size (fun j y cs hx hc => by
    match j with
    | 0 => simp at hx hc; subst hx; subst hc; rfl
    | 1 => simp at hx hc; subst hx; subst hc; rfl
    | j + 2 => simp at hx)
set_option maxHeartbeats 4000000 in
theorem vni_Small (w : World) (l : L3) (h0 : 0 ≤ l.2.1 ∧ l.2.1 ≤ 5) (h2 : 0 ≤ l.2.2 ∧ l.2.2 ≤ 5) (h3 : l.2.1 = 3 → l.1 = 111 ∨ l.1 = 117) :
    Calls Tryz.prog 96 #[.agg #[.int .i64 l.1, .complex .f64 (fB l.2.1) (fB l.2.2)]] w (NewInts w (smallS l)) := by
  obtain ⟨l1, l2, l3⟩ := l
  simp only at h0 h2 h3 ⊢
  have HL0 : Hd (0 ≤ l2 ∧ l2 ≤ 5) := ⟨h0⟩
  have HL2 : Hd (0 ≤ l3 ∧ l3 ≤ 5) := ⟨h2⟩
  have HL3 : Hd _ := ⟨h3⟩
  obtain ⟨t, rfl⟩ : ∃ t : Nat, l3 = t := ⟨l3.toNat, by omega⟩
  have HIX : Hd _ := ⟨fun W => idxS l2 t (by omega) W⟩
  have hc2 := fun W => conv_i l2 (by omega) (by omega) W
  have hc3 := fun W => conv_i (t : Int) (by omega) (by omega) W
  have HJ : Hd _ := ⟨fun W => viet_Join W (l1, l2, (t : Int)) h0 h2⟩
  have hre : ∀ a b ty W, (Builtin.real_ #[131] ty #[.complex .f64 a b]).run Tryz.prog W = .ok (.float .f64 a) W := fun _ _ _ _ => by kernel_rfl
  have him : ∀ a b ty W, (Builtin.imag_ #[131] ty #[.complex .f64 a b]).run Tryz.prog W = .ok (.float .f64 b) W := fun _ _ _ _ => by kernel_rfl
  simp only at HJ
  obtain ⟨bl2, hbl2⟩ : ∃ b, b = fB l2 := ⟨_, rfl⟩
  obtain ⟨bl3, hbl3⟩ : ∃ b, b = fB (t : Int) := ⟨_, rfl⟩
  rw [← hbl2, ← hbl3] at HJ
  rw [← hbl2] at hc2 ⊢
  rw [← hbl3] at hc3 ⊢
  obtain ⟨W0, hW0⟩ : ∃ W0 : World, W0 = w.alloc (.cells #[.int .i64 l1, .complex .f64 bl2 bl3] 133) := ⟨_, rfl⟩
  have q0 : W0.cell? ⟨w.heap.size, 0, none⟩ = some (.int .i64 l1) := by rw [hW0]; simp [go_sem]
  have q1 : W0.cell? ⟨w.heap.size, 1, none⟩ = some (.complex .f64 bl2 bl3) := by rw [hW0]; simp [go_sem]
  have qu : Upd No w W0 := by rw [hW0]; exact (Upd.refl _ _).alloc _
  have HW0 : Hd _ := ⟨hW0⟩
  clear hbl2 hbl3 hW0 h0 h2 h3
  obtain ⟨r, hr⟩ : ∃ r, joinS (l1, l2, (t : Int)) = r := ⟨_, rfl⟩
  have HR : Hd _ := ⟨hr⟩
  rw [hr] at HJ
  clear hr
  cases r with
  | none =>
    go_enter Tryz.func96, Tryz.ntmps96
    go_wp2_with fail
    rw [← HW0.out]
    refine (HJ.out _).mono ?_
    rintro e w1 ⟨rfl, u1⟩
    go_wp2
    go_ret
    go_light
    rw [smallS, HR.out]
    exact ⟨none, 0, 0, rfl, Own.nil _ _ _ _ _, qu.trans u1 (fun _ _ h => h) (fun _ _ h => h)⟩
  | some s =>
    obtain ⟨al, hal⟩ : ∃ al, aloneV s = al := ⟨_, rfl⟩
    have HAl : Hd _ := ⟨hal⟩
    have HA : Hd _ := ⟨fun W => vni_alone W s⟩
    rw [hal] at HA
    by_cases ha : 0 < al
    · have HAp : Hd (al > 0) := ⟨ha⟩
      have k1 : decide (0 < al) = true := by simpa using ha
      clear hal
      go_enter Tryz.func96, Tryz.ntmps96
      go_wp2_with fail
      rw [← HW0.out]
      refine (HJ.out _).mono ?_
      rintro e w1 ⟨rfl, u1⟩
      go_wp2_with (go_at_call 133; go_loud (refine (HA.out _).mono ?_; rintro e w2 ⟨rfl, rfl⟩))
      go_ret
      go_light
      have e : smallS (l1, l2, (t : Int)) = [al] := by simp only [smallS, HR.out, HAl.out]; rw [if_pos HAp.out]
      rw [e]
      exact NewInts.one (qu.trans u1 (fun _ _ h => h) (fun _ _ h => h)) al rfl
    · have HAp : Hd (¬ al > 0) := ⟨ha⟩
      have k1 : decide (0 < al) = false := by simpa using ha
      obtain ⟨c, hc⟩ : ∃ c, (signsV l2).getD t 0 = c := ⟨_, rfl⟩
      have HC : Hd _ := ⟨hc⟩
      rw [hc] at HIX
      have HS : Hd _ := ⟨fun W => vni_signs W l2⟩
      obtain ⟨arr, harr⟩ : ∃ arr, ((signsV l2).map (Value.int .i64)).toArray = arr := ⟨_, rfl⟩
      rw [harr] at HIX HS
      have hix := HIX.out
      clear hal hc harr
      have e : ∀ bs, (if l2 = 3 then (if l1 = 111 then 244 else 246) else l1) = bs → smallS (l1, l2, (t : Int)) = if c > 0 then [bs, c] else [bs] := by
        intro bs hbs
        simp only [smallS, HR.out, HAl.out, Int.toNat_natCast]
        rw [if_neg HAp.out, HC.out, hbs]
      have HE : Hd _ := ⟨e⟩
      clear e
      by_cases hm : l2 = 3
      · have HM : Hd (l2 = 3) := ⟨hm⟩
        have k2 : (l2 == 3) = true := by simp [hm]
        obtain ⟨bs, hl1, hbs⟩ : ∃ bs : Int, ((l1 = 111 ∧ bs = 244) ∨ (l1 = 117 ∧ bs = 246)) ∧ (if l2 = 3 then (if l1 = 111 then 244 else 246) else l1) = bs := by
          rcases HL3.out hm with h | h
          · exact ⟨244, .inl ⟨h, rfl⟩, by rw [if_pos hm, if_pos h]⟩
          · exact ⟨246, .inr ⟨h, rfl⟩, by rw [if_pos hm, if_neg (by omega)]⟩
        have HBs : Hd _ := ⟨hbs⟩
        have HL1 : Hd _ := ⟨hl1⟩
        clear hm hbs hl1
        go_enter Tryz.func96, Tryz.ntmps96
        go_wp2_with fail
        rw [← HW0.out]
        refine (HJ.out _).mono ?_
        rintro e w1 ⟨rfl, u1⟩
        have d0 := u1.cell q0 (fun h => h)
        have d1 := u1.cell q1 (fun h => h)
        go_wp2_with (go_at_call 133; go_loud (refine (HA.out _).mono ?_; rintro e w2 ⟨rfl, rfl⟩))
        go_quiet (fail)
        obtain ⟨w2, hw2⟩ : ∃ w2 : World, w2 = w1.drewN nq := ⟨_, rfl⟩
        have u2 : Upd No w w2 := by rw [hw2]; exact (qu.trans u1 (T := No) (fun _ _ h => h) (fun _ _ h => h)).drewN _
        have HW2 : Hd _ := ⟨hw2⟩
        rw [← hw2]
        clear hw2
        have hmm := @run_makeMap Tryz.prog
        have o3 := World.ownsMap_made (H := Unit) w2 Tryz.prog 3 (plainElem Tryz.prog 3)
        obtain ⟨W4, hr4, o4, g4⟩ := o3.update (Go.Maps.int_keyed Tryz.uint64) Tryz.mapII (by decide) (Go.Maps.keyOf_int_mk Tryz.uint64 (a := 111) (by decide)) (plainElem_int Tryz.uint64 (a := 244) (by decide))
        obtain ⟨W5, hr5, o5, g5⟩ := o4.update (Go.Maps.int_keyed Tryz.uint64) Tryz.mapII (by decide) (Go.Maps.keyOf_int_mk Tryz.uint64 (a := 117) (by decide)) (plainElem_int Tryz.uint64 (a := 246) (by decide))
        have u5 : Upd No w W5 := by
          refine ((u2.alloc (.map #[] 0)).trans (Upd.ofGrown g4) (T := No) (fun _ _ h => h) (fun i hi h => ?_)).trans (Upd.ofGrown g5) (fun _ _ h => h) (fun i hi h => ?_)
          all_goals injection h with h; have := u2.size; omega
        have hr6 : (Instr.lookup 227 (.map (some w2.heap.size)) (.int .i64 l1) false).run Tryz.prog W5 = .ok (.int .i64 bs) W5 := by
          rcases HL1.out with ⟨rfl, rfl⟩ | ⟨rfl, rfl⟩
          · obtain ⟨c6, hr6, hat, _⟩ := o5.lookup_int (Go.Maps.int_keyed Tryz.uint64) Tryz.mapII Tryz.uint64 (Tryz.zeroInt _) (Go.Maps.keyOf_int_mk Tryz.uint64 (a := 111) (by decide))
            rw [Go.Maps.atKey_put_other (by simp), Go.Maps.atKey_put_same ⟨_, rfl⟩ (by simp [WideAt.IsKeyLit])] at hat
            injection hat with hat; injection hat with _ hat
            rw [hr6, hat]
          · obtain ⟨c6, hr6, hat, _⟩ := o5.lookup_int (Go.Maps.int_keyed Tryz.uint64) Tryz.mapII Tryz.uint64 (Tryz.zeroInt _) (Go.Maps.keyOf_int_mk Tryz.uint64 (a := 117) (by decide))
            rw [Go.Maps.atKey_put_same (D := (DataW.map []).put _ _) ⟨_, rfl⟩ (by simp [WideAt.IsKeyLit])] at hat
            injection hat with hat; injection hat with _ hat
            rw [hr6, hat]
        clear o3 o4 o5 g4 g5
        have HE2 := HE.out _ HBs.out
        have HE3 : Hd _ := ⟨HE2⟩
        clear HE2
        by_cases hc : 0 < c
        · have k3 : decide (0 < c) = true := by simpa using hc
          have HCp : Hd (c > 0) := ⟨hc⟩
          clear hc
          go_wp2_with (go_at_call 134; go_loud (refine (HS.out _).mono ?_; rintro e w3 ⟨rfl, u3⟩))
          go_ret
          go_light
          rw [HE3.out, if_pos (show c > 0 from HCp.out)]
          exact NewInts.two (u5.trans u3 (fun _ _ h => h) (fun _ _ h => h)) bs c rfl
        · have k3 : decide (0 < c) = false := by simpa using hc
          have HCp : Hd (c ≤ 0) := ⟨by omega⟩
          clear hc
          go_wp2_with (go_at_call 134; go_loud (refine (HS.out _).mono ?_; rintro e w3 ⟨rfl, u3⟩))
          go_ret
          go_light
          rw [HE3.out, if_neg (show ¬ c > 0 by have := HCp.out; omega)]
          exact NewInts.one (u5.trans u3 (fun _ _ h => h) (fun _ _ h => h)) bs rfl
      · have k2 : (l2 == 3) = false := by simpa using hm
        have hbs : (if l2 = 3 then (if l1 = 111 then 244 else 246) else l1) = l1 := by rw [if_neg hm]
        have HBs : Hd _ := ⟨HE.out _ hbs⟩
        clear hm hbs
        by_cases hc : 0 < c
        · have k3 : decide (0 < c) = true := by simpa using hc
          have HCp : Hd (c > 0) := ⟨hc⟩
          clear hc
          go_enter Tryz.func96, Tryz.ntmps96
          go_wp2_with fail
          rw [← HW0.out]
          refine (HJ.out _).mono ?_
          rintro e w1 ⟨rfl, u1⟩
          have d0 := u1.cell q0 (fun h => h)
          have d1 := u1.cell q1 (fun h => h)
          go_wp2_with (go_at_call 133; go_loud (refine (HA.out _).mono ?_; rintro e w2 ⟨rfl, rfl⟩))
          go_quiet (fail)
          go_wp2_with (go_at_call 134; go_loud (refine (HS.out _).mono ?_; rintro e w3 ⟨rfl, u3⟩))
          go_ret
          go_light
          rw [HBs.out, if_pos HCp.out]
          exact NewInts.two ((qu.trans u1 (T := No) (fun _ _ h => h) (fun _ _ h => h)).drewN _ |>.trans u3 (fun _ _ h => h) (fun _ _ h => h)) l1 c rfl
        · have k3 : decide (0 < c) = false := by simpa using hc
          have HCp : Hd (¬ c > 0) := ⟨hc⟩
          clear hc
          go_enter Tryz.func96, Tryz.ntmps96
          go_wp2_with fail
          rw [← HW0.out]
          refine (HJ.out _).mono ?_
          rintro e w1 ⟨rfl, u1⟩
          have d0 := u1.cell q0 (fun h => h)
          have d1 := u1.cell q1 (fun h => h)
          go_wp2_with (go_at_call 133; go_loud (refine (HA.out _).mono ?_; rintro e w2 ⟨rfl, rfl⟩))
          go_quiet (fail)
          go_wp2_with (go_at_call 134; go_loud (refine (HS.out _).mono ?_; rintro e w3 ⟨rfl, u3⟩))
          go_ret
          go_light
          rw [HBs.out, if_neg (show ¬ c > 0 by have := HCp.out; omega)]
          exact NewInts.one ((qu.trans u1 (T := No) (fun _ _ h => h) (fun _ _ h => h)).drewN _ |>.trans u3 (fun _ _ h => h) (fun _ _ h => h)) l1 rfl
end Go.Proofs.YtebgjabalnffdaaGreatDoor
