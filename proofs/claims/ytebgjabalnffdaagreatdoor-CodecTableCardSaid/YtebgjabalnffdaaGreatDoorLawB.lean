/- The laws' own words: Same, All. -/
import Derived.Test.YtebgjabalnffdaaGreatDoorLawA
set_option linter.unusedVariables false
set_option linter.unusedSimpArgs false
set_option maxRecDepth 100000
namespace Go.Proofs.YtebgjabalnffdaaGreatDoor
open Go.RowKit

theorem Drew.more {w w1 : World} (h : Drew w w1) (n : Nat) : Drew w (w1.drewN n) := by obtain ⟨m, rfl⟩ := h; exact ⟨_, World.drewN_drewN ..⟩
theorem tok_take {xs ys : List Tok} {k : Nat} (h1 : k < xs.length) (h2 : k < ys.length) : xs.take (k + 1) = ys.take (k + 1) ↔ xs.take k = ys.take k ∧ xs[k] = ys[k] := by
  rw [List.take_succ_eq_append_getElem h1, List.take_succ_eq_append_getElem h2]
  constructor
  · intro h
    have := List.append_inj h (by simp; omega)
    simpa using this
  · rintro ⟨h, h'⟩; rw [h, h']
theorem tok_ne {x y : Tok} (h : x.pos ≠ y.pos ∨ x.len ≠ y.len ∨ x.err ≠ y.err ∨ x.out ≠ y.out) : x ≠ y := by
  intro e; subst e; simp at h
theorem tok_eq4 {x y : Tok} (h1 : x.pos = y.pos) (h2 : x.len = y.len) (h3 : x.err = y.err) (h4 : x.out = y.out) : x = y := by
  cases x; cases y; simp_all
set_option maxHeartbeats 8000000 in
theorem law_Same {F F' : Nat → Prop} {w : World} {v v' : Value} {xs ys : List Tok} (hx : Rd eTok F w v xs) (hy : Rd eTok F' w v' ys) :
    Calls Tryz.prog 18 #[v, v'] w fun e w' => e = .returned (.bool (decide (xs = ys))) ∧ Drew w w' := by
  obtain ⟨A, c, rfl⟩ := hx.form
  obtain ⟨A', c', rfl⟩ := hy.form
  have hm := hx.max
  by_cases hl : xs.length = ys.length
  · have hl1 : ((xs.length : Int) != (ys.length : Int)) = false := by simp [hl]
    have HX : Hd _ := ⟨hx⟩
    have HY : Hd _ := ⟨hy⟩
    have HL : Hd _ := ⟨hl⟩
    have hyl : ys.length = xs.length := hl.symm
    clear hx hy hl
    go_enter Tryz.func18, Tryz.ntmps18
    go_wp2
    go_loopg [13] xs.length (fun g i wr => ∃ k : Nat, k ≤ xs.length ∧ g + k = xs.length ∧ i = .int .i64 k ∧ xs.take k = ys.take k ∧ Drew w wr)
    case atStart => exact ⟨0, Nat.zero_le _, rfl, rfl, rfl, 0, rfl⟩
    case round =>
      obtain ⟨k, hk, hgk, rfl, htk, hdr⟩ := hrel
      have HDr : Hd (Drew w wr) := ⟨hdr⟩
      have hum := hdr.upd
      have HT2 : Hd (xs.take k = ys.take k) := ⟨htk⟩
      clear htk hdr
      by_cases hlt : k < xs.length
      · have hlt2 : k < ys.length := by omega
        have HT : Hd (xs.take (k + 1) = ys.take (k + 1) ↔ xs.take k = ys.take k ∧ xs[k] = ys[k]) := ⟨tok_take hlt hlt2⟩
        obtain ⟨b, off, x, cs, rfl, _, hbz, hx, hrep, hcl⟩ := (HX.out.upd hum (fun _ _ h => h)).at_ hlt
        obtain ⟨b', off', y, cs', rfl, _, hbz', hy, hrep', hcl'⟩ := (HY.out.upd hum (fun _ _ h => h)).at_ hlt2
        obtain ⟨ox, rfl, hox⟩ := eTok_of hrep
        obtain ⟨oy, rfl, hoy⟩ := eTok_of hrep'
        have e0 := hcl 0 _ rfl
        have e1 := hcl 1 _ rfl
        have e2 := hcl 2 _ rfl
        have e3 := hcl 3 _ rfl
        have f0 := hcl' 0 _ rfl
        have f1 := hcl' 1 _ rfl
        have f2 := hcl' 2 _ rfl
        have f3 := hcl' 3 _ rfl
        simp [eTok] at e0 e1 e2 e3 f0 f1 f2 f3
        obtain ⟨Ax, cx, rfl⟩ := hox.form
        obtain ⟨Ay, cy, rfl⟩ := hoy.form
        have hxe : xs[k] = x := by rw [List.getElem?_eq_getElem hlt] at hx; simpa using hx
        have hye : ys[k] = y := by rw [List.getElem?_eq_getElem hlt2] at hy; simpa using hy
        have HTT : Hd (xs.take (k + 1) = ys.take (k + 1) ↔ x = y) := ⟨by rw [HT.out, hxe, hye]; exact ⟨fun h => h.2, fun h => ⟨HT2.out, h⟩⟩⟩
        have hNE : Hd (x ≠ y → decide (xs = ys) = false) := ⟨fun h => by simp; intro e; exact h (HTT.out.1 (by rw [e]))⟩
        obtain ⟨bu, hbu⟩ : ∃ bu, decide (x.out = y.out) = bu := ⟨_, rfl⟩
        have HC : Hd (∀ m2, Calls Tryz.prog 25 #[.slice Ax x.out.length cx, .slice Ay y.out.length cy] (wr.drewN m2) fun e w' => e = .returned (.bool bu) ∧ ∃ m', w' = (wr.drewN m2).drewN m') :=
          ⟨fun m2 => by rw [← hbu]; exact law_Units (hox.upd ((Upd.refl No _).drewN m2) (fun _ _ h => h)) (hoy.upd ((Upd.refl No _).drewN m2) (fun _ _ h => h))⟩
        have HBu : Hd _ := ⟨hbu⟩
        clear hcl hcl' hx hy hrep hrep' hxe hye HT hbu hox hoy
        by_cases hp : x.pos = y.pos
        · have k1 : (x.pos != y.pos) = false := by simp [hp]
          have HP : Hd _ := ⟨hp⟩
          by_cases hln : x.len = y.len
          · have k2 : (x.len != y.len) = false := by simp [hln]
            have HLn : Hd _ := ⟨hln⟩
            by_cases he : x.err = y.err
            · have k3 : (x.err != y.err) = false := by simp [he]
              have HE : Hd _ := ⟨he⟩
              clear hp hln he
              cases bu with
              | true =>
                go_wp2_with fail
                go_quiet ((go_at_call 25; exact Calls.quiet_of (HC.out _)))
                go_wp2
                go_roundg (gk - 1)
                case measure => omega
                case rel =>
                  go_light
                  exact ⟨k + 1, by omega, by omega, by go_num, HTT.out.2 (tok_eq4 HP.out HLn.out HE.out (by simpa using HBu.out)), HDr.out.more _⟩
              | false =>
                go_wp2_with fail
                go_quiet ((go_at_call 25; exact Calls.quiet_of (HC.out _)))
                go_wp2
                go_ret
                go_light
                exact ⟨by rw [hNE.out (tok_ne (.inr (.inr (.inr (by simpa using HBu.out)))))]; rfl, HDr.out.more _⟩
            · have k3 : (x.err != y.err) = true := by simp [he]
              have HN : Hd _ := ⟨tok_ne (x := x) (y := y) (.inr (.inr (.inl he)))⟩
              clear hp hln he
              go_wp2_with fail
              go_quiet (fail)
              go_wp2
              go_ret
              go_light
              exact ⟨by rw [hNE.out HN.out]; rfl, HDr.out.more _⟩
          · have k2 : (x.len != y.len) = true := by simp [hln]
            have HN : Hd _ := ⟨tok_ne (x := x) (y := y) (.inr (.inl hln))⟩
            clear hp hln
            go_wp2_with fail
            go_quiet (fail)
            go_wp2
            go_ret
            go_light
            exact ⟨by rw [hNE.out HN.out]; rfl, HDr.out.more _⟩
        · have k1 : (x.pos != y.pos) = true := by simp [hp]
          have HN : Hd _ := ⟨tok_ne (x := x) (y := y) (.inl hp)⟩
          clear hp
          go_wp2_with fail
          go_quiet (fail)
          go_wp2
          go_ret
          go_light
          exact ⟨by rw [hNE.out HN.out]; rfl, HDr.out.more _⟩
      · have hlt1 : decide (k < xs.length) = false := by simpa using hlt
        go_wp2
        go_ret
        go_light
        refine ⟨bret ?_, HDr.out⟩
        have e1 : xs.take k = xs := List.take_of_length_le (by omega)
        have e2 : ys.take k = ys := List.take_of_length_le (by omega)
        have := HT2.out
        rw [e1, e2] at this
        simp [this]
  · have hl1 : ((xs.length : Int) != (ys.length : Int)) = true := by simp; omega
    go_enter Tryz.func18, Tryz.ntmps18
    go_wp2
    go_ret
    exact ⟨by simp; intro h; exact hl (by rw [h]), 0, rfl⟩

def All5Rel (w : World) (F : Nat → Prop) (rs : List Rule) (us : List Int) (tot : List Tok) (g : Nat) (v p : Value) (wr : World) : Prop :=
  ∃ (A : Option Addr) (n c : Nat) (out : List Tok) (j : Nat), v = .slice A n c ∧ p = .int .i64 j ∧ Own eTok 42 (fun k => w.heap.size ≤ k ∨ F k) w.heap.size wr (.slice A n c) out ∧ j ≤ us.length ∧ g + j = us.length ∧ out.length ≤ j ∧
    (∃ f, g ≤ f ∧ out ++ (mLoop rs true f (us.drop j) j).1 = tot) ∧ Upd No w wr
set_option maxHeartbeats 8000000 in
theorem law_All {F F' : Nat → Prop} {w : World} {v v' : Value} {rs : List Rule} {us : List Int} (hr : Rd eRule F w v rs) (hu : Rd (eI .i64) F' w v' us) (hok : RsOk rs) (hlr : rs.length ≤ 100000) (hl : us.length ≤ 100000) :
    Calls Tryz.prog 32 #[v, v'] w fun e w' => ∃ A n c, e = .returned (.slice A n c) ∧ Own eTok 42 (fun k => w.heap.size ≤ k ∨ F k) w.heap.size w' (.slice A n c) (mLoop rs true us.length us 0).1 ∧ Upd No w w' := by
  obtain ⟨A0, c0, rfl⟩ := hr.form
  obtain ⟨A, c, rfl⟩ := hu.form
  obtain ⟨tot, htot⟩ : ∃ tot, tot = (mLoop rs true us.length us 0).1 := ⟨_, rfl⟩
  rw [← htot]
  have HT : Hd (tot = (mLoop rs true us.length us 0).1) := ⟨htot⟩
  have HR : Hd _ := ⟨hr.bound⟩
  have HOK : Hd _ := ⟨hok⟩
  have HU : Hd _ := ⟨hu⟩
  have HS : Hd (∀ r ∈ rs, r.1.length ≤ 8) := ⟨fun r hr => (hok.side r hr).1⟩
  clear htot hok hr
  go_enter Tryz.func32, Tryz.ntmps32
  go_wp2
  go_loopg [5, 6] us.length (All5Rel w F rs us tot)
  case atStart =>
    exact ⟨none, 0, 0, [], 0, rfl, rfl, Own.nil _ _ _ _ _, Nat.zero_le _, rfl, Nat.le_refl _, ⟨us.length, Nat.le_refl _, by simp [HT.out]⟩, Upd.refl _ _⟩
  case round =>
    obtain ⟨A1, n1, c1, out, j, rfl, rfl, hown, hj, hgj, hol, hf, hup⟩ := hrel
    have HF : Hd _ := ⟨hf⟩
    clear hf
    by_cases hlt : j < us.length
    · have hlt1 : decide (j < us.length) = true := by simpa using hlt
      have hr1 := HU.out.upd hup (fun _ _ h => h)
      obtain ⟨A2, c2, hrun, hrd⟩ := hr1.cutL (P := Tryz.prog) Tryz.underlying34 size_int j (by omega)
      have hrr := HR.out.upd hup (fun _ _ h => h)
      have hLg := law_Longest hrr hrd hlr
      rw [lg_eq HOK.out] at hLg
      have hbd := longT_bd (trieN_rule rs HS.out) (trieN_inv rs HS.out).1 (by omega) (us.drop j)
      obtain ⟨k, n, o, hkn⟩ : ∃ k n o, longT (trieN rs) (us.drop j) = (k, n, o) := ⟨_, _, _, rfl⟩
      rw [hkn] at hLg hbd
      simp only [List.length_drop] at hLg hbd
      have HKN : Hd _ := ⟨hkn⟩
      have HLg : Hd _ := ⟨hLg⟩
      have hnz : Hd (¬ (us.drop j).length = 0) := ⟨by simp; omega⟩
      have hzr := hup.size
      clear hLg hkn
      by_cases hk0 : k < 0
      · have k1 : decide (k < 0) = true := by simpa using hk0
        have hn0 := hbd.2.2.2 hk0
        have HN0 : Hd _ := ⟨hn0⟩
        have HK0 : Hd _ := ⟨hk0⟩
        clear hbd hn0
        go_wp2_with (first
          | (go_at_call 69; go_loud (refine HLg.out.mono ?_; rintro e w6 ⟨rfl, hup6⟩))
          | (at_builtin; go_loud (refine wp_appendLit (F := fun k => w.heap.size ≤ k ∨ F k) eTok w.heap.size rfl (.tmp 25) (.tmp 28) 32 42 _ 48 rfl Tryz.underlying32 info_Token rfl (by decide) (.slice A1 n1 c1) out [⟨j, 1, [], 3⟩] [[.int .i64 j, .int .i64 1, .slice none 0 0, .int .i64 3]] _ 1 rfl rfl rfl rfl rfl ?qo ?qhr ?qnew ?qb ?ql (by decide) ?_)))
        case qo => exact hown.upd hup6 (fun _ _ h => h)
        case qhr =>
          intro k y cs hy hc
          cases k with
          | zero => simp at hy hc; subst hy; subst hc; exact eTok_mk (Rd.nil _ _ _)
          | succ k => simp at hy
        case qnew => intro k hk; have := hup6.size; left; omega
        case qb => have := hup6.size; omega
        case ql => simp; omega
        intro A3 n3 c3 w7 hown7 hup7 hat7
        go_wp2
        go_roundg (gk - 1)
        case measure => omega
        case rel =>
          go_light
          refine ⟨A3, n3, c3, out ++ [⟨j, 1, [], 3⟩], j + 1, rfl, by go_num, hown7, by omega, by omega, by simp; omega, ?_, ?_⟩
          · obtain ⟨f, hf, hEQ⟩ := HF.out
            obtain ⟨g, rfl⟩ : ∃ g, f = g + 1 := ⟨f - 1, by omega⟩
            simp only [mLoop, if_neg hnz.out, Bool.not_true, Bool.and_false, Bool.false_eq_true, if_false, HKN.out, HN0.out, tokT] at hEQ
            rw [if_pos HK0.out] at hEQ
            refine ⟨g, by omega, ?_⟩
            rw [← hEQ]
            simp
          · exact (hup.trans hup6 (T := No) (fun _ _ h => h) (fun _ _ h => h)).trans hup7 (fun _ _ h => h) (fun i hi e => by have := (hown.lt i e.symm).1; omega)
      · have k1 : decide (k < 0) = false := by simpa using hk0
        obtain ⟨kk, rfl⟩ : ∃ kk : Nat, k = kk := ⟨k.toNat, by omega⟩
        have hkl : kk < rs.length := by have := hbd.2.1; omega
        have hn1 := hbd.2.2.1 (by omega)
        have hnl : n ≤ us.length - j := hbd.1
        obtain ⟨b0, off0, x, cs, rfl, hFb, _, hx, hrep, hcl⟩ := hrr.at_ hkl
        obtain ⟨ci, co, rfl, hi, ho⟩ := eRule_of hrep
        have HO : Hd _ := ⟨ho⟩
        have hc1 := hcl 1 _ rfl
        simp only [pair_sz, row_sz, Nat.add_zero, Nat.reduceAdd] at hc1
        obtain ⟨Ao, no, rfl⟩ := ho.form
        have HK0 : Hd (¬ (kk : Int) < 0) := ⟨hk0⟩
        have HX : Hd ((rs.map (·.2)).getD kk [] = x.2) := ⟨by rw [List.getD_eq_getElem?_getD, List.getElem?_map, hx]; rfl⟩
        have hnm : max 1 n = n := by omega
        have HNM : Hd _ := ⟨hnm⟩
        clear hbd hcl hx hrep hi ho hnm hrr
        go_wp2_with (first
          | (go_at_call 69; go_loud (refine HLg.out.mono ?_; rintro e w6 ⟨rfl, hup6⟩; have hc6 := hup6.cell hc1 (fun h => h)))
          | (at_builtin; go_loud (refine wp_appendLit (F := fun k => w.heap.size ≤ k ∨ F k) eTok w.heap.size rfl (.tmp 32) (.tmp 41) 32 42 _ 48 rfl Tryz.underlying32 info_Token rfl (by decide) (.slice A1 n1 c1) out [⟨j, n, x.2, 0⟩] [[.int .i64 j, .int .i64 n, .slice Ao x.2.length no, .int .i64 0]] _ 1 rfl rfl rfl rfl rfl ?qo ?qhr ?qnew ?qb ?ql (by decide) ?_)))
        case qo => exact hown.upd hup6 (fun _ _ h => h)
        case qhr =>
          intro k y cs hy hc
          cases k with
          | zero =>
            simp at hy hc; subst hy; subst hc
            refine eTok_mk ((HO.out.upd hup6 (fun _ _ h => h)).mono (fun k hk => ⟨.inr hk.1, fun e => ?_⟩))
            have := (hown.lt k e.symm).1; have := hk.2; omega
          | succ k => simp at hy
        case qnew => intro k hk; have := hup6.size; left; omega
        case qb => have := hup6.size; omega
        case ql => simp; omega
        intro A3 n3 c3 w7 hown7 hup7 hat7
        have hjl2 : (j : Int) + (n : Int) ≤ 100000 := by omega
        go_wp2
        go_roundg (gk - n)
        case measure => omega
        case rel =>
          go_light
          refine ⟨A3, n3, c3, out ++ [⟨j, n, x.2, 0⟩], j + n, rfl, by go_num, hown7, by omega, by omega, by simp; omega, ?_, ?_⟩
          · obtain ⟨f, hf, hEQ⟩ := HF.out
            obtain ⟨g, rfl⟩ : ∃ g, f = g + 1 := ⟨f - 1, by omega⟩
            simp only [mLoop, if_neg hnz.out, Bool.not_true, Bool.and_false, Bool.false_eq_true, if_false, HKN.out, tokT] at hEQ
            rw [if_neg (show ¬ (kk : Int) < 0 by omega), HNM.out, Int.toNat_natCast, HX.out] at hEQ
            refine ⟨g, by omega, ?_⟩
            rw [← hEQ]
            simp
          · exact (hup.trans hup6 (T := No) (fun _ _ h => h) (fun _ _ h => h)).trans hup7 (fun _ _ h => h) (fun i hi e => by have := (hown.lt i e.symm).1; omega)
    · have hlt1 : decide (j < us.length) = false := by simpa using hlt
      go_wp2
      go_ret
      go_light
      obtain ⟨f, hf, hEQ⟩ := HF.out
      rw [List.drop_of_length_le (by omega), show mLoop rs true f [] (j : Int) = ([], [], (j : Int)) by cases f <;> simp [mLoop]] at hEQ
      simp only [List.append_nil] at hEQ
      subst hEQ
      exact ⟨_, _, _, rfl, hown, hup⟩
end Go.Proofs.YtebgjabalnffdaaGreatDoor
