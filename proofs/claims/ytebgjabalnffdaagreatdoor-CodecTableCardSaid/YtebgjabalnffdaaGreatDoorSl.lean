/- slices.Equal, slices.IndexFunc and their kin, as the program uses them. -/
import Derived.Test.YtebgjabalnffdaaGreatDoorInfo
set_option linter.unusedVariables false
set_option linter.unusedSimpArgs false
set_option maxRecDepth 100000
namespace Go.Proofs.YtebgjabalnffdaaGreatDoor
open Go.RowKit

theorem Rd.int_cell {F : Nat → Prop} {k : IntKind} {w : World} {A : Option Addr} {n c : Nat} {xs : List Int} (h : Rd (eI k) F w (.slice A n c) xs) (hn : 0 < n) :
    ∃ b off, A = some ⟨b, off, none⟩ ∧ F b ∧ b < w.heap.size ∧ ∀ j, j < n → w.cell? ⟨b, off + j, none⟩ = some (.int k (rdI xs j)) := by
  obtain ⟨b, off, _, _, rfl, hF, hb, _⟩ := h.at_ hn
  refine ⟨b, off, rfl, hF, hb, fun j hj => ?_⟩
  obtain ⟨b', off', x, cs, he, _, _, hx, rfl, hc⟩ := h.at_ hj
  have := hc 0 _ rfl
  simp only [Option.some.injEq, Addr.mk.injEq] at he
  obtain ⟨rfl, rfl, _⟩ := he
  simpa [rdI, List.getD_eq_getElem?_getD, hx] using this


theorem take_eq_succ {xs ys : List Int} {k : Nat} (h1 : k < xs.length) (h2 : k < ys.length) : xs.take (k + 1) = ys.take (k + 1) ↔ xs.take k = ys.take k ∧ rdI xs k = rdI ys k := by
  rw [List.take_succ_eq_append_getElem h1, List.take_succ_eq_append_getElem h2]
  constructor
  · intro h
    have := List.append_inj h (by simp; omega)
    simpa [rdI, List.getD_eq_getElem?_getD, h1, h2] using this
  · rintro ⟨h, h'⟩
    simp [rdI, List.getD_eq_getElem?_getD, h1, h2] at h'
    rw [h, h']

theorem slices_Equal {F F' : Nat → Prop} {w : World} {v v' : Value} {xs ys : List Int} (hx : Rd (eI .i64) F w v xs) (hy : Rd (eI .i64) F' w v' ys) :
    Calls Tryz.prog 102 #[v, v'] w fun e w' => e = .returned (.bool (decide (xs = ys))) ∧ Drew w w' := by
  obtain ⟨A, c, rfl⟩ := hx.form
  obtain ⟨A', c', rfl⟩ := hy.form
  have hm := hx.max
  by_cases hl : xs.length = ys.length
  · have hl1 : ((xs.length : Int) != (ys.length : Int)) = false := by simp [hl]
    by_cases h0 : xs.length = 0
    · have h1 : xs = [] := List.eq_nil_of_length_eq_zero h0
      have h2 : ys = [] := List.eq_nil_of_length_eq_zero (by omega)
      subst h1; subst h2
      go_enter Tryz.func102, Tryz.ntmps102
      go_wp2
      refine wp_loop_once ?_
      go_wp2
      go_ret
      exact ⟨rfl, 0, rfl⟩
    · obtain ⟨b, off, rfl, _, _, hc⟩ := hx.int_cell (by omega)
      obtain ⟨b', off', rfl, _, _, hc'⟩ := hy.int_cell (by omega)
      go_enter Tryz.func102, Tryz.ntmps102
      go_wp2
      go_loopg [13] xs.length (fun g i wr => ∃ k : Nat, k ≤ xs.length ∧ g + k = xs.length ∧ i = .int .i64 k ∧ xs.take k = ys.take k ∧ Drew w wr)
      case atStart => exact ⟨0, Nat.zero_le _, rfl, rfl, rfl, 0, rfl⟩
      case round =>
        obtain ⟨k, hk, hgk, rfl, htk, m, rfl⟩ := hrel
        have HT2 : Hd (xs.take k = ys.take k) := ⟨htk⟩
        clear htk
        by_cases hlt : k < xs.length
        · have hA := hc k hlt
          have hB := hc' k (by omega)
          have HT : Hd (xs.take (k + 1) = ys.take (k + 1) ↔ xs.take k = ys.take k ∧ rdI xs k = rdI ys k) := ⟨take_eq_succ (xs := xs) (ys := ys) hlt (by omega)⟩
          clear hc hc'
          cases hd : (rdI xs k != rdI ys k) with
          | true =>
            go_wp2
            go_quiet (fail)
            go_wp2
            go_ret
            go_light
            refine ⟨bret ?_, ⟨_, World.drewN_drewN ..⟩⟩
            simp only [decide_eq_true_eq, Bool.false_eq_true, false_iff]
            intro e
            have := (HT.out.1 (by rw [e])).2
            simp [this] at hd
          | false =>
            go_wp2
            go_quiet (fail)
            go_wp2
            go_roundg (gk - 1)
            case measure => omega
            case rel => exact ⟨k + 1, by omega, by omega, by go_num, HT.out.2 ⟨HT2.out, by simpa using hd⟩, m + nq, rfl⟩
        · go_wp2
          go_ret
          go_light
          refine ⟨bret ?_, m, rfl⟩
          have e1 : xs.take k = xs := List.take_of_length_le (by omega)
          have e2 : ys.take k = ys := List.take_of_length_le (by omega)
          have := HT2.out
          rw [e1, e2] at this
          simp [this]
  · have hl1 : ((xs.length : Int) != (ys.length : Int)) = true := by simp; omega
    go_enter Tryz.func102, Tryz.ntmps102
    go_wp2
    go_ret
    exact ⟨by simp; intro h; exact hl (by rw [h]), 0, rfl⟩

theorem indexFunc_find {F : Nat → Prop} {w : World} {v : Value} {xs : List Rule} (p : Rule → Bool) (hx : Rd eRule F w v xs) (cap : Value)
    (hf : ∀ x i o W, x ∈ xs → Upd No w W → Rd (eI .i64) F W i x.1 → Rd (eI .i64) F W o x.2 → Calls Tryz.prog 101 #[.agg #[i, o], cap] W fun e w' => e = .returned (.bool (p x)) ∧ Upd No W w') :
    Calls Tryz.prog 100 #[v, .func (.func 101) #[] #[cap]] w fun e w' => e = .returned (.int .i64 (idxF p xs)) ∧ Upd No w w' := by
  obtain ⟨A, c, rfl⟩ := hx.form
  have hm := hx.max
  by_cases h0 : xs.length = 0
  · obtain rfl : xs = [] := List.eq_nil_of_length_eq_zero h0
    go_enter Tryz.func100, Tryz.ntmps100
    go_wp2
    refine wp_loop_once ?_
    go_wp2
    go_ret
    exact ⟨rfl, Upd.refl _ _⟩
  · obtain ⟨b, off, _, _, rfl, _⟩ := hx.at_ (k := 0) (by omega)
    have HF : Hd (∀ x i o W, x ∈ xs → Upd No w W → Rd (eI .i64) F W i x.1 → Rd (eI .i64) F W o x.2 → Calls Tryz.prog 101 #[.agg #[i, o], cap] W fun e w' => e = .returned (.bool (p x)) ∧ Upd No W w') := ⟨hf⟩
    clear hf
    go_enter Tryz.func100, Tryz.ntmps100
    go_wp2
    go_loopg [8] xs.length (fun g i wr => ∃ k : Nat, k ≤ xs.length ∧ g + k = xs.length ∧ i = .int .i64 k ∧ (∀ j y, j < k → xs[j]? = some y → p y = false) ∧ Upd No w wr)
    case atStart => exact ⟨0, Nat.zero_le _, rfl, rfl, fun j y hj => absurd hj (by omega), Upd.refl _ _⟩
    case round =>
      obtain ⟨k, hk, hgk, rfl, hn, hup⟩ := hrel
      have HN : Hd (∀ j y, j < k → xs[j]? = some y → p y = false) := ⟨hn⟩
      clear hn
      by_cases hlt : k < xs.length
      · obtain ⟨x, cs, hxk, hrep, hcell, _⟩ := (hx.upd hup (fun _ _ h => h)).at' hlt
        obtain ⟨ci, co, rfl, hi, ho⟩ := eRule_of hrep
        have hc0 := hcell 0 _ rfl
        have hc1 := hcell 1 _ rfl
        simp only [pair_sz, row_sz, Nat.add_zero, Nat.reduceAdd] at hc0 hc1
        have HX : Hd (xs[k]? = some x) := ⟨hxk⟩
        clear hxk hcell
        cases hpx : p x with
        | true =>
          go_wp2_with (go_at_call 101; refine (HF.out x _ _ _ (List.mem_of_getElem? HX.out) hup hi ho).mono ?_; rintro e w2 ⟨rfl, hup2⟩; rw [hpx])
          go_ret
          go_light
          exact ⟨iret (idxF_hit p xs k x HX.out hpx HN.out).symm, hup.trans hup2 (fun _ _ h => h) (fun _ _ h => h)⟩
        | false =>
          go_wp2_with (go_at_call 101; refine (HF.out x _ _ _ (List.mem_of_getElem? HX.out) hup hi ho).mono ?_; rintro e w2 ⟨rfl, hup2⟩; rw [hpx])
          go_roundg (gk - 1)
          case measure => omega
          case rel =>
            go_light
            refine ⟨k + 1, by omega, by omega, by go_num, fun j y hj hy => ?_, hup.trans hup2 (fun _ _ h => h) (fun _ _ h => h)⟩
            by_cases hjk : j < k
            · exact HN.out j y hjk hy
            · obtain rfl : j = k := by omega
              rw [HX.out] at hy; injection hy with hy; rw [← hy]; exact hpx
      · go_wp2
        go_ret
        go_light
        exact ⟨iret (idxF_miss p xs (fun j y hy => HN.out j y (by have := (List.getElem?_eq_some_iff.1 hy).1; omega) hy)).symm, hup⟩

theorem indexFunc_used {F : Nat → Prop} {w : World} {v : Value} {xs : List Rule} (p : Rule → Bool) (hx : Rd eRule F w v xs) (cap : Value)
    (hf : ∀ x i o W, x ∈ xs → Upd No w W → Rd (eI .i64) F W i x.1 → Rd (eI .i64) F W o x.2 → Calls Tryz.prog 149 #[.agg #[i, o], cap] W fun e w' => e = .returned (.bool (p x)) ∧ Upd No W w') :
    Calls Tryz.prog 100 #[v, .func (.func 149) #[] #[cap]] w fun e w' => e = .returned (.int .i64 (idxF p xs)) ∧ Upd No w w' := by
  obtain ⟨A, c, rfl⟩ := hx.form
  have hm := hx.max
  by_cases h0 : xs.length = 0
  · obtain rfl : xs = [] := List.eq_nil_of_length_eq_zero h0
    go_enter Tryz.func100, Tryz.ntmps100
    go_wp2
    refine wp_loop_once ?_
    go_wp2
    go_ret
    exact ⟨rfl, Upd.refl _ _⟩
  · obtain ⟨b, off, _, _, rfl, _⟩ := hx.at_ (k := 0) (by omega)
    have HF : Hd (∀ x i o W, x ∈ xs → Upd No w W → Rd (eI .i64) F W i x.1 → Rd (eI .i64) F W o x.2 → Calls Tryz.prog 149 #[.agg #[i, o], cap] W fun e w' => e = .returned (.bool (p x)) ∧ Upd No W w') := ⟨hf⟩
    clear hf
    go_enter Tryz.func100, Tryz.ntmps100
    go_wp2
    go_loopg [8] xs.length (fun g i wr => ∃ k : Nat, k ≤ xs.length ∧ g + k = xs.length ∧ i = .int .i64 k ∧ (∀ j y, j < k → xs[j]? = some y → p y = false) ∧ Upd No w wr)
    case atStart => exact ⟨0, Nat.zero_le _, rfl, rfl, fun j y hj => absurd hj (by omega), Upd.refl _ _⟩
    case round =>
      obtain ⟨k, hk, hgk, rfl, hn, hup⟩ := hrel
      have HN : Hd (∀ j y, j < k → xs[j]? = some y → p y = false) := ⟨hn⟩
      clear hn
      by_cases hlt : k < xs.length
      · obtain ⟨x, cs, hxk, hrep, hcell, _⟩ := (hx.upd hup (fun _ _ h => h)).at' hlt
        obtain ⟨ci, co, rfl, hi, ho⟩ := eRule_of hrep
        have hc0 := hcell 0 _ rfl
        have hc1 := hcell 1 _ rfl
        simp only [pair_sz, row_sz, Nat.add_zero, Nat.reduceAdd] at hc0 hc1
        have HX : Hd (xs[k]? = some x) := ⟨hxk⟩
        clear hxk hcell
        cases hpx : p x with
        | true =>
          go_wp2_with (go_at_call 149; refine (HF.out x _ _ _ (List.mem_of_getElem? HX.out) hup hi ho).mono ?_; rintro e w2 ⟨rfl, hup2⟩; rw [hpx])
          go_ret
          go_light
          exact ⟨iret (idxF_hit p xs k x HX.out hpx HN.out).symm, hup.trans hup2 (fun _ _ h => h) (fun _ _ h => h)⟩
        | false =>
          go_wp2_with (go_at_call 149; refine (HF.out x _ _ _ (List.mem_of_getElem? HX.out) hup hi ho).mono ?_; rintro e w2 ⟨rfl, hup2⟩; rw [hpx])
          go_roundg (gk - 1)
          case measure => omega
          case rel =>
            go_light
            refine ⟨k + 1, by omega, by omega, by go_num, fun j y hj hy => ?_, hup.trans hup2 (fun _ _ h => h) (fun _ _ h => h)⟩
            by_cases hjk : j < k
            · exact HN.out j y hjk hy
            · obtain rfl : j = k := by omega
              rw [HX.out] at hy; injection hy with hy; rw [← hy]; exact hpx
      · go_wp2
        go_ret
        go_light
        exact ⟨iret (idxF_miss p xs (fun j y hy => HN.out j y (by have := (List.getElem?_eq_some_iff.1 hy).1; omega) hy)).symm, hup⟩

theorem indexFunc_side {F : Nat → Prop} {w : World} {v : Value} {xs : List Int} (p : Int → Bool) (hx : Rd (eI .i64) F w v xs)
    (hf : ∀ x  W, x ∈ xs → Upd No w W →  Calls Tryz.prog 159 #[.int .i64 x] W fun e w' => e = .returned (.bool (p x)) ∧ Upd No W w') :
    Calls Tryz.prog 163 #[v, .func (.func 159) #[] #[]] w fun e w' => e = .returned (.int .i64 (idxF p xs)) ∧ Upd No w w' := by
  obtain ⟨A, c, rfl⟩ := hx.form
  have hm := hx.max
  by_cases h0 : xs.length = 0
  · obtain rfl : xs = [] := List.eq_nil_of_length_eq_zero h0
    go_enter Tryz.func163, Tryz.ntmps163
    go_wp2
    refine wp_loop_once ?_
    go_wp2
    go_ret
    exact ⟨rfl, Upd.refl _ _⟩
  · obtain ⟨b, off, _, _, rfl, _⟩ := hx.at_ (k := 0) (by omega)
    have HF : Hd (∀ x  W, x ∈ xs → Upd No w W →  Calls Tryz.prog 159 #[.int .i64 x] W fun e w' => e = .returned (.bool (p x)) ∧ Upd No W w') := ⟨hf⟩
    clear hf
    go_enter Tryz.func163, Tryz.ntmps163
    go_wp2
    go_loopg [8] xs.length (fun g i wr => ∃ k : Nat, k ≤ xs.length ∧ g + k = xs.length ∧ i = .int .i64 k ∧ (∀ j y, j < k → xs[j]? = some y → p y = false) ∧ Upd No w wr)
    case atStart => exact ⟨0, Nat.zero_le _, rfl, rfl, fun j y hj => absurd hj (by omega), Upd.refl _ _⟩
    case round =>
      obtain ⟨k, hk, hgk, rfl, hn, hup⟩ := hrel
      have HN : Hd (∀ j y, j < k → xs[j]? = some y → p y = false) := ⟨hn⟩
      clear hn
      by_cases hlt : k < xs.length
      · obtain ⟨x, cs, hxk, hrep, hcell, _⟩ := (hx.upd hup (fun _ _ h => h)).at' hlt
        obtain rfl := hrep
        have hc0 := hcell 0 _ rfl
        simp only [flat_sz, Nat.add_zero, Nat.mul_one] at hc0
        have HX : Hd (xs[k]? = some x) := ⟨hxk⟩
        clear hxk hcell
        cases hpx : p x with
        | true =>
          go_wp2_with (go_at_call 159; refine (HF.out x  _ (List.mem_of_getElem? HX.out) hup ).mono ?_; rintro e w2 ⟨rfl, hup2⟩; rw [hpx])
          go_ret
          go_light
          exact ⟨iret (idxF_hit p xs k x HX.out hpx HN.out).symm, hup.trans hup2 (fun _ _ h => h) (fun _ _ h => h)⟩
        | false =>
          go_wp2_with (go_at_call 159; refine (HF.out x  _ (List.mem_of_getElem? HX.out) hup ).mono ?_; rintro e w2 ⟨rfl, hup2⟩; rw [hpx])
          go_roundg (gk - 1)
          case measure => omega
          case rel =>
            go_light
            refine ⟨k + 1, by omega, by omega, by go_num, fun j y hj hy => ?_, hup.trans hup2 (fun _ _ h => h) (fun _ _ h => h)⟩
            by_cases hjk : j < k
            · exact HN.out j y hjk hy
            · obtain rfl : j = k := by omega
              rw [HX.out] at hy; injection hy with hy; rw [← hy]; exact hpx
      · go_wp2
        go_ret
        go_light
        exact ⟨iret (idxF_miss p xs (fun j y hy => HN.out j y (by have := (List.getElem?_eq_some_iff.1 hy).1; omega) hy)).symm, hup⟩

theorem rule_Find1 {F F' : Nat → Prop} {w : World} {i o vin : Value} {x : Rule} {ins : List Int} {a : Nat} (hi : Rd (eI .i64) F w i x.1) (hin : Rd (eI .i64) F' w vin ins) (hc : w.cell? ⟨a, 0, none⟩ = some vin) :
    Calls Tryz.prog 101 #[.agg #[i, o], .pointer (some ⟨a, 0, none⟩)] w fun e w' => e = .returned (.bool (decide (x.1 = ins))) ∧ Upd No w w' := by
  have ha : a < w.heap.size := World.block_lt_of_cell? w ⟨a, 0, none⟩ hc
  have hi' := hi.upd (S := No) ((Upd.refl _ _).alloc (.cells #[i, o] 115)) (fun _ _ h => h)
  have hin' := hin.upd (S := No) ((Upd.refl _ _).alloc (.cells #[i, o] 115)) (fun _ _ h => h)
  obtain ⟨Ai, ci, rfl⟩ := hi.form
  obtain ⟨An, cn, rfl⟩ := hin.form
  go_enter Tryz.func101, Tryz.ntmps101
  go_wp2_with (go_at_call 102; refine (slices_Equal hi' hin').mono ?_; rintro e w2 ⟨rfl, hd⟩)
  go_ret
  exact ⟨rfl, ((Upd.refl _ _).alloc _).trans hd.upd (fun _ _ h => h) (fun _ _ h => h)⟩

def findR (rs : List Rule) (ins : List Int) : Int := idxF (fun r => decide (r.1 = ins)) rs

theorem rule_Find {F F' : Nat → Prop} {w : World} {v vin : Value} {rs : List Rule} {ins : List Int} (hr : Rd eRule F w v rs) (hin : Rd (eI .i64) F' w vin ins) :
    Calls Tryz.prog 66 #[v, vin] w fun e w' => e = .returned (.int .i64 (findR rs ins)) ∧ Upd No w w' := by
  obtain ⟨A, c, rfl⟩ := hr.form
  obtain ⟨An, cn, rfl⟩ := hin.form
  have hu : Upd No w (w.alloc (.cells #[.slice An ins.length cn] 34)) := (Upd.refl _ _).alloc _
  have hr' := hr.upd hu (fun _ _ h => h)
  have hin' := hin.upd hu (fun _ _ h => h)
  have hcell : (w.alloc (.cells #[.slice An ins.length cn] 34)).cell? ⟨w.heap.size, 0, none⟩ = some (.slice An ins.length cn) := by simp [go_sem]
  have H := indexFunc_find (fun r : Rule => decide (r.1 = ins)) hr' (.pointer (some ⟨w.heap.size, 0, none⟩)) (fun x i o W _ hW hi ho => rule_Find1 hi (hin'.upd hW (fun _ _ h => h)) (hW.cell hcell (fun h => h)))
  have HH : Hd _ := ⟨H⟩
  clear H
  go_enter Tryz.func66, Tryz.ntmps66
  go_wp2_with (go_at_call 100; refine HH.out.mono ?_; rintro e w2 ⟨rfl, hd⟩)
  go_ret
  exact ⟨rfl, hu.trans hd (fun _ _ h => h) (fun _ _ h => h)⟩

def unitOk (u : Int) : Bool := decide (0 ≤ u) && decide (u ≤ 1114111)
theorem rule_side1 (u : Int) (w : World) : Calls Tryz.prog 159 #[.int .i64 u] w fun e w' => e = .returned (.bool (!unitOk u)) ∧ Upd No w w' := by
  go_enter Tryz.func159, Tryz.ntmps159
  go_wp2
  all_goals (go_ret; refine ⟨bret ?_, Upd.refl _ _⟩; go_light; simp [unitOk]; omega)

theorem containsFunc_side {F : Nat → Prop} {w : World} {v : Value} {us : List Int} (hr : Rd (eI .i64) F w v us) :
    Calls Tryz.prog 158 #[v, .func (.func 159) #[] #[]] w fun e w' => e = .returned (.bool (!us.all unitOk)) ∧ Upd No w w' := by
  obtain ⟨A, c, rfl⟩ := hr.form
  have H := indexFunc_side (fun u => !unitOk u) hr (fun x W _ _ => rule_side1 x W)
  have HH : Hd _ := ⟨H⟩
  clear H
  go_enter Tryz.func158, Tryz.ntmps158
  go_wp2_with (go_at_call 163; refine HH.out.mono ?_; rintro e w2 ⟨rfl, hd⟩)
  go_ret
  refine ⟨bret ?_, hd⟩
  go_light
  cases h : us.findIdx? (fun u => !unitOk u) with
  | none =>
    rw [List.findIdx?_eq_none_iff] at h
    simp only [idxF, List.findIdx?_eq_none_iff.2 h]
    have : us.all unitOk = true := List.all_eq_true.2 (fun x hx => by simpa using h x hx)
    simp [this]
  | some k =>
    simp only [idxF, h]
    rw [List.findIdx?_eq_some_iff_getElem] at h
    obtain ⟨hk, hp, _⟩ := h
    have : us.all unitOk = false := by
      rw [List.all_eq_false]
      exact ⟨us[k], by simp, by simpa using hp⟩
    simp [this]

def sideOk (us : List Int) : Bool := decide (0 < us.length) && decide (us.length ≤ 8) && us.all unitOk
theorem rule_side {F : Nat → Prop} {w : World} {v : Value} {us : List Int} (hr : Rd (eI .i64) F w v us) :
    Calls Tryz.prog 147 #[v] w fun e w' => e = .returned (.bool (sideOk us)) ∧ Upd No w w' := by
  obtain ⟨A, c, rfl⟩ := hr.form
  have hm := hr.max
  by_cases h0 : 0 < us.length
  · by_cases h8 : us.length ≤ 8
    · go_enter Tryz.func147, Tryz.ntmps147
      go_wp2_with (go_at_call 158; refine (containsFunc_side hr).mono ?_; rintro e w2 ⟨rfl, hd⟩)
      all_goals go_light
      all_goals first | (exfalso; omega) | (go_ret; exact ⟨by simp [sideOk, h0, h8], by assumption⟩)
    · have h8' : decide (us.length ≤ 8) = false := by simpa using h8
      go_enter Tryz.func147, Tryz.ntmps147
      go_wp2
      all_goals (go_ret; exact ⟨by simp [sideOk, h0, h8'], Upd.refl _ _⟩)
  · have h0' : decide (0 < us.length) = false := by simpa using h0
    go_enter Tryz.func147, Tryz.ntmps147
    go_wp2
    all_goals (go_ret; exact ⟨by simp [sideOk, h0'], Upd.refl _ _⟩)
end Go.Proofs.YtebgjabalnffdaaGreatDoor
