/- tamil.Rules. -/
import Derived.Test.YtebgjabalnffdaaGreatDoorTam
import Derived.Deep.CutBlock
set_option linter.unusedVariables false
set_option linter.unusedSimpArgs false
set_option maxRecDepth 100000
namespace Go.Proofs.YtebgjabalnffdaaGreatDoor
open Go.RowKit

def vowL : List (Int × Int) := (List.range 13).map fun (k : Nat) => (((145 : Int) + k, tamV.getD k 0) : Int × Int)
def sgnL : List (Int × Int) := [(166, 3014), (167, 3015), (168, 3016), (169, 3021), (170, 3006), (171, 3007), (172, 3008), (173, 3009), (174, 3010), (175, 3031)]
def cons1 (k : Nat) (s : Int) : List Rule :=
  [([(176 : Int) + k], [s]), ([(208 : Int) + k], [s, 3021]), ([166, (176 : Int) + k], [s, 3014]), ([167, (176 : Int) + k], [s, 3015]), ([168, (176 : Int) + k], [s, 3016]), ([166, (176 : Int) + k, 170], [s, 3018]), ([167, (176 : Int) + k, 170], [s, 3019]), ([166, (176 : Int) + k, 175], [s, 3020])]
def consL (n : Nat) : List Rule := (List.range n).flatMap fun k => cons1 k (tamC.getD k 0)
theorem consL_succ (n : Nat) : consL (n + 1) = consL n ++ cons1 n (tamC.getD n 0) := by simp [consL, List.range_succ]
def tamRules : List Rule := singR asc128 ++ singR vowL ++ singR sgnL ++ consL 22

def TamRel (FS : Nat → Prop) (w w0 : World) (pre : List Rule) (xs : List (Int × Int)) (g : Nat) (v k : Value) (wr : World) : Prop :=
  ∃ (A : Option Addr) (n c j : Nat), v = .slice A n c ∧ k = .int .i64 j ∧ g + j = xs.length ∧ j ≤ xs.length ∧ Own eRule 115 FS w.heap.size wr (.slice A n c) (pre ++ singR (xs.take j)) ∧ Upd FS w0 wr
def TamAt (w : World) (rs : List Rule) (v : Value) (wr : World) : Prop :=
  ∃ (A : Option Addr) (n c : Nat), v = .slice A n c ∧ Own eRule 115 (fun k => w.heap.size ≤ k) w.heap.size wr (.slice A n c) rs ∧ Upd No w wr

theorem vowL_at (j : Nat) (h : j < 13) : vowL.take (j + 1) = vowL.take j ++ [((145 : Int) + j, tamV.getD j 0)] := by
  have : vowL[j]? = some ((145 : Int) + j, tamV.getD j 0) := by simp [vowL, h]
  rw [List.take_add_one, this]; rfl
def Tam4Rel (FS : Nat → Prop) (w w0 : World) (pre : List Rule) (g : Nat) (v k : Value) (wr : World) : Prop :=
  ∃ (A : Option Addr) (n c j : Nat), v = .slice A n c ∧ k = .int .i64 j ∧ g + j = 22 ∧ j ≤ 22 ∧ Own eRule 115 FS w.heap.size wr (.slice A n c) (pre ++ consL j) ∧ Upd FS w0 wr
theorem consL_len (n : Nat) : (consL n).length = 8 * n := by
  induction n with
  | zero => rfl
  | succ n ih => rw [consL_succ, List.length_append, ih]; simp [cons1]; omega
theorem singR_snoc (xs : List (Int × Int)) (a b : Int) : singR (xs ++ [(a, b)]) = singR xs ++ [([a], [b])] := by simp [singR]
set_option maxHeartbeats 8000000 in
theorem tamil_Rules (w : World) : Calls Tryz.prog 64 #[] w fun e w' => ∃ A n c, e = .returned (.slice A n c) ∧ Own eRule 115 (fun k => w.heap.size ≤ k) w.heap.size w' (.slice A n c) tamRules ∧ Upd No w w' := by
  have HL : Hd (asc128.length = 128) := ⟨by simp [asc128]⟩
  go_enter Tryz.func64, Tryz.ntmps64
  go_upto_block 0 with fail
  go_cut [1] (fun v wx => TamAt w (singR asc128) v wx)
  case first =>
    go_wp2_with fail
    go_loopg [1, 10] 128 (TamRel (fun k => w.heap.size ≤ k) w w [] asc128)
    case atStart => exact ⟨none, 0, 0, 0, rfl, rfl, HL.out.symm ▸ rfl, Nat.zero_le _, Own.nil _ _ _ _ _, Upd.refl _ _⟩
    case round =>
      obtain ⟨A1, n1, c1, j, rfl, rfl, hgj, hj, hown, hup⟩ := hrel
      rw [HL.out] at hgj hj
      have hup0 : Upd No w wr := hup.mono (fun i hi h => by omega)
      by_cases hlt : j < 128
      · have hlt1 : decide ((j : Int) < 128) = true := by simp; omega
        obtain ⟨acc, hacc⟩ : ∃ acc, acc = [] ++ singR (asc128.take j) := ⟨_, rfl⟩
        have HA : Hd (acc = [] ++ singR (asc128.take j)) := ⟨hacc⟩
        have hal : acc.length = j := by rw [hacc]; have := HL.out; simp [singR]; omega
        rw [← hacc] at hown
        clear hacc
        have RN : ∀ x y : Int, eRule.rep (fun k => k = wr.heap.size ∨ k = wr.heap.size + 1) ((wr.alloc (.cells #[.int .i64 x] 3)).alloc (.cells #[.int .i64 y] 3)) ([x], [y]) [.slice (some ⟨wr.heap.size, 0, none⟩) 1 1, .slice (some ⟨wr.heap.size + 1, 0, none⟩) 1 1] := fun x y => rule_new wr [x] [y] ⟨by simp, by simp⟩
        go_wp2_with (first
          | (go_at_call 97; refine (tamil_one _ (.int .i64 0) (.int .i64 0) _ _ _ _ _ _).mono ?_; rintro e w1 ⟨rfl, hu1⟩)
          | (at_builtin; go_loud (refine wp_appendLit (F := fun k => w.heap.size ≤ k) eRule w.heap.size rfl (.tmp 13) (.tmp 19) 49 115 _ 48 rfl Tryz.underlying49 info_Rule rfl (by decide) (.slice A1 n1 c1) acc [([(j : Int)], [(j : Int)])] [[.slice (some ⟨wr.heap.size, 0, none⟩) 1 1, .slice (some ⟨wr.heap.size + 1, 0, none⟩) 1 1]] _ 1 rfl rfl rfl rfl rfl ?qo ?qhr ?qnew ?qb ?ql (by decide) ?_)))
        case qo => exact (((hown.alloc _).alloc _).upd hu1 (fun _ _ h => h))
        case qhr =>
          have := hup.size
          intro k y cs hy hc
          cases k with
          | zero =>
            simp at hy hc; subst hy; subst hc
            refine eRule.mono (fun k hk => ⟨by omega, fun e => ?_⟩) (eRule.upd (RN _ _) hu1 (fun _ _ h => h))
            have := (hown.lt k e.symm).2; omega
          | succ k => simp at hy
        case qnew => intro k hk; have := hup.size; have := hu1.size; simp at *; omega
        case qb => have := hup.size; have := hu1.size; simp at *; omega
        case ql => simp; omega
        intro A3 n3 c3 w7 hown7 hup7 hat7
        go_wp2
        go_roundg (gk - 1)
        case measure => omega
        case rel =>
          go_light
          have hl128 := HL.out
          refine ⟨A3, n3, c3, j + 1, rfl, by go_num, by omega, by omega, by rw [asc128_at j hlt, singR_snoc, ← List.append_assoc, ← HA.out]; exact hown7, ?_⟩
          exact ((((hup.alloc _).alloc _).trans hu1 (T := fun k => w.heap.size ≤ k) (fun _ _ h => h) (fun _ _ h => h.elim)).trans hup7 (fun _ _ h => h) (fun i hi e => hown.1 i e.symm))
      · have hlt1 : decide ((j : Int) < 128) = false := by simp; omega
        have h1 : asc128.take j = asc128 := List.take_of_length_le (by have := HL.out; omega)
        rw [h1] at hown
        go_wp2_with fail
        go_meet
        go_light
        exact ⟨A1, n1, c1, rfl, hown, hup0⟩
  case rest =>
    obtain ⟨A1, n1, c1, rfl, hown1, hup1⟩ := hcut
    go_upto_block 2 with (go_at_call 98; refine (tamil_vowels _).mono ?_; rintro e w2 ⟨rfl, rfl⟩)
    obtain ⟨w2, rfl⟩ : ∃ w2 : World, w2 = wc := ⟨_, rfl⟩
    have hvow := Rd.lits w2 tamV 3 (by decide)
    have HV13 : Hd (tamV.length = 13 ∧ vowL.length = 13 ∧ (singR asc128).length = 128) := ⟨by decide, by simp [vowL], by simp [singR, HL.out]⟩
    rw [HV13.out.1] at hvow
    have HVow : Hd _ := ⟨hvow⟩
    clear hvow
    go_cut [1] (fun v wx => TamAt w (singR asc128 ++ singR vowL) v wx)
    case first =>
      go_wp2_with fail
      go_loopg [1, 24] 13 (TamRel (fun k => w.heap.size ≤ k ∧ k ≠ w2.heap.size) w (w2.alloc (.cells (tamV.map fun n => Value.int .i64 n).toArray 3)) (singR asc128) vowL)
      case atStart => exact ⟨A1, n1, c1, 0, rfl, rfl, HV13.out.2.1.symm ▸ rfl, Nat.zero_le _, by simpa [singR] using (hown1.bound.mono (F' := fun k => w.heap.size ≤ k ∧ k ≠ w2.heap.size) (fun k hk => ⟨hk.1, by omega⟩)).alloc _, Upd.refl _ _⟩
      case round =>
        obtain ⟨A1, n1, c1, j, rfl, rfl, hgj, hj, hown, hup⟩ := hrel
        rw [HV13.out.2.1] at hgj hj
        have hup0 : Upd No w wr := (hup1.alloc _).trans hup (fun _ _ h => h) (fun i hi h => by have := h.1; omega)
        have hw2z : w2.heap.size < wr.heap.size := by have := hup.size; simp at this; omega
        by_cases hlt : j < 13
        · have hlt1 : decide ((j : Int) < 13) = true := by simp; omega
          obtain ⟨x, cs, hx, hrep, hcell, _, hbz⟩ := (HVow.out.upd hup (fun k hk h => h.2 hk)).at' hlt
          obtain rfl := hrep
          have e0 := hcell 0 _ rfl
          simp at e0
          have HX : Hd (x = tamV.getD j 0) := ⟨by rw [List.getD_eq_getElem?_getD, hx]; rfl⟩
          obtain ⟨acc, hacc⟩ : ∃ acc, acc = singR asc128 ++ singR (vowL.take j) := ⟨_, rfl⟩
          have HA : Hd (acc = singR asc128 ++ singR (vowL.take j)) := ⟨hacc⟩
          have hal : acc.length ≤ 512 := by rw [hacc]; have := HV13.out; simp [singR] at this ⊢; omega
          rw [← hacc] at hown
          clear hacc hx hcell
          have RN : ∀ x y : Int, eRule.rep (fun k => k = wr.heap.size ∨ k = wr.heap.size + 1) ((wr.alloc (.cells #[.int .i64 x] 3)).alloc (.cells #[.int .i64 y] 3)) ([x], [y]) [.slice (some ⟨wr.heap.size, 0, none⟩) 1 1, .slice (some ⟨wr.heap.size + 1, 0, none⟩) 1 1] := fun x y => rule_new wr [x] [y] ⟨by simp, by simp⟩
          go_wp2_with (first
            | (go_at_call 97; refine (tamil_one _ (.int .i64 0) (.int .i64 0) _ _ _ _ _ _).mono ?_; rintro e w1 ⟨rfl, hu1⟩)
            | (at_builtin; go_loud (refine wp_appendLit (F := fun k => w.heap.size ≤ k ∧ k ≠ w2.heap.size) eRule w.heap.size rfl (.tmp 29) (.tmp 36) 49 115 _ 48 rfl Tryz.underlying49 info_Rule rfl (by decide) (.slice A1 n1 c1) acc [([(145 : Int) + j], [x])] [[.slice (some ⟨wr.heap.size, 0, none⟩) 1 1, .slice (some ⟨wr.heap.size + 1, 0, none⟩) 1 1]] _ 1 rfl rfl rfl rfl rfl ?qo ?qhr ?qnew ?qb ?ql (by decide) ?_)))
          case qo => exact (((hown.alloc _).alloc _).upd hu1 (fun _ _ h => h))
          case qhr =>
            have := hup0.size
            intro k y cs hy hc
            cases k with
            | zero =>
              simp at hy hc; subst hy; subst hc
              refine eRule.mono (fun k hk => ⟨⟨by omega, by omega⟩, fun e => ?_⟩) (eRule.upd (RN _ _) hu1 (fun _ _ h => h))
              have := (hown.lt k e.symm).2; omega
            | succ k => simp at hy
          case qnew => intro k hk; have := hup0.size; have := hu1.size; simp at *; omega
          case qb => have := hup0.size; have := hu1.size; simp at *; omega
          case ql => simp; omega
          intro A3 n3 c3 w7 hown7 hup7 hat7
          go_wp2
          go_roundg (gk - 1)
          case measure => omega
          case rel =>
            go_light
            have hl13 := HV13.out.2.1
            refine ⟨A3, n3, c3, j + 1, rfl, by go_num, by omega, by omega, by rw [vowL_at j hlt, singR_snoc, ← List.append_assoc, ← HA.out, ← HX.out]; exact hown7, ?_⟩
            exact ((((hup.alloc _).alloc _).trans hu1 (T := fun k => w.heap.size ≤ k ∧ k ≠ w2.heap.size) (fun _ _ h => h) (fun _ _ h => h.elim)).trans hup7 (fun _ _ h => h) (fun i hi e => hown.1 i e.symm))
        · have hlt1 : decide ((j : Int) < 13) = false := by simp; omega
          have h1 : vowL.take j = vowL := List.take_of_length_le (by have := HV13.out; omega)
          rw [h1] at hown
          go_wp2_with fail
          go_meet
          go_light
          exact ⟨A1, n1, c1, rfl, hown.mono (fun k hk => hk.1), hup0⟩
    case rest =>
      clear hown1 hup1
      obtain ⟨A1, n1, c1, rfl, hown1, hup1⟩ := hcut
      go_upto_block 4 with fail
      obtain ⟨w2, rfl⟩ : ∃ w2 : World, w2 = wc := ⟨_, rfl⟩
      have hvow := (Own.lit2 w2 sgnL 167 (by decide)).rd
      have HV13 : Hd (sgnL.length = 10 ∧ (singR asc128 ++ singR vowL).length = 141) := ⟨by decide, by simp [singR, vowL, HL.out]⟩
      rw [HV13.out.1] at hvow
      have HVow : Hd (Rd e2 (fun k => k = w2.heap.size) _ _ _) := ⟨Rd.mono (F := fun k => w2.heap.size ≤ k ∧ k < (w2.alloc (.cells (sgnL.flatMap fun p => [Value.int .i64 p.1, Value.int .i64 p.2]).toArray 167)).heap.size) hvow.bound (fun k hk => by simp at hk; omega)⟩
      clear hvow
      go_cut [1] (fun v wx => TamAt w (singR asc128 ++ singR vowL ++ singR sgnL) v wx)
      case first =>
        go_wp2_with fail
        go_loopg [1, 51] 10 (TamRel (fun k => w.heap.size ≤ k ∧ k ≠ w2.heap.size) w (w2.alloc (.cells (sgnL.flatMap fun p => [Value.int .i64 p.1, Value.int .i64 p.2]).toArray 167)) (singR asc128 ++ singR vowL) sgnL)
        case atStart => exact ⟨A1, n1, c1, 0, rfl, rfl, HV13.out.1.symm ▸ rfl, Nat.zero_le _, by simpa [singR] using (hown1.bound.mono (F' := fun k => w.heap.size ≤ k ∧ k ≠ w2.heap.size) (fun k hk => ⟨hk.1, by omega⟩)).alloc _, Upd.refl _ _⟩
        case round =>
          obtain ⟨A1, n1, c1, j, rfl, rfl, hgj, hj, hown, hup⟩ := hrel
          rw [HV13.out.1] at hgj hj
          have hup0 : Upd No w wr := (hup1.alloc _).trans hup (fun _ _ h => h) (fun i hi h => by have := h.1; omega)
          have hw2z : w2.heap.size < wr.heap.size := by have := hup.size; simp at this; omega
          by_cases hlt : j < 10
          · have hlt1 : decide ((j : Int) < 10) = true := by simp; omega
            obtain ⟨x, cs, hx, hrep, hcell, _, hbz⟩ := (HVow.out.upd hup (fun k hk h => h.2 hk)).at' hlt
            obtain rfl := e2_of hrep
            have e0 := hcell 0 _ rfl
            have e1 := hcell 1 _ rfl
            simp at e0 e1
            have HX : Hd (sgnL.take (j + 1) = sgnL.take j ++ [(x.1, x.2)]) := ⟨by rw [List.take_add_one, hx]; rfl⟩
            obtain ⟨acc, hacc⟩ : ∃ acc, acc = (singR asc128 ++ singR vowL) ++ singR (sgnL.take j) := ⟨_, rfl⟩
            have HA : Hd (acc = (singR asc128 ++ singR vowL) ++ singR (sgnL.take j)) := ⟨hacc⟩
            have hal : acc.length ≤ 512 := by rw [hacc, List.length_append, HV13.out.2]; simp [singR]; omega
            rw [← hacc] at hown
            clear hacc hx hcell
            obtain ⟨wv, hwv⟩ : ∃ wv : World, wv = wr.alloc (.cells #[.int .i64 x.1, .int .i64 x.2] 167) := ⟨_, rfl⟩
            have RN : ∀ x y : Int, eRule.rep (fun k => k = wr.heap.size + 1 ∨ k = wr.heap.size + 1 + 1) (((wr.alloc (.cells #[.int .i64 x, .int .i64 y] 167)).alloc (.cells #[.int .i64 x] 3)).alloc (.cells #[.int .i64 y] 3)) ([x], [y]) [.slice (some ⟨wr.heap.size + 1, 0, none⟩) 1 1, .slice (some ⟨wr.heap.size + 1 + 1, 0, none⟩) 1 1] := fun x y => by
              have := rule_new (wr.alloc (.cells #[.int .i64 x, .int .i64 y] 167)) [x] [y] ⟨by simp, by simp⟩
              simpa using this
            clear hwv
            go_wp2_with (first
              | (go_at_call 97; refine (tamil_one _ (.int .i64 0) (.int .i64 0) _ _ _ _ _ _).mono ?_; rintro e w1 ⟨rfl, hu1⟩)
              | (at_builtin; go_loud (refine wp_appendLit (F := fun k => w.heap.size ≤ k ∧ k ≠ w2.heap.size) eRule w.heap.size rfl (.tmp 55) (.tmp 63) 49 115 _ 48 rfl Tryz.underlying49 info_Rule rfl (by decide) (.slice A1 n1 c1) acc [([x.1], [x.2])] [[.slice (some ⟨wr.heap.size + 1, 0, none⟩) 1 1, .slice (some ⟨wr.heap.size + 1 + 1, 0, none⟩) 1 1]] _ 1 rfl rfl rfl rfl rfl ?qo ?qhr ?qnew ?qb ?ql (by decide) ?_)))
            case qo => exact ((((hown.alloc _).alloc _).alloc _).upd hu1 (fun _ _ h => h))
            case qhr =>
              have := hup0.size
              intro k y cs hy hc
              cases k with
              | zero =>
                simp at hy hc; subst hy; subst hc
                refine eRule.mono (fun k hk => ⟨⟨?_, ?_⟩, fun e => ?_⟩) (eRule.upd (RN x.1 x.2) hu1 (fun _ _ h => h))
                · omega
                · omega
                · have := (hown.lt k e.symm).2; omega
              | succ k => simp at hy
            case qnew => intro k hk; have := hup0.size; have := hu1.size; simp at *; omega
            case qb => have := hup0.size; have := hu1.size; simp at *; omega
            case ql => simp; omega
            intro A3 n3 c3 w7 hown7 hup7 hat7
            go_wp2
            go_roundg (gk - 1)
            case measure => omega
            case rel =>
              go_light
              have hl13 := HV13.out.1
              refine ⟨A3, n3, c3, j + 1, rfl, by go_num, by omega, by omega, by rw [HX.out, singR_snoc, ← List.append_assoc, ← HA.out]; exact hown7, ?_⟩
              exact (((((hup.alloc _).alloc _).alloc _).trans hu1 (T := fun k => w.heap.size ≤ k ∧ k ≠ w2.heap.size) (fun _ _ h => h) (fun _ _ h => h.elim)).trans hup7 (fun _ _ h => h) (fun i hi e => hown.1 i e.symm))
          · have hlt1 : decide ((j : Int) < 10) = false := by simp; omega
            have h1 : sgnL.take j = sgnL := List.take_of_length_le (by have := HV13.out; omega)
            rw [h1] at hown
            go_wp2_with fail
            go_meet
            go_light
            exact ⟨A1, n1, c1, rfl, hown.mono (fun k hk => hk.1), hup0⟩
      case rest =>
        clear hown1 hup1 HV13
        obtain ⟨A1, n1, c1, rfl, hown1, hup1⟩ := hcut
        go_upto_block 6 with (go_at_call 99; refine (tamil_consonants _).mono ?_; rintro e w2 ⟨rfl, rfl⟩)
        obtain ⟨w2, rfl⟩ : ∃ w2 : World, w2 = wc := ⟨_, rfl⟩
        have hvow := Rd.lits w2 tamC 3 (by decide)
        have HV13 : Hd (tamC.length = 22) := ⟨by decide⟩
        have HPre : Hd ((singR asc128 ++ singR vowL ++ singR sgnL).length = 151) := ⟨by simp [singR, vowL, sgnL, HL.out]⟩
        rw [HV13.out] at hvow
        have HVow : Hd _ := ⟨hvow⟩
        clear hvow
        go_wp2_with fail
        go_loopg [1, 68] 22 (Tam4Rel (fun k => w.heap.size ≤ k ∧ k ≠ w2.heap.size) w (w2.alloc (.cells (tamC.map fun n => Value.int .i64 n).toArray 3)) (singR asc128 ++ singR vowL ++ singR sgnL))
        case atStart => exact ⟨A1, n1, c1, 0, rfl, rfl, rfl, Nat.zero_le _, by simpa [consL] using (hown1.bound.mono (F' := fun k => w.heap.size ≤ k ∧ k ≠ w2.heap.size) (fun k hk => ⟨hk.1, by omega⟩)).alloc _, Upd.refl _ _⟩
        case round =>
          obtain ⟨A1, n1, c1, j, rfl, rfl, hgj, hj, hown, hup⟩ := hrel
          have hup0 : Upd No w wr := (hup1.alloc _).trans hup (fun _ _ h => h) (fun i hi h => by have := h.1; omega)
          have hw2z : w2.heap.size < wr.heap.size := by have := hup.size; simp at this; omega
          by_cases hlt : j < 22
          · have hlt1 : decide ((j : Int) < 22) = true := by simp; omega
            obtain ⟨x, cs, hx, hrep, hcell, _, hbz⟩ := (HVow.out.upd hup (fun k hk h => h.2 hk)).at' hlt
            obtain rfl := hrep
            have e0 := hcell 0 _ rfl
            simp at e0
            have HX : Hd (x = tamC.getD j 0) := ⟨by rw [List.getD_eq_getElem?_getD, hx]; rfl⟩
            obtain ⟨acc, hacc⟩ : ∃ acc, acc = (singR asc128 ++ singR vowL ++ singR sgnL) ++ consL j := ⟨_, rfl⟩
            have HA : Hd (acc = (singR asc128 ++ singR vowL ++ singR sgnL) ++ consL j) := ⟨hacc⟩
            have hal : acc.length ≤ 512 := by rw [hacc, List.length_append, HPre.out, consL_len]; omega
            rw [← hacc] at hown
            clear hacc hx hcell
            go_wp2_with (first
                | (go_at_call 97; refine (tamil_one ((wr.alloc (.cells #[.int .i64 ((176 : Int) + j)] 3)).alloc (.cells #[.int .i64 x] 3)) (.int .i64 0) (.int .i64 0) _ _ _ _ _ _).mono ?_; rintro e z1 ⟨rfl, hz1⟩)
                | (go_at_call 97; refine (tamil_one ((z1.alloc (.cells #[.int .i64 ((208 : Int) + j)] 3)).alloc (.cells #[.int .i64 x, .int .i64 3021] 3)) (.int .i64 0) (.int .i64 0) _ _ _ _ _ _).mono ?_; rintro e z2 ⟨rfl, hz2⟩)
                | (go_at_call 97; refine (tamil_one ((z2.alloc (.cells #[.int .i64 166, .int .i64 ((176 : Int) + j)] 3)).alloc (.cells #[.int .i64 x, .int .i64 3014] 3)) (.int .i64 0) (.int .i64 0) _ _ _ _ _ _).mono ?_; rintro e z3 ⟨rfl, hz3⟩)
                | (go_at_call 97; refine (tamil_one ((z3.alloc (.cells #[.int .i64 167, .int .i64 ((176 : Int) + j)] 3)).alloc (.cells #[.int .i64 x, .int .i64 3015] 3)) (.int .i64 0) (.int .i64 0) _ _ _ _ _ _).mono ?_; rintro e z4 ⟨rfl, hz4⟩)
                | (go_at_call 97; refine (tamil_one ((z4.alloc (.cells #[.int .i64 168, .int .i64 ((176 : Int) + j)] 3)).alloc (.cells #[.int .i64 x, .int .i64 3016] 3)) (.int .i64 0) (.int .i64 0) _ _ _ _ _ _).mono ?_; rintro e z5 ⟨rfl, hz5⟩)
                | (go_at_call 97; refine (tamil_one ((z5.alloc (.cells #[.int .i64 166, .int .i64 ((176 : Int) + j), .int .i64 170] 3)).alloc (.cells #[.int .i64 x, .int .i64 3018] 3)) (.int .i64 0) (.int .i64 0) _ _ _ _ _ _).mono ?_; rintro e z6 ⟨rfl, hz6⟩)
                | (go_at_call 97; refine (tamil_one ((z6.alloc (.cells #[.int .i64 167, .int .i64 ((176 : Int) + j), .int .i64 170] 3)).alloc (.cells #[.int .i64 x, .int .i64 3019] 3)) (.int .i64 0) (.int .i64 0) _ _ _ _ _ _).mono ?_; rintro e z7 ⟨rfl, hz7⟩)
                | (go_at_call 97; refine (tamil_one ((z7.alloc (.cells #[.int .i64 166, .int .i64 ((176 : Int) + j), .int .i64 175] 3)).alloc (.cells #[.int .i64 x, .int .i64 3020] 3)) (.int .i64 0) (.int .i64 0) _ _ _ _ _ _).mono ?_; rintro e z8 ⟨rfl, hz8⟩)
                | (at_builtin; go_loud (refine wp_appendLit (F := fun k => w.heap.size ≤ k ∧ k ≠ w2.heap.size) eRule w.heap.size rfl (.tmp 75) (.tmp 117) 49 115 _ 48 rfl Tryz.underlying49 info_Rule rfl (by decide) (.slice A1 n1 c1) acc [([(176 : Int) + j], [x]), ([(208 : Int) + j], [x, 3021]), ([166, (176 : Int) + j], [x, 3014]), ([167, (176 : Int) + j], [x, 3015]), ([168, (176 : Int) + j], [x, 3016]), ([166, (176 : Int) + j, 170], [x, 3018]), ([167, (176 : Int) + j, 170], [x, 3019]), ([166, (176 : Int) + j, 175], [x, 3020])] [[.slice (some ⟨wr.heap.size, 0, none⟩) 1 1, .slice (some ⟨wr.heap.size + 1, 0, none⟩) 1 1], [.slice (some ⟨z1.heap.size, 0, none⟩) 1 1, .slice (some ⟨z1.heap.size + 1, 0, none⟩) 2 2], [.slice (some ⟨z2.heap.size, 0, none⟩) 2 2, .slice (some ⟨z2.heap.size + 1, 0, none⟩) 2 2], [.slice (some ⟨z3.heap.size, 0, none⟩) 2 2, .slice (some ⟨z3.heap.size + 1, 0, none⟩) 2 2], [.slice (some ⟨z4.heap.size, 0, none⟩) 2 2, .slice (some ⟨z4.heap.size + 1, 0, none⟩) 2 2], [.slice (some ⟨z5.heap.size, 0, none⟩) 3 3, .slice (some ⟨z5.heap.size + 1, 0, none⟩) 2 2], [.slice (some ⟨z6.heap.size, 0, none⟩) 3 3, .slice (some ⟨z6.heap.size + 1, 0, none⟩) 2 2], [.slice (some ⟨z7.heap.size, 0, none⟩) 3 3, .slice (some ⟨z7.heap.size + 1, 0, none⟩) 2 2]] _ 8 rfl rfl rfl rfl rfl ?qo ?qhr ?qnew ?qb ?ql (by decide) ?_)))
            case qo =>
              have u1 : Upd No wr z1 := (((Upd.refl No _).alloc _).alloc _).trans hz1 (fun _ _ h => h) (fun _ _ h => h)
              have u2 : Upd No z1 z2 := ((Upd.refl No _).alloc _).alloc _ |>.trans hz2 (fun _ _ h => h) (fun _ _ h => h)
              have u3 : Upd No z2 z3 := ((Upd.refl No _).alloc _).alloc _ |>.trans hz3 (fun _ _ h => h) (fun _ _ h => h)
              have u4 : Upd No z3 z4 := ((Upd.refl No _).alloc _).alloc _ |>.trans hz4 (fun _ _ h => h) (fun _ _ h => h)
              have u5 : Upd No z4 z5 := ((Upd.refl No _).alloc _).alloc _ |>.trans hz5 (fun _ _ h => h) (fun _ _ h => h)
              have u6 : Upd No z5 z6 := ((Upd.refl No _).alloc _).alloc _ |>.trans hz6 (fun _ _ h => h) (fun _ _ h => h)
              have u7 : Upd No z6 z7 := ((Upd.refl No _).alloc _).alloc _ |>.trans hz7 (fun _ _ h => h) (fun _ _ h => h)
              have u8 : Upd No z7 z8 := ((Upd.refl No _).alloc _).alloc _ |>.trans hz8 (fun _ _ h => h) (fun _ _ h => h)
              have u18 : Upd No wr z8 := (((((((u1.trans u2 (T := No) (fun _ _ h => h) (fun _ _ h => h)).trans u3 (T := No) (fun _ _ h => h) (fun _ _ h => h)).trans u4 (T := No) (fun _ _ h => h) (fun _ _ h => h)).trans u5 (T := No) (fun _ _ h => h) (fun _ _ h => h)).trans u6 (T := No) (fun _ _ h => h) (fun _ _ h => h)).trans u7 (T := No) (fun _ _ h => h) (fun _ _ h => h)).trans u8 (T := No) (fun _ _ h => h) (fun _ _ h => h))
              have hz0 := hup0.size
              have hz18 := u18.size
              exact hown.upd u18 (fun _ _ h => h)
            case qhr =>
              have u1 : Upd No wr z1 := (((Upd.refl No _).alloc _).alloc _).trans hz1 (fun _ _ h => h) (fun _ _ h => h)
              have u2 : Upd No z1 z2 := ((Upd.refl No _).alloc _).alloc _ |>.trans hz2 (fun _ _ h => h) (fun _ _ h => h)
              have u3 : Upd No z2 z3 := ((Upd.refl No _).alloc _).alloc _ |>.trans hz3 (fun _ _ h => h) (fun _ _ h => h)
              have u4 : Upd No z3 z4 := ((Upd.refl No _).alloc _).alloc _ |>.trans hz4 (fun _ _ h => h) (fun _ _ h => h)
              have u5 : Upd No z4 z5 := ((Upd.refl No _).alloc _).alloc _ |>.trans hz5 (fun _ _ h => h) (fun _ _ h => h)
              have u6 : Upd No z5 z6 := ((Upd.refl No _).alloc _).alloc _ |>.trans hz6 (fun _ _ h => h) (fun _ _ h => h)
              have u7 : Upd No z6 z7 := ((Upd.refl No _).alloc _).alloc _ |>.trans hz7 (fun _ _ h => h) (fun _ _ h => h)
              have u8 : Upd No z7 z8 := ((Upd.refl No _).alloc _).alloc _ |>.trans hz8 (fun _ _ h => h) (fun _ _ h => h)
              have u18 : Upd No wr z8 := (((((((u1.trans u2 (T := No) (fun _ _ h => h) (fun _ _ h => h)).trans u3 (T := No) (fun _ _ h => h) (fun _ _ h => h)).trans u4 (T := No) (fun _ _ h => h) (fun _ _ h => h)).trans u5 (T := No) (fun _ _ h => h) (fun _ _ h => h)).trans u6 (T := No) (fun _ _ h => h) (fun _ _ h => h)).trans u7 (T := No) (fun _ _ h => h) (fun _ _ h => h)).trans u8 (T := No) (fun _ _ h => h) (fun _ _ h => h))
              have hz0 := hup0.size
              have hz18 := u18.size
              have s1 := u1.size
              have s2 := u2.size
              have s3 := u3.size
              have s4 := u4.size
              have s5 := u5.size
              have s6 := u6.size
              have s7 := u7.size
              have s8 := u8.size
              have r1 : eRule.rep (fun k => w.heap.size ≤ k ∧ w2.heap.size < k ∧ wr.heap.size ≤ k) z8 ([(176 : Int) + j], [x]) [.slice (some ⟨wr.heap.size, 0, none⟩) 1 1, .slice (some ⟨wr.heap.size + 1, 0, none⟩) 1 1] := by
                have q := eRule.upd (rule_new wr [(176 : Int) + j] [x] ⟨by simp, by simp⟩) hz1 (fun _ _ h => h)
                have q := eRule.upd q u2 (fun _ _ h => h)
                have q := eRule.upd q u3 (fun _ _ h => h)
                have q := eRule.upd q u4 (fun _ _ h => h)
                have q := eRule.upd q u5 (fun _ _ h => h)
                have q := eRule.upd q u6 (fun _ _ h => h)
                have q := eRule.upd q u7 (fun _ _ h => h)
                have q := eRule.upd q u8 (fun _ _ h => h)
                exact eRule.mono (fun k hk => by omega) q
              have r2 : eRule.rep (fun k => w.heap.size ≤ k ∧ w2.heap.size < k ∧ wr.heap.size ≤ k) z8 ([(208 : Int) + j], [x, 3021]) [.slice (some ⟨z1.heap.size, 0, none⟩) 1 1, .slice (some ⟨z1.heap.size + 1, 0, none⟩) 2 2] := by
                have q := eRule.upd (rule_new z1 [(208 : Int) + j] [x, 3021] ⟨by simp, by simp⟩) hz2 (fun _ _ h => h)
                have q := eRule.upd q u3 (fun _ _ h => h)
                have q := eRule.upd q u4 (fun _ _ h => h)
                have q := eRule.upd q u5 (fun _ _ h => h)
                have q := eRule.upd q u6 (fun _ _ h => h)
                have q := eRule.upd q u7 (fun _ _ h => h)
                have q := eRule.upd q u8 (fun _ _ h => h)
                exact eRule.mono (fun k hk => by omega) q
              have r3 : eRule.rep (fun k => w.heap.size ≤ k ∧ w2.heap.size < k ∧ wr.heap.size ≤ k) z8 ([166, (176 : Int) + j], [x, 3014]) [.slice (some ⟨z2.heap.size, 0, none⟩) 2 2, .slice (some ⟨z2.heap.size + 1, 0, none⟩) 2 2] := by
                have q := eRule.upd (rule_new z2 [166, (176 : Int) + j] [x, 3014] ⟨by simp, by simp⟩) hz3 (fun _ _ h => h)
                have q := eRule.upd q u4 (fun _ _ h => h)
                have q := eRule.upd q u5 (fun _ _ h => h)
                have q := eRule.upd q u6 (fun _ _ h => h)
                have q := eRule.upd q u7 (fun _ _ h => h)
                have q := eRule.upd q u8 (fun _ _ h => h)
                exact eRule.mono (fun k hk => by omega) q
              have r4 : eRule.rep (fun k => w.heap.size ≤ k ∧ w2.heap.size < k ∧ wr.heap.size ≤ k) z8 ([167, (176 : Int) + j], [x, 3015]) [.slice (some ⟨z3.heap.size, 0, none⟩) 2 2, .slice (some ⟨z3.heap.size + 1, 0, none⟩) 2 2] := by
                have q := eRule.upd (rule_new z3 [167, (176 : Int) + j] [x, 3015] ⟨by simp, by simp⟩) hz4 (fun _ _ h => h)
                have q := eRule.upd q u5 (fun _ _ h => h)
                have q := eRule.upd q u6 (fun _ _ h => h)
                have q := eRule.upd q u7 (fun _ _ h => h)
                have q := eRule.upd q u8 (fun _ _ h => h)
                exact eRule.mono (fun k hk => by omega) q
              have r5 : eRule.rep (fun k => w.heap.size ≤ k ∧ w2.heap.size < k ∧ wr.heap.size ≤ k) z8 ([168, (176 : Int) + j], [x, 3016]) [.slice (some ⟨z4.heap.size, 0, none⟩) 2 2, .slice (some ⟨z4.heap.size + 1, 0, none⟩) 2 2] := by
                have q := eRule.upd (rule_new z4 [168, (176 : Int) + j] [x, 3016] ⟨by simp, by simp⟩) hz5 (fun _ _ h => h)
                have q := eRule.upd q u6 (fun _ _ h => h)
                have q := eRule.upd q u7 (fun _ _ h => h)
                have q := eRule.upd q u8 (fun _ _ h => h)
                exact eRule.mono (fun k hk => by omega) q
              have r6 : eRule.rep (fun k => w.heap.size ≤ k ∧ w2.heap.size < k ∧ wr.heap.size ≤ k) z8 ([166, (176 : Int) + j, 170], [x, 3018]) [.slice (some ⟨z5.heap.size, 0, none⟩) 3 3, .slice (some ⟨z5.heap.size + 1, 0, none⟩) 2 2] := by
                have q := eRule.upd (rule_new z5 [166, (176 : Int) + j, 170] [x, 3018] ⟨by simp, by simp⟩) hz6 (fun _ _ h => h)
                have q := eRule.upd q u7 (fun _ _ h => h)
                have q := eRule.upd q u8 (fun _ _ h => h)
                exact eRule.mono (fun k hk => by omega) q
              have r7 : eRule.rep (fun k => w.heap.size ≤ k ∧ w2.heap.size < k ∧ wr.heap.size ≤ k) z8 ([167, (176 : Int) + j, 170], [x, 3019]) [.slice (some ⟨z6.heap.size, 0, none⟩) 3 3, .slice (some ⟨z6.heap.size + 1, 0, none⟩) 2 2] := by
                have q := eRule.upd (rule_new z6 [167, (176 : Int) + j, 170] [x, 3019] ⟨by simp, by simp⟩) hz7 (fun _ _ h => h)
                have q := eRule.upd q u8 (fun _ _ h => h)
                exact eRule.mono (fun k hk => by omega) q
              have r8 : eRule.rep (fun k => w.heap.size ≤ k ∧ w2.heap.size < k ∧ wr.heap.size ≤ k) z8 ([166, (176 : Int) + j, 175], [x, 3020]) [.slice (some ⟨z7.heap.size, 0, none⟩) 3 3, .slice (some ⟨z7.heap.size + 1, 0, none⟩) 2 2] := by
                have q := eRule.upd (rule_new z7 [166, (176 : Int) + j, 175] [x, 3020] ⟨by simp, by simp⟩) hz8 (fun _ _ h => h)
                exact eRule.mono (fun k hk => by omega) q
              intro k y cs hy hc
              match k, hy, hc with
              | 0, hy, hc => simp at hy hc; subst hy; subst hc; exact eRule.mono (fun k hk => ⟨⟨hk.1, by omega⟩, fun e => by have := (hown.lt k e.symm).2; omega⟩) r1
              | 1, hy, hc => simp at hy hc; subst hy; subst hc; exact eRule.mono (fun k hk => ⟨⟨hk.1, by omega⟩, fun e => by have := (hown.lt k e.symm).2; omega⟩) r2
              | 2, hy, hc => simp at hy hc; subst hy; subst hc; exact eRule.mono (fun k hk => ⟨⟨hk.1, by omega⟩, fun e => by have := (hown.lt k e.symm).2; omega⟩) r3
              | 3, hy, hc => simp at hy hc; subst hy; subst hc; exact eRule.mono (fun k hk => ⟨⟨hk.1, by omega⟩, fun e => by have := (hown.lt k e.symm).2; omega⟩) r4
              | 4, hy, hc => simp at hy hc; subst hy; subst hc; exact eRule.mono (fun k hk => ⟨⟨hk.1, by omega⟩, fun e => by have := (hown.lt k e.symm).2; omega⟩) r5
              | 5, hy, hc => simp at hy hc; subst hy; subst hc; exact eRule.mono (fun k hk => ⟨⟨hk.1, by omega⟩, fun e => by have := (hown.lt k e.symm).2; omega⟩) r6
              | 6, hy, hc => simp at hy hc; subst hy; subst hc; exact eRule.mono (fun k hk => ⟨⟨hk.1, by omega⟩, fun e => by have := (hown.lt k e.symm).2; omega⟩) r7
              | 7, hy, hc => simp at hy hc; subst hy; subst hc; exact eRule.mono (fun k hk => ⟨⟨hk.1, by omega⟩, fun e => by have := (hown.lt k e.symm).2; omega⟩) r8
              | k + 8, hy, hc => simp at hy
            case qnew =>
              have u1 : Upd No wr z1 := (((Upd.refl No _).alloc _).alloc _).trans hz1 (fun _ _ h => h) (fun _ _ h => h)
              have u2 : Upd No z1 z2 := ((Upd.refl No _).alloc _).alloc _ |>.trans hz2 (fun _ _ h => h) (fun _ _ h => h)
              have u3 : Upd No z2 z3 := ((Upd.refl No _).alloc _).alloc _ |>.trans hz3 (fun _ _ h => h) (fun _ _ h => h)
              have u4 : Upd No z3 z4 := ((Upd.refl No _).alloc _).alloc _ |>.trans hz4 (fun _ _ h => h) (fun _ _ h => h)
              have u5 : Upd No z4 z5 := ((Upd.refl No _).alloc _).alloc _ |>.trans hz5 (fun _ _ h => h) (fun _ _ h => h)
              have u6 : Upd No z5 z6 := ((Upd.refl No _).alloc _).alloc _ |>.trans hz6 (fun _ _ h => h) (fun _ _ h => h)
              have u7 : Upd No z6 z7 := ((Upd.refl No _).alloc _).alloc _ |>.trans hz7 (fun _ _ h => h) (fun _ _ h => h)
              have u8 : Upd No z7 z8 := ((Upd.refl No _).alloc _).alloc _ |>.trans hz8 (fun _ _ h => h) (fun _ _ h => h)
              have u18 : Upd No wr z8 := (((((((u1.trans u2 (T := No) (fun _ _ h => h) (fun _ _ h => h)).trans u3 (T := No) (fun _ _ h => h) (fun _ _ h => h)).trans u4 (T := No) (fun _ _ h => h) (fun _ _ h => h)).trans u5 (T := No) (fun _ _ h => h) (fun _ _ h => h)).trans u6 (T := No) (fun _ _ h => h) (fun _ _ h => h)).trans u7 (T := No) (fun _ _ h => h) (fun _ _ h => h)).trans u8 (T := No) (fun _ _ h => h) (fun _ _ h => h))
              have hz0 := hup0.size
              have hz18 := u18.size
              intro k hk
              omega
            case qb =>
              have u1 : Upd No wr z1 := (((Upd.refl No _).alloc _).alloc _).trans hz1 (fun _ _ h => h) (fun _ _ h => h)
              have u2 : Upd No z1 z2 := ((Upd.refl No _).alloc _).alloc _ |>.trans hz2 (fun _ _ h => h) (fun _ _ h => h)
              have u3 : Upd No z2 z3 := ((Upd.refl No _).alloc _).alloc _ |>.trans hz3 (fun _ _ h => h) (fun _ _ h => h)
              have u4 : Upd No z3 z4 := ((Upd.refl No _).alloc _).alloc _ |>.trans hz4 (fun _ _ h => h) (fun _ _ h => h)
              have u5 : Upd No z4 z5 := ((Upd.refl No _).alloc _).alloc _ |>.trans hz5 (fun _ _ h => h) (fun _ _ h => h)
              have u6 : Upd No z5 z6 := ((Upd.refl No _).alloc _).alloc _ |>.trans hz6 (fun _ _ h => h) (fun _ _ h => h)
              have u7 : Upd No z6 z7 := ((Upd.refl No _).alloc _).alloc _ |>.trans hz7 (fun _ _ h => h) (fun _ _ h => h)
              have u8 : Upd No z7 z8 := ((Upd.refl No _).alloc _).alloc _ |>.trans hz8 (fun _ _ h => h) (fun _ _ h => h)
              have u18 : Upd No wr z8 := (((((((u1.trans u2 (T := No) (fun _ _ h => h) (fun _ _ h => h)).trans u3 (T := No) (fun _ _ h => h) (fun _ _ h => h)).trans u4 (T := No) (fun _ _ h => h) (fun _ _ h => h)).trans u5 (T := No) (fun _ _ h => h) (fun _ _ h => h)).trans u6 (T := No) (fun _ _ h => h) (fun _ _ h => h)).trans u7 (T := No) (fun _ _ h => h) (fun _ _ h => h)).trans u8 (T := No) (fun _ _ h => h) (fun _ _ h => h))
              have hz0 := hup0.size
              have hz18 := u18.size
              omega
            case ql => simp; omega
            intro A3 n3 c3 w7 hown7 hup7 hat7
            go_wp2
            go_roundg (gk - 1)
            case measure => omega
            case rel =>
              go_light
              have u1 : Upd No wr z1 := (((Upd.refl No _).alloc _).alloc _).trans hz1 (fun _ _ h => h) (fun _ _ h => h)
              have u2 : Upd No z1 z2 := ((Upd.refl No _).alloc _).alloc _ |>.trans hz2 (fun _ _ h => h) (fun _ _ h => h)
              have u3 : Upd No z2 z3 := ((Upd.refl No _).alloc _).alloc _ |>.trans hz3 (fun _ _ h => h) (fun _ _ h => h)
              have u4 : Upd No z3 z4 := ((Upd.refl No _).alloc _).alloc _ |>.trans hz4 (fun _ _ h => h) (fun _ _ h => h)
              have u5 : Upd No z4 z5 := ((Upd.refl No _).alloc _).alloc _ |>.trans hz5 (fun _ _ h => h) (fun _ _ h => h)
              have u6 : Upd No z5 z6 := ((Upd.refl No _).alloc _).alloc _ |>.trans hz6 (fun _ _ h => h) (fun _ _ h => h)
              have u7 : Upd No z6 z7 := ((Upd.refl No _).alloc _).alloc _ |>.trans hz7 (fun _ _ h => h) (fun _ _ h => h)
              have u8 : Upd No z7 z8 := ((Upd.refl No _).alloc _).alloc _ |>.trans hz8 (fun _ _ h => h) (fun _ _ h => h)
              have u18 : Upd No wr z8 := (((((((u1.trans u2 (T := No) (fun _ _ h => h) (fun _ _ h => h)).trans u3 (T := No) (fun _ _ h => h) (fun _ _ h => h)).trans u4 (T := No) (fun _ _ h => h) (fun _ _ h => h)).trans u5 (T := No) (fun _ _ h => h) (fun _ _ h => h)).trans u6 (T := No) (fun _ _ h => h) (fun _ _ h => h)).trans u7 (T := No) (fun _ _ h => h) (fun _ _ h => h)).trans u8 (T := No) (fun _ _ h => h) (fun _ _ h => h))
              have hz0 := hup0.size
              have hz18 := u18.size
              refine ⟨A3, n3, c3, j + 1, rfl, by go_num, by omega, by omega, by rw [consL_succ, ← List.append_assoc, ← HA.out, ← HX.out]; exact hown7, ?_⟩
              exact (hup.trans u18 (fun _ _ h => h) (fun _ _ h => h.elim)).trans hup7 (fun _ _ h => h) (fun i hi e => hown.1 i e.symm)
          · have hlt1 : decide ((j : Int) < 22) = false := by simp; omega
            have h1 : j = 22 := by omega
            subst h1
            go_wp2
            go_ret
            go_light
            exact ⟨A1, n1, c1, rfl, hown.mono (fun k hk => hk.1), hup0⟩
end Go.Proofs.YtebgjabalnffdaaGreatDoor
