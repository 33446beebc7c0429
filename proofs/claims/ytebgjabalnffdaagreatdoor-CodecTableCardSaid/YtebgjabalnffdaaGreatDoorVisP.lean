/- viscii.high, Decode, Rules. -/
import Derived.Test.YtebgjabalnffdaaGreatDoorInfo
import Derived.Deep.WholeRow
set_option linter.unusedVariables false
set_option linter.unusedSimpArgs false
set_option maxRecDepth 100000
namespace Go.Proofs.YtebgjabalnffdaaGreatDoor
open Go.RowKit

def visHi : List Int := [7840, 7854, 7856, 7862, 7844, 7846, 7848, 7852, 7868, 7864, 7870, 7872, 7874, 7876, 7878, 7888, 7890, 7892, 7894, 7896, 7906, 7898, 7900, 7902, 7882, 7886, 7884, 7880, 7910, 360, 7908, 7922, 213, 7855, 7857, 7863, 7845, 7847, 7849, 7853, 7869, 7865, 7871, 7873, 7875, 7877, 7879, 7889, 7891, 7893, 7895, 7904, 416, 7897, 7901, 7903, 7883, 7920, 7912, 7914, 7916, 417, 7899, 431, 192, 193, 194, 195, 7842, 258, 7859, 7861, 200, 201, 202, 7866, 204, 205, 296, 7923, 272, 7913, 210, 211, 212, 7841, 7927, 7915, 7917, 217, 218, 7929, 7925, 221, 7905, 432, 224, 225, 226, 227, 7843, 259, 7919, 7851, 232, 233, 234, 7867, 236, 237, 297, 7881, 273, 7921, 242, 243, 244, 245, 7887, 7885, 7909, 249, 250, 361, 7911, 253, 7907, 7918]
theorem wp_value {P : Program} {ops : Array Oper} {Q : Exit → Act → World → Prop} {rest : List Oper} {o : Oper} {a : Act} {w w' : World} {v : Value} (hg : o.guard = none) (he : (execOp a.eval o).run P w = .ok (.value v) w') (h : wpList P ops Q rest (a.put o.dst v) w') : wpList P ops Q (o :: rest) a w :=
  wpList_plain hg fun K hK => by unfold Oper.wp; rw [he]; exact hK _ _ h
theorem wp_skip {P : Program} {ops : Array Oper} {Q : Exit → Act → World → Prop} {rest : List Oper} {o : Oper} {a : Act} {w w' : World} (hg : o.guard = none) (he : (execOp a.eval o).run P w = .ok .skip w') (h : wpList P ops Q rest (a.put o.dst undef) w') : wpList P ops Q (o :: rest) a w :=
  wpList_plain hg fun K hK => by unfold Oper.wp; rw [he]; exact hK _ _ h
def visAgg : Array Value := (visHi.map fun n => Value.int .i64 n).toArray
theorem vis_info : (Tryz.prog.info? 219).map (·.size) = some visAgg.size := by kernel_rfl
theorem vis_und : Tryz.prog.underlying 219 = some (.array 128 3) := by kernel_rfl
theorem vis_one : visAgg.all (·.oneCell') = true := by kernel_rfl
set_option maxHeartbeats 4000000 in
theorem viscii_high (w : World) : Calls Tryz.prog 130 #[] w fun e w' => e = .returned (.agg visAgg) ∧ Upd No w w' := by
  go_enter Tryz.func130, Tryz.ntmps130
  go_upto_region 0 with fail
  refine wp_region_lit ?_
  refine wp_value (v := .pointer (some ⟨w.heap.size, 0, none⟩)) (w' := w.alloc (.cells (Array.replicate 128 (.int .i64 0)) 219)) rfl (by kernel_rfl) ?_
  go_upto_region 1 with fail
  refine wp_region_lit ?_
  refine wp_value (v := .agg visAgg) (w' := w.alloc (.cells (Array.replicate 128 (.int .i64 0)) 219)) rfl (by kernel_rfl) ?_
  refine wp_skip (w' := w.alloc (.cells visAgg 219)) rfl ?_ ?_
  · show Sem.run Tryz.prog (do Instr.storeAt 219 (.pointer (some ⟨w.heap.size, 0, none⟩)) (.agg visAgg); pure Next.skip) (w.alloc (.cells (Array.replicate 128 (.int .i64 0)) 219)) = _
    rw [Sem.run_bind, run_storeAt_new w 219 _ visAgg vis_info (by kernel_rfl) vis_one]
    rfl
  · go_upto_region 100 with fail
    refine bodyPost_ret (v := .agg visAgg) ?_ rfl ⟨rfl, (Upd.refl _ _).alloc _⟩
    have h := run_loadVar_new (P := Tryz.prog) w 219 visAgg 128 3 vis_und vis_info
    simp [results, Tryz.results130, asAddr, Sem.run_bind, Result.andThen, Act.put]
    exact h
def visD (c : Int) : Int := if c = 2 then 7858 else if c = 5 then 7860 else if c = 6 then 7850 else if c = 20 then 7926 else if c = 25 then 7928 else if c = 30 then 7924 else if c < 128 then c else visHi.getD (c - 128).toNat 0

theorem vis_index (k : Nat) (hk : k < 128) (w : World) : (Instr.index 219 (.agg visAgg) (.int .u8 k)).run Tryz.prog w = .ok (.int .i64 (visHi.getD k 0)) w := by
  have h1 : visAgg[k]? = some (.int .i64 (visHi.getD k 0)) := by
    have : visHi.length = 128 := by decide
    simp [visAgg, List.getD_eq_getElem?_getD, List.getElem?_eq_getElem (show k < visHi.length by omega)]
  simp [Instr.index, go_sem, vis_und, h1]
  intro h; omega

theorem viscii_Decode (w : World) (c : Int) (h0 : 0 ≤ c) (h1 : c ≤ 255) : Calls Tryz.prog 92 #[.int .u8 c] w fun e w' => e = .returned (.int .i64 (visD c)) ∧ Upd No w w' := by
  by_cases e1 : c = 2
  · subst e1; go_enter Tryz.func92, Tryz.ntmps92; go_wp2; go_ret; exact ⟨rfl, Upd.refl _ _⟩
  by_cases e2 : c = 5
  · subst e2; go_enter Tryz.func92, Tryz.ntmps92; go_wp2; go_ret; exact ⟨rfl, Upd.refl _ _⟩
  by_cases e3 : c = 6
  · subst e3; go_enter Tryz.func92, Tryz.ntmps92; go_wp2; go_ret; exact ⟨rfl, Upd.refl _ _⟩
  by_cases e4 : c = 20
  · subst e4; go_enter Tryz.func92, Tryz.ntmps92; go_wp2; go_ret; exact ⟨rfl, Upd.refl _ _⟩
  by_cases e5 : c = 25
  · subst e5; go_enter Tryz.func92, Tryz.ntmps92; go_wp2; go_ret; exact ⟨rfl, Upd.refl _ _⟩
  by_cases e6 : c = 30
  · subst e6; go_enter Tryz.func92, Tryz.ntmps92; go_wp2; go_ret; exact ⟨rfl, Upd.refl _ _⟩
  have q1 : (c == 2) = false := by simpa using e1
  have q2 : (c == 5) = false := by simpa using e2
  have q3 : (c == 6) = false := by simpa using e3
  have q4 : (c == 20) = false := by simpa using e4
  have q5 : (c == 25) = false := by simpa using e5
  have q6 : (c == 30) = false := by simpa using e6
  have HV : Hd (visD c = if c < 128 then c else visHi.getD (c - 128).toNat 0) := ⟨by rw [visD, if_neg e1, if_neg e2, if_neg e3, if_neg e4, if_neg e5, if_neg e6]⟩
  clear e1 e2 e3 e4 e5 e6
  by_cases hc : c < 128
  · have q7 : decide (c < 128) = true := by simpa using hc
    go_enter Tryz.func92, Tryz.ntmps92
    go_wp2
    go_ret
    rw [HV.out, if_pos hc]
    exact ⟨by go_num, Upd.refl _ _⟩
  · have q7 : decide (c < 128) = false := by simpa using hc
    obtain ⟨k, hk⟩ : ∃ k : Nat, c - 128 = k := ⟨(c - 128).toNat, by omega⟩
    have hk2 : k < 128 := by omega
    have hidx := vis_index k hk2
    have hsub : (c - 128) % 256 = k := by omega
    have HK : Hd (c - 128 = k) := ⟨hk⟩
    go_enter Tryz.func92, Tryz.ntmps92
    go_wp2_with (go_at_call 130; refine (viscii_high _).mono ?_; rintro e w1 ⟨rfl, hu1⟩)
    go_ret
    rw [HV.out, if_neg (by omega), HK.out]
    exact ⟨by simp, hu1⟩

def visRules : List Rule := (List.range 256).map fun (c : Nat) => (([(c : Int)], [visD (c : Int)]) : Rule)
theorem visRules_at (j : Nat) (h : j < 256) : visRules.take (j + 1) = visRules.take j ++ [([(j : Int)], [visD j])] := by
  have : visRules[j]? = some ([(j : Int)], [visD j]) := by simp [visRules, h]
  rw [List.take_add_one, this]; rfl
def VisRel (w : World) (g : Nat) (v k : Value) (wr : World) : Prop :=
  ∃ (A : Option Addr) (n c j : Nat), v = .slice A n c ∧ k = .int .i64 j ∧ g + j = 256 ∧ j ≤ 256 ∧ Own eRule 115 (fun k => w.heap.size ≤ k) w.heap.size wr (.slice A n c) (visRules.take j) ∧ Upd No w wr

set_option maxHeartbeats 4000000 in
theorem viscii_Rules (w : World) : Calls Tryz.prog 61 #[] w fun e w' => ∃ A n c, e = .returned (.slice A n c) ∧ Own eRule 115 (fun k => w.heap.size ≤ k) w.heap.size w' (.slice A n c) visRules ∧ Upd No w w' := by
  have HL : Hd (visRules.length = 256) := ⟨by simp [visRules]⟩
  go_enter Tryz.func61, Tryz.ntmps61
  go_wp2
  go_loopg [1, 3] 256 (VisRel w)
  case atStart => exact ⟨none, 0, 0, 0, rfl, rfl, rfl, by decide, Own.nil _ _ _ _ _, Upd.refl _ _⟩
  case round =>
    obtain ⟨A1, n1, c1, j, rfl, rfl, hgj, hj, hown, hup⟩ := hrel
    by_cases hlt : j < 256
    · have hlt1 : decide ((j : Int) < 256) = true := by simp; omega
      have hm : (j : Int) % 256 = j := by omega
      have hD := fun W => viscii_Decode W j (by omega) (by omega)
      obtain ⟨d, hd⟩ : ∃ d, d = visD j := ⟨_, rfl⟩
      have HDd : Hd (d = visD j) := ⟨hd⟩
      rw [← hd] at hD
      have HD : Hd _ := ⟨hD⟩
      clear hd hD
      obtain ⟨acc, hacc⟩ : ∃ acc, acc = visRules.take j := ⟨_, rfl⟩
      have HA : Hd (acc = visRules.take j) := ⟨hacc⟩
      have hal : acc.length = j := by rw [hacc]; have := HL.out; simp; omega
      rw [← hacc] at hown
      clear hacc
      go_wp2_with (first
        | (go_at_call 92; refine (HD.out _).mono ?_; rintro e w1 ⟨rfl, hu1⟩)
        | (at_builtin; go_loud (refine wp_appendLit (F := fun k => w.heap.size ≤ k) eRule w.heap.size rfl (.tmp 6) (.tmp 14) 49 115 _ 48 rfl Tryz.underlying49 info_Rule rfl (by decide) (.slice A1 n1 c1) acc [([(j : Int)], [d])] [[.slice (some ⟨wr.heap.size, 0, none⟩) 1 1, .slice (some ⟨w1.heap.size, 0, none⟩) 1 1]] _ 1 rfl (by show Value.slice (some ⟨w1.heap.size + 1, 0, none⟩) 1 1 = _; simp) rfl rfl rfl ?qo ?qhr ?qnew ?qb ?ql (by decide) ?_)))
      case qo => exact ((hown.alloc _).upd hu1 (fun _ _ h => h)).alloc _
      case qhr =>
        have := hup.size
        have := hu1.size
        intro k y cs hy hc
        cases k with
        | zero =>
          simp at hy hc; subst hy; subst hc
          refine eRule_mk (((Rd.one (F := fun k => k = wr.heap.size) .i64 j wr _ rfl).upd (hu1.alloc _) (fun _ _ h => h)).mono (fun k hk => ⟨by omega, fun e => ?_⟩)) ((Rd.one (F := fun k => k = w1.heap.size) .i64 d w1 _ rfl).mono (fun k hk => ⟨by simp at *; omega, fun e => ?_⟩))
          · have := (hown.lt k e.symm).2; omega
          · have := (hown.lt k e.symm).2; simp at *; omega
        | succ k => simp at hy
      case qnew => intro k hk; have := hup.size; have := hu1.size; simp at *; omega
      case qb => have := hup.size; have := hu1.size; simp at *; omega
      case ql => simp; omega
      intro A3 n3 c3 w7 hown7 hup7 hat7
      go_wp2
      go_roundg (gk - 1)
      case measure => omega
      case rel =>
        go_light
        refine ⟨A3, n3, c3, j + 1, rfl, by go_num, by omega, by omega, by rw [visRules_at j hlt, ← HA.out, ← HDd.out]; exact hown7, ?_⟩
        exact (((hup.alloc _).trans hu1 (T := No) (fun _ _ h => h) (fun _ _ h => h)).alloc _).trans hup7 (fun _ _ h => h) (fun i hi e => by have := (hown.lt i e.symm).1; omega)
    · have hlt1 : decide ((j : Int) < 256) = false := by simp; omega
      have h1 : visRules.take j = visRules := List.take_of_length_le (by have := HL.out; omega)
      rw [h1] at hown
      go_wp2
      go_ret
      go_light
      exact ⟨_, _, _, rfl, hown, hup⟩
end Go.Proofs.YtebgjabalnffdaaGreatDoor
