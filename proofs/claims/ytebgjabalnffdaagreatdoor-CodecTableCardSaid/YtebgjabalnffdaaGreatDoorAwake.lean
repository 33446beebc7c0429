/- The law's names, and its examples. -/
import Derived.Test.YtebgjabalnffdaaGreatDoorDecP
set_option linter.unusedVariables false
set_option linter.unusedSimpArgs false
set_option maxRecDepth 100000
namespace Go.Proofs.YtebgjabalnffdaaGreatDoor
open Go.RowKit

theorem law_names (w : World) : Calls Tryz.prog 17 #[] w fun e w' => e = .returned (.slice (some ⟨w.heap.size, 0, none⟩) 8 8) ∧ w' = w.alloc (.cells namesC 9) := by
  go_enter Tryz.func17, Tryz.ntmps17
  go_wp2
  go_ret
  exact ⟨rfl, rfl⟩
def nmABC : ByteArray := ⟨#[65, 66, 67]⟩
def nmAbc : ByteArray := ⟨#[97, 98, 99]⟩
def nmLat : ByteArray := ⟨#[108, 97, 116, 105, 110, 45, 49]⟩
theorem name_ABC (w : World) : Calls Tryz.prog 37 #[.string nmABC] w fun e w' => e = .returned (.tuple #[.string nmTcvn, .int .i64 0]) ∧ Upd No w w' := by
  have := name_ascii (nm := nmABC) (lw := nmAbc) (by decide) (by decide) (by kernel_rfl) (by decide) w
  rwa [show nameB nmAbc.data.toList = nmTcvn by kernel_rfl, show (nameF nmAbc.data.toList).2 = 0 by kernel_rfl] at this
theorem name_lat (w : World) : Calls Tryz.prog 37 #[.string nmLat] w fun e w' => e = .returned (.tuple #[.string ⟨#[]⟩, .int .i64 6]) ∧ Upd No w w' := by
  have := name_ascii (nm := nmLat) (lw := nmLat) (by decide) (by decide) (by kernel_rfl) (by decide) w
  rwa [show nameB nmLat.data.toList = ⟨#[]⟩ by kernel_rfl, show (nameF nmLat.data.toList).2 = 6 by kernel_rfl] at this
theorem thai_tok : (gA (tabR thaiLit) [161, 219] 0).1 = [⟨0, 1, [3585], 0⟩, ⟨1, 1, [], 3⟩] := by kernel_rfl
set_option maxHeartbeats 4000000 in
theorem law_awake (w : World) : Calls Tryz.prog 15 #[] w fun e w' => e = .returned (.bool true) ∧ Upd No w w' := by
  have hn : nmTcvn.toList = [116, 99, 118, 110, 51] := by kernel_rfl
  have H1 := fun W => name_ABC W
  have H2 := fun W => name_lat W
  have H3 := fun W => (dec_Tis W).mono (fun e w' h => h.out thai_ok)
  have hD : ∀ us, Hd ((fun us => (gA (tabR thaiLit) us 0).1) us = (gA (tabR thaiLit) us 0).1) := fun _ => ⟨rfl⟩
  go_enter Tryz.func15, Tryz.ntmps15
  go_wp2_with fail
  refine (name_ABC _).mono ?_
  rintro e w1 ⟨rfl, u1⟩
  go_wp2_with fail
  refine (name_lat _).mono ?_
  rintro e w2 ⟨rfl, u2⟩
  go_wp2_with fail
  refine ((dec_Tis _).mono (fun e w' h => h.out thai_ok)).mono ?_
  rintro e w3 ⟨σ, M, s, S, G, rfl, hinv, hS, hG, u3, hf⟩
  have HF : Hd _ := ⟨hf [161, 219] (by intro b hb; simp at hb; omega) (by simp)⟩
  have HI : Hd _ := ⟨hinv⟩
  have HS : Hd _ := ⟨hS⟩
  clear hf hinv hS H1 H2 H3 hD
  go_wp2_with fail
  refine (machine_All M (M.upd _ _ _ _ _ _ HI.out ((Upd.refl No _).alloc _) (fun _ _ h => h) (fun _ _ h => h)) (Rd.two (F := fun k => k = w3.heap.size) .i64 161 219 w3 _ rfl) (fun k hk e => by have := (M.lt _ _ _ _ HI.out).1 k e; omega) HF.out.1 (by simp) ?_ ?_).mono ?_
  · have := congrArg List.length HF.out.2.1; have h2 := HF.out.2.2.2; simp only [List.length_append] at this; omega
  · have h2 := HF.out.2.2.2; rw [HF.out.2.1]; omega
  rintro e w4 ⟨A4, n4, c4, S4, rfl, hown4, _, u4, hS4⟩
  rw [HF.out.2.1] at hown4
  rw [show (gA (tabR thaiLit) [161, 219] 0).1 = [⟨0, 1, [3585], 0⟩, ⟨1, 1, [], 3⟩] from thai_tok] at hown4
  have HO4 : Hd _ := ⟨hown4⟩
  have HU4 : Hd _ := ⟨u4⟩
  clear hown4 u4
  go_wp2_with fail
  refine (rewrite_Units HO4.out.rd (by simp) (by simp)).mono ?_
  rintro e w5 ⟨A5, n5, c5, o5, rfl, hown5, ho5, u5⟩
  rw [show outT [⟨0, 1, [3585], 0⟩, ⟨1, 1, [], 3⟩] = [3585] from rfl] at hown5
  rw [show badT [⟨0, 1, [3585], 0⟩, ⟨1, 1, [], 3⟩] = ⟨1, 1, [], 3⟩ from rfl] at ho5 ⊢
  simp only at ho5 ⊢
  obtain ⟨Ao, co, rfl⟩ := ho5.form
  have HO5 : Hd _ := ⟨hown5⟩
  have HU5 : Hd _ := ⟨u5⟩
  have hn5 := hown5.rd.lenEq
  simp at hn5
  subst hn5
  have HUn : Hd (∀ W v', Upd No w5 W → Rd (eI .i64) Any W v' [3585] → Calls Tryz.prog 25 #[.slice A5 1 c5, v'] W fun e w' => e = .returned (.bool true) ∧ Drew W w') :=
    ⟨fun W v' hW hv => by have := law_Units (hown5.rd.upd hW (fun _ _ h => h)) hv; simpa using this⟩
  clear hown5 ho5 u5
  have hv : Rd (eI .i64) Any ((w5.alloc (.cells #[.int .i64 1, .int .i64 1, .slice Ao 0 co, .int .i64 3] 42)).alloc (.cells #[.int .i64 3585] 3)) (.slice (some ⟨w5.heap.size + 1, 0, none⟩) 1 1) [3585] := by
    have := Rd.one (F := Any) .i64 3585 (w5.alloc (.cells #[.int .i64 1, .int .i64 1, .slice Ao 0 co, .int .i64 3] 42)) 3 trivial
    simpa using this
  have HV : Hd _ := ⟨hv⟩
  clear hv
  go_wp2_with fail
  refine (HUn.out _ _ (((Upd.refl _ _).alloc _).alloc _) HV.out).mono ?_
  rintro e w6 ⟨rfl, hd6⟩
  obtain ⟨m6, rfl⟩ := hd6
  go_wp2_with (go_at_call 50; go_loud (refine (codec_Names _).mono ?_; rintro e w7 ⟨rfl, rfl⟩))
  go_ret
  go_light
  refine ⟨rfl, ?_⟩
  have f : ∀ {a b c : World}, Upd No a b → Upd No b c → Upd No a c := fun h k => h.trans k (fun _ _ h => h) (fun _ _ h => h)
  have u24 : Upd No w2 w4 := (u3.alloc _).trans HU4.out (fun _ _ h => h) (fun i hi h => by have := HS.out i h; omega)
  exact ((((f (f (f u1 u2) u24) HU5.out).alloc _).alloc _).drewN _).alloc _
end Go.Proofs.YtebgjabalnffdaaGreatDoor
