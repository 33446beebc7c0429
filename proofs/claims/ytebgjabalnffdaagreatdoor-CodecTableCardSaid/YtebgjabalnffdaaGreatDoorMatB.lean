/- match.Of, Put, End. -/
import Derived.Test.YtebgjabalnffdaaGreatDoorMat
set_option linter.unusedVariables false
set_option linter.unusedSimpArgs false
set_option maxRecDepth 100000
namespace Go.Proofs.YtebgjabalnffdaaGreatDoor
open Go.RowKit

theorem MPost.from {w wf w' : World} {S S1 : Nat → Prop} {toks : List Tok} {inv : (Nat → Prop) → World → Prop} {en : Ending} (h : MPost wf S1 toks inv en w') (hu : Upd S w wf) (hS : ∀ k, S1 k → S k ∨ w.heap.size ≤ k) : MPost w S toks inv en w' := by
  obtain ⟨A, n, c, S', rfl, hown, hinv, hu', hS'⟩ := h
  have := hu.size
  refine ⟨A, n, c, S', rfl, (hown.lower this).mono (fun k hk => ⟨by omega, hk.2⟩), hinv, hu.trans hu' (fun _ _ h => h) (fun i hi h => (hS i h).elim id (fun e => by omega)), fun k hk => ?_⟩
  rcases hS' k hk with h | h
  · exact hS k h
  · exact .inr (by omega)

theorem match_Of {w : World} {t : Nat} {F : Nat → Prop} {rs : List Rule} (h : IsTr w t F rs) (hF : ∀ k, F k → k < w.heap.size) :
    Calls Tryz.prog 84 #[.pointer (some ⟨t, 0, none⟩)] w fun e w' => e = .returned (.pointer (some ⟨w.heap.size, 0, none⟩)) ∧ IsMat w' w.heap.size (fun k => k = w.heap.size) F rs [] 0 ∧ Upd No w w' := by
  go_enter Tryz.func84, Tryz.ntmps84
  go_wp2
  go_ret
  go_light
  refine ⟨rfl, ⟨.slice none 0 0, t, 0, by simp [go_sem], by simp [go_sem], by simp [go_sem], by simp [go_sem], by simp [go_sem], by simp [go_sem], by simp [go_sem], Own.nil _ _ _ _ _, rfl, fun k hk => by simp [Value.ownBlock] at hk, fun k hk => by simp; omega, IsTrie.upd h ((Upd.refl No _).alloc _) (fun _ _ h => h), fun k hk e => by have := hF k hk; omega, fun k hk => by have := hF k hk; simp; omega⟩, (Upd.refl _ _).alloc _⟩

theorem match_End (b : Nat) (S F : Nat → Prop) (rs : List Rule) (wait : List Int) (pos : Int) (w : World) (h : IsMat w b S F rs wait pos) (hok : ∀ r ∈ rs, r.1.length ≤ 8 ∧ r.2.length ≤ 8)
    (hl : wait.length ≤ 1000) (hp : 0 ≤ pos) (hp' : pos + wait.length ≤ 1000000) :
    Calls Tryz.prog 205 #[.pointer (some ⟨b, 0, none⟩)] w (MPost w S (mLoop rs true wait.length wait pos).1 (inMat b F rs (mLoop rs true wait.length wait pos).2.1 (mLoop rs true wait.length wait pos).2.2)) := by
  have H : Hd _ := ⟨match_take b S F rs true wait pos w h hok hl hp hp'⟩
  go_enter Tryz.func205, Tryz.ntmps205
  go_wp2_with (go_at_call 209; refine H.out.mono ?_; rintro e w' hq; obtain ⟨A, n, c, S', rfl, hq⟩ := hq)
  go_ret
  exact ⟨A, n, c, S', rfl, hq⟩

theorem mat_put {w w1 : World} {b : Nat} {S F : Nat → Prop} {rs : List Rule} {wait : List Int} {pos u : Int} {A A3 : Option Addr} {n0 c0 n3 c3 : Nat} (h : IsMat w b S F rs wait pos) (h1 : w.cell? ⟨b, 1, none⟩ = some (.slice A n0 c0))
    (hown : Own (eI .i64) 3 Any 0 w1 (.slice A3 n3 c3) (wait ++ [u])) (hupd : Upd (fun k => some k = Value.ownBlock (.slice A n0 c0)) w w1) (hat : Value.ownBlock (.slice A3 n3 c3) = Value.ownBlock (.slice A n0 c0) ∨ ∃ b, Value.ownBlock (.slice A3 n3 c3) = some b ∧ w.heap.size ≤ b) :
    ∃ S1, IsMat (w1.setCell ⟨b, 1, none⟩ (.slice A3 n3 c3)) b S1 F rs (wait ++ [u]) pos ∧ Upd S w (w1.setCell ⟨b, 1, none⟩ (.slice A3 n3 c3)) ∧ ∀ k, S1 k → S k ∨ w.heap.size ≤ k := by
  obtain ⟨v, t, st, h0, h1', h2, h3, f1, f2, f3, ho, hS, hSv, hSz, ht, hFS, hFz⟩ := h
  obtain rfl : v = .slice A n0 c0 := by rw [h1] at h1'; injection h1' with h; exact h.symm
  have hbw : b < w.heap.size := World.block_lt_of_cell? w ⟨b, 0, none⟩ h0
  have hz : w.heap.size ≤ w1.heap.size := hupd.size
  have hnb : ¬ some b = Value.ownBlock (.slice A n0 c0) := fun e => (hSv b e.symm).2 rfl
  have hmc : MCells w1 b t (.slice A n0 c0) pos := MCells.upd ⟨st, h0, h1, h2, h3, f1, f2, f3⟩ hupd hnb
  have hU1 : Upd (fun k => k = b) w1 (w1.setCell ⟨b, 1, none⟩ (.slice A3 n3 c3)) := Upd.setCell (S := fun k => k = b) (p := ⟨b, 1, none⟩) (Upd.refl _ _) (fun _ => rfl) _
  have hat' : ∀ k, Value.ownBlock (.slice A3 n3 c3) = some k → (S k ∨ w.heap.size ≤ k) ∧ k ≠ b := by
    intro k hk
    rcases hat with hat | ⟨g, hg, hg'⟩
    · rw [hat] at hk; exact ⟨.inl (hSv k hk).1, (hSv k hk).2⟩
    · rw [hg] at hk; injection hk with hk; exact ⟨.inr (by omega), by omega⟩
  have hUS : Upd S w w1 := hupd.mono (fun k _ hk => (hSv k hk.symm).1)
  refine ⟨fun k => k = b ∨ Value.ownBlock (.slice A3 n3 c3) = some k, ?_, hUS.setCell (fun _ => hS) _, ?_⟩
  · obtain ⟨st, h0, h1, h2, h3, f1, f2, f3⟩ := hmc
    have := hU1.size
    refine ⟨.slice A3 n3 c3, t, st, by simp [cell_set, *], by simp [cell_set, *], by simp [cell_set, *], by simp [cell_set, *], by simp [frozen_set, *], by simp [frozen_set, *], by simp [frozen_set, *],
      hown.keep hU1 (fun k hk => (hat' k hk).2), .inl rfl, fun k hk => ⟨.inr hk, (hat' k hk).2⟩, ?_, IsTrie.upd (IsTrie.upd ht hUS hFS) hU1 (fun k hk e => hFS k hk (e ▸ hS)), ?_, fun k hk => by have := hFz k hk; omega⟩
    · rintro k (rfl | hk)
      · omega
      · have := (hown.lt k hk).2; omega
    · rintro k hk (rfl | hk')
      · exact hFS k hk hS
      · rcases (hat' k hk').1 with h | h
        · exact hFS k hk h
        · have := hFz k hk; omega
  · rintro k (rfl | hk)
    · exact .inl hS
    · exact (hat' k hk).1

theorem match_Put (b : Nat) (S F : Nat → Prop) (rs : List Rule) (wait : List Int) (pos u : Int) (w : World) (h : IsMat w b S F rs wait pos) (hok : ∀ r ∈ rs, r.1.length ≤ 8 ∧ r.2.length ≤ 8)
    (hl : wait.length ≤ 900) (hp : 0 ≤ pos) (hp' : pos + wait.length ≤ 900000) :
    Calls Tryz.prog 207 #[.pointer (some ⟨b, 0, none⟩), .int .i64 u] w (MPost w S (mLoop rs false (wait.length + 1) (wait ++ [u]) pos).1 (inMat b F rs (mLoop rs false (wait.length + 1) (wait ++ [u]) pos).2.1 (mLoop rs false (wait.length + 1) (wait ++ [u]) pos).2.2)) := by
  have HM : Hd _ := ⟨h⟩
  obtain ⟨v, t, st, h0, h1, h2, h3, f1, f2, f3, ho, hS, hSv, hSz, ht, hFS, hFz⟩ := h
  have HT : Hd _ := ⟨ht⟩
  obtain ⟨A, c0, rfl⟩ := ho.rd.form
  have hbw : b < w.heap.size := World.block_lt_of_cell? w ⟨b, 0, none⟩ h0
  go_enter Tryz.func207, Tryz.ntmps207
  go_upto_region 1 with fail
  go_cut [] (fun wx => ∃ S1, IsMat wx b S1 F rs (wait ++ [u]) pos ∧ Upd S w wx ∧ ∀ k, S1 k → S k ∨ w.heap.size ≤ k)
  case first =>
    go_wp2_with (at_builtin; go_loud (refine wp_appendLit (F := Any) (eI .i64) 0 rfl (.tmp 9) (.tmp 11) 34 3 (.int .i64 0) 8 rfl Tryz.underlying34 info_int rfl (by decide) (.slice A wait.length c0) wait [u] [[.int .i64 u]] _ 1 rfl rfl rfl rfl rfl ho ?qhr ?qnew (Nat.zero_le _) ?ql (by decide) ?_))
    case qhr => intro k y cs hy hc; cases k with
      | zero => simp at hy hc; subst hy; subst hc; rfl
      | succ k => simp at hy
    case qnew => intro k hk; trivial
    case ql => simp; omega
    intro A3 n3 c3 w1 hown hupd hat
    obtain ⟨hc, hf⟩ := hupd.bothN
    have hz : w.heap.size ≤ w1.heap.size := hupd.size
    have hzb : b < w1.heap.size := by omega
    have hnb : ¬ some b = Value.ownBlock (.slice A wait.length c0) := fun e => (hSv b e.symm).2 rfl
    go_wp2_with fail
    go_meet
    go_light
    exact mat_put HM.out h1 hown hupd hat
  case rest =>
    obtain ⟨S1, hm1, hu1, hs1⟩ := hcut
    have H : Hd _ := ⟨match_take b S1 F rs false (wait ++ [u]) pos wc hm1 hok (by simp; omega) hp (by simp; omega)⟩
    go_wp2_with (go_at_call 209; go_loud (refine H.out.mono ?_; rintro e w' hq; have hq2 := hq.from hu1 hs1; clear hq; obtain ⟨A, n, c, S', rfl, hq⟩ := hq2))
    go_ret
    rw [List.length_append] at hq
    exact ⟨A, n, c, S', rfl, hq⟩
end Go.Proofs.YtebgjabalnffdaaGreatDoor
