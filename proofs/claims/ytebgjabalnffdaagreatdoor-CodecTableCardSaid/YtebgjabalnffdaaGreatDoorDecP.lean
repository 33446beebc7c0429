/- What a decoder answers to units, all of which come. -/
import Derived.Test.YtebgjabalnffdaaGreatDoorCodT
import Derived.Test.YtebgjabalnffdaaGreatDoorLawB
set_option linter.unusedVariables false
set_option linter.unusedSimpArgs false
set_option maxRecDepth 100000
namespace Go.Proofs.YtebgjabalnffdaaGreatDoor
open Go.RowKit

theorem TabOk.rs {rs : List Rule} (h : TabOk rs) : RsOk rs := ⟨h.ins, fun r hr => by have := (sideOk_in (h.side r hr).1).2; exact ⟨this.2, this.1⟩⟩
theorem TabOk.side8 {rs : List Rule} (h : TabOk rs) : Side8 rs := fun r hr => ⟨(sideOk_in (h.side r hr).1).2.2, (sideOk_in (h.side r hr).2).2.2⟩
theorem TabOk.swap {rs : List Rule} (h : TabOk rs) : RsOk (turnR rs) := by
  rw [h.turn]
  refine ⟨by rw [List.pairwise_map]; exact h.outs, fun r hr => ?_⟩
  obtain ⟨x, hx, rfl⟩ := List.mem_map.1 hr
  have := (sideOk_in (h.side x hx).2).2; exact ⟨this.2, this.1⟩
theorem TabOk.side8' {rs : List Rule} (h : TabOk rs) : Side8 (turnR rs) := by
  rw [h.turn]
  intro r hr
  obtain ⟨x, hx, rfl⟩ := List.mem_map.1 hr
  exact ⟨(sideOk_in (h.side x hx).2).2.2, (sideOk_in (h.side x hx).1).2.2⟩
section
variable {d m : Nat} {F0 : Nat → Prop} {rs : List Rule} {hok : Side8 rs}
theorem decM_run (hR : RsOk rs) : ∀ (us w : List Int) (p : Int),
    ((decM d m F0 rs hok).run (w, p) us).1 ++ ((decM d m F0 rs hok).fin ((decM d m F0 rs hok).run (w, p) us).2).1 = (gA (tabR rs) (w ++ us) p).1 ∧ ((decM d m F0 rs hok).fin ((decM d m F0 rs hok).run (w, p) us).2).2 = (gA (tabR rs) (w ++ us) p).2 := by
  intro us
  induction us with
  | nil => intro w p; simp [Mach.run, decM, mLoop_eq hR, gA]
  | cons u us ih =>
    intro w p
    have e := gL_inc (tabR_ok rs) (w.length + 1) (w ++ [u]) us p (fun _ _ => trivial) (by simp)
    rw [show w ++ u :: us = (w ++ [u]) ++ us by simp, e]
    have hp : (decM d m F0 rs hok).put (w, p) u = gL (tabR rs) false (w.length + 1) (w ++ [u]) p := mLoop_eq hR _ _ _ _
    simp only [Mach.run, hp]
    obtain ⟨i1, i2⟩ := ih (gL (tabR rs) false (w.length + 1) (w ++ [u]) p).2.1 (gL (tabR rs) false (w.length + 1) (w ++ [u]) p).2.2
    rw [List.append_assoc]
    exact ⟨by rw [i1], i2⟩
theorem decM_okR (hR : RsOk rs) : ∀ (us w : List Int) (p : Int), w.length + us.length ≤ 900 → 0 ≤ p → p + ((w.length + us.length : Nat) : Int) ≤ 900000 → (decM d m F0 rs hok).okR (w, p) us := by
  intro us
  induction us with
  | nil => intro w p h1 h2 h3; simp only [List.length_nil, Nat.add_zero] at h1 h3; exact ⟨by show w.length ≤ 1000; omega, h2, by show p + (w.length : Int) ≤ 1000000; omega⟩
  | cons u us ih =>
    intro w p h1 h2 h3
    simp only [List.length_cons] at h1 h3
    have hp : (decM d m F0 rs hok).put (w, p) u = gL (tabR rs) false (w.length + 1) (w ++ [u]) p := mLoop_eq hR _ _ _ _
    obtain ⟨b1, b2, b3, _⟩ := gL_bd (tabR_ok rs) false (w.length + 1) (w ++ [u]) p (fun _ _ => trivial)
    simp only [List.length_append, List.length_cons, List.length_nil] at b1 b2 b3
    refine ⟨⟨by show w.length ≤ 900; omega, h2, by show p + (w.length : Int) ≤ 900000; omega⟩, ?_⟩
    rw [hp]
    obtain ⟨t, w', p', hg⟩ : ∃ t w' p', gL (tabR rs) false (w.length + 1) (w ++ [u]) p = (t, w', p') := ⟨_, _, _, rfl⟩
    rw [hg] at b1 b2 b3 ⊢
    simp only at b1 b2 b3
    exact ih w' p' (by omega) (by omega) (by omega)
end
theorem gA_len {R : Rd1} {P : Int → Prop} (h : R.Ok P) (us : List Int) (p : Int) (hP : ∀ u ∈ us, P u) : (gA R us p).1.length ≤ us.length := by
  have := (gL_bd h true us.length us p hP).2.2.1
  rw [gA]; omega

def DecOut (w : World) (f : List Int → List Tok) (e : Ending) (w' : World) : Prop :=
  ∃ (σ : Type) (M : Mach σ) (s : σ) (S G : Nat → Prop), e = .returned (.tuple #[.iface M.tag M.val, .int .i64 0]) ∧ M.inv s S G w' ∧ (∀ k, S k → w.heap.size ≤ k) ∧ (∀ k, G k → w.heap.size ≤ k) ∧ Upd No w w' ∧
    ∀ us : List Int, Bytes8 us → us.length ≤ 300 → M.okR s us ∧ (M.run s us).1 ++ (M.fin (M.run s us).2).1 = f us ∧ M.held (M.fin (M.run s us).2).2 = 0 ∧ (f us).length ≤ 1000
theorem TabDec.out {w w' : World} {rs : List Rule} {e : Ending} (hok : TabOk rs) (h : TabDec w rs e w') : DecOut w (fun us => (gA (tabR rs) us 0).1) e w' := by
  obtain ⟨d, m, F, rfl, hd, hm, hdw, hdz, hF, hu⟩ := h
  refine ⟨_, decM d m F rs hok.side8, ([], 0), fun k => k = m, fun k => F k ∨ k = d, rfl, ⟨hd, fun k h => h, fun k hk => ?_⟩, fun k hk => by omega, fun k hk => ?_, hu, fun us hb hl => ?_⟩
  · rcases hk with hk | rfl
    · exact (hF k hk).2.1
    · exact hdz
  · rcases hk with hk | rfl
    · exact (hF k hk).1
    · exact hdw
  · obtain ⟨r1, r2⟩ := decM_run (d := d) (m := m) (F0 := F) (hok := hok.side8) hok.rs us [] 0
    simp only [List.nil_append] at r1 r2
    refine ⟨decM_okR hok.rs us [] 0 (by simp; omega) (by omega) (by simp; omega), r1, ?_, by have := gA_len (tabR_ok rs) us 0 (fun _ _ => trivial); show ((gA (tabR rs) us 0).1).length ≤ 1000; omega⟩
    show (((decM d m F rs hok.side8).fin ((decM d m F rs hok.side8).run ([], 0) us).2).2).1.length = 0
    rw [r2, gA_end (tabR_ok rs) _ us 0 rfl (fun _ _ => trivial)]
    rfl
end Go.Proofs.YtebgjabalnffdaaGreatDoor
