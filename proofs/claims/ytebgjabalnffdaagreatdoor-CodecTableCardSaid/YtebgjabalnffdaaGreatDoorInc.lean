/- What is read part by part is what is read at once: in lists alone. -/
import Derived.Test.YtebgjabalnffdaaGreatDoorTrieS
set_option linter.unusedVariables false
set_option linter.unusedSimpArgs false
set_option maxRecDepth 100000
namespace Go.Proofs.YtebgjabalnffdaaGreatDoor
open Go.RowKit

structure Rd1 where
  st : List Int → List Int × Nat × Int
  opn : List Int → Bool
def gL (R : Rd1) (fin : Bool) : Nat → List Int → Int → List Tok × List Int × Int
  | 0, w, p => ([], w, p)
  | f + 1, w, p => if w.length = 0 then ([], w, p) else if R.opn w && !fin then ([], w, p) else
      (⟨p, (R.st w).2.1, (R.st w).1, (R.st w).2.2⟩ :: (gL R fin f (w.drop (R.st w).2.1) (p + (R.st w).2.1)).1, (gL R fin f (w.drop (R.st w).2.1) (p + (R.st w).2.1)).2)
structure Rd1.Ok (R : Rd1) (P : Int → Prop) : Prop where
  pos : ∀ w, w ≠ [] → (∀ u ∈ w, P u) → 1 ≤ (R.st w).2.1 ∧ (R.st w).2.1 ≤ w.length
  stab : ∀ w x, w ≠ [] → (∀ u ∈ w ++ x, P u) → R.opn w = false → R.st (w ++ x) = R.st w
section
variable {R : Rd1} {P : Int → Prop}
theorem gL_fuel (h : R.Ok P) (fin : Bool) : ∀ (f g : Nat) (w : List Int) (p : Int), (∀ u ∈ w, P u) → w.length ≤ f → w.length ≤ g → gL R fin f w p = gL R fin g w p := by
  intro f
  induction f with
  | zero =>
    intro g w p _ hf _
    obtain rfl := List.eq_nil_of_length_eq_zero (by omega : w.length = 0)
    cases g <;> simp [gL]
  | succ f ih =>
    intro g w p hP hf hg
    by_cases hw : w = []
    · subst hw; cases g <;> simp [gL]
    · have hl : 0 < w.length := List.length_pos_iff.2 hw
      cases g with
      | zero => omega
      | succ g =>
        obtain ⟨h1, h2⟩ := h.pos w hw hP
        simp only [gL, if_neg (by omega : ¬ w.length = 0)]
        rw [ih g (w.drop (R.st w).2.1) _ (fun u hu => hP u (List.mem_of_mem_drop hu)) (by rw [List.length_drop]; omega) (by rw [List.length_drop]; omega)]
/-- All at once. -/
def gA (R : Rd1) (us : List Int) (p : Int) : List Tok × List Int × Int := gL R true us.length us p
theorem gA_cons (h : R.Ok P) {us : List Int} (hu : us ≠ []) (hP : ∀ u ∈ us, P u) (p : Int) :
    gA R us p = (⟨p, (R.st us).2.1, (R.st us).1, (R.st us).2.2⟩ :: (gA R (us.drop (R.st us).2.1) (p + (R.st us).2.1)).1, (gA R (us.drop (R.st us).2.1) (p + (R.st us).2.1)).2) := by
  have hl : 0 < us.length := List.length_pos_iff.2 hu
  obtain ⟨h1, h2⟩ := h.pos us hu hP
  obtain ⟨n, hn⟩ : ∃ n, us.length = n + 1 := ⟨us.length - 1, by omega⟩
  rw [gA, hn]
  simp only [gL, if_neg (by omega : ¬ us.length = 0), Bool.not_true, Bool.and_false]
  rw [if_neg (by simp)]
  rw [gL_fuel h true n (us.drop (R.st us).2.1).length (us.drop (R.st us).2.1) _ (fun u hu => hP u (List.mem_of_mem_drop hu)) (by rw [List.length_drop]; omega) (Nat.le_refl _)]
  rfl
theorem gA_nil (p : Int) : gA R [] p = ([], [], p) := rfl
theorem gL_inc (h : R.Ok P) : ∀ (f : Nat) (w x : List Int) (p : Int), (∀ u ∈ w ++ x, P u) → w.length ≤ f →
    gA R (w ++ x) p = ((gL R false f w p).1 ++ (gA R ((gL R false f w p).2.1 ++ x) (gL R false f w p).2.2).1, (gA R ((gL R false f w p).2.1 ++ x) (gL R false f w p).2.2).2) := by
  intro f
  induction f with
  | zero => intro w x p _ _; simp [gL]
  | succ f ih =>
    intro w x p hP hf
    by_cases hw : w = []
    · subst hw; simp [gL]
    · have hl : 0 < w.length := List.length_pos_iff.2 hw
      simp only [gL, if_neg (by omega : ¬ w.length = 0), Bool.not_false, Bool.and_true]
      cases ho : R.opn w with
      | true => simp
      | false =>
        rw [if_neg (by simp)]
        obtain ⟨h1, h2⟩ := h.pos w hw (fun u hu => hP u (List.mem_append_left _ hu))
        have hs := h.stab w x hw hP ho
        rw [gA_cons h (by simp [hw]) hP, hs, List.drop_append_of_le_length h2]
        have := ih (w.drop (R.st w).2.1) x (p + (R.st w).2.1) (fun u hu => hP u (by
          rcases List.mem_append.1 hu with hu | hu
          · exact List.mem_append_left _ (List.mem_of_mem_drop hu)
          · exact List.mem_append_right _ hu)) (by rw [List.length_drop]; omega)
        rw [this]
        simp
/-- What waits behind a step is the end of what waited; the counts fit. -/
theorem gL_bd (h : R.Ok P) (fin : Bool) : ∀ (f : Nat) (w : List Int) (p : Int), (∀ u ∈ w, P u) →
    (gL R fin f w p).2.1.length ≤ w.length ∧ (gL R fin f w p).2.2 + ((gL R fin f w p).2.1.length : Nat) = p + (w.length : Nat) ∧ (gL R fin f w p).1.length + (gL R fin f w p).2.1.length ≤ w.length ∧ (∀ u ∈ (gL R fin f w p).2.1, u ∈ w) := by
  intro f
  induction f with
  | zero => intro w p _; simp [gL]
  | succ f ih =>
    intro w p hP
    simp only [gL]
    split
    · simp
    · split
      · simp
      · rename_i hw _
        have hw' : w ≠ [] := by intro e; subst e; simp at hw
        obtain ⟨h1, h2⟩ := h.pos w hw' hP
        obtain ⟨i1, i2, i3, i4⟩ := ih (w.drop (R.st w).2.1) (p + (R.st w).2.1) (fun u hu => hP u (List.mem_of_mem_drop hu))
        rw [List.length_drop] at i1 i2 i3
        refine ⟨by simp only; omega, by simp only; omega, by simp only [List.length_cons]; omega, fun u hu => List.mem_of_mem_drop (i4 u hu)⟩
theorem gA_end (h : R.Ok P) : ∀ (n : Nat) (us : List Int) (p : Int), us.length = n → (∀ u ∈ us, P u) → (gA R us p).2.1 = [] := by
  intro n
  induction n using Nat.strongRecOn with
  | ind n ih =>
    intro us p hn hP
    by_cases hu : us = []
    · subst hu; rfl
    · obtain ⟨h1, h2⟩ := h.pos us hu hP
      have hl : 0 < us.length := List.length_pos_iff.2 hu
      rw [gA_cons h hu hP]
      exact ih _ (by rw [List.length_drop]; omega) _ _ rfl (fun u hu => hP u (List.mem_of_mem_drop hu))
/-- Where the loop stops, what waits is open. -/
theorem gL_stop (h : R.Ok P) : ∀ (f : Nat) (w : List Int) (p : Int), (∀ u ∈ w, P u) → w.length ≤ f → (gL R false f w p).2.1 = [] ∨ R.opn (gL R false f w p).2.1 = true := by
  intro f
  induction f with
  | zero => intro w p _ hf; left; simpa [gL] using List.eq_nil_of_length_eq_zero (by omega : w.length = 0)
  | succ f ih =>
    intro w p hP hf
    simp only [gL]
    split
    · left; rename_i e; exact List.eq_nil_of_length_eq_zero e
    · split
      · rename_i e; right; simpa using e
      · rename_i hw _
        have hw' : w ≠ [] := by intro e; subst e; simp at hw
        obtain ⟨h1, h2⟩ := h.pos w hw' hP
        exact ih _ _ (fun u hu => hP u (List.mem_of_mem_drop hu)) (by rw [List.length_drop]; omega)
end

/-! ### By rules -/
def tabR (rs : List Rule) : Rd1 where
  st := fun us => if (LR rs [] us (-1) 0).1 < 0 then ([], 1, 3) else ((rs.map (·.2)).getD (LR rs [] us (-1) 0).1.toNat [], (LR rs [] us (-1) 0).2, 0)
  opn := openR rs
theorem LR_app {rs : List Rule} : ∀ (us x p : List Int) (k : Int) (n : Nat), LR rs p (us ++ x) k n = LR rs (p ++ us) x (LR rs p us k n).1 (LR rs p us k n).2 := by
  intro us
  induction us with
  | nil => intro x p k n; simp [LR]
  | cons u us ih =>
    intro x p k n
    simp only [List.cons_append, LR]
    split
    · rw [ih]; simp
    · rw [ih]; simp
theorem LR_bd {rs : List Rule} : ∀ (us p : List Int) (k : Int) (n : Nat), (0 ≤ k → 1 ≤ n ∧ n ≤ p.length) → (k < 0 → n = 0) →
    (0 ≤ (LR rs p us k n).1 → 1 ≤ (LR rs p us k n).2 ∧ (LR rs p us k n).2 ≤ p.length + us.length) ∧ ((LR rs p us k n).1 < 0 → (LR rs p us k n).2 = 0) := by
  intro us
  induction us with
  | nil => intro p k n h1 h2; simp only [LR, List.length_nil]; exact ⟨h1, h2⟩
  | cons u us ih =>
    intro p k n h1 h2
    simp only [LR]
    split
    · have := ih (p ++ [u]) (findR rs (p ++ [u])) (p.length + 1) (fun _ => ⟨by omega, by simp⟩) (fun h => by omega)
      refine ⟨fun h => ⟨(this.1 h).1, ?_⟩, this.2⟩
      have := (this.1 h).2; simp at this ⊢; omega
    · have := ih (p ++ [u]) k n (fun h => ⟨(h1 h).1, by have := (h1 h).2; simp; omega⟩) h2
      refine ⟨fun h => ⟨(this.1 h).1, ?_⟩, this.2⟩
      have := (this.1 h).2; simp at this ⊢; omega
theorem tabR_ok (rs : List Rule) : (tabR rs).Ok (fun _ => True) := by
  constructor
  · intro w hw _
    have hl : 0 < w.length := List.length_pos_iff.2 hw
    have := LR_bd (rs := rs) w [] (-1) 0 (by omega) (fun _ => rfl)
    simp only [tabR]
    split
    · exact ⟨Nat.le_refl _, hl⟩
    · have h := this.1 (by omega); simpa using h
  · intro w x hw _ ho
    have e : LR rs [] (w ++ x) (-1) 0 = LR rs [] w (-1) 0 := by
      rw [LR_app, LR_none]
      intro m
      by_cases hm : x.length ≤ m
      · exact .inr hm
      · left
        apply findR_neg
        intro r hr e
        simp only [tabR, openR, List.any_eq_false, Bool.and_eq_true, decide_eq_true_eq] at ho
        refine ho r hr ⟨?_, ?_⟩
        · have := congrArg List.length e; simp at this; omega
        · rw [e]; simp
    simp only [tabR, e]
theorem tok_eq {rs : List Rule} (us : List Int) (p : Int) : tokT rs p (LR rs [] us (-1) 0).1 (LR rs [] us (-1) 0).2 = ⟨p, ((tabR rs).st us).2.1, ((tabR rs).st us).1, ((tabR rs).st us).2.2⟩ ∧ max 1 (LR rs [] us (-1) 0).2 = ((tabR rs).st us).2.1 := by
  have := LR_bd (rs := rs) us [] (-1) 0 (by omega) (fun _ => rfl)
  simp only [tabR, tokT]
  by_cases h : (LR rs [] us (-1) 0).1 < 0
  · rw [if_pos h, if_pos h]; exact ⟨rfl, by rw [this.2 h]; rfl⟩
  · rw [if_neg h, if_neg h]; exact ⟨rfl, by show max 1 (LR rs [] us (-1) 0).2 = (LR rs [] us (-1) 0).2; have := (this.1 (by omega)).1; omega⟩
theorem mLoop_eq {rs : List Rule} (hok : RsOk rs) (fin : Bool) : ∀ (f : Nat) (w : List Int) (p : Int), mLoop rs fin f w p = gL (tabR rs) fin f w p := by
  intro f
  induction f with
  | zero => intro w p; rfl
  | succ f ih =>
    intro w p
    simp only [mLoop, gL, longT_eq hok, (tok_eq w p).1, (tok_eq w p).2, ih]
    rfl
end Go.Proofs.YtebgjabalnffdaaGreatDoor
