/- The law's search for the longest rule: in lists alone. -/
import Derived.Test.YtebgjabalnffdaaGreatDoorInc
set_option linter.unusedVariables false
set_option linter.unusedSimpArgs false
set_option maxRecDepth 100000
namespace Go.Proofs.YtebgjabalnffdaaGreatDoor
open Go.RowKit

def lgHit (us : List Int) (n : Nat) (r : Rule) : Bool := decide (r.1.length ≤ us.length) && decide (r.1 = us.take r.1.length) && decide (n < r.1.length)
def lgOpn (us : List Int) (r : Rule) : Bool := decide (us.length < r.1.length) && decide (r.1.take us.length = us)
def lgN (us : List Int) (rs : List Rule) : Nat → Int × Nat × Bool
  | 0 => (-1, 0, false)
  | j + 1 => (if lgHit us (lgN us rs j).2.1 (rs.getD j ([], [])) = true then (j : Int) else (lgN us rs j).1, if lgHit us (lgN us rs j).2.1 (rs.getD j ([], [])) = true then (rs.getD j ([], [])).1.length else (lgN us rs j).2.1,
      (lgN us rs j).2.2 || lgOpn us (rs.getD j ([], [])))
theorem LR_char {rs : List Rule} : ∀ (us p : List Int) (k : Int) (n : Nat), n ≤ p.length →
    (∀ m, p.length < m → m ≤ p.length + us.length → 0 ≤ findR rs ((p ++ us).take m) → m ≤ (LR rs p us k n).2) ∧
    (((LR rs p us k n).1 = k ∧ (LR rs p us k n).2 = n) ∨ (p.length < (LR rs p us k n).2 ∧ (LR rs p us k n).2 ≤ p.length + us.length ∧ (LR rs p us k n).1 = findR rs ((p ++ us).take (LR rs p us k n).2) ∧ 0 ≤ (LR rs p us k n).1)) := by
  intro us
  induction us with
  | nil => intro p k n hn; exact ⟨fun m h1 h2 => by simp at h2; omega, .inl ⟨rfl, rfl⟩⟩
  | cons u us ih =>
    intro p k n hn
    have e : p ++ u :: us = (p ++ [u]) ++ us := by simp
    rw [e]
    have hl : (p ++ [u]).length = p.length + 1 := by simp
    have ht : ((p ++ [u]) ++ us).take (p.length + 1) = p ++ [u] := by rw [← hl, List.take_left]
    simp only [LR]
    by_cases hf : 0 ≤ findR rs (p ++ [u])
    · rw [if_pos hf]
      obtain ⟨h1, h2⟩ := ih (p ++ [u]) (findR rs (p ++ [u])) (p.length + 1) (by omega)
      rw [hl] at h1 h2
      refine ⟨fun m hm hm2 hfm => ?_, ?_⟩
      · by_cases e : m = p.length + 1
        · rcases h2 with h2 | h2
          · omega
          · omega
        · exact h1 m (by omega) (by simp at hm2; omega) hfm
      · right
        rcases h2 with h2 | h2
        · rw [h2.1, h2.2, ht]; exact ⟨by omega, by simp, rfl, hf⟩
        · exact ⟨by omega, by simp; omega, h2.2.2⟩
    · rw [if_neg hf]
      obtain ⟨h1, h2⟩ := ih (p ++ [u]) k n (by omega)
      rw [hl] at h1 h2
      refine ⟨fun m hm hm2 hfm => ?_, ?_⟩
      · by_cases e : m = p.length + 1
        · subst e; rw [ht] at hfm; exact (hf hfm).elim
        · exact h1 m (by omega) (by simp at hm2; omega) hfm
      · rcases h2 with h2 | h2
        · exact .inl h2
        · right; exact ⟨by omega, by simp; omega, h2.2.2⟩
theorem getD_at {rs : List Rule} {j : Nat} (h : j < rs.length) : rs.getD j ([], []) = rs[j] := by rw [List.getD_eq_getElem?_getD, List.getElem?_eq_getElem h]; rfl
theorem lgN_char (us : List Int) (rs : List Rule) : ∀ j, j ≤ rs.length →
    (∀ i (h : i < rs.length), i < j → rs[i].1.length ≤ us.length → rs[i].1 = us.take rs[i].1.length → rs[i].1.length ≤ (lgN us rs j).2.1) ∧
    (((lgN us rs j).1 = -1 ∧ (lgN us rs j).2.1 = 0) ∨ ∃ i, ∃ h : i < rs.length, (lgN us rs j).1 = i ∧ (lgN us rs j).2.1 = rs[i].1.length ∧ rs[i].1.length ≤ us.length ∧ rs[i].1 = us.take rs[i].1.length ∧ 0 < rs[i].1.length) ∧
    (lgN us rs j).2.2 = (rs.take j).any (lgOpn us) := by
  intro j
  induction j with
  | zero => intro _; exact ⟨fun i h h2 => by omega, .inl ⟨rfl, rfl⟩, rfl⟩
  | succ j ih =>
    intro hj
    obtain ⟨h1, h2, h3⟩ := ih (by omega)
    have hjl : j < rs.length := by omega
    refine ⟨?_, ?_, ?_⟩
    · intro i h hi hl he
      simp only [lgN, getD_at hjl]
      by_cases e : i = j
      · subst e
        by_cases hn : (lgN us rs i).2.1 < rs[i].1.length
        · rw [if_pos (by simp [lgHit, hl, hn]; exact he)]; exact Nat.le_refl _
        · rw [if_neg (by simp [lgHit]; intro _ _; omega)]; omega
      · have := h1 i h (by omega) hl he
        split
        · rename_i hh
          simp only [lgHit, Bool.and_eq_true, decide_eq_true_eq] at hh
          omega
        · exact this
    · simp only [lgN, getD_at hjl]
      by_cases hh : lgHit us (lgN us rs j).2.1 rs[j] = true
      · rw [if_pos hh, if_pos hh]
        simp only [lgHit, Bool.and_eq_true, decide_eq_true_eq] at hh
        exact .inr ⟨j, hjl, rfl, rfl, hh.1.1, hh.1.2, by omega⟩
      · rw [if_neg hh, if_neg hh]; exact h2
    · simp only [lgN, h3, getD_at hjl]
      rw [List.take_succ_eq_append_getElem hjl, List.any_append]
      simp only [List.any_cons, List.any_nil, Bool.or_false]
theorem lg_eq {rs : List Rule} (hok : RsOk rs) (us : List Int) : lgN us rs rs.length = longT (trieN rs) us := by
  rw [longT_eq hok]
  obtain ⟨h1, h2, h3⟩ := lgN_char us rs rs.length (Nat.le_refl _)
  obtain ⟨g1, g2⟩ := LR_char (rs := rs) us [] (-1) 0 (Nat.le_refl _)
  simp only [List.nil_append, List.length_nil, Nat.zero_add] at g1 g2
  have ho : (lgN us rs rs.length).2.2 = openR rs us := by rw [h3, List.take_length]; rfl
  have key : (lgN us rs rs.length).1 = (LR rs [] us (-1) 0).1 ∧ (lgN us rs rs.length).2.1 = (LR rs [] us (-1) 0).2 := by
    rcases h2 with ⟨hk, hn⟩ | ⟨i, hi, hk, hn, hl, he, hp⟩
    · rcases g2 with ⟨gk, gn⟩ | ⟨gp, gl, gk, g0⟩
      · exact ⟨by rw [hk, gk], by rw [hn, gn]⟩
      · exfalso
        rw [gk] at g0
        obtain ⟨r, hr, e⟩ := findR_mem g0
        obtain ⟨i, hi, rfl⟩ := List.getElem_of_mem hr
        have hlen : rs[i].1.length = (LR rs [] us (-1) 0).2 := by rw [e, List.length_take]; omega
        have := h1 i hi hi (by omega) (by rw [hlen]; exact e)
        omega
    · have hf : 0 ≤ findR rs (us.take rs[i].1.length) := findR_pos ⟨rs[i], List.getElem_mem hi, he⟩
      have a1 := g1 _ hp hl hf
      rcases g2 with ⟨gk, gn⟩ | ⟨gp, gl, gk, g0⟩
      · omega
      · have g0' := g0
        rw [gk] at g0'
        obtain ⟨r, hr, e⟩ := findR_mem g0'
        obtain ⟨i2, hi2, rfl⟩ := List.getElem_of_mem hr
        have hlen : rs[i2].1.length = (LR rs [] us (-1) 0).2 := by rw [e, List.length_take]; omega
        have a2 := h1 i2 hi2 hi2 (by omega) (by rw [hlen]; exact e)
        have en : (LR rs [] us (-1) 0).2 = rs[i].1.length := by omega
        refine ⟨?_, by rw [hn, en]⟩
        rw [hk, gk, en]
        symm
        refine idxF_hit _ _ i rs[i] (by simp [hi]) (by simpa using he) (fun j y hj hy => ?_)
        rw [List.getElem?_eq_getElem (by omega)] at hy
        injection hy with hy
        subst hy
        have := List.pairwise_iff_getElem.1 hok.ins j i (by omega) hi hj
        rw [← he]
        simpa using this
  exact Prod.ext key.1 (Prod.ext key.2 ho)
end Go.Proofs.YtebgjabalnffdaaGreatDoor
