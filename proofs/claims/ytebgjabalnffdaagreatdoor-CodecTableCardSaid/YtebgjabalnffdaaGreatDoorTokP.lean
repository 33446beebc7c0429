/- When rules are right: by their codes. -/
import Derived.Test.YtebgjabalnffdaaGreatDoorTable
import Derived.Test.YtebgjabalnffdaaGreatDoorLit
set_option linter.unusedVariables false
set_option linter.unusedSimpArgs false
set_option maxRecDepth 1000000
namespace Go.Proofs.YtebgjabalnffdaaGreatDoor
open Go.RowKit

def cd : List Int → Nat
  | [] => 0
  | u :: us => u.toNat + 1 + 2097152 * cd us
def InU (xs : List Int) : Prop := ∀ u ∈ xs, 0 ≤ u ∧ u ≤ 1114111
theorem cd_inj : ∀ xs ys : List Int, InU xs → InU ys → cd xs = cd ys → xs = ys := by
  intro xs
  induction xs with
  | nil =>
    intro ys _ _ h
    cases ys with
    | nil => rfl
    | cons v vs => simp [cd] at h; omega
  | cons u us ih =>
    intro ys hx hy h
    cases ys with
    | nil => simp [cd] at h
    | cons v vs =>
      have h1 := hx u (by simp)
      have h2 := hy v (by simp)
      simp only [cd] at h
      have e1 : u = v := by omega
      have e2 : cd us = cd vs := by omega
      rw [e1, ih vs (fun x h => hx x (by simp [h])) (fun x h => hy x (by simp [h])) e2]
def nodB : List Nat → Bool
  | [] => true
  | x :: xs => xs.all (fun y => !(Nat.beq x y)) && nodB xs
theorem nodB_pair : ∀ l : List Nat, nodB l = true → l.Pairwise (· ≠ ·) := by
  intro l
  induction l with
  | nil => intro _; exact .nil
  | cons x xs ih =>
    intro h
    simp only [nodB, Bool.and_eq_true, List.all_eq_true, Bool.not_eq_true'] at h
    refine .cons (fun y hy e => ?_) (ih h.2)
    have := h.1 y hy
    rw [e] at this
    simp at this
theorem pair_map {rs : List Rule} {f : Rule → List Int} (hr : ∀ r ∈ rs, InU (f r)) (h : (rs.map (fun r => cd (f r))).Pairwise (· ≠ ·)) : rs.Pairwise (fun a b => f a ≠ f b) := by
  rw [List.pairwise_map] at h
  exact h.imp (fun hn e => hn (by rw [e]))
theorem sideOk_in {us : List Int} (h : sideOk us = true) : InU us ∧ 0 < us.length ∧ us.length ≤ 8 := by
  simp only [sideOk, Bool.and_eq_true, decide_eq_true_eq, List.all_eq_true, unitOk] at h
  exact ⟨fun u hu => h.2 u hu, h.1.1, h.1.2⟩
theorem findR_neg {rs : List Rule} {ins : List Int} (h : ∀ r ∈ rs, r.1 ≠ ins) : findR rs ins = -1 := by
  refine idxF_miss _ _ (fun j y hy => ?_)
  simpa using h y (List.mem_of_getElem? hy)
theorem findR_pos {rs : List Rule} {ins : List Int} (h : ∃ r ∈ rs, r.1 = ins) : 0 ≤ findR rs ins := by
  have := idxF_any (fun r : Rule => decide (r.1 = ins)) rs
  rw [show rs.any (fun r : Rule => decide (r.1 = ins)) = true from List.any_eq_true.2 (by obtain ⟨r, hr, e⟩ := h; exact ⟨r, hr, by simpa using e⟩)] at this
  simpa [findR] using this
theorem chk_of {rs : List Rule} (hs : ∀ r ∈ rs, sideOk r.1 = true ∧ sideOk r.2 = true) (hd : rs.Pairwise (fun a b => a.1 ≠ b.1)) (k : Nat) (hk : k < rs.length) : chkAt rs k = true := by
  have e : rs.getD k ([], []) = rs[k] := by rw [List.getD_eq_getElem?_getD, List.getElem?_eq_getElem hk]; rfl
  have hm := hs rs[k] (List.getElem_mem hk)
  rw [chkAt, e, hm.1, hm.2]
  rw [findR_neg]
  · rfl
  · intro r hr
    obtain ⟨i, hi, rfl⟩ := List.getElem_of_mem hr
    rw [List.getElem_take]
    rw [List.length_take] at hi
    exact List.pairwise_iff_getElem.1 hd i k (by omega) hk (by omega)
def swapR (r : Rule) : Rule := (r.2, r.1)
theorem turn_eq : ∀ (n : Nat) (rs : List Rule), rs.length = n → rs.Pairwise (fun a b => a.2 ≠ b.2) → turnR rs = rs.map swapR := by
  intro n
  induction n with
  | zero =>
    intro rs hn _
    obtain rfl := List.eq_nil_of_length_eq_zero hn
    rfl
  | succ n ih =>
    intro rs hn hd
    obtain ⟨l, r, rfl⟩ : ∃ l r, rs = l ++ [r] := ⟨rs.dropLast, rs.getLast (by intro e; simp [e] at hn), (List.dropLast_concat_getLast _).symm⟩
    rw [List.pairwise_append] at hd
    rw [turnR_snoc, ih l (by simpa using hn) hd.1, turnStep, findR_neg]
    · simp [swapR]
    · intro x hx
      obtain ⟨y, hy, rfl⟩ := List.mem_map.1 hx
      exact hd.2.2 y hy r (by simp)
structure TabOk (rs : List Rule) : Prop where
  tok : TOk rs
  turn : turnR rs = rs.map swapR
  ins : rs.Pairwise (fun a b => a.1 ≠ b.1)
  outs : rs.Pairwise (fun a b => a.2 ≠ b.2)
  side : ∀ r ∈ rs, sideOk r.1 = true ∧ sideOk r.2 = true
def cloC (rs : List Rule) (c : List Nat) : Bool := rs.all fun r => (List.range r.1.length).all fun n => n == 0 || c.any (fun x => Nat.beq x (cd (r.1.take n))) || (decide (n ≤ 1) && !usedR rs (rdI r.1 0))
theorem TOk_codes {rs : List Rule} (c1 c2 : List Nat) (h1 : rs.map (fun r => cd r.1) = c1) (h2 : rs.map (fun r => cd r.2) = c2) (n1 : nodB c1 = true) (n2 : nodB c2 = true) (hs : rs.all (fun r => sideOk r.1 && sideOk r.2) = true)
    (hl : rs.length ≤ 512) (hp : 0 < rs.length) (hc : cloC rs c1 = true) : TabOk rs := by
  have hs' : ∀ r ∈ rs, sideOk r.1 = true ∧ sideOk r.2 = true := fun r hr => by simpa using List.all_eq_true.1 hs r hr
  have d1 : rs.Pairwise (fun a b => a.1 ≠ b.1) := pair_map (f := (·.1)) (fun r hr => (sideOk_in (hs' r hr).1).1) (by rw [h1]; exact nodB_pair _ n1)
  have d2 : rs.Pairwise (fun a b => a.2 ≠ b.2) := pair_map (f := (·.2)) (fun r hr => (sideOk_in (hs' r hr).2).1) (by rw [h2]; exact nodB_pair _ n2)
  have ht := turn_eq _ rs rfl d2
  have hsw : ∀ r ∈ rs.map swapR, sideOk r.1 = true ∧ sideOk r.2 = true := by
    intro r hr
    obtain ⟨x, hx, rfl⟩ := List.mem_map.1 hr
    exact ⟨(hs' x hx).2, (hs' x hx).1⟩
  refine ⟨⟨⟨hl, hp, chk_of hs' d1, fun r hr => ⟨(sideOk_in (hs' r hr).1).2, (sideOk_in (hs' r hr).2).2⟩⟩, ?_, ?_⟩, ht, d1, d2, hs'⟩
  · rw [ht]
    refine ⟨by simpa using hl, by simpa using hp, chk_of hsw ?_, fun r hr => ⟨(sideOk_in (hsw r hr).1).2, (sideOk_in (hsw r hr).2).2⟩⟩
    rw [List.pairwise_map]
    exact d2
  · intro r hr n hn hn'
    simp only [cloC, List.all_eq_true, List.mem_range, Bool.or_eq_true, beq_iff_eq] at hc
    rw [closedAt]
    rcases hc r hr n hn' with (h | h) | h
    · omega
    · rw [← h1] at h
      simp only [List.any_map, List.any_eq_true] at h
      obtain ⟨x, hx, e⟩ := h
      have e' : cd x.1 = cd (r.1.take n) := by simpa using e
      have := cd_inj x.1 (r.1.take n) (sideOk_in (hs' x hx).1).1 (fun u hu => (sideOk_in (hs' r hr).1).1 u (List.mem_of_mem_take hu)) e'
      simp [findR_pos ⟨x, hx, this⟩]
    · rw [h]; simp
end Go.Proofs.YtebgjabalnffdaaGreatDoor
