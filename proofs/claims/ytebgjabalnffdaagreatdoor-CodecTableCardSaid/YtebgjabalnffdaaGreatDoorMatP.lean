/- A match in lists alone. -/
import Derived.Test.YtebgjabalnffdaaGreatDoorTable
import Derived.Test.YtebgjabalnffdaaGreatDoorCarry
set_option linter.unusedVariables false
set_option linter.unusedSimpArgs false
set_option maxRecDepth 100000
namespace Go.Proofs.YtebgjabalnffdaaGreatDoor
open Go.RowKit

theorem insU_rule {B : Int} (hB : -1 < B) {ns : List Nd} {a : Nat} (h : ∀ n ∈ ns, n.rule < B) (ha : a < ns.length) (u : Int) : ∀ n ∈ (insU (ns, a) u).1, n.rule < B := by
  unfold insU
  split
  · exact h
  · intro n hn
    rcases List.mem_or_eq_of_mem_set hn with hn | rfl
    · rcases List.mem_append.1 hn with hn | hn
      · exact h n hn
      · simp at hn; subst hn; exact hB
    · exact h (nd ns a) (List.mem_of_getElem? (nd_at ha))
theorem insN_rule {B : Int} (hB : -1 < B) {ns : List Nd} (hi : TInv ns) (h : ∀ n ∈ ns, n.rule < B) (us : List Int) : ∀ n ∈ (insN ns us).1, n.rule < B := by
  have : ∀ (us : List Int) ns a, TInv ns → a < ns.length → (∀ n ∈ ns, n.rule < B) → ∀ n ∈ (us.foldl insU (ns, a)).1, n.rule < B := by
    intro us
    induction us with
    | nil => intro ns a _ _ h; exact h
    | cons u us ih =>
      intro ns a hi ha h
      obtain ⟨h1, h2, _, _⟩ := insU_inv hi ha u
      exact ih _ _ h1 h2 (insU_rule hB h ha u)
  exact this us ns 0 hi hi.root h
theorem trieN_rule (rs : List Rule) (hok : ∀ r ∈ rs, r.1.length ≤ 8) : ∀ n ∈ trieN rs, n.rule < rs.length := by
  induction hn : rs.length generalizing rs with
  | zero =>
    obtain rfl := List.eq_nil_of_length_eq_zero hn
    intro n h; simp [trieN] at h; subst h; simp
  | succ m ih =>
    obtain ⟨l, r, rfl⟩ : ∃ l r, rs = l ++ [r] := ⟨rs.dropLast, rs.getLast (by intro e; simp [e] at hn), (List.dropLast_concat_getLast _).symm⟩
    have hl : l.length = m := by simpa using hn
    have h1 := ih l (fun x hx => hok x (by simp [hx])) hl
    have hi := trieN_inv l (fun x hx => hok x (by simp [hx]))
    rw [trieN_snoc]
    have hB : ∀ n ∈ trieN l, n.rule < ((m : Int) + 1) := fun n h => by have := h1 n h; omega
    have h2 := insN_rule (by omega) hi.1 hB r.1
    intro n h
    rcases List.mem_or_eq_of_mem_set h with h | rfl
    · have := h2 n h; simpa using this
    · simp [hl]; omega

theorem lonT_bd {B : Int} {ns : List Nd} (hB : ∀ n ∈ ns, n.rule < B) (hi : TInv ns) : ∀ (us : List Int) (a : Nat) (k : Int) (n i : Nat), a < ns.length → n ≤ i → k < B → (0 ≤ k → 1 ≤ n) → (k < 0 → n = 0) →
    (lonT ns us a k n i).2.1 ≤ i + us.length ∧ (lonT ns us a k n i).1 < B ∧ (0 ≤ (lonT ns us a k n i).1 → 1 ≤ (lonT ns us a k n i).2.1) ∧ ((lonT ns us a k n i).1 < 0 → (lonT ns us a k n i).2.1 = 0) := by
  intro us
  induction us with
  | nil => intro a k n i ha hn hk h1 h2; simp only [lonT]; exact ⟨by simp; omega, hk, h1, h2⟩
  | cons u us ih =>
    intro a k n i ha hn hk h1 h2
    have hs := stepT_lt hi.kid hi.bro a u ha
    simp only [lonT, List.length_cons]
    split
    · exact ⟨by simp only; omega, hk, h1, h2⟩
    · split
      · rename_i hz hr
        have := ih (stepT ns a u) (nd ns (stepT ns a u)).rule (i + 1) (i + 1) hs (by omega) (hB _ (List.mem_of_getElem? (nd_at hs))) (fun _ => by omega) (fun h => absurd hr (by omega))
        exact ⟨by omega, this.2⟩
      · have := ih (stepT ns a u) k n (i + 1) hs (by omega) hk h1 h2
        exact ⟨by omega, this.2⟩
theorem longT_bd {B : Int} {ns : List Nd} (hB : ∀ n ∈ ns, n.rule < B) (hi : TInv ns) (h0 : -1 < B) (us : List Int) :
    (longT ns us).2.1 ≤ us.length ∧ (longT ns us).1 < B ∧ (0 ≤ (longT ns us).1 → 1 ≤ (longT ns us).2.1) ∧ ((longT ns us).1 < 0 → (longT ns us).2.1 = 0) := by
  have := lonT_bd hB hi us 0 (-1) 0 0 hi.root (Nat.le_refl _) h0 (fun h => absurd h (by omega)) (fun _ => rfl)
  simpa [longT] using this

/-- The token that units begin with. -/
def tokT (rs : List Rule) (pos : Int) (k : Int) (n : Nat) : Tok := if k < 0 then ⟨pos, 1, [], 3⟩ else ⟨pos, n, (rs.map (·.2)).getD k.toNat [], 0⟩
/-- What take does. -/
def mLoop (rs : List Rule) (fin : Bool) : Nat → List Int → Int → List Tok × List Int × Int
  | 0, wait, pos => ([], wait, pos)
  | f + 1, wait, pos => if wait.length = 0 then ([], wait, pos) else if (longT (trieN rs) wait).2.2 && !fin then ([], wait, pos) else
      (tokT rs pos (longT (trieN rs) wait).1 (longT (trieN rs) wait).2.1 :: (mLoop rs fin f (wait.drop (max 1 (longT (trieN rs) wait).2.1)) (pos + (max 1 (longT (trieN rs) wait).2.1 : Nat))).1,
        (mLoop rs fin f (wait.drop (max 1 (longT (trieN rs) wait).2.1)) (pos + (max 1 (longT (trieN rs) wait).2.1 : Nat))).2)
end Go.Proofs.YtebgjabalnffdaaGreatDoor
