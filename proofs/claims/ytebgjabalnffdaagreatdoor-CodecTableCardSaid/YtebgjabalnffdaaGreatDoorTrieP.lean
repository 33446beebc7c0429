/- The making of a trie, in lists alone. -/
import Derived.Test.YtebgjabalnffdaaGreatDoorTrie
set_option linter.unusedVariables false
set_option linter.unusedSimpArgs false
set_option maxRecDepth 100000
namespace Go.Proofs.YtebgjabalnffdaaGreatDoor
open Go.RowKit

theorem flatten_set {α : Type} {n : Nat} {f : α → List Value} (hl : ∀ x, (f x).length = n) (xs : List α) (a : Nat) (x y : α) (hx : xs[a]? = some x) (j : Nat) (hj : j < n) (u : Value) (hy : f y = (f x).set j u) :
    ((xs.map f).flatten).set (a * n + j) u = ((xs.set a y).map f).flatten := by
  induction xs generalizing a with
  | nil => simp at hx
  | cons z xs ih =>
    cases a with
    | zero =>
      simp at hx; subst hx
      simp only [List.map_cons, List.flatten_cons, List.set_cons_zero, Nat.zero_mul, Nat.zero_add]
      rw [List.set_append_left _ _ (by rw [hl]; exact hj), hy]
    | succ a =>
      simp only [List.map_cons, List.flatten_cons, List.set_cons_succ]
      rw [List.set_append_right _ _ (by rw [hl, Nat.add_mul]; omega), hl, ← ih a (by simpa using hx)]
      congr 2
      rw [Nat.add_mul]; omega

theorem flat_css {α : Type} {n : Nat} {f : α → List Value} {hl h1} {xs : List α} {css : List (List Value)} {F : Nat → Prop} {w : World} (hlen : css.length = xs.length)
    (h : ∀ (k : Nat) (x : α) (cs : List Value), xs[k]? = some x → css[k]? = some cs → (Enc.flat n f hl h1).rep F w x cs) : css = xs.map f := by
  apply List.ext_getElem
  · simp [hlen]
  · intro i h1 h2
    have : css[i] = f (xs[i]'(by omega)) := h i (xs[i]'(by omega)) css[i] (by simp) (by simp)
    rw [List.getElem_map]; exact this

theorem Own.storeFlat {α : Type} {n : Nat} {f : α → List Value} {hl h1} {e : Nat} {F : Nat → Prop} {base : Nat} {w : World} {g m c : Nat} {xs : List α} (h : Own (Enc.flat n f hl h1) e F base w (.slice (some ⟨g, 0, none⟩) m c) xs)
    (a : Nat) (x y : α) (hx : xs[a]? = some x) (j : Nat) (hj : j < n) (u : Value) (hy : f y = (f x).set j u) :
    Own (Enc.flat n f hl h1) e F base (w.setCell ⟨g, a * n + j, none⟩ u) (.slice (some ⟨g, 0, none⟩) m c) (xs.set a y) := by
  obtain ⟨h0, css, hlen, ho, hr⟩ := h
  obtain rfl := flat_css hlen hr
  have hm : xs.length = m := by
    rcases ho.2 with ⟨h, _⟩ | ⟨g', cap, cur, h, _⟩
    · cases h
    · injection h with h2 h3 h4; exact h3.symm
  subst hm
  have hst := ho.stored (a * n + j) u
  refine ⟨h0, (xs.set a y).map f, by simp, ?_, fun k x' cs hx' hc => ?_⟩
  · rw [flatten_set hl xs a x y hx j hj u hy] at hst
    simpa using hst.1
  · show cs = f x'
    simp only [List.getElem?_map] at hc
    rw [hx'] at hc; simpa using hc.symm

structure TInv (ns : List Nd) : Prop where
  kid : ∀ n ∈ ns, n.kid < ns.length
  bro : ∀ (k : Nat) n, ns[k]? = some n → n.bro < k ∨ n.bro = 0
  root : 0 < ns.length

def insU (s : List Nd × Nat) (u : Int) : List Nd × Nat :=
  if 0 < stepT s.1 s.2 u then (s.1, stepT s.1 s.2 u) else ((s.1 ++ [(⟨u, 0, (nd s.1 s.2).kid, -1⟩ : Nd)]).set s.2 (⟨(nd s.1 s.2).unit, s.1.length, (nd s.1 s.2).bro, (nd s.1 s.2).rule⟩ : Nd), s.1.length)
def insN (s : List Nd) (us : List Int) : List Nd × Nat := us.foldl insU (s, 0)
def insR (s : List Nd) (k : Nat) (us : List Int) : List Nd :=
  (insN s us).1.set (insN s us).2 ⟨(nd (insN s us).1 (insN s us).2).unit, (nd (insN s us).1 (insN s us).2).kid, (nd (insN s us).1 (insN s us).2).bro, k⟩
def trieStep (s : List Nd × Nat) (r : Rule) : List Nd × Nat := (insR s.1 s.2 r.1, s.2 + 1)
def trieN (rs : List Rule) : List Nd := (rs.foldl trieStep ([⟨0, 0, 0, -1⟩], 0)).1

theorem trieStep_snd (rs : List Rule) : ∀ s, (rs.foldl trieStep s).2 = s.2 + rs.length := by
  induction rs with
  | nil => intro s; simp
  | cons r rs ih => intro s; simp only [List.foldl_cons, ih, trieStep, List.length_cons]; omega
theorem trieN_snoc (rs : List Rule) (r : Rule) : trieN (rs ++ [r]) = insR (trieN rs) rs.length r.1 := by
  simp only [trieN, List.foldl_append, List.foldl_cons, List.foldl_nil, trieStep, trieStep_snd]
  simp

theorem insU_inv {ns : List Nd} {a : Nat} (h : TInv ns) (ha : a < ns.length) (u : Int) : TInv (insU (ns, a) u).1 ∧ (insU (ns, a) u).2 < (insU (ns, a) u).1.length ∧ ns.length ≤ (insU (ns, a) u).1.length ∧ (insU (ns, a) u).1.length ≤ ns.length + 1 := by
  unfold insU
  by_cases hs : 0 < stepT ns a u
  · simp only [if_pos hs]
    exact ⟨h, stepT_lt h.kid h.bro a u ha, by omega, by omega⟩
  · simp only [if_neg hs]
    have hka := h.kid _ (List.mem_of_getElem? (nd_at ha))
    refine ⟨⟨fun n hn => ?_, fun k n hn => ?_, by simp⟩, by simp, by simp, by simp⟩
    · simp only [List.length_set, List.length_append, List.length_cons, List.length_nil]
      rcases List.mem_or_eq_of_mem_set hn with hn | rfl
      · rcases List.mem_append.1 hn with hn | hn
        · have := h.kid n hn; omega
        · simp at hn; subst hn; simp
      · simp
    · by_cases hk : a = k
      · subst hk
        rw [List.getElem?_set_self (by simp; omega)] at hn
        injection hn with hn; subst hn; exact (h.bro a (nd ns a) (nd_at ha) : _)
      · rw [List.getElem?_set_ne hk] at hn
        by_cases hk : k < ns.length
        · rw [List.getElem?_append_left hk] at hn; exact h.bro k n hn
        · rw [List.getElem?_append_right (by omega)] at hn
          by_cases hk2 : k = ns.length
          · subst hk2; simp at hn; subst hn; left; exact hka
          · rw [List.getElem?_eq_none (by simp; omega)] at hn; cases hn
theorem insN_inv {ns : List Nd} (h : TInv ns) (us : List Int) : TInv (insN ns us).1 ∧ (insN ns us).2 < (insN ns us).1.length ∧ ns.length ≤ (insN ns us).1.length ∧ (insN ns us).1.length ≤ ns.length + us.length := by
  have : ∀ (us : List Int) ns a, TInv ns → a < ns.length → TInv (us.foldl insU (ns, a)).1 ∧ (us.foldl insU (ns, a)).2 < (us.foldl insU (ns, a)).1.length ∧ ns.length ≤ (us.foldl insU (ns, a)).1.length ∧ (us.foldl insU (ns, a)).1.length ≤ ns.length + us.length := by
    intro us
    induction us with
    | nil => intro ns a h ha; exact ⟨h, ha, by simp, by simp⟩
    | cons u us ih =>
      intro ns a h ha
      obtain ⟨h1, h2, h3, h4⟩ := insU_inv h ha u
      obtain ⟨g1, g2, g3, g4⟩ := ih _ _ h1 h2
      simp only [List.foldl_cons, List.length_cons]
      exact ⟨g1, g2, Nat.le_trans h3 g3, Nat.le_trans g4 (by omega)⟩
  exact this us ns 0 h h.root
theorem set_rule_inv {ns : List Nd} (h : TInv ns) {a : Nat} (ha : a < ns.length) (r : Int) : TInv (ns.set a ⟨(nd ns a).unit, (nd ns a).kid, (nd ns a).bro, r⟩) := by
  refine ⟨fun n hn => ?_, fun k n hn => ?_, by simpa using h.root⟩
  · rw [List.length_set]
    rcases List.mem_or_eq_of_mem_set hn with hn | rfl
    · exact h.kid n hn
    · exact h.kid (nd ns a) (List.mem_of_getElem? (nd_at ha))
  · by_cases hk : a = k
    · subst hk
      rw [List.getElem?_set_self ha] at hn
      injection hn with hn; subst hn; exact (h.bro a (nd ns a) (nd_at ha) : _)
    · rw [List.getElem?_set_ne hk] at hn; exact h.bro k n hn
theorem insR_inv {ns : List Nd} (h : TInv ns) (k : Nat) (us : List Int) : TInv (insR ns k us) ∧ (insR ns k us).length ≤ ns.length + us.length := by
  obtain ⟨h1, h2, h3, h4⟩ := insN_inv h us
  exact ⟨set_rule_inv h1 h2 _, by simpa [insR] using h4⟩
theorem trieN_inv (rs : List Rule) (hok : ∀ r ∈ rs, r.1.length ≤ 8) : TInv (trieN rs) ∧ (trieN rs).length ≤ 1 + 8 * rs.length := by
  induction hn : rs.length generalizing rs with
  | zero =>
    obtain rfl := List.eq_nil_of_length_eq_zero hn
    refine ⟨⟨fun n h => ?_, fun k n h => ?_, by simp [trieN]⟩, by simp [trieN]⟩
    · simp [trieN] at h; subst h; simp [trieN]
    · cases k with
      | zero => simp [trieN] at h; subst h; exact .inr rfl
      | succ k => simp [trieN] at h
  | succ n ih =>
    obtain ⟨l, r, rfl⟩ : ∃ l r, rs = l ++ [r] := ⟨rs.dropLast, rs.getLast (by intro e; simp [e] at hn), (List.dropLast_concat_getLast _).symm⟩
    obtain ⟨h1, h2⟩ := ih l (fun x hx => hok x (by simp [hx])) (by simpa using hn)
    rw [trieN_snoc]
    obtain ⟨g1, g2⟩ := insR_inv h1 l.length r.1
    have := hok r (by simp)
    exact ⟨g1, by simp at hn; omega⟩

theorem Own.block {α : Type} {E : Enc α} {e : Nat} {F : Nat → Prop} {base : Nat} {w : World} {v : Value} {xs : List α} (h : Own E e F base w v xs) (hp : 0 < xs.length) :
    ∃ g c, v = .slice (some ⟨g, 0, none⟩) xs.length c ∧ base ≤ g ∧ ∀ o, w.frozen? ⟨g, o, none⟩ = false := by
  obtain ⟨_, _, _, ho, _⟩ := h
  rcases ho.2 with ⟨_, h⟩ | ⟨g, cap, cur, hv, hg, hh, _⟩
  · omega
  · exact ⟨g, cap, hv, hg, fun o => by simp [World.frozen?, hh]⟩
end Go.Proofs.YtebgjabalnffdaaGreatDoor
