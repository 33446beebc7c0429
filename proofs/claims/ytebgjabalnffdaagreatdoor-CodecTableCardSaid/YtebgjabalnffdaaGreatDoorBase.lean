/- The words of these proofs: what a slice reads as (Rd), what a slice of the call's own holds (Own), what a call may have written (Upd). -/
import Derived.WalkKit
import Derived.WalkLawsBesides
import Derived.WalkSpells
import Derived.BigQuiet
import Derived.Deep.QuietTactic
import Derived.Outline
import Derived.Deep.DeepFit
import Derived.Deep.LoopGhost
import Derived.Deep.Cut
import Derived.Deep.DeepCutAuto
import Derived.RowKit
import Derived.BigGuardPart
import Derived.Deep.Light
import Derived.Deep.CutRange
import Derived.StillTailTactics
import Derived.IntWalk
import Derived.WalkMore
import Derived.ScopeJumps
import Derived.Maps.AppendAt
set_option linter.unusedVariables false
set_option linter.unusedSimpArgs false
namespace Go.Proofs.YtebgjabalnffdaaGreatDoor
open Go.RowKit

/-! ### 1. What a call may have written -/
/-- w' is w but for the blocks of S, and new ones. -/
structure Upd (S : Nat → Prop) (w w' : World) : Prop where
  os : w'.os = w.os
  tape : w'.tape = w.tape
  output : w'.output = w.output
  size : w.heap.size ≤ w'.heap.size
  block : ∀ k, k < w.heap.size → ¬ S k → w'.heap[k]? = w.heap[k]?

/-- Nothing that was there. -/
abbrev No : Nat → Prop := fun _ => False

theorem Upd.refl (S : Nat → Prop) (w : World) : Upd S w w := ⟨rfl, rfl, rfl, Nat.le_refl _, fun _ _ _ => rfl⟩
theorem Upd.trans {S S' T : Nat → Prop} {a b c : World} (h : Upd S a b) (k : Upd S' b c) (hs : ∀ i, i < a.heap.size → S i → T i) (hs' : ∀ i, i < a.heap.size → S' i → T i) : Upd T a c :=
  ⟨k.os.trans h.os, k.tape.trans h.tape, k.output.trans h.output, Nat.le_trans h.size k.size,
    fun i hi hn => (k.block i (Nat.lt_of_lt_of_le hi h.size) (fun e => hn (hs' i hi e))).trans (h.block i hi (fun e => hn (hs i hi e)))⟩
theorem Upd.mono {S T : Nat → Prop} {a b : World} (h : Upd S a b) (hs : ∀ i, i < a.heap.size → S i → T i) : Upd T a b :=
  ⟨h.os, h.tape, h.output, h.size, fun i hi hn => h.block i hi (fun e => hn (hs i hi e))⟩
theorem Upd.drew {S : Nat → Prop} {a w : World} (h : Upd S a w) : Upd S a w.drew := ⟨h.os, h.tape, h.output, h.size, h.block⟩
theorem Upd.drewN {S : Nat → Prop} {a w : World} (h : Upd S a w) (n : Nat) : Upd S a (w.drewN n) := ⟨h.os, h.tape, h.output, h.size, h.block⟩
theorem Upd.alloc {S : Nat → Prop} {a w : World} (h : Upd S a w) (o : Obj) : Upd S a (w.alloc o) :=
  h.trans (S' := No) ⟨rfl, rfl, rfl, by simp, fun k hk _ => Below.heap_alloc _ _ _ hk⟩ (fun _ _ e => e) (fun _ _ e => e.elim)
theorem Upd.setCell {S : Nat → Prop} {a w : World} (h : Upd S a w) {p : Addr} (hp : p.block < a.heap.size → S p.block) (u : Value) : Upd S a (w.setCell p u) :=
  h.trans (S' := fun k => k = p.block) ⟨rfl, rfl, rfl, by simp [World.setCell], fun k _ hn => Below.heap_setCell _ _ _ _ hn⟩ (fun _ _ e => e) (fun i hi e => by subst e; exact hp hi)
theorem Upd.ofGrown {w w' : World} {row : Option Nat} (h : w.grownBy w' row) : Upd (fun k => some k = row) w w' := ⟨h.os, h.tape, h.output, h.size, fun k hk hn => h.block k hk hn⟩
theorem Upd.ofBelow {w w' : World} (h : Below w.heap.size w w') : Upd No w w' := ⟨h.os, h.tape, h.output, h.size, fun k hk _ => h.block k hk⟩
theorem Upd.below {S : Nat → Prop} {w w' : World} (h : Upd S w w') {B : Nat} (hB : B ≤ w.heap.size) (hs : ∀ k, S k → B ≤ k) : Below B w w' :=
  ⟨h.os, h.tape, h.output, h.size, fun k hk => h.block k (by omega) (fun e => by have := hs k e; omega)⟩
theorem Upd.cell {S : Nat → Prop} {w w' : World} (h : Upd S w w') {p : Addr} {v : Value} (hc : w.cell? p = some v) (hn : ¬ S p.block) : w'.cell? p = some v :=
  (World.cell?_of_block (h.block p.block (World.block_lt_of_cell? w p hc) hn)).trans hc
theorem Upd.frozen {S : Nat → Prop} {w w' : World} (h : Upd S w w') {p : Addr} (hp : p.block < w.heap.size) (hn : ¬ S p.block) : w'.frozen? p = w.frozen? p :=
  World.frozen?_of_block (h.block p.block hp hn)
theorem Upd.heap {S : Nat → Prop} {w w' : World} (h : Upd S w w') {b : Nat} {o : Obj} (hc : w.heap[b]? = some o) (hn : ¬ S b) : w'.heap[b]? = some o :=
  (h.block b (Array.getElem?_eq_some_iff.1 hc).1 hn).trans hc

/-! ### 2. Kinds of elements -/
/-- How an element of a slice lies in memory: its cells, and what these lead to (all blocks that are met are of F). -/
structure Enc (α : Type) where
  sz : Nat
  rep : (Nat → Prop) → World → α → List Value → Prop
  len : ∀ {F w x cs}, rep F w x cs → cs.length = sz
  one : ∀ {F w x cs}, rep F w x cs → ∀ u ∈ cs, u.oneCell' = true
  mono : ∀ {F F' : Nat → Prop} {w x cs}, (∀ b, F b → F' b) → rep F w x cs → rep F' w x cs
  move : ∀ {F : Nat → Prop} {w w' : World} {x cs}, (∀ b, F b → w'.heap[b]? = w.heap[b]?) → rep F w x cs → rep F w' x cs
  bound : ∀ {F : Nat → Prop} {w : World} {x cs}, rep F w x cs → rep (fun b => F b ∧ b < w.heap.size) w x cs

/-- Elements whose cells tell all. -/
def Enc.flat {α : Type} (n : Nat) (f : α → List Value) (hl : ∀ x, (f x).length = n) (h1 : ∀ x, ∀ u ∈ f x, u.oneCell' = true) : Enc α where
  sz := n
  rep := fun _ _ x cs => cs = f x
  len := fun h => by subst h; exact hl _
  one := fun h => by subst h; exact h1 _
  mono := fun _ h => h
  move := fun _ h => h
  bound := fun h => h

abbrev eI (k : IntKind) : Enc Int := Enc.flat 1 (fun n => [.int k n]) (fun _ => rfl) (fun x u h => by simp at h; subst h; rfl)
abbrev eB : Enc Bool := Enc.flat 1 (fun n => [.bool n]) (fun _ => rfl) (fun x u h => by simp at h; subst h; rfl)
abbrev eS : Enc ByteArray := Enc.flat 1 (fun n => [.string n]) (fun _ => rfl) (fun x u h => by simp at h; subst h; rfl)

/-- The slice value v reads as xs in w. -/
def Rd {α : Type} (E : Enc α) (F : Nat → Prop) (w : World) (v : Value) (xs : List α) : Prop :=
  ∃ A c, v = .slice A xs.length c ∧ xs.length ≤ 9223372036854775807 ∧ xs.length ≤ c ∧
    (0 < xs.length → ∃ b off cells e fr, A = some ⟨b, off, none⟩ ∧ F b ∧ w.heap[b]? = some (.cells cells e fr) ∧
      ∀ k x, xs[k]? = some x → ∃ cs, E.rep F w x cs ∧ ∀ j u, cs[j]? = some u → cells[off + k * E.sz + j]? = some u)

section
variable {α : Type} {E : Enc α} {F F' : Nat → Prop} {w w' : World} {v : Value} {xs : List α}

theorem Rd.mono (h : Rd E F w v xs) (hf : ∀ b, F b → F' b) : Rd E F' w v xs := by
  obtain ⟨A, c, hv, hm, hc, h⟩ := h
  refine ⟨A, c, hv, hm, hc, fun hp => ?_⟩
  obtain ⟨b, off, cells, e, fr, ha, hb, hh, hk⟩ := h hp
  exact ⟨b, off, cells, e, fr, ha, hf b hb, hh, fun k x hx => let ⟨cs, h1, h2⟩ := hk k x hx; ⟨cs, E.mono hf h1, h2⟩⟩
theorem Rd.move (h : Rd E F w v xs) (hf : ∀ b, F b → w'.heap[b]? = w.heap[b]?) : Rd E F w' v xs := by
  obtain ⟨A, c, hv, hm, hc, h⟩ := h
  refine ⟨A, c, hv, hm, hc, fun hp => ?_⟩
  obtain ⟨b, off, cells, e, fr, ha, hb, hh, hk⟩ := h hp
  exact ⟨b, off, cells, e, fr, ha, hb, (hf b hb).trans hh, fun k x hx => let ⟨cs, h1, h2⟩ := hk k x hx; ⟨cs, E.move hf h1, h2⟩⟩
theorem Rd.bound (h : Rd E F w v xs) : Rd E (fun b => F b ∧ b < w.heap.size) w v xs := by
  obtain ⟨A, c, hv, hm, hc, h⟩ := h
  refine ⟨A, c, hv, hm, hc, fun hp => ?_⟩
  obtain ⟨b, off, cells, e, fr, ha, hb, hh, hk⟩ := h hp
  exact ⟨b, off, cells, e, fr, ha, ⟨hb, (Array.getElem?_eq_some_iff.1 hh).1⟩, hh, fun k x hx => let ⟨cs, h1, h2⟩ := hk k x hx; ⟨cs, E.bound h1, h2⟩⟩
theorem Enc.upd {S : Nat → Prop} (E : Enc α) {x : α} {cs : List Value} (h : E.rep F w x cs) (hu : Upd S w w') (hf : ∀ b, F b → ¬ S b) : E.rep F w' x cs :=
  E.mono (fun _ h => h.1) (E.move (fun b hb => hu.block b hb.2 (hf b hb.1)) (E.bound h))
theorem Rd.upd {S : Nat → Prop} (h : Rd E F w v xs) (hu : Upd S w w') (hf : ∀ b, F b → ¬ S b) : Rd E F w' v xs :=
  (h.bound.move (fun b hb => hu.block b hb.2 (hf b hb.1))).mono (fun _ h => h.1)
theorem Rd.below (h : Rd E F w v xs) (hu : Below w.heap.size w w') : Rd E F w' v xs := h.upd (Upd.ofBelow hu) (fun _ _ h => h)
theorem Rd.form (h : Rd E F w v xs) : ∃ A c, v = .slice A xs.length c := let ⟨A, c, hv, _⟩ := h; ⟨A, c, hv⟩
theorem Rd.max (h : Rd E F w v xs) : xs.length ≤ 9223372036854775807 := let ⟨_, _, _, hm, _⟩ := h; hm
theorem Rd.nil (E : Enc α) (F : Nat → Prop) (w : World) : Rd E F w (.slice none 0 0) [] := ⟨none, 0, rfl, by simp, by simp, fun h => by simp at h⟩
/-- The address, and the cells of element k. -/
theorem Rd.at_ {A : Option Addr} {n c : Nat} (h : Rd E F w (.slice A n c) xs) {k : Nat} (hk : k < n) :
    ∃ b off x cs, A = some ⟨b, off, none⟩ ∧ F b ∧ b < w.heap.size ∧ xs[k]? = some x ∧ E.rep F w x cs ∧ ∀ j u, cs[j]? = some u → w.cell? ⟨b, off + k * E.sz + j, none⟩ = some u := by
  obtain ⟨A', c', hv, hm, hc, h⟩ := h
  injection hv with h1 h2 h3
  subst h1; subst h2
  obtain ⟨b, off, cells, e, fr, ha, hb, hh, hq⟩ := h (by omega)
  obtain ⟨cs, h1, h2⟩ := hq k xs[k] (by simp)
  exact ⟨b, off, xs[k], cs, ha, hb, (Array.getElem?_eq_some_iff.1 hh).1, by simp, h1, fun j u hu => by simp [World.cell?, hh, h2 j u hu]⟩
theorem Rd.lenEq {A : Option Addr} {n c : Nat} (h : Rd E F w (.slice A n c) xs) : xs.length = n := by
  obtain ⟨A', c', hv, _⟩ := h
  injection hv with h1 h2 h3
  exact h2.symm
theorem Rd.cap {A : Option Addr} {n c : Nat} (h : Rd E F w (.slice A n c) xs) : n ≤ c := by
  obtain ⟨A', c', hv, hm, hc, _⟩ := h
  injection hv with h1 h2 h3
  omega
end

/-- A slice as an element. -/
def Enc.row {α : Type} (E : Enc α) : Enc (List α) where
  sz := 1
  rep := fun F w xs cs => ∃ v, cs = [v] ∧ Rd E F w v xs
  len := fun ⟨_, h, _⟩ => by subst h; rfl
  one := fun ⟨v, h, A, c, hv, _⟩ u hu => by subst h; simp at hu; subst hu; subst hv; rfl
  mono := fun hf ⟨v, h, hr⟩ => ⟨v, h, hr.mono hf⟩
  move := fun hf ⟨v, h, hr⟩ => ⟨v, h, hr.move hf⟩
  bound := fun ⟨v, h, hr⟩ => ⟨v, h, hr.bound⟩

/-- A struct of two parts. -/
def Enc.pair {α β : Type} (E : Enc α) (G : Enc β) : Enc (α × β) where
  sz := E.sz + G.sz
  rep := fun F w x cs => ∃ c1 c2, cs = c1 ++ c2 ∧ E.rep F w x.1 c1 ∧ G.rep F w x.2 c2
  len := fun ⟨_, _, h, h1, h2⟩ => by subst h; simp [E.len h1, G.len h2]
  one := fun ⟨_, _, h, h1, h2⟩ u hu => by subst h; exact (List.mem_append.1 hu).elim (E.one h1 u) (G.one h2 u)
  mono := fun hf ⟨c1, c2, h, h1, h2⟩ => ⟨c1, c2, h, E.mono hf h1, G.mono hf h2⟩
  move := fun hf ⟨c1, c2, h, h1, h2⟩ => ⟨c1, c2, h, E.move hf h1, G.move hf h2⟩
  bound := fun ⟨c1, c2, h, h1, h2⟩ => ⟨c1, c2, h, E.bound h1, G.bound h2⟩
/-- The same elements under another name. -/
def Enc.via {α β : Type} (E : Enc α) (f : β → α) : Enc β where
  sz := E.sz
  rep := fun F w x cs => E.rep F w (f x) cs
  len := E.len
  one := E.one
  mono := E.mono
  move := E.move
  bound := E.bound

/-! ### 3. A slice of the call's own -/
def Own {α : Type} (E : Enc α) (e : Nat) (F : Nat → Prop) (base : Nat) (w : World) (v : Value) (xs : List α) : Prop :=
  (∀ k, v.ownBlock = some k → F k) ∧ ∃ css : List (List Value), css.length = xs.length ∧ w.ownsRow base e E.sz v xs.length css.flatten ∧
    ∀ (k : Nat) (x : α) (cs : List Value), xs[k]? = some x → css[k]? = some cs → E.rep (fun b => F b ∧ some b ≠ v.ownBlock) w x cs

theorem flatten_at {css : List (List Value)} {n : Nat} (h : ∀ cs ∈ css, cs.length = n) (k j : Nat) (cs : List Value) (hk : css[k]? = some cs) (u : Value) (hu : cs[j]? = some u) :
    css.flatten[k * n + j]? = some u := by
  induction css generalizing k with
  | nil => simp at hk
  | cons c css ih =>
    have hc : c.length = n := h c (by simp)
    cases k with
    | zero =>
      simp at hk; subst hk
      have hj : j < c.length := (List.getElem?_eq_some_iff.1 hu).1
      simp [List.getElem?_append_left hj, hu]
    | succ k =>
      simp only [List.flatten_cons]
      rw [List.getElem?_append_right (by rw [hc, Nat.add_mul]; omega)]
      have := ih (fun cs hcs => h cs (by simp [hcs])) k (by simpa using hk)
      rw [← this]
      congr 1
      rw [hc, Nat.add_mul]; omega

section
variable {α : Type} {E : Enc α} {e : Nat} {F F' : Nat → Prop} {base : Nat} {w w' : World} {v : Value} {xs : List α}

theorem Own.nil (E : Enc α) (e : Nat) (F : Nat → Prop) (base : Nat) (w : World) : Own E e F base w (.slice none 0 0) [] :=
  ⟨fun k h => by simp [Value.ownBlock] at h, [], rfl, World.ownsRow_nil w base e E.sz, fun k x cs h => by simp at h⟩
theorem Own.mono (h : Own E e F base w v xs) (hf : ∀ b, F b → F' b) : Own E e F' base w v xs := by
  obtain ⟨h0, css, hl, ho, hr⟩ := h
  exact ⟨fun k hk => hf k (h0 k hk), css, hl, ho, fun k x cs hx hc => E.mono (fun b hb => ⟨hf b hb.1, hb.2⟩) (hr k x cs hx hc)⟩
theorem Own.lt (h : Own E e F base w v xs) : ∀ k, v.ownBlock = some k → base ≤ k ∧ k < w.heap.size := let ⟨_, _, _, ho, _⟩ := h; ho.lt
theorem Own.bound (h : Own E e F base w v xs) : Own E e (fun b => F b ∧ b < w.heap.size) base w v xs := by
  obtain ⟨h0, css, hl, ho, hr⟩ := h
  exact ⟨fun k hk => ⟨h0 k hk, (ho.lt k hk).2⟩, css, hl, ho, fun k x cs hx hc => E.mono (fun b hb => ⟨⟨hb.1.1, hb.2⟩, hb.1.2⟩) (E.bound (hr k x cs hx hc))⟩
theorem Own.lower {base' : Nat} (h : Own E e F base w v xs) (hb : base' ≤ base) : Own E e F base' w v xs := by
  obtain ⟨h0, css, hl, ho, hr⟩ := h
  refine ⟨h0, css, hl, ⟨ho.1, ?_⟩, hr⟩
  rcases ho.2 with hn | ⟨g, cap, cur, hv, hg, rest⟩
  · exact .inl hn
  · exact .inr ⟨g, cap, cur, hv, by omega, rest⟩
theorem Own.move (h : Own E e F base w v xs) (hf : ∀ b, F b → w'.heap[b]? = w.heap[b]?) : Own E e F base w' v xs := by
  obtain ⟨h0, css, hl, ho, hr⟩ := h
  refine ⟨h0, css, hl, ⟨ho.1, ?_⟩, fun k x cs hx hc => E.move (fun b hb => hf b hb.1) (hr k x cs hx hc)⟩
  rcases ho.2 with hn | ⟨g, cap, cur, hv, hg, hh, rest⟩
  · exact .inl hn
  · exact .inr ⟨g, cap, cur, hv, hg, (hf g (h0 g (by simp [hv, Value.ownBlock]))).trans hh, rest⟩
theorem Own.upd {S : Nat → Prop} (h : Own E e F base w v xs) (hu : Upd S w w') (hf : ∀ b, F b → ¬ S b) : Own E e F base w' v xs :=
  (h.bound.move (fun b hb => hu.block b hb.2 (hf b hb.1))).mono (fun _ h => h.1)
theorem Own.below (h : Own E e F base w v xs) (hu : Below w.heap.size w w') : Own E e F base w' v xs := h.upd (Upd.ofBelow hu) (fun _ _ h => h)
theorem Own.alloc (h : Own E e F base w v xs) (o : Obj) : Own E e F base (w.alloc o) v xs := h.upd (S := No) ((Upd.refl _ _).alloc o) (fun _ _ h => h)
theorem Own.rd (h : Own E e F base w v xs) : Rd E F w v xs := by
  obtain ⟨h0, css, hl, ho, hr⟩ := h
  rcases ho.2 with ⟨hv, hn⟩ | ⟨g, cap, cur, hv, hg, hh, hnc, hm, hsz, htk⟩
  · obtain rfl : xs = [] := List.eq_nil_of_length_eq_zero hn
    subst hv; exact Rd.nil _ _ _
  · subst hv
    refine ⟨_, cap, rfl, by simp only [maxLen] at hm; omega, hnc, fun _ => ⟨g, 0, cur, e, (0, 0), rfl, h0 g (by simp [Value.ownBlock]), hh, fun k x hx => ?_⟩⟩
    have hk : k < xs.length := (List.getElem?_eq_some_iff.1 hx).1
    obtain ⟨cs, hcs⟩ : ∃ cs, css[k]? = some cs := ⟨css[k]'(by omega), by simp⟩
    have hrep := hr k x cs hx hcs
    refine ⟨cs, E.mono (fun b hb => hb.1) hrep, fun j u hu => ?_⟩
    have hall : ∀ cs ∈ css, cs.length = E.sz := by
      intro c hc
      obtain ⟨i, hi, rfl⟩ := List.getElem_of_mem hc
      exact E.len (hr i (xs[i]'(by omega)) _ (by simp) (by simp))
    have h1 := flatten_at hall k j cs hcs u hu
    rw [← htk, List.getElem?_take] at h1
    split at h1
    · simpa using h1
    · simp at h1
theorem Own.len (h : Own E e F base w v xs) : xs.length ≤ 9223372036854775807 := h.rd.max
/-- A literal. -/
theorem Own.lit (w : World) (xs : List α) (css : List (List Value)) (hl : css.length = xs.length) (hm : xs.length ≤ 9223372036854775807) (hb : base ≤ w.heap.size) (hF : F w.heap.size)
    (hr : ∀ (k : Nat) (x : α) (cs : List Value), xs[k]? = some x → css[k]? = some cs → E.rep F w x cs) :
    Own E e F base (w.alloc (.cells css.flatten.toArray e)) (.slice (some ⟨w.heap.size, 0, none⟩) xs.length xs.length) xs := by
  have hall : ∀ cs ∈ css, cs.length = E.sz := by
    intro c hc
    obtain ⟨i, hi, rfl⟩ := List.getElem_of_mem hc
    exact E.len (hr i (xs[i]'(by omega)) _ (by simp) (by simp))
  have hlen : css.flatten.length = xs.length * E.sz := by
    rw [List.length_flatten, show css.map List.length = List.replicate css.length E.sz from ?_, List.sum_replicate_nat, hl]
    exact List.eq_replicate_iff.2 ⟨by simp, fun b hb => by obtain ⟨c, hc, rfl⟩ := List.mem_map.1 hb; exact hall c hc⟩
  refine ⟨fun k hk => ?_, css, hl, ⟨hlen, .inr ⟨w.heap.size, xs.length, _, rfl, hb, heap_alloc_new w _, Nat.le_refl _, by simpa [maxLen] using hm, by simpa using hlen, ?_⟩⟩, fun k x cs hx hc => ?_⟩
  · simp [Value.ownBlock] at hk; subst hk; exact hF
  · show css.flatten.take (xs.length * E.sz) = css.flatten
    rw [← hlen]; exact List.take_length
  · have := E.bound (hr k x cs hx hc)
    refine E.mono (fun b hb => ⟨hb.1, fun h => ?_⟩) (E.move (w' := w.alloc _) (fun b hb => Below.heap_alloc _ _ _ hb.2) this)
    simp [Value.ownBlock] at h; omega
end

/-! ### 4. append -/
theorem flatten_of {n : Nat} (hn : 0 < n) {css : List (List Value)} (h : ∀ cs ∈ css, cs.length = n) (i : Nat) (u : Value) (hu : css.flatten[i]? = some u) :
    ∃ cs, css[i / n]? = some cs ∧ cs[i % n]? = some u := by
  induction css generalizing i with
  | nil => simp at hu
  | cons c css ih =>
    have hc : c.length = n := h c (by simp)
    simp only [List.flatten_cons] at hu
    by_cases hi : i < n
    · rw [List.getElem?_append_left (by omega)] at hu
      exact ⟨c, by rw [Nat.div_eq_of_lt hi]; rfl, by rw [Nat.mod_eq_of_lt hi]; exact hu⟩
    · rw [List.getElem?_append_right (by omega)] at hu
      obtain ⟨cs, h1, h2⟩ := ih (fun cs hcs => h cs (by simp [hcs])) _ hu
      have e : i = (i - c.length) + n := by omega
      refine ⟨cs, ?_, ?_⟩
      · rw [e, Nat.add_div_right _ hn]; exact h1
      · rw [e, Nat.add_mod_right]; exact h2

theorem choose_list {α β : Type} (R : α → β → Prop) : ∀ xs : List α, (∀ (k : Nat) (x : α), xs[k]? = some x → ∃ y, R x y) → ∃ ys : List β, ys.length = xs.length ∧ ∀ (k : Nat) x y, xs[k]? = some x → ys[k]? = some y → R x y
  | [], _ => ⟨[], rfl, fun k x y h => by simp at h⟩
  | x :: xs, h => by
    obtain ⟨y, hy⟩ := h 0 x rfl
    obtain ⟨ys, hl, hr⟩ := choose_list R xs (fun k z hz => h (k + 1) z (by simpa using hz))
    refine ⟨y :: ys, by simp [hl], fun k a b ha hb => ?_⟩
    cases k with
    | zero => simp at ha hb; subst ha; subst hb; exact hy
    | succ k => exact hr k a b (by simpa using ha) (by simpa using hb)

theorem choose_at {α β : Type} (R : Nat → α → β → Prop) : ∀ xs : List α, (∀ (k : Nat) (x : α), xs[k]? = some x → ∃ y, R k x y) → ∃ ys : List β, ys.length = xs.length ∧ ∀ (k : Nat) x y, xs[k]? = some x → ys[k]? = some y → R k x y := by
  intro xs
  induction xs generalizing R with
  | nil => exact fun _ => ⟨[], rfl, fun k x y h => by simp at h⟩
  | cons x xs ih =>
    intro h
    obtain ⟨y, hy⟩ := h 0 x rfl
    obtain ⟨ys, hl, hr⟩ := ih (fun k => R (k + 1)) (fun k z hz => h (k + 1) z (by simpa using hz))
    refine ⟨y :: ys, by simp [hl], fun k a b ha hb => ?_⟩
    cases k with
    | zero => simp at ha hb; subst ha; subst hb; exact hy
    | succ k => exact hr k a b (by simpa using ha) (by simpa using hb)

section
variable {α : Type} {E : Enc α} {F F' : Nat → Prop} {base : Nat} {w w' : World} {v : Value} {xs : List α}

/-- All cells of a slice that is read, in a row. -/
theorem Rd.cells {A : Option Addr} {n c : Nat} (h : Rd E F w (.slice A n c) xs) (hn : 0 < n) (hs : 0 < E.sz) :
    ∃ (ad : Addr) (css : List (List Value)), A = some ad ∧ css.length = n ∧ (∀ cs ∈ css, cs.length = E.sz) ∧ (∀ (k : Nat) x cs, xs[k]? = some x → css[k]? = some cs → E.rep F w x cs) ∧
      ∀ j u, css.flatten[j]? = some u → w.cell? (ad.add j) = some u := by
  obtain ⟨A', c', hv, hm, hc, h⟩ := h
  injection hv with h1 h2 h3
  subst h1; subst h2
  obtain ⟨b, off, cells, e, fr, ha, hb, hh, hq⟩ := h hn
  obtain ⟨css, hl, hr⟩ := choose_at (fun k x cs => E.rep F w x cs ∧ ∀ j u, cs[j]? = some u → cells[off + k * E.sz + j]? = some u) xs hq
  have hall : ∀ cs ∈ css, cs.length = E.sz := by
    intro c hc
    obtain ⟨i, hi, rfl⟩ := List.getElem_of_mem hc
    exact E.len (hr i (xs[i]'(by omega)) _ (by simp) (by simp)).1
  refine ⟨_, css, ha, hl, hall, fun k x cs hx hcs => (hr k x cs hx hcs).1, fun j u hu => ?_⟩
  obtain ⟨cs, h1, h2⟩ := flatten_of hs hall j u hu
  have hk : j / E.sz < xs.length := by have := (List.getElem?_eq_some_iff.1 h1).1; omega
  have h3 := (hr (j / E.sz) (xs[j / E.sz]) cs (by simp) h1).2 _ _ h2
  rw [Addr.add_lit]
  simp only [World.cell?, hh]
  have e : off + j / E.sz * E.sz + j % E.sz = off + j := by
    have := Nat.div_add_mod j E.sz
    rw [Nat.mul_comm] at this; omega
  rw [e] at h3
  simpa using h3

theorem sum_len {n : Nat} {css : List (List Value)} (h : ∀ cs ∈ css, cs.length = n) : css.flatten.length = css.length * n := by
  rw [List.length_flatten, show css.map List.length = List.replicate css.length n from ?_, List.sum_replicate_nat]
  exact List.eq_replicate_iff.2 ⟨by simp, fun b hb => by obtain ⟨c, hc, rfl⟩ := List.mem_map.1 hb; exact h c hc⟩

theorem Own.added {e : Nat} {v1 : Value} {w1 : World} {ys : List α} {css : List (List Value)} (HO : ∃ cs0 : List (List Value), cs0.length = xs.length ∧ w1.ownsRow base e E.sz v1 (xs.length + ys.length) (cs0.flatten ++ css.flatten) ∧
      ∀ (k : Nat) (x : α) (cs : List Value), xs[k]? = some x → cs0[k]? = some cs → E.rep (fun b => F b ∧ some b ≠ v1.ownBlock) w1 x cs)
    (hcl : css.length = ys.length) (hr : ∀ (k : Nat) x cs, ys[k]? = some x → css[k]? = some cs → E.rep (fun b => F b ∧ some b ≠ v1.ownBlock) w1 x cs) (hv : ∀ k, v1.ownBlock = some k → F k) :
    Own E e F base w1 v1 (xs ++ ys) := by
  obtain ⟨cs0, hl0, ho, hr0⟩ := HO
  refine ⟨hv, cs0 ++ css, by simp [hl0, hcl], by simpa using ho, fun k x cs hx hc => ?_⟩
  by_cases hk : k < xs.length
  · rw [List.getElem?_append_left hk] at hx
    rw [List.getElem?_append_left (by omega)] at hc
    exact hr0 k x cs hx hc
  · rw [List.getElem?_append_right (by omega)] at hx
    rw [List.getElem?_append_right (by omega), hl0] at hc
    exact hr _ x cs hx hc
end

section
variable {P : Program} {ops : Array Oper} {rest : List Oper} {o : Oper} {a : Act} {Q : Exit → Act → World → Prop} {α : Type} {F F' : Nat → Prop}

/-- append(v, ys...), as a step. -/
theorem step_appendRow (E : Enc α) (F' : Nat → Prop) {W : World} (base : Nat) (K : Act → World → Prop) (s x : Operand) (t e : TypeId) (z : Value) (bytes : Nat)
    (ho : o.op = .call { callee := .builtin .append, args := #[s, x], argTypes := #[t, t] })
    (ht : P.underlying t = some (.slice e)) (hinfo : (P.info? e).map (fun i => (i.zero, i.size, i.bytes)) = some (some z, E.sz, bytes)) (hz : z.cells.size = E.sz) (hsz : 0 < E.sz)
    (v vy : Value) (xs ys : List α) (hs : a.eval s = v) (hx : a.eval x = vy)
    (HO : Own E e F base W v xs) (HR : Rd E F' W vy ys) (hel : ∀ y cs, E.rep F' W y cs → E.rep (fun b => F b ∧ some b ≠ v.ownBlock) W y cs) (hnew : ∀ b, W.heap.size ≤ b → F b) (hbase : base ≤ W.heap.size)
    (hl : (xs.length + ys.length) * bytes ≤ 140737488355328) (hb0 : 0 < bytes)
    (h : ∀ A1 n1 c1 w1, Own E e F base w1 (.slice A1 n1 c1) (xs ++ ys) → Upd (fun b => some b = v.ownBlock) W w1 → (Value.ownBlock (.slice A1 n1 c1) = v.ownBlock ∨ ∃ b, Value.ownBlock (.slice A1 n1 c1) = some b ∧ W.heap.size ≤ b) → (Value.slice A1 n1 c1 = .slice none 0 0 ↔ v = .slice none 0 0 ∧ ys = []) → K (a.put o.dst (.slice A1 n1 c1)) w1) :
    o.wp P a W K Q := by
  obtain ⟨i0, hi, hzz⟩ := Option.map_eq_some_iff.1 hinfo
  simp only [Prod.mk.injEq] at hzz
  obtain ⟨hz0, hz1, hz2⟩ := hzz
  obtain ⟨A, c, rfl⟩ := HR.form
  have hlen : xs.length + ys.length ≤ 140737488355328 := Nat.le_trans (Nat.le_mul_of_pos_right _ hb0) hl
  have hrun : ∃ v1 w1, (Builtin.append_ #[t, t] o.type #[v, .slice A ys.length c]).run P W = .ok v1 w1 ∧ Own E e F base w1 v1 (xs ++ ys) ∧ W.grownBy w1 v.ownBlock ∧ (v1.ownBlock = v.ownBlock ∨ v1.ownBlock = some W.heap.size) ∧ (v1 = .slice none 0 0 ↔ v = .slice none 0 0 ∧ ys = []) := by
    by_cases hy : 0 < ys.length
    · obtain ⟨ad, css, rfl, hcl, hall, hrep, hcell⟩ := HR.cells hy hsz
      obtain ⟨h0, cs0, hl0, hown, hr0⟩ := HO.bound
      have hfl := sum_len hall
      have hone : ∀ u ∈ css.flatten, u.oneCell' = true := by
        intro u hu
        obtain ⟨cs, hcs, hu⟩ := List.mem_flatten.1 hu
        obtain ⟨i, hi, rfl⟩ := List.getElem_of_mem hcs
        exact E.one (hrep i (ys[i]'(by omega)) _ (by simp) (by simp)) u hu
      obtain ⟨v1, w1, hr, h2, h3, h4, h5⟩ := run_append_own_at (P := P) W base t o.type e i0 z E.sz bytes ht hi hz0 hz1 hz2 hz hsz v xs.length cs0.flatten hown ad ys.length c css.flatten (by rw [hfl, hcl]) hcell hone (by simp only [maxLen]; omega) hl hbase
      have hblk : ∀ b, F b → b < W.heap.size → some b ≠ v.ownBlock → w1.heap[b]? = W.heap[b]? := fun b _ hb hn => h3.block b hb hn
      have hne : ∀ b, b < W.heap.size → some b ≠ v.ownBlock → some b ≠ v1.ownBlock := by
        intro b hb hn
        rcases h5 with h5 | h5
        · rwa [h5]
        · rw [h5]; intro e; injection e with e; omega
      refine ⟨v1, w1, hr, Own.added ⟨cs0, hl0, h2, fun k x cs hx hc => ?_⟩ hcl (fun k x cs hx hc => ?_) (fun k hk => ?_), h3, h5, ?_⟩
      · have := hr0 k x cs hx hc
        exact E.mono (fun b hb => ⟨hb.1.1, hne b hb.1.2 hb.2⟩) (E.move (w' := w1) (fun b hb => hblk b hb.1.1 hb.1.2 hb.2) this)
      · have := E.bound (hel x cs (hrep k x cs hx hc))
        exact E.mono (fun b hb => ⟨hb.1.1, hne b hb.2 hb.1.2⟩) (E.move (w' := w1) (fun b hb => hblk b hb.1.1 hb.2 hb.1.2) this)
      · rcases h5 with h5 | h5
        · exact HO.1 k (h5 ▸ hk)
        · rw [h5] at hk; injection hk with hk; exact hnew k (by omega)
      · rw [h4]; constructor
        · rintro ⟨_, hy0⟩; omega
        · rintro ⟨_, hy0⟩; subst hy0; simp at hy
    · obtain rfl : ys = [] := List.eq_nil_of_length_eq_zero (by omega)
      obtain ⟨h0, cs0, hl0, hown, hr0⟩ := HO
      rcases A with _ | ad
      · refine ⟨v, W, ?_, by simpa using (show Own E e F base W v xs from ⟨h0, cs0, hl0, hown, hr0⟩), World.grownBy.refl W _, .inl rfl, by simp⟩
        rcases hown.2 with ⟨rfl, hn⟩ | ⟨g, cap, cur, rfl, _, _, hnc, _⟩
        · simp [Builtin.append_, run_underlying ht, sizeOf, typeInfo, hi, Builtin.lenOf, Builtin.firstCells]
        · simp [Builtin.append_, run_underlying ht, sizeOf, typeInfo, hi, Builtin.lenOf, Builtin.firstCells, hnc, storeCells]
      · obtain ⟨v1, w1, hr, h2, h3, h4, h5⟩ := run_append_own_at (P := P) W base t o.type e i0 z E.sz bytes ht hi hz0 hz1 hz2 hz hsz v xs.length cs0.flatten hown ad 0 c [] (by simp) (by simp) (by simp) (by simp only [maxLen]; omega) (by simpa using hl) hbase
        have HB := (show Own E e F base W v xs from ⟨h0, cs0, hl0, hown, hr0⟩).bound
        obtain ⟨h0', cs1, hl1, hown1, hr1⟩ := HB
        have hne : ∀ b, b < W.heap.size → some b ≠ v.ownBlock → some b ≠ v1.ownBlock := by
          intro b hb hn
          rcases h5 with h5 | h5
          · rwa [h5]
          · rw [h5]; intro e; injection e with e; omega
        refine ⟨v1, w1, by simpa using hr, ?_, h3, h5, by simpa using h4⟩
        refine ⟨fun k hk => ?_, cs0, by simpa using hl0, by simpa using h2, fun k x cs hx hc => ?_⟩
        · rcases h5 with h5 | h5
          · exact h0 k (h5 ▸ hk)
          · rw [h5] at hk; injection hk with hk; exact hnew k (by omega)
        · have := E.bound (hr0 k x cs (by simpa using hx) hc)
          exact E.mono (fun b hb => ⟨hb.1.1, hne b hb.2 hb.1.2⟩) (E.move (w' := w1) (fun b hb => h3.block b hb.2 hb.1.2) this)
  obtain ⟨v1, w1, hr, hown, hg, hat, hnil⟩ := hrun
  unfold Oper.wp execOp
  simp only [ho, resolve, invoke, builtin, Sem.run_bind, Sem.run_pure, Result.andThen_ok, List.map_toArray, List.map_cons, List.map_nil, hs, hx, hr]
  obtain ⟨A1, c1, rfl⟩ := hown.rd.form
  refine h _ _ _ w1 hown (Upd.ofGrown hg) ?_ hnil
  rcases hat with hat | hat
  · exact .inl hat
  · exact .inr ⟨_, hat, Nat.le_refl _⟩

/-- append(v, ys...). -/
theorem wp_appendRow (E : Enc α) (F' : Nat → Prop) {W : World} (base : Nat) (hgd : o.guard = none) (s x : Operand) (t e : TypeId) (z : Value) (bytes : Nat)
    (ho : o.op = .call { callee := .builtin .append, args := #[s, x], argTypes := #[t, t] })
    (ht : P.underlying t = some (.slice e)) (hinfo : (P.info? e).map (fun i => (i.zero, i.size, i.bytes)) = some (some z, E.sz, bytes)) (hz : z.cells.size = E.sz) (hsz : 0 < E.sz)
    (v vy : Value) (xs ys : List α) (hs : a.eval s = v) (hx : a.eval x = vy)
    (HO : Own E e F base W v xs) (HR : Rd E F' W vy ys) (hel : ∀ y cs, E.rep F' W y cs → E.rep (fun b => F b ∧ some b ≠ v.ownBlock) W y cs) (hnew : ∀ b, W.heap.size ≤ b → F b) (hbase : base ≤ W.heap.size)
    (hl : (xs.length + ys.length) * bytes ≤ 140737488355328) (hb0 : 0 < bytes)
    (h : ∀ A1 n1 c1 w1, Own E e F base w1 (.slice A1 n1 c1) (xs ++ ys) → Upd (fun b => some b = v.ownBlock) W w1 → (Value.ownBlock (.slice A1 n1 c1) = v.ownBlock ∨ ∃ b, Value.ownBlock (.slice A1 n1 c1) = some b ∧ W.heap.size ≤ b) → (Value.slice A1 n1 c1 = .slice none 0 0 ↔ v = .slice none 0 0 ∧ ys = []) → wpList P ops Q rest (a.put o.dst (.slice A1 n1 c1)) w1) :
    wpList P ops Q (o :: rest) a W :=
  wpList_plain hgd fun K hK => step_appendRow E F' base K s x t e z bytes ho ht hinfo hz hsz v vy xs ys hs hx HO HR hel hnew hbase hl hb0 fun A1 n1 c1 w1 h1 h2 h3 h4 => hK _ _ (h A1 n1 c1 w1 h1 h2 h3 h4)

/-- append(v, y, ..), as a step. -/
theorem step_appendLit (E : Enc α) {W : World} (base : Nat) (K : Act → World → Prop) (s x : Operand) (t e : TypeId) (z : Value) (bytes : Nat)
    (ho : o.op = .call { callee := .builtin .append, args := #[s, x], argTypes := #[t, t] })
    (ht : P.underlying t = some (.slice e)) (hinfo : (P.info? e).map (fun i => (i.zero, i.size, i.bytes)) = some (some z, E.sz, bytes)) (hz : z.cells.size = E.sz) (hsz : 0 < E.sz)
    (v : Value) (xs ys : List α) (css : List (List Value)) (arr : Array Value) (m : Nat) (hs : a.eval s = v) (hx : a.eval x = .slice (some ⟨W.heap.size, 0, none⟩) m m)
    (harr : arr = css.flatten.toArray) (hm : m = ys.length) (hcl : css.length = ys.length)
    (HO : Own E e F base W v xs) (HR : ∀ (k : Nat) y cs, ys[k]? = some y → css[k]? = some cs → E.rep (fun b => F b ∧ some b ≠ v.ownBlock) W y cs) (hnew : ∀ b, W.heap.size ≤ b → F b) (hbase : base ≤ W.heap.size)
    (hl : (xs.length + ys.length) * bytes ≤ 140737488355328) (hb0 : 0 < bytes)
    (h : ∀ A1 n1 c1 w1, Own E e F base w1 (.slice A1 n1 c1) (xs ++ ys) → Upd (fun b => some b = v.ownBlock) W w1 → (Value.ownBlock (.slice A1 n1 c1) = v.ownBlock ∨ ∃ b, Value.ownBlock (.slice A1 n1 c1) = some b ∧ W.heap.size ≤ b) → K (a.put o.dst (.slice A1 n1 c1)) w1) :
    o.wp P a (W.alloc (.cells arr e)) K Q := by
  subst harr; subst hm
  have hlen : xs.length + ys.length ≤ 140737488355328 := Nat.le_trans (Nat.le_mul_of_pos_right _ hb0) hl
  have hlit := Own.lit (E := E) (e := e) (F := fun b => (F b ∧ some b ≠ v.ownBlock)) (base := base) W ys css hcl (by omega) hbase
    ⟨hnew _ (Nat.le_refl _), fun he => by have := (HO.lt _ he.symm).2; omega⟩ HR
  refine step_appendRow E (fun b => F b ∧ some b ≠ v.ownBlock) base K s x t e z bytes ho ht hinfo hz hsz v _ xs ys hs hx (HO.alloc _) hlit.rd (fun _ _ h => h) (fun b hb => hnew b (by simp at hb; omega)) (by simp; omega) hl hb0 ?_
  intro A1 n1 c1 w1 h1 h2 h3 _
  refine h A1 n1 c1 w1 h1 (Upd.trans ((Upd.refl No W).alloc _) h2 (fun _ _ e => e.elim) (fun _ _ e => e)) ?_
  rcases h3 with h3 | ⟨b, h3, h4⟩
  · exact .inl h3
  · exact .inr ⟨b, h3, by simp at h4; omega⟩

/-- append(v, y, ..): behind the box of the new elements. -/
theorem wp_appendLit (E : Enc α) {W : World} (base : Nat) (hgd : o.guard = none) (s x : Operand) (t e : TypeId) (z : Value) (bytes : Nat)
    (ho : o.op = .call { callee := .builtin .append, args := #[s, x], argTypes := #[t, t] })
    (ht : P.underlying t = some (.slice e)) (hinfo : (P.info? e).map (fun i => (i.zero, i.size, i.bytes)) = some (some z, E.sz, bytes)) (hz : z.cells.size = E.sz) (hsz : 0 < E.sz)
    (v : Value) (xs ys : List α) (css : List (List Value)) (arr : Array Value) (m : Nat) (hs : a.eval s = v) (hx : a.eval x = .slice (some ⟨W.heap.size, 0, none⟩) m m)
    (harr : arr = css.flatten.toArray) (hm : m = ys.length) (hcl : css.length = ys.length)
    (HO : Own E e F base W v xs) (HR : ∀ (k : Nat) y cs, ys[k]? = some y → css[k]? = some cs → E.rep (fun b => F b ∧ some b ≠ v.ownBlock) W y cs) (hnew : ∀ b, W.heap.size ≤ b → F b) (hbase : base ≤ W.heap.size)
    (hl : (xs.length + ys.length) * bytes ≤ 140737488355328) (hb0 : 0 < bytes)
    (h : ∀ A1 n1 c1 w1, Own E e F base w1 (.slice A1 n1 c1) (xs ++ ys) → Upd (fun b => some b = v.ownBlock) W w1 → (Value.ownBlock (.slice A1 n1 c1) = v.ownBlock ∨ ∃ b, Value.ownBlock (.slice A1 n1 c1) = some b ∧ W.heap.size ≤ b) → wpList P ops Q rest (a.put o.dst (.slice A1 n1 c1)) w1) :
    wpList P ops Q (o :: rest) a (W.alloc (.cells arr e)) :=
  wpList_plain hgd fun K hK => step_appendLit E base K s x t e z bytes ho ht hinfo hz hsz v xs ys css arr m hs hx harr hm hcl HO HR hnew hbase hl hb0 fun A1 n1 c1 w1 h1 h2 h3 => hK _ _ (h A1 n1 c1 w1 h1 h2 h3)

end

theorem results_tmp4 {fn : Func} {t u v x : Tmp} (h : fn.results = #[.tmp t, .tmp u, .tmp v, .tmp x]) (tmps : Array Value) (P : Program) (w : World) :
    (results fn tmps).run P w = .ok (.tuple #[tmps.getD t undef, tmps.getD u undef, tmps.getD v undef, tmps.getD x undef]) w := by
  simp [results, h]
/-- A fact that the walk does not look into. -/
structure Hd (p : Prop) : Prop where mk :: (out : p)

theorem bret {a b : Bool} (h : a = true ↔ b = true) : Ending.returned (.bool a) = Ending.returned (.bool b) := by rw [Bool.eq_iff_iff.2 h]
theorem iret {k : IntKind} {a b : Int} (h : a = b) : Ending.returned (.int k a) = Ending.returned (.int k b) := by rw [h]

/-! ### 5. goto -/
/-- As Q; behind a goto (n at most) the run goes on at its label. -/
def jumps (P : Program) (c : Code) (Q : Exit → Act → World → Prop) : Nat → Exit → Act → World → Prop
  | 0, .goto _, _, _ => False
  | n + 1, .goto l, a, w => ∃ rest, findLabel c l = some rest ∧ rest.wp P (jumps P c Q n) a w
  | _, e, a, w => Q e a w
theorem wp_scope_n {P : Program} {a : Act} {w : World} {Q : Exit → Act → World → Prop} {c : Code} (n : Nat) (h : c.wp P (jumps P c Q n) a w) : (Code.scope c).wp P Q a w := by
  intro b k cs
  have key : ∀ n c' a w, Code.wp P c' (jumps P c Q n) a w → ∃ e a' w', Q e a' w' ∧ Arrives P (lone (b.at a (.code c' :: .inScope c :: k)) cs w) b k cs e a' w' := by
    intro n
    induction n with
    | zero =>
      intro c' a w h
      obtain ⟨e, a₁, w₁, hq, harr⟩ := h b (.inScope c :: k) cs
      cases e with
      | normal => exact ⟨.normal, a₁, w₁, hq, Steps.trans harr (.one step_inScope)⟩
      | exit id => exact ⟨.exit id, a₁, w₁, hq, fun k' hk => harr k' (by simp [exitTo, hk])⟩
      | goto l' => exact hq.elim
      | ret => exact ⟨_, a₁, w₁, hq, harr⟩
      | panic ch => exact ⟨_, a₁, w₁, hq, harr⟩
      | outgrown => exact ⟨_, a₁, w₁, hq, harr⟩
    | succ n ih =>
      intro c' a w h
      obtain ⟨e, a₁, w₁, hq, harr⟩ := h b (.inScope c :: k) cs
      cases e with
      | normal => exact ⟨.normal, a₁, w₁, hq, Steps.trans harr (.one step_inScope)⟩
      | exit id => exact ⟨.exit id, a₁, w₁, hq, fun k' hk => harr k' (by simp [exitTo, hk])⟩
      | goto l' =>
        obtain ⟨rest, hf, hr⟩ := hq
        obtain ⟨e₂, a₂, w₂, hq₂, harr₂⟩ := ih rest a₁ w₁ hr
        exact ⟨e₂, a₂, w₂, hq₂, .of_steps (harr _ (by simp [gotoIn, hf])) harr₂⟩
      | ret => exact ⟨_, a₁, w₁, hq, harr⟩
      | panic ch => exact ⟨_, a₁, w₁, hq, harr⟩
      | outgrown => exact ⟨_, a₁, w₁, hq, harr⟩
  obtain ⟨e, a₁, w₁, hq, harr⟩ := key n c a w h
  cases e with
  | normal => exact ⟨.normal, a₁, w₁, hq, .head step_scope harr⟩
  | exit id => exact ⟨.exit id, a₁, w₁, hq, fun k' hk => .head step_scope (harr k' hk)⟩
  | goto l' => exact ⟨.goto l', a₁, w₁, hq, fun k' hk => .head step_scope (harr k' hk)⟩
  | ret => exact ⟨_, a₁, w₁, hq, .of_steps (.one step_scope) harr⟩
  | panic ch => exact ⟨_, a₁, w₁, hq, .of_steps (.one step_scope) harr⟩
  | outgrown => exact ⟨_, a₁, w₁, hq, .of_steps (.one step_scope) harr⟩
section
variable {P : Program} {c : Code} {Q : Exit → Act → World → Prop} {a : Act} {w : World} (n : Nat)
theorem jumps_ret : jumps P c Q n .ret a w = Q .ret a w := by cases n <;> rfl
theorem jumps_ret_i (h : Q .ret a w) : jumps P c Q n .ret a w := by rw [jumps_ret]; exact h
theorem jumps_normal : jumps P c Q n .normal a w = Q .normal a w := by cases n <;> rfl
theorem jumps_goto (l : Nat) (rest : Code) (hf : findLabel c l = some rest) (h : rest.wp P (jumps P c Q n) a w) : jumps P c Q (n + 1) (.goto l) a w := ⟨rest, hf, h⟩
end

theorem iret3 {k1 k2 k3 : IntKind} {a b c a' b' c' : Int} (h : a = a' ∧ b = b' ∧ c = c') :
    Ending.returned (.tuple #[.int k1 a, .int k2 b, .int k3 c]) = Ending.returned (.tuple #[.int k1 a', .int k2 b', .int k3 c']) := by obtain ⟨rfl, rfl, rfl⟩ := h; rfl
theorem iret2 {k1 k2 : IntKind} {a b a' b' : Int} (h : a = a' ∧ b = b') :
    Ending.returned (.tuple #[.int k1 a, .int k2 b]) = Ending.returned (.tuple #[.int k1 a', .int k2 b']) := by obtain ⟨rfl, rfl⟩ := h; rfl
theorem ibret {k1 : IntKind} {a a' : Int} {b b' : Bool} (h : a = a' ∧ (b = true ↔ b' = true)) :
    Ending.returned (.tuple #[.int k1 a, .bool b]) = Ending.returned (.tuple #[.int k1 a', .bool b']) := by obtain ⟨rfl, h⟩ := h; rw [Bool.eq_iff_iff.2 h]

theorem iret3p {k1 k2 k3 : IntKind} {a b c : Int} {p : Int × Int × Int} (h : (a, b, c) = p) :
    Ending.returned (.tuple #[.int k1 a, .int k2 b, .int k3 c]) = Ending.returned (.tuple #[.int k1 p.1, .int k2 p.2.1, .int k3 p.2.2]) := by subst h; rfl
@[simp] theorem flat_sz {α : Type} (n : Nat) (f : α → List Value) (hl) (h1) : (Enc.flat n f hl h1).sz = n := rfl
@[simp] theorem row_sz {α : Type} (E : Enc α) : E.row.sz = 1 := rfl
@[simp] theorem pair_sz {α β : Type} (E : Enc α) (G : Enc β) : (E.pair G).sz = E.sz + G.sz := rfl
@[simp] theorem via_sz {α β : Type} (E : Enc α) (f : β → α) : (E.via f).sz = E.sz := rfl
theorem flat_rep {α : Type} (n : Nat) (f : α → List Value) (hl) (h1) {F : Nat → Prop} {w : World} {x : α} {cs : List Value} : (Enc.flat n f hl h1).rep F w x cs ↔ cs = f x := Iff.rfl

/-! ### 6. Cuts -/
section
variable {α : Type} {E : Enc α} {F : Nat → Prop} {w : World} {xs : List α} {P : Program} {t e : TypeId} {A : Option Addr} {n c : Nat}
theorem Rd.sliced (HR : Rd E F w (.slice A n c) xs) (l h : Nat) (hl : l ≤ h) (hh : h ≤ n) : Rd E F w (.slice (if c = l then A else A.map (·.add (l * E.sz))) (h - l) (c - l)) ((xs.take h).drop l) := by
  have hlen := HR.lenEq
  have hcap := HR.cap
  obtain ⟨A', c', hv, hm, hc, hq⟩ := HR
  injection hv with h1 h2 h3
  subst h1; subst h2; subst h3
  have hl2 : ((xs.take h).drop l).length = h - l := by simp; omega
  refine ⟨_, _, by rw [hl2], by omega, by omega, fun hp => ?_⟩
  obtain ⟨b, off, cells, e, fr, ha, hb, hh', hk⟩ := hq (by omega)
  refine ⟨b, off + l * E.sz, cells, e, fr, ?_, hb, hh', fun k x hx => ?_⟩
  · rw [if_neg (by omega), ha]; simp [Addr.add_lit]
  · have hx' : xs[l + k]? = some x := by
      rw [List.getElem?_drop, List.getElem?_take] at hx
      split at hx
      · exact hx
      · simp at hx
    obtain ⟨cs, h1, h2⟩ := hk (l + k) x hx'
    refine ⟨cs, h1, fun j u hu => ?_⟩
    rw [← h2 j u hu]
    congr 1
    rw [Nat.add_mul]; omega
theorem sizeOf_run {s : Nat} (hs : (P.info? e).map (·.size) = some s) (W : World) : (sizeOf e).run P W = .ok s W := by
  obtain ⟨i, hi, rfl⟩ := Option.map_eq_some_iff.1 hs
  simp [sizeOf, typeInfo, hi]
theorem elem_of (ht : P.underlying t = some (.slice e)) : P.underlying t = some (.slice (P.elem t)) := by
  simp [Program.elem, ht]
theorem elem_eq (ht : P.underlying t = some (.slice e)) : P.elem t = e := by simp [Program.elem, ht]
theorem Rd.cutL (ht : P.underlying t = some (.slice e)) (hs : (P.info? e).map (·.size) = some E.sz) (HR : Rd E F w (.slice A n c) xs) (l : Nat) (hl : l ≤ n) :
    ∃ A2 c2, (∀ W, (Instr.slice t (.slice A n c) (some (.int .i64 l)) none none).run P W = .ok (.slice A2 (n - l) c2) W) ∧ Rd E F w (.slice A2 (n - l) c2) (xs.drop l) := by
  refine ⟨if c = l then A else A.map (·.add (l * E.sz)), c - l, fun W => ?_, ?_⟩
  rotate_left
  · have := HR.sliced l n hl (Nat.le_refl _)
    rwa [List.take_of_length_le (by rw [HR.lenEq]; exact Nat.le_refl _)] at this
  · rw [run_slice_l (w := W) t A n c (elem_of ht) .i64 l (by omega) (by omega), elem_eq ht, sizeOf_run hs]
    simp [Go.sliced, Result.andThen]
theorem Rd.cutH (ht : P.underlying t = some (.slice e)) (hs : (P.info? e).map (·.size) = some E.sz) (HR : Rd E F w (.slice A n c) xs) (h : Nat) (hh : h ≤ n) :
    ∃ c2, (∀ W, (Instr.slice t (.slice A n c) none (some (.int .i64 h)) none).run P W = .ok (.slice A h c2) W) ∧ Rd E F w (.slice A h c2) (xs.take h) := by
  have hcap := HR.cap
  refine ⟨c, fun W => ?_, ?_⟩
  · rw [run_slice_h (w := W) t A n c (elem_of ht) .i64 h (by omega) (by omega), elem_eq ht, sizeOf_run hs]
    cases A <;> simp [Go.sliced, Result.andThen, Addr.add]
  · have := HR.sliced 0 h (by omega) hh
    simp at this
    cases A with
    | none => simpa using this
    | some a => 
      have e : a.add 0 = a := by unfold Addr.add; split <;> simp_all
      simpa [e] using this
end

/-! ### 7. Behind a law: what the walk wants of the new world -/
theorem Upd.both {S : Nat → Prop} {w w' : World} (h : Upd S w w') {B : Nat} (hB : B ≤ w.heap.size) (hS : ∀ b, b < B → ¬ S b) :
    (∀ b o, b < B → w'.cell? ⟨b, o, none⟩ = w.cell? ⟨b, o, none⟩) ∧ (∀ b o, b < B → w'.frozen? ⟨b, o, none⟩ = w.frozen? ⟨b, o, none⟩) :=
  ⟨fun b o hb => World.cell?_of_block (a := ⟨b, o, none⟩) (h.block b (by omega) (hS b hb)), fun b o hb => World.frozen?_of_block (a := ⟨b, o, none⟩) (h.block b (by omega) (hS b hb))⟩
/-- The same, a list of written blocks being let out. -/
theorem Upd.bothN {S : Nat → Prop} {w w' : World} (h : Upd S w w') :
    (∀ b o, b < w.heap.size → ¬ S b → w'.cell? ⟨b, o, none⟩ = w.cell? ⟨b, o, none⟩) ∧ (∀ b o, b < w.heap.size → ¬ S b → w'.frozen? ⟨b, o, none⟩ = w.frozen? ⟨b, o, none⟩) :=
  ⟨fun b o hb hn => World.cell?_of_block (a := ⟨b, o, none⟩) (h.block b hb hn), fun b o hb hn => World.frozen?_of_block (a := ⟨b, o, none⟩) (h.block b hb hn)⟩
theorem Rd.one {F : Nat → Prop} (k : IntKind) (s : Int) (w : World) (e : Nat) (hF : F w.heap.size) : Rd (eI k) F (w.alloc (.cells #[.int k s] e)) (.slice (some ⟨w.heap.size, 0, none⟩) 1 1) [s] :=
  (Own.lit (E := eI k) (e := e) (F := F) (base := 0) w [s] [[.int k s]] rfl (by simp) (Nat.zero_le _) hF (fun j x cs hx hc => by
    cases j with
    | zero => simp at hx hc; subst hx; subst hc; rfl
    | succ j => simp at hx)).rd
theorem Rd.two {F : Nat → Prop} (k : IntKind) (s t : Int) (w : World) (e : Nat) (hF : F w.heap.size) : Rd (eI k) F (w.alloc (.cells #[.int k s, .int k t] e)) (.slice (some ⟨w.heap.size, 0, none⟩) 2 2) [s, t] :=
  (Own.lit (E := eI k) (e := e) (F := F) (base := 0) w [s, t] [[.int k s], [.int k t]] rfl (by simp) (Nat.zero_le _) hF (fun j x cs hx hc => by
    match j with
    | 0 => simp at hx hc; subst hx; subst hc; rfl
    | 1 => simp at hx hc; subst hx; subst hc; rfl
    | j + 2 => simp at hx)).rd

abbrev Any : Nat → Prop := fun _ => True
/-- Elements whose cells tell all lead nowhere: only the row's own block counts. -/
theorem Own.foot {α : Type} {n : Nat} {f : α → List Value} {hl h1} {e : Nat} {F F' : Nat → Prop} {base base' : Nat} {w : World} {v : Value} {xs : List α} (h : Own (Enc.flat n f hl h1) e F base w v xs)
    (hF : ∀ k, v.ownBlock = some k → F' k ∧ base' ≤ k) : Own (Enc.flat n f hl h1) e F' base' w v xs := by
  obtain ⟨h0, css, hl, ho, hr⟩ := h
  refine ⟨fun k hk => (hF k hk).1, css, hl, ⟨ho.1, ?_⟩, hr⟩
  rcases ho.2 with hn | ⟨g, cap, cur, hv, hg, rest⟩
  · exact .inl hn
  · exact .inr ⟨g, cap, cur, hv, (hF g (by simp [hv, Value.ownBlock])).2, rest⟩
/-- A row stays when its own block does. -/
theorem Own.keep {α : Type} {n : Nat} {f : α → List Value} {hl h1} {e : Nat} {F : Nat → Prop} {S : Nat → Prop} {base : Nat} {w w' : World} {v : Value} {xs : List α} (h : Own (Enc.flat n f hl h1) e F base w v xs)
    (hu : Upd S w w') (hF : ∀ k, v.ownBlock = some k → ¬ S k) : Own (Enc.flat n f hl h1) e F base w' v xs := by
  have h2 := h.foot (F' := fun k => F k ∧ v.ownBlock = some k) (base' := base) (fun k hk => ⟨⟨h.1 k hk, hk⟩, (h.lt k hk).1⟩)
  exact (h2.upd hu (fun b hb => hF b hb.2)).mono (fun b hb => hb.1)

theorem cell_set (w : World) (b o b' o' : Nat) (v : Value) : (w.setCell ⟨b, o, none⟩ v).cell? ⟨b', o', none⟩ = if b = b' ∧ o = o' then (w.cell? ⟨b', o', none⟩).map (fun _ => v) else w.cell? ⟨b', o', none⟩ := by
  by_cases h : b = b' ∧ o = o'
  · obtain ⟨rfl, rfl⟩ := h
    rw [if_pos ⟨rfl, rfl⟩]
    cases hc : w.cell? ⟨b, o, none⟩ with
    | some u => simp [World.cell?_setCell_same _ _ _ hc]
    | none =>
      simp only [Option.map_none]
      simp only [World.cell?, World.setCell, Array.getElem?_modify] at hc ⊢
      cases hb : w.heap[b]? with
      | none => simp
      | some x => cases x <;> simp_all
  · rw [if_neg h, World.cell?_setCell_other]
    intro e; simp at e; exact h e
theorem frozen_set (w : World) (a a' : Addr) (v : Value) : (w.setCell a v).frozen? a' = w.frozen? a' := World.frozen?_setCell ..
/-- Element j of a list. -/
def rdI (xs : List Int) (j : Nat) : Int := xs.getD j 0

theorem Rd.at' {α : Type} {E : Enc α} {F : Nat → Prop} {w : World} {xs : List α} {b off n c : Nat} (h : Rd E F w (.slice (some ⟨b, off, none⟩) n c) xs) {k : Nat} (hk : k < n) :
    ∃ x cs, xs[k]? = some x ∧ E.rep F w x cs ∧ (∀ j u, cs[j]? = some u → w.cell? ⟨b, off + k * E.sz + j, none⟩ = some u) ∧ F b ∧ b < w.heap.size := by
  obtain ⟨b', off', x, cs, he, h1, h2, h3, h4, h5⟩ := h.at_ hk
  simp only [Option.some.injEq, Addr.mk.injEq] at he
  obtain ⟨rfl, rfl, _⟩ := he
  exact ⟨x, cs, h3, h4, h5, h1, h2⟩
abbrev Rule := List Int × List Int
abbrev eRule : Enc Rule := (eI .i64).row.pair (eI .i64).row
theorem eRule_of {F : Nat → Prop} {w : World} {x : Rule} {cs : List Value} (h : eRule.rep F w x cs) : ∃ i o, cs = [i, o] ∧ Rd (eI .i64) F w i x.1 ∧ Rd (eI .i64) F w o x.2 := by
  obtain ⟨_, _, rfl, ⟨i, rfl, hi⟩, ⟨o, rfl, ho⟩⟩ := h
  exact ⟨i, o, rfl, hi, ho⟩
theorem eRule_mk {F : Nat → Prop} {w : World} {x : Rule} {i o : Value} (hi : Rd (eI .i64) F w i x.1) (ho : Rd (eI .i64) F w o x.2) : eRule.rep F w x [i, o] :=
  ⟨[i], [o], rfl, ⟨i, rfl, hi⟩, ⟨o, rfl, ho⟩⟩
def idxF {α : Type} (p : α → Bool) (xs : List α) : Int := match xs.findIdx? p with | some k => k | none => -1
theorem idxF_hit {α : Type} (p : α → Bool) (xs : List α) (k : Nat) (x : α) (hx : xs[k]? = some x) (hp : p x = true) (hn : ∀ j y, j < k → xs[j]? = some y → p y = false) : idxF p xs = k := by
  have hk := (List.getElem?_eq_some_iff.1 hx)
  obtain ⟨hk, hk'⟩ := hk
  have : xs.findIdx? p = some k := by
    rw [List.findIdx?_eq_some_iff_getElem]
    refine ⟨hk, by rw [hk']; exact hp, fun j hj => ?_⟩
    have := hn j xs[j] hj (by simp)
    simp [this]
  simp [idxF, this]
theorem idxF_miss {α : Type} (p : α → Bool) (xs : List α) (hn : ∀ (j : Nat) y, xs[j]? = some y → p y = false) : idxF p xs = -1 := by
  have : xs.findIdx? p = none := by
    rw [List.findIdx?_eq_none_iff]
    intro x hx
    obtain ⟨j, hj, rfl⟩ := List.getElem_of_mem hx
    exact hn j _ (by simp)
  simp [idxF, this]
def Drew (w w' : World) : Prop := ∃ m, w' = w.drewN m
theorem Drew.upd {w w' : World} (h : Drew w w') : Upd No w w' := by obtain ⟨m, rfl⟩ := h; exact (Upd.refl _ _).drewN m

theorem step_wanted {P : Program} {ops : Array Oper} {o : Oper} {a : Act} {w : World} {K : Act → World → Prop} {Q : Exit → Act → World → Prop} {E : Prop} (hg : o.guard = none) (h : Oper.wp P o a w K Q) :
    if Region.wanted o (yielded ops a.tmps) = true then Oper.wp P o a w K Q else E := by
  rw [if_pos (by simp [Region.wanted, hg])]; exact h
theorem Own.form3 {α : Type} {E : Enc α} {e : Nat} {F : Nat → Prop} {base : Nat} {w : World} {v : Value} {xs : List α} (h : Own E e F base w v xs) : ∃ A n c, v = .slice A n c ∧ xs.length = n := by
  obtain ⟨A, c, rfl⟩ := h.rd.form
  exact ⟨A, _, c, rfl, rfl⟩
end Go.Proofs.YtebgjabalnffdaaGreatDoor
