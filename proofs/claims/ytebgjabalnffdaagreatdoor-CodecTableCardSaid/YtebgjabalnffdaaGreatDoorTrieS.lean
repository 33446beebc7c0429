/- What a trie of rules finds: in lists alone. -/
import Derived.Test.YtebgjabalnffdaaGreatDoorTokP
import Derived.Test.YtebgjabalnffdaaGreatDoorMatP
set_option linter.unusedVariables false
set_option linter.unusedSimpArgs false
set_option maxRecDepth 100000
namespace Go.Proofs.YtebgjabalnffdaaGreatDoor
open Go.RowKit

theorem sibl_congr {ns ns' : List Nd} {m : Nat} (hu : ∀ k, k < m → (nd ns' k).unit = (nd ns k).unit ∧ (nd ns' k).bro = (nd ns k).bro) (hb : ∀ k, k < m → (nd ns k).bro < m) (v : Int) : ∀ f k, k < m → sibl ns' v f k = sibl ns v f k := by
  intro f
  induction f with
  | zero => intro k _; rfl
  | succ f ih =>
    intro k hk
    simp only [sibl]
    rw [(hu k hk).1, (hu k hk).2, ih _ (hb k hk)]
theorem sibl_zero (ns : List Nd) (v : Int) : ∀ f, sibl ns v f 0 = 0 := by
  intro f; cases f <;> simp [sibl]
theorem sibl_fuel {ns : List Nd} (hb : ∀ k, k < ns.length → (nd ns k).bro < k ∨ (nd ns k).bro = 0) (v : Int) : ∀ f k, k ≤ f → k < ns.length → sibl ns v f k = sibl ns v k k := by
  intro f
  induction f using Nat.strongRecOn with
  | ind f ih =>
    intro k hk hl
    cases k with
    | zero => rw [sibl_zero, sibl_zero]
    | succ k =>
      cases f with
      | zero => omega
      | succ f =>
        have e : ∀ f, sibl ns v (f + 1) (k + 1) = if (nd ns (k + 1)).unit = v then k + 1 else sibl ns v f (nd ns (k + 1)).bro := by intro f; simp [sibl]
        rw [e, e]
        split
        · rfl
        · rcases hb (k + 1) hl with h | h
          · rw [ih f (by omega) _ (by omega) (by omega), ih k (by omega) _ (by omega) (by omega)]
          · rw [h, sibl_zero, sibl_zero]

structure TrP (ns : List Nd) (ps : List (List Int)) (f : List Int → Int) : Prop where
  inv : TInv ns
  len : ps.length = ns.length
  root : ps[0]? = some []
  step : ∀ a p u, ps[a]? = some p → (0 < stepT ns a u → ps[stepT ns a u]? = some (p ++ [u])) ∧ (stepT ns a u = 0 → p ++ [u] ∉ ps)
  nodup : ∀ (a b : Nat) p, ps[a]? = some p → ps[b]? = some p → a = b
  closed : ∀ p u, p ++ [u] ∈ ps → p ∈ ps
  rule : ∀ (a : Nat) p, ps[a]? = some p → (nd ns a).rule = f p
  out : ∀ p, p ∉ ps → f p = -1

theorem nd_app {ns : List Nd} {x : Nd} {k : Nat} (h : k < ns.length) : nd (ns ++ [x]) k = nd ns k := by
  simp [nd, List.getD_eq_getElem?_getD, List.getElem?_append_left h]
theorem nd_set_ne {ns : List Nd} {x : Nd} {a k : Nat} (h : a ≠ k) : nd (ns.set a x) k = nd ns k := by
  simp [nd, List.getD_eq_getElem?_getD, List.getElem?_set_ne h]
theorem nd_set_eq {ns : List Nd} {x : Nd} {a : Nat} (h : a < ns.length) : nd (ns.set a x) a = x := by
  simp [nd, List.getD_eq_getElem?_getD, List.getElem?_set_self h]
theorem nd_last {ns : List Nd} {x : Nd} : nd (ns ++ [x]) ns.length = x := by
  simp [nd, List.getD_eq_getElem?_getD]
theorem TInv.bro' {ns : List Nd} (h : TInv ns) : ∀ k, k < ns.length → (nd ns k).bro < k ∨ (nd ns k).bro = 0 := fun k hk => h.bro k _ (nd_at hk)
theorem TInv.kid' {ns : List Nd} (h : TInv ns) : ∀ k, k < ns.length → (nd ns k).kid < ns.length := fun k hk => h.kid _ (List.mem_of_getElem? (nd_at hk))

theorem TrP.ins {ns : List Nd} {ps : List (List Int)} {f : List Int → Int} (h : TrP ns ps f) {a : Nat} {p : List Int} (hp : ps[a]? = some p) (u : Int) :
    ∃ ps', TrP (insU (ns, a) u).1 ps' f ∧ ps'[(insU (ns, a) u).2]? = some (p ++ [u]) ∧ ∀ q, q ∈ ps' ↔ q ∈ ps ∨ q = p ++ [u] := by
  have ha : a < ns.length := by rw [← h.len]; exact (List.getElem?_eq_some_iff.1 hp).1
  obtain ⟨i1, i2, i3, i4⟩ := insU_inv h.inv ha u
  by_cases hs : 0 < stepT ns a u
  · have h1 := (h.step a p u hp).1 hs
    have e : insU (ns, a) u = (ns, stepT ns a u) := by unfold insU; simp only [if_pos hs]
    rw [e]
    exact ⟨ps, h, h1, fun q => ⟨.inl, fun hq => hq.elim id (fun e => e ▸ List.mem_of_getElem? h1)⟩⟩
  · have h0 := (h.step a p u hp).2 (by omega)
    have e : insU (ns, a) u = ((ns ++ [(⟨u, 0, (nd ns a).kid, -1⟩ : Nd)]).set a (⟨(nd ns a).unit, ns.length, (nd ns a).bro, (nd ns a).rule⟩ : Nd), ns.length) := by unfold insU; simp only [if_neg hs]
    rw [e] at i1 ⊢
    simp only at i1 ⊢
    have hl' : a < (ns ++ [(⟨u, 0, (nd ns a).kid, -1⟩ : Nd)]).length := by simp; omega
    have na : nd ((ns ++ [(⟨u, 0, (nd ns a).kid, -1⟩ : Nd)]).set a (⟨(nd ns a).unit, ns.length, (nd ns a).bro, (nd ns a).rule⟩ : Nd)) a = ⟨(nd ns a).unit, ns.length, (nd ns a).bro, (nd ns a).rule⟩ := nd_set_eq hl'
    have nm : nd ((ns ++ [(⟨u, 0, (nd ns a).kid, -1⟩ : Nd)]).set a (⟨(nd ns a).unit, ns.length, (nd ns a).bro, (nd ns a).rule⟩ : Nd)) ns.length = ⟨u, 0, (nd ns a).kid, -1⟩ := by rw [nd_set_ne (by omega), nd_last]
    have nk : ∀ k, k < ns.length → k ≠ a → nd ((ns ++ [(⟨u, 0, (nd ns a).kid, -1⟩ : Nd)]).set a (⟨(nd ns a).unit, ns.length, (nd ns a).bro, (nd ns a).rule⟩ : Nd)) k = nd ns k := fun k hk hne => by rw [nd_set_ne (Ne.symm hne), nd_app hk]
    obtain ⟨ns', hns'⟩ : ∃ ns', ns' = (ns ++ [(⟨u, 0, (nd ns a).kid, -1⟩ : Nd)]).set a (⟨(nd ns a).unit, ns.length, (nd ns a).bro, (nd ns a).rule⟩ : Nd) := ⟨_, rfl⟩
    have hlen' : ns'.length = ns.length + 1 := by rw [hns']; simp
    rw [← hns'] at i1 na nm nk ⊢
    have hu : ∀ k, k < ns.length → (nd ns' k).unit = (nd ns k).unit ∧ (nd ns' k).bro = (nd ns k).bro := by
      intro k hk
      by_cases hka : k = a
      · subst hka; rw [na]; exact ⟨rfl, rfl⟩
      · rw [nk k hk hka]; exact ⟨rfl, rfl⟩
    have hb : ∀ k, k < ns.length → (nd ns k).bro < ns.length := fun k hk => by rcases h.inv.bro' k hk with h | h <;> omega
    have hst : ∀ b v, b < ns.length → b ≠ a → stepT ns' b v = stepT ns b v := by
      intro b v hb' hne
      rw [stepT, stepT, nk b hb' hne, sibl_congr hu hb v _ _ (h.inv.kid' b hb')]
    have hsa : ∀ v, stepT ns' a v = if v = u then ns.length else stepT ns a v := by
      intro v
      obtain ⟨m, hm⟩ : ∃ m, ns.length = m + 1 := ⟨ns.length - 1, by omega⟩
      rw [stepT, na]
      simp only
      conv => lhs; rw [hm]
      rw [sibl, if_neg (by omega), ← hm, nm]
      simp only
      by_cases hv : v = u
      · rw [if_pos hv.symm, if_pos hv]
      · rw [if_neg (fun e => hv e.symm), if_neg hv, sibl_congr hu hb v _ _ (h.inv.kid' a ha), sibl_fuel h.inv.bro' v m _ (by have := h.inv.kid' a ha; omega) (h.inv.kid' a ha)]
        rfl
    have hsm : ∀ v, stepT ns' ns.length v = 0 := by intro v; rw [stepT, nm]; exact sibl_zero _ _ _
    have hpl : ∀ b : Nat, b < ns.length → (ps ++ [p ++ [u]])[b]? = ps[b]? := fun b hb => List.getElem?_append_left (by rw [h.len]; exact hb)
    have hpm : (ps ++ [p ++ [u]])[ns.length]? = some (p ++ [u]) := by rw [← h.len]; simp
    have hcase : ∀ (b : Nat) q, (ps ++ [p ++ [u]])[b]? = some q → (b < ns.length ∧ ps[b]? = some q) ∨ (b = ns.length ∧ q = p ++ [u]) := by
      intro b q hq
      by_cases hb : b < ns.length
      · rw [hpl b hb] at hq; exact .inl ⟨hb, hq⟩
      · have := (List.getElem?_eq_some_iff.1 hq).1
        simp only [List.length_append, List.length_cons, List.length_nil, h.len] at this
        obtain rfl : b = ns.length := by omega
        rw [hpm] at hq; injection hq with hq; exact .inr ⟨rfl, hq.symm⟩
    refine ⟨ps ++ [p ++ [u]], ⟨i1, by simp [hlen', h.len], by rw [hpl 0 (by omega)]; exact h.root, ?_, ?_, ?_, ?_, ?_⟩, hpm, fun q => by simp⟩
    · intro b q v hq
      rcases hcase b q hq with ⟨hb', hq⟩ | ⟨rfl, rfl⟩
      · by_cases hba : b = a
        · subst hba
          obtain rfl : p = q := by rw [hp] at hq; injection hq
          rw [hsa v]
          by_cases hv : v = u
          · subst hv; rw [if_pos rfl]; exact ⟨fun _ => hpm, fun h => by omega⟩
          · rw [if_neg hv]
            refine ⟨fun h1 => ?_, fun h1 => ?_⟩
            · rw [hpl _ (stepT_lt h.inv.kid h.inv.bro b v hb')]; exact (h.step b p v hp).1 h1
            · intro hm
              rcases List.mem_append.1 hm with hm | hm
              · exact (h.step b p v hp).2 h1 hm
              · simp at hm; exact hv hm
        · rw [hst b v hb' hba]
          refine ⟨fun h1 => ?_, fun h1 => ?_⟩
          · rw [hpl _ (stepT_lt h.inv.kid h.inv.bro b v hb')]; exact (h.step b q v hq).1 h1
          · intro hm
            rcases List.mem_append.1 hm with hm | hm
            · exact (h.step b q v hq).2 h1 hm
            · simp only [List.mem_singleton] at hm
              have := List.append_inj' hm rfl
              exact hba (h.nodup b a p (this.1 ▸ hq) hp)
      · rw [hsm v]
        refine ⟨fun h => by omega, fun _ hm => ?_⟩
        rcases List.mem_append.1 hm with hm | hm
        · exact h0 (h.closed _ _ hm)
        · simp at hm
    · intro b c q h1 h2
      rcases hcase b q h1 with ⟨_, h1⟩ | ⟨rfl, rfl⟩
      · rcases hcase c q h2 with ⟨_, h2⟩ | ⟨rfl, rfl⟩
        · exact h.nodup b c q h1 h2
        · exact (h0 (List.mem_of_getElem? h1)).elim
      · rcases hcase c _ h2 with ⟨_, h2⟩ | ⟨rfl, _⟩
        · exact (h0 (List.mem_of_getElem? h2)).elim
        · rfl
    · intro q v hm
      rcases List.mem_append.1 hm with hm | hm
      · exact List.mem_append_left _ (h.closed q v hm)
      · simp only [List.mem_singleton] at hm
        have := List.append_inj' hm rfl
        rw [this.1]; exact List.mem_append_left _ (List.mem_of_getElem? hp)
    · intro b q hq
      rcases hcase b q hq with ⟨hb', hq⟩ | ⟨rfl, rfl⟩
      · by_cases hba : b = a
        · subst hba; rw [na]; exact h.rule b q hq
        · rw [nk b hb' hba]; exact h.rule b q hq
      · rw [nm]; exact (h.out _ h0).symm
    · intro q hq
      exact h.out q (fun h => hq (List.mem_append_left _ h))

theorem TrP.insF {f : List Int → Int} : ∀ (us : List Int) (ns : List Nd) (a : Nat) (ps : List (List Int)) (p : List Int), TrP ns ps f → ps[a]? = some p →
    ∃ ps', TrP (us.foldl insU (ns, a)).1 ps' f ∧ ps'[(us.foldl insU (ns, a)).2]? = some (p ++ us) ∧ ∀ q, q ∈ ps' ↔ q ∈ ps ∨ ∃ n, 0 < n ∧ n ≤ us.length ∧ q = p ++ us.take n := by
  intro us
  induction us with
  | nil => intro ns a ps p h hp; exact ⟨ps, h, by simpa using hp, fun q => by simp; omega⟩
  | cons u us ih =>
    intro ns a ps p h hp
    obtain ⟨ps1, h1, hp1, hm1⟩ := h.ins hp u
    obtain ⟨ps2, h2, hp2, hm2⟩ := ih _ _ ps1 (p ++ [u]) h1 hp1
    refine ⟨ps2, h2, by simpa using hp2, fun q => ?_⟩
    rw [hm2, hm1]
    constructor
    · rintro ((h | h) | ⟨n, h0, hn, rfl⟩)
      · exact .inl h
      · exact .inr ⟨1, by omega, by simp, by simpa using h⟩
      · exact .inr ⟨n + 1, by omega, by simpa using hn, by simp⟩
    · rintro (h | ⟨n, h0, hn, rfl⟩)
      · exact .inl (.inl h)
      · cases n with
        | zero => omega
        | succ n =>
          by_cases hn0 : n = 0
          · subst hn0; exact .inl (.inr (by simp))
          · exact .inr ⟨n, by omega, by simpa using hn, by simp⟩

theorem findR_snoc {rs : List Rule} {r : Rule} (hr : ∀ x ∈ rs, x.1 ≠ r.1) (p : List Int) : findR (rs ++ [r]) p = if p = r.1 then (rs.length : Int) else findR rs p := by
  by_cases h : p = r.1
  · subst h
    rw [if_pos rfl, findR]
    refine idxF_hit _ _ rs.length r (by simp) (by simp) (fun j y hj hy => ?_)
    rw [List.getElem?_append_left hj] at hy
    simpa using hr y (List.mem_of_getElem? hy)
  · rw [if_neg h]
    simp only [findR, idxF, List.findIdx?_append]
    cases e : rs.findIdx? (fun r => decide (r.1 = p)) with
    | some k => simp
    | none => simp [Ne.symm h, List.findIdx?_cons]

theorem trie_sem : ∀ (n : Nat) (rs : List Rule), rs.length = n → rs.Pairwise (fun a b => a.1 ≠ b.1) → (∀ r ∈ rs, r.1.length ≤ 8 ∧ 0 < r.1.length) →
    ∃ ps, TrP (trieN rs) ps (findR rs) ∧ ∀ q, q ∈ ps ↔ q = [] ∨ ∃ r ∈ rs, ∃ n, 0 < n ∧ n ≤ r.1.length ∧ q = r.1.take n := by
  intro n
  induction n with
  | zero =>
    intro rs hn _ _
    obtain rfl := List.eq_nil_of_length_eq_zero hn
    refine ⟨[[]], ⟨(trieN_inv [] (by simp)).1, rfl, rfl, ?_, ?_, ?_, ?_, ?_⟩, fun q => by simp⟩
    · intro a p u hp
      cases a with
      | zero => 
        simp at hp; subst hp
        have e : stepT (trieN []) 0 u = 0 := sibl_zero _ _ _
        rw [e]; exact ⟨fun h => by omega, fun _ h => by simp at h⟩
      | succ a => simp at hp
    · intro a b p h1 h2
      cases a with
      | zero => cases b with
        | zero => rfl
        | succ b => simp at h2
      | succ a => simp at h1
    · intro p u h; simp at h
    · intro a p hp
      cases a with
      | zero => simp at hp; subst hp; rfl
      | succ a => simp at hp
    · intro p _; rfl
  | succ n ih =>
    intro rs hn hd hs
    obtain ⟨l, r, rfl⟩ : ∃ l r, rs = l ++ [r] := ⟨rs.dropLast, rs.getLast (by intro e; simp [e] at hn), (List.dropLast_concat_getLast _).symm⟩
    rw [List.pairwise_append] at hd
    have hr : ∀ x ∈ l, x.1 ≠ r.1 := fun x hx => hd.2.2 x hx r (by simp)
    obtain ⟨ps, h, hm⟩ := ih l (by simpa using hn) hd.1 (fun x hx => hs x (by simp [hx]))
    obtain ⟨ps', h', hp', hm'⟩ := TrP.insF r.1 (trieN l) 0 ps [] h h.root
    simp only [List.nil_append] at hp' hm'
    have ha : (insN (trieN l) r.1).2 < (insN (trieN l) r.1).1.length := (insN_inv h.inv r.1).2.1
    have h1 : TrP (insN (trieN l) r.1).1 ps' (findR l) := h'
    have hp1 : ps'[(insN (trieN l) r.1).2]? = some r.1 := hp'
    obtain ⟨ns, a, hna⟩ : ∃ ns a, insN (trieN l) r.1 = (ns, a) := ⟨_, _, rfl⟩
    have etr : trieN (l ++ [r]) = ns.set a ⟨(nd ns a).unit, (nd ns a).kid, (nd ns a).bro, (l.length : Int)⟩ := by rw [trieN_snoc, insR, hna]
    rw [hna] at ha h1 hp1
    simp only at ha h1 hp1
    have hset : ∀ k, (nd (ns.set a ⟨(nd ns a).unit, (nd ns a).kid, (nd ns a).bro, (l.length : Int)⟩) k).unit = (nd ns k).unit ∧ (nd (ns.set a ⟨(nd ns a).unit, (nd ns a).kid, (nd ns a).bro, (l.length : Int)⟩) k).bro = (nd ns k).bro ∧ (nd (ns.set a ⟨(nd ns a).unit, (nd ns a).kid, (nd ns a).bro, (l.length : Int)⟩) k).kid = (nd ns k).kid := by
      intro k
      by_cases e : k = a
      · subst e; rw [nd_set_eq ha]; exact ⟨rfl, rfl, rfl⟩
      · rw [nd_set_ne (Ne.symm e)]; exact ⟨rfl, rfl, rfl⟩
    have hst : ∀ b v, b < ns.length → stepT (ns.set a ⟨(nd ns a).unit, (nd ns a).kid, (nd ns a).bro, (l.length : Int)⟩) b v = stepT ns b v := by
      intro b v hb
      rw [stepT, stepT, (hset b).2.2]
      exact sibl_congr (m := ns.length) (fun k _ => ⟨(hset k).1, (hset k).2.1⟩) (fun k hk => by rcases h1.inv.bro' k hk with h | h <;> omega) v _ _ (h1.inv.kid' b hb)
    rw [etr]
    refine ⟨ps', ⟨set_rule_inv h1.inv ha _, by simpa using h1.len, h1.root, ?_, h1.nodup, h1.closed, ?_, ?_⟩, fun q => ?_⟩
    · intro b p u hp
      rw [hst b u (by rw [← h1.len]; exact (List.getElem?_eq_some_iff.1 hp).1)]
      exact h1.step b p u hp
    · intro b p hp
      rw [findR_snoc hr]
      by_cases e : b = a
      · subst e
        obtain rfl : r.1 = p := by rw [hp1] at hp; injection hp
        rw [nd_set_eq ha, if_pos rfl]
      · rw [nd_set_ne (Ne.symm e), h1.rule b p hp, if_neg]
        intro e2
        exact e (h1.nodup b a p hp (e2 ▸ hp1))
    · intro p hp
      rw [findR_snoc hr, if_neg, h1.out p hp]
      intro e; subst e; exact hp (List.mem_of_getElem? hp1)
    · rw [hm', hm]
      constructor
      · rintro ((h | ⟨x, hx, h⟩) | h)
        · exact .inl h
        · exact .inr ⟨x, by simp [hx], h⟩
        · exact .inr ⟨r, by simp, h⟩
      · rintro (h | ⟨x, hx, h⟩)
        · exact .inl (.inl h)
        · rcases List.mem_append.1 hx with hx | hx
          · exact .inl (.inr ⟨x, hx, h⟩)
          · simp at hx; subst hx; exact .inr h

/-! ### What units begin with -/
def LR (rs : List Rule) : List Int → List Int → Int → Nat → Int × Nat
  | _, [], k, n => (k, n)
  | p, u :: us, k, n => if 0 ≤ findR rs (p ++ [u]) then LR rs (p ++ [u]) us (findR rs (p ++ [u])) (p.length + 1) else LR rs (p ++ [u]) us k n
/-- More units might make it another one. -/
def openR (rs : List Rule) (us : List Int) : Bool := rs.any fun r => decide (us.length < r.1.length) && decide (r.1.take us.length = us)

theorem LR_none {rs : List Rule} : ∀ (us p : List Int) (k : Int) (n : Nat), (∀ m, findR rs (p ++ us.take (m + 1)) = -1 ∨ us.length ≤ m) → LR rs p us k n = (k, n) := by
  intro us
  induction us with
  | nil => intro p k n _; rfl
  | cons u us ih =>
    intro p k n h
    have h0 : findR rs (p ++ [u]) = -1 := by
      rcases h 0 with h | h
      · simpa using h
      · simp at h
    rw [LR, h0, if_neg (by omega)]
    refine ih _ _ _ (fun m => ?_)
    rcases h (m + 1) with h | h
    · left; simpa using h
    · right; simpa using h

structure RsOk (rs : List Rule) : Prop where
  ins : rs.Pairwise (fun a b => a.1 ≠ b.1)
  side : ∀ r ∈ rs, r.1.length ≤ 8 ∧ 0 < r.1.length
theorem findR_mem {rs : List Rule} {p : List Int} (h : 0 ≤ findR rs p) : ∃ r ∈ rs, r.1 = p := by
  have := idxF_any (fun r : Rule => decide (r.1 = p)) rs
  rw [show decide (0 ≤ idxF (fun r : Rule => decide (r.1 = p)) rs) = true by simpa [findR] using h] at this
  obtain ⟨r, hr, e⟩ := List.any_eq_true.1 this.symm
  exact ⟨r, hr, by simpa using e⟩
theorem lonT_eq {rs : List Rule} {ns : List Nd} {ps : List (List Int)} (h : TrP ns ps (findR rs)) (hm : ∀ q, q ∈ ps ↔ q = [] ∨ ∃ r ∈ rs, ∃ n, 0 < n ∧ n ≤ r.1.length ∧ q = r.1.take n) :
    ∀ (us p : List Int) (a : Nat) (k : Int) (n : Nat), ps[a]? = some p → lonT ns us a k n p.length = ((LR rs p us k n).1, (LR rs p us k n).2, openR rs (p ++ us)) := by
  intro us
  induction us with
  | nil =>
    intro p a k n hp
    have ha : a < ns.length := by rw [← h.len]; exact (List.getElem?_eq_some_iff.1 hp).1
    simp only [lonT, LR, List.append_nil]
    congr 2
    rw [Bool.eq_iff_iff]
    simp only [decide_eq_true_eq, openR, List.any_eq_true, Bool.and_eq_true]
    constructor
    · intro hk
      obtain ⟨f, hf⟩ : ∃ f, (nd ns a).kid = f + 1 := ⟨(nd ns a).kid - 1, by omega⟩
      have hs : stepT ns a (nd ns (nd ns a).kid).unit = (nd ns a).kid := by
        rw [stepT]
        conv => lhs; arg 3; rw [hf]
        rw [sibl, if_neg (by omega), if_pos rfl]
      have h1 := (h.step a p (nd ns (nd ns a).kid).unit hp).1 (by omega)
      rcases (hm _).1 (List.mem_of_getElem? h1) with e | ⟨r, hr, n', h0, hn, e⟩
      · simp at e
      · have hl := congrArg List.length e
        simp only [List.length_append, List.length_cons, List.length_nil, List.length_take] at hl
        refine ⟨r, hr, by omega, ?_⟩
        have := congrArg (List.take p.length) e
        rw [List.take_left, List.take_take] at this
        have e3 : min p.length n' = p.length := by omega
        rw [e3] at this; exact this.symm
    · rintro ⟨r, hr, h1, h2⟩
      apply Nat.pos_of_ne_zero
      intro hk
      have hs : stepT ns a (r.1[p.length]'h1) = 0 := by rw [stepT, hk]; exact sibl_zero _ _ _
      refine (h.step a p _ hp).2 hs ((hm _).2 (.inr ⟨r, hr, p.length + 1, by omega, by omega, ?_⟩))
      rw [List.take_succ_eq_append_getElem h1, h2]
  | cons u us ih =>
    intro p a k n hp
    simp only [lonT]
    by_cases hs : stepT ns a u = 0
    · rw [if_pos hs]
      have hn := (h.step a p u hp).2 hs
      have hx : ∀ q, p ++ [u] ++ q ∉ ps := by
        have gen : ∀ (q p : List Int), p ++ q ∈ ps → p ∈ ps := by
          intro q
          induction q with
          | nil => intro p h; simpa using h
          | cons v q ihq => intro p hq; exact h.closed p v (ihq (p ++ [v]) (by simpa using hq))
        exact fun q hq => hn (gen q _ hq)
      rw [LR_none]
      · simp only [Prod.mk.injEq, true_and]
        symm
        rw [openR, List.any_eq_false]
        intro r hr e
        simp only [Bool.and_eq_true, decide_eq_true_eq] at e
        refine hx us ((hm _).2 (.inr ⟨r, hr, (p ++ u :: us).length, by simp only [List.length_append, List.length_cons]; omega, by omega, ?_⟩))
        rw [e.2]; simp
      · intro m
        left
        rw [List.take_succ_cons]
        have := h.out (p ++ [u] ++ us.take m) (hx _)
        simpa using this
    · rw [if_neg hs]
      have h1 := (h.step a p u hp).1 (by omega)
      have hr := h.rule _ _ h1
      rw [hr]
      have e2 : p ++ u :: us = p ++ [u] ++ us := by simp
      rw [e2]
      by_cases hf : 0 ≤ findR rs (p ++ [u])
      · rw [if_pos hf]
        have := ih (p ++ [u]) _ (findR rs (p ++ [u])) (p.length + 1) h1
        simp only [List.length_append, List.length_cons, List.length_nil] at this
        rw [this, LR, if_pos hf]
      · rw [if_neg hf]
        have := ih (p ++ [u]) _ k n h1
        simp only [List.length_append, List.length_cons, List.length_nil] at this
        rw [this, LR, if_neg hf]
theorem longT_eq {rs : List Rule} (hok : RsOk rs) (us : List Int) : longT (trieN rs) us = ((LR rs [] us (-1) 0).1, (LR rs [] us (-1) 0).2, openR rs us) := by
  obtain ⟨ps, h, hm⟩ := trie_sem _ rs rfl hok.ins hok.side
  have := lonT_eq h hm us [] 0 (-1) 0 h.root
  simpa [longT] using this
end Go.Proofs.YtebgjabalnffdaaGreatDoor
