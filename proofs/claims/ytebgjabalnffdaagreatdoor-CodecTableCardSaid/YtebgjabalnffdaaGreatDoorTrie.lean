/- The trie in memory; Step, Rule, Leaf, Out, Longest: what they answer. -/
import Derived.Test.YtebgjabalnffdaaGreatDoorRule2
set_option linter.unusedVariables false
set_option linter.unusedSimpArgs false
set_option maxRecDepth 100000
namespace Go.Proofs.YtebgjabalnffdaaGreatDoor
open Go.RowKit

structure Nd where
  unit : Int
  kid : Nat
  bro : Nat
  rule : Int
deriving Inhabited, DecidableEq

def eNd : Enc Nd := Enc.flat 4 (fun n => [.int .i64 n.unit, .int .i64 n.kid, .int .i64 n.bro, .int .i64 n.rule]) (fun _ => rfl) (fun x u h => by simp at h; rcases h with rfl | rfl | rfl | rfl <;> rfl)

/-- A trie at block t: its nodes, and what its rules make. Kids and brothers lead to nodes; brothers lead back. -/
structure IsTrie (w : World) (t : Nat) (F : Nat → Prop) (ns : List Nd) (outs : List (List Int)) : Prop where
  mem : ∃ vn vr rs, w.cell? ⟨t, 0, none⟩ = some vn ∧ w.cell? ⟨t, 1, none⟩ = some vr ∧ Rd eNd F w vn ns ∧ Rd eRule F w vr rs ∧ rs.map (·.2) = outs ∧ F t
  kid : ∀ n ∈ ns, n.kid < ns.length
  bro : ∀ (k : Nat) n, ns[k]? = some n → n.bro < k ∨ n.bro = 0
  small : ns.length ≤ 100000
  root : 0 < ns.length

def nd (ns : List Nd) (k : Nat) : Nd := ns.getD k default

/-- Where a unit leads, from a first kid on. -/
def sibl (ns : List Nd) (u : Int) : Nat → Nat → Nat
  | 0, _ => 0
  | f + 1, k => if k = 0 then 0 else if (nd ns k).unit = u then k else sibl ns u f (nd ns k).bro
def stepT (ns : List Nd) (at_ : Nat) (u : Int) : Nat := sibl ns u (nd ns at_).kid (nd ns at_).kid

theorem Rd.nd_cell {F : Nat → Prop} {w : World} {A : Option Addr} {n c : Nat} {ns : List Nd} (h : Rd eNd F w (.slice A n c) ns) (hn : 0 < n) :
    ∃ b off, A = some ⟨b, off, none⟩ ∧ ∀ k, k < n → w.cell? ⟨b, off + k * 4, none⟩ = some (.int .i64 (nd ns k).unit) ∧ w.cell? ⟨b, off + k * 4 + 1, none⟩ = some (.int .i64 (nd ns k).kid) ∧
      w.cell? ⟨b, off + k * 4 + 2, none⟩ = some (.int .i64 (nd ns k).bro) ∧ w.cell? ⟨b, off + k * 4 + 3, none⟩ = some (.int .i64 (nd ns k).rule) := by
  obtain ⟨b, off, _, _, rfl, _⟩ := h.at_ hn
  refine ⟨b, off, rfl, fun k hk => ?_⟩
  obtain ⟨x, cs, hx, hrep, hc, _⟩ := h.at' hk
  obtain rfl := hrep
  have e : nd ns k = x := by simp [nd, List.getD_eq_getElem?_getD, hx]
  rw [e]
  exact ⟨hc 0 _ rfl, hc 1 _ rfl, hc 2 _ rfl, hc 3 _ rfl⟩

theorem nd_at {ns : List Nd} {k : Nat} (h : k < ns.length) : ns[k]? = some (nd ns k) := by
  simp [nd, List.getD_eq_getElem?_getD, h]

theorem trie_Step {w : World} {t : Nat} {F : Nat → Prop} {ns : List Nd} {outs : List (List Int)} (h : IsTrie w t F ns outs) (at_ : Nat) (u : Int) (ha : at_ < ns.length) :
    Calls Tryz.prog 128 #[.pointer (some ⟨t, 0, none⟩), .int .i64 at_, .int .i64 u] w fun e w' => e = .returned (.tuple #[.int .i64 (stepT ns at_ u), .bool (decide (0 < stepT ns at_ u))]) ∧ w = w' := by
  obtain ⟨⟨vn, vr, rs, h0, h1, hn, hr, _, _⟩, hkid, hbro, hsm, _⟩ := h
  obtain ⟨A, c, rfl⟩ := hn.form
  obtain ⟨b, off, rfl, hcell⟩ := hn.nd_cell (by omega)
  obtain ⟨_, hk1, _, _⟩ := hcell at_ ha
  have hkl : (nd ns at_).kid < ns.length := hkid _ (List.mem_of_getElem? (nd_at ha))
  have HB : Hd (∀ (k : Nat) n, ns[k]? = some n → n.bro < k ∨ n.bro = 0) := ⟨hbro⟩
  have HC : Hd _ := ⟨hcell⟩
  obtain ⟨r, hr'⟩ : ∃ r, r = stepT ns at_ u := ⟨_, rfl⟩
  have HR : Hd (r = stepT ns at_ u) := ⟨hr'⟩
  rw [← hr']
  obtain ⟨k0, hk0⟩ : ∃ k0, k0 = (nd ns at_).kid := ⟨_, rfl⟩
  rw [← hk0] at hk1 hkl
  have HK : Hd (k0 = (nd ns at_).kid) := ⟨hk0⟩
  clear hr' hbro hkid hcell hk0
  go_enter Tryz.func128, Tryz.ntmps128
  go_wp2
  go_loopg [8] k0 (fun g i wr => i = .int .i64 g ∧ g < ns.length ∧ (∃ f, g ≤ f ∧ sibl ns u f g = r) ∧ w = wr)
  case atStart => exact ⟨rfl, hkl, ⟨k0, Nat.le_refl _, by rw [HR.out, stepT, ← HK.out]⟩, rfl⟩
  case round =>
    obtain ⟨rfl, hg, hs, rfl⟩ := hrel
    have HS : Hd (∃ f, gk ≤ f ∧ sibl ns u f gk = r) := ⟨hs⟩
    clear hs
    by_cases hz : gk = 0
    · have hr0 : r = 0 := by
        obtain ⟨f, hf, rfl⟩ := HS.out
        subst hz; cases f <;> simp [sibl]
      subst hz; subst hr0
      go_wp2
      go_ret2
      exact ⟨rfl, rfl⟩
    · have hz' : 0 < gk := by omega
      obtain ⟨c0, c1, c2, c3⟩ := HC.out gk hg
      cases hu : ((nd ns gk).unit == u) with
      | true =>
        have hr0 : r = gk := by
          obtain ⟨f, hf, rfl⟩ := HS.out
          obtain ⟨f, rfl⟩ : ∃ f', f = f' + 1 := ⟨f - 1, by omega⟩
          have : (nd ns gk).unit = u := by simpa using hu
          simp [sibl, hz, this]
        subst hr0
        go_wp2
        go_ret2
        exact ⟨by simp; omega, rfl⟩
      | false =>
        go_wp2
        go_roundg (nd ns gk).bro
        case measure =>
          go_light
          rcases HB.out gk _ (nd_at hg) with h | h <;> omega
        case rel =>
          go_light
          have hb := HB.out gk _ (nd_at hg)
          refine ⟨rfl, by omega, ?_, rfl⟩
          obtain ⟨f, hf, hs⟩ := HS.out
          obtain ⟨f, rfl⟩ : ∃ f', f = f' + 1 := ⟨f - 1, by omega⟩
          have : ¬ (nd ns gk).unit = u := by simpa using hu
          simp only [sibl, if_neg hz, if_neg this] at hs
          exact ⟨f, by omega, hs⟩

theorem trie_Rule {w : World} {t : Nat} {F : Nat → Prop} {ns : List Nd} {outs : List (List Int)} (h : IsTrie w t F ns outs) (at_ : Nat) (ha : at_ < ns.length) :
    Calls Tryz.prog 150 #[.pointer (some ⟨t, 0, none⟩), .int .i64 at_] w fun e w' => e = .returned (.int .i64 (nd ns at_).rule) ∧ w = w' := by
  obtain ⟨⟨vn, vr, rs, h0, h1, hn, hr, _, _⟩, hkid, hbro, hsm, _⟩ := h
  obtain ⟨A, c, rfl⟩ := hn.form
  obtain ⟨b, off, rfl, hcell⟩ := hn.nd_cell (by omega)
  obtain ⟨_, _, _, hk1⟩ := hcell at_ ha
  clear hcell hkid hbro
  go_enter Tryz.func150, Tryz.ntmps150
  go_wp2
  go_ret
  exact ⟨rfl, rfl⟩

theorem trie_Leaf {w : World} {t : Nat} {F : Nat → Prop} {ns : List Nd} {outs : List (List Int)} (h : IsTrie w t F ns outs) (at_ : Nat) (ha : at_ < ns.length) :
    Calls Tryz.prog 151 #[.pointer (some ⟨t, 0, none⟩), .int .i64 at_] w fun e w' => e = .returned (.bool (decide ((nd ns at_).kid = 0))) ∧ w = w' := by
  obtain ⟨⟨vn, vr, rs, h0, h1, hn, hr, _, _⟩, hkid, hbro, hsm, _⟩ := h
  obtain ⟨A, c, rfl⟩ := hn.form
  obtain ⟨b, off, rfl, hcell⟩ := hn.nd_cell (by omega)
  obtain ⟨_, hk1, _, _⟩ := hcell at_ ha
  clear hcell hkid hbro
  cases hz : (((nd ns at_).kid : Int) == 0)
  all_goals
    go_enter Tryz.func151, Tryz.ntmps151
    go_wp2
    all_goals (go_ret; refine ⟨bret ?_, rfl⟩; go_light; simp at hz; simp [hz])

theorem trie_Out {w : World} {t : Nat} {F : Nat → Prop} {ns : List Nd} {outs : List (List Int)} (h : IsTrie w t F ns outs) (k : Nat) (hk : k < outs.length) (hl : (outs.getD k []).length ≤ 8) :
    Calls Tryz.prog 136 #[.pointer (some ⟨t, 0, none⟩), .int .i64 k] w fun e w' => ∃ A n c, e = .returned (.slice A n c) ∧ Own (eI .i64) 3 (fun k => w.heap.size ≤ k) w.heap.size w' (.slice A n c) (outs.getD k []) ∧ Upd No w w' := by
  obtain ⟨⟨vn, vr, rs, h0, h1, hn, hr, ho, _⟩, hkid, hbro, hsm, _⟩ := h
  obtain ⟨A, c, rfl⟩ := hr.form
  have hrl : rs.length = outs.length := by rw [← ho]; simp
  have hm := hr.max
  obtain ⟨b, off, x, cs, rfl, _, _, hx, hrep, hcell⟩ := hr.at_ (k := k) (by omega)
  obtain ⟨ci, co, rfl, hi, hoo⟩ := eRule_of hrep
  have hc1 := hcell 1 _ rfl
  simp only [pair_sz, row_sz, Nat.reduceAdd] at hc1
  have e : outs.getD k [] = x.2 := by rw [← ho]; simp [List.getD_eq_getElem?_getD, hx]
  rw [e] at hl ⊢
  clear hcell hkid hbro hx ho
  have hk' : k < rs.length := by omega
  obtain ⟨Ao, no, rfl⟩ := hoo.form
  go_enter Tryz.func136, Tryz.ntmps136
  go_wp2_with (at_builtin; refine wp_appendRow (F := fun k => w.heap.size ≤ k) (eI .i64) F w.heap.size rfl (.const (.slice none 0 0)) (.tmp 23) 34 3 (.int .i64 0) 8 rfl Tryz.underlying34 info_int rfl (by decide) _ _ [] x.2 rfl rfl (Own.nil _ _ _ _ _) hoo (fun _ _ h => h) (fun k hk => hk) (Nat.le_refl _) ?ql (by decide) ?_)
  case ql => (try simp); omega
  intro A1 n1 c1 w1 hown hupd _ _
  go_wp2
  go_ret
  exact ⟨A1, n1, c1, rfl, by simpa using hown, hupd.mono (fun k hk e => by simp [Value.ownBlock] at e)⟩

theorem sibl_lt {ns : List Nd} (hbro : ∀ (k : Nat) n, ns[k]? = some n → n.bro < k ∨ n.bro = 0) (u : Int) : ∀ f k, k < ns.length → sibl ns u f k < ns.length := by
  intro f
  induction f with
  | zero => intro k hk; simp [sibl]; omega
  | succ f ih =>
    intro k hk
    simp only [sibl]
    split
    · omega
    · split
      · exact hk
      · exact ih _ (by rcases hbro k _ (nd_at hk) with h | h <;> omega)
theorem stepT_lt {ns : List Nd} (hkid : ∀ n ∈ ns, n.kid < ns.length) (hbro : ∀ (k : Nat) n, ns[k]? = some n → n.bro < k ∨ n.bro = 0) (at_ : Nat) (u : Int) (ha : at_ < ns.length) : stepT ns at_ u < ns.length :=
  sibl_lt hbro u _ _ (hkid _ (List.mem_of_getElem? (nd_at ha)))

def lonT (ns : List Nd) : List Int → Nat → Int → Nat → Nat → Int × Nat × Bool
  | [], at_, k, n, _ => (k, n, decide (0 < (nd ns at_).kid))
  | u :: us, at_, k, n, i => if stepT ns at_ u = 0 then (k, n, false) else if 0 ≤ (nd ns (stepT ns at_ u)).rule then lonT ns us (stepT ns at_ u) (nd ns (stepT ns at_ u)).rule (i + 1) (i + 1) else lonT ns us (stepT ns at_ u) k n (i + 1)
def longT (ns : List Nd) (us : List Int) : Int × Nat × Bool := lonT ns us 0 (-1) 0 0

theorem ibbret {k1 k2 : IntKind} {a a' b b' : Int} {c c' : Bool} (h : a = a' ∧ b = b' ∧ c = c') :
    Ending.returned (.tuple #[.int k1 a, .int k2 b, .bool c]) = Ending.returned (.tuple #[.int k1 a', .int k2 b', .bool c']) := by obtain ⟨rfl, rfl, rfl⟩ := h; rfl

theorem trie_Longest {w : World} {t : Nat} {F F' : Nat → Prop} {ns : List Nd} {outs : List (List Int)} {v : Value} {us : List Int} (h : IsTrie w t F ns outs) (hu : Rd (eI .i64) F' w v us) :
    Calls Tryz.prog 135 #[.pointer (some ⟨t, 0, none⟩), v] w fun e w' => e = .returned (.tuple #[.int .i64 (longT ns us).1, .int .i64 (longT ns us).2.1, .bool (longT ns us).2.2]) ∧ w = w' := by
  obtain ⟨A, c, rfl⟩ := hu.form
  have hm := hu.max
  obtain ⟨tot, htot⟩ : ∃ tot, tot = longT ns us := ⟨_, rfl⟩
  rw [← htot]
  have HT : Hd (tot = longT ns us) := ⟨htot⟩
  have hroot := h.root
  have HI : Hd _ := ⟨h⟩
  clear htot h
  have hcells : 0 < us.length → ∃ b off, A = some ⟨b, off, none⟩ ∧ ∀ j, j < us.length → w.cell? ⟨b, off + j, none⟩ = some (.int .i64 (rdI us j)) := fun hp => by
    obtain ⟨b, off, h1, _, _, h2⟩ := hu.int_cell hp
    exact ⟨b, off, h1, h2⟩
  have HC : Hd _ := ⟨hcells⟩
  clear hcells
  go_enter Tryz.func135, Tryz.ntmps135
  go_wp2
  go_loopg [7, 8, 9, 17] us.length (fun g k n a i wr => ∃ (j : Nat) (k0 : Int) (n0 a0 : Nat), j ≤ us.length ∧ g + j = us.length ∧ k = .int .i64 k0 ∧ n = .int .i64 n0 ∧ a = .int .i64 a0 ∧ i = .int .i64 j ∧ a0 < ns.length ∧ lonT ns (us.drop j) a0 k0 n0 j = tot ∧ w = wr)
  case atStart => exact ⟨0, -1, 0, 0, Nat.zero_le _, rfl, rfl, rfl, rfl, rfl, hroot, HT.out.symm, rfl⟩
  case round =>
    obtain ⟨j, k0, n0, a0, hj, hgj, rfl, rfl, rfl, rfl, ha, hl, rfl⟩ := hrel
    have HL : Hd (lonT ns (us.drop j) a0 k0 n0 j = tot) := ⟨hl⟩
    clear hl
    by_cases hlt : j < us.length
    · obtain ⟨b, off, rfl, hcell⟩ := HC.out (by omega)
      have hc := hcell j hlt
      clear hcell
      have hdr : us.drop j = rdI us j :: us.drop (j + 1) := by
        rw [List.drop_eq_getElem_cons hlt]; simp [rdI, List.getD_eq_getElem?_getD, hlt]
      obtain ⟨u, huu⟩ : ∃ u, u = rdI us j := ⟨_, rfl⟩
      rw [← huu] at hc hdr
      have HD : Hd (us.drop j = u :: us.drop (j + 1)) := ⟨hdr⟩
      clear hdr huu
      have hst := stepT_lt HI.out.kid HI.out.bro a0 u ha
      obtain ⟨s, hs⟩ : ∃ s, s = stepT ns a0 u := ⟨_, rfl⟩
      have HS : Hd (s = stepT ns a0 u) := ⟨hs⟩
      have HStep : Hd _ := ⟨trie_Step HI.out a0 u ha⟩
      rw [← hs] at hst HStep
      clear hs
      by_cases hz : s = 0
      · subst hz
        go_wp2_with (go_at_call 128; refine HStep.out.mono ?_; rintro e w' ⟨rfl, rfl⟩)
        go_ret3
        go_light
        have := HL.out
        rw [HD.out, lonT, if_pos HS.out.symm] at this
        subst this
        exact ⟨rfl, rfl⟩
      · have hz1 : 0 < s := by omega
        have HRule : Hd _ := ⟨trie_Rule HI.out s hst⟩
        obtain ⟨r, hr⟩ : ∃ r, r = (nd ns s).rule := ⟨_, rfl⟩
        have HR : Hd (r = (nd ns s).rule) := ⟨hr⟩
        rw [← hr] at HRule
        clear hr
        by_cases hrr : 0 ≤ r
        · go_wp2_with (first
            | (go_at_call 128; refine HStep.out.mono ?_; rintro e w' ⟨rfl, rfl⟩)
            | (go_at_call 150; refine HRule.out.mono ?_; rintro e w' ⟨rfl, rfl⟩))
          go_roundg (gk - 1)
          case measure => omega
          case rel =>
            go_light
            refine ⟨j + 1, r, j + 1, s, by omega, by omega, rfl, by go_num, rfl, by go_num, hst, ?_, rfl⟩
            have := HL.out
            rw [HD.out, lonT, ← HS.out, if_neg hz, ← HR.out, if_pos hrr] at this
            exact this
        · have hrr' : decide (0 ≤ r) = false := by simpa using hrr
          go_wp2_with (first
            | (go_at_call 128; refine HStep.out.mono ?_; rintro e w' ⟨rfl, rfl⟩)
            | (go_at_call 150; refine HRule.out.mono ?_; rintro e w' ⟨rfl, rfl⟩))
          go_roundg (gk - 1)
          case measure => omega
          case rel =>
            go_light
            refine ⟨j + 1, k0, n0, s, by omega, by omega, rfl, by go_num, rfl, by go_num, hst, ?_, rfl⟩
            have := HL.out
            rw [HD.out, lonT, ← HS.out, if_neg hz, ← HR.out, if_neg (by omega)] at this
            exact this
    · have HLeaf : Hd _ := ⟨trie_Leaf HI.out a0 ha⟩
      go_wp2_with (go_at_call 151; refine HLeaf.out.mono ?_; rintro e w' ⟨rfl, rfl⟩)
      go_ret3
      go_light
      have := HL.out
      rw [List.drop_of_length_le (by omega), lonT] at this
      subst this
      refine ⟨ibbret ⟨rfl, rfl, ?_⟩, rfl⟩
      by_cases hk : (nd ns a0).kid = 0
      · simp [hk]
      · simp [hk]; omega
end Go.Proofs.YtebgjabalnffdaaGreatDoor
