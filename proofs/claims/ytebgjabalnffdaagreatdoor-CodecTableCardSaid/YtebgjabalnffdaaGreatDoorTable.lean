/- table.Of, and what a table is in memory; Joins, Join. -/
import Derived.Test.YtebgjabalnffdaaGreatDoorTrieOf
set_option linter.unusedVariables false
set_option linter.unusedSimpArgs false
set_option maxRecDepth 100000
namespace Go.Proofs.YtebgjabalnffdaaGreatDoor
open Go.RowKit

theorem IsTrie.upd {w w' : World} {t : Nat} {F S : Nat → Prop} {ns : List Nd} {outs : List (List Int)} (h : IsTrie w t F ns outs) (hu : Upd S w w') (hf : ∀ k, F k → ¬ S k) : IsTrie w' t F ns outs := by
  obtain ⟨⟨vn, vr, rs, h0, h1, hn, hr, ho, ht⟩, a, b, c, d⟩ := h
  exact ⟨⟨vn, vr, rs, hu.cell h0 (hf t ht), hu.cell h1 (hf t ht), hn.upd hu hf, hr.upd hu hf, ho, ht⟩, a, b, c, d⟩
theorem IsTrie.mono {w : World} {t : Nat} {F F' : Nat → Prop} {ns : List Nd} {outs : List (List Int)} (h : IsTrie w t F ns outs) (hf : ∀ k, F k → F' k) : IsTrie w t F' ns outs := by
  obtain ⟨⟨vn, vr, rs, h0, h1, hn, hr, ho, ht⟩, a, b, c, d⟩ := h
  exact ⟨⟨vn, vr, rs, h0, h1, hn.mono hf, hr.mono hf, ho, hf t ht⟩, a, b, c, d⟩

theorem IsTrie.bound {w : World} {t : Nat} {F : Nat → Prop} {ns : List Nd} {outs : List (List Int)} (h : IsTrie w t F ns outs) : IsTrie w t (fun k => F k ∧ k < w.heap.size) ns outs := by
  obtain ⟨⟨vn, vr, rs, h0, h1, hn, hr, ho, ht⟩, a, b, c, d⟩ := h
  exact ⟨⟨vn, vr, rs, h0, h1, hn.bound, hr.bound, ho, ht, World.block_lt_of_cell? w ⟨t, 0, none⟩ h0⟩, a, b, c, d⟩

/-- Rules that are right. -/
structure ROk (rs : List Rule) : Prop where
  len : rs.length ≤ 512
  pos : 0 < rs.length
  chk : ∀ k, k < rs.length → chkAt rs k = true
  sides : ∀ r ∈ rs, (0 < r.1.length ∧ r.1.length ≤ 8) ∧ (0 < r.2.length ∧ r.2.length ≤ 8)
structure TOk (rs : List Rule) : Prop where
  read : ROk rs
  write : ROk (turnR rs)
  closed : ∀ r ∈ rs, ∀ n, 0 < n → n < r.1.length → closedAt rs r n = true

/-- A trie of rules. -/
def IsTr (w : World) (t : Nat) (F : Nat → Prop) (rs : List Rule) : Prop := IsTrie w t F (trieN rs) (rs.map (·.2))

structure IsTable (w : World) (tb : Nat) (F : Nat → Prop) (rs : List Rule) : Prop where
  mem : ∃ tr tw, w.cell? ⟨tb, 0, none⟩ = some (.int .i64 (longR rs)) ∧ w.cell? ⟨tb, 1, none⟩ = some (.int .i64 (longR (turnR rs))) ∧ w.cell? ⟨tb, 2, none⟩ = some (.pointer (some ⟨tr, 0, none⟩)) ∧
    w.cell? ⟨tb, 3, none⟩ = some (.pointer (some ⟨tw, 0, none⟩)) ∧ IsTr w tr F rs ∧ IsTr w tw F (turnR rs) ∧ F tb
theorem IsTable.upd {w w' : World} {t : Nat} {F S : Nat → Prop} {rs : List Rule} (h : IsTable w t F rs) (hu : Upd S w w') (hf : ∀ k, F k → ¬ S k) : IsTable w' t F rs := by
  obtain ⟨tr, tw, h0, h1, h2, h3, h4, h5, h6⟩ := h.mem
  exact ⟨tr, tw, hu.cell h0 (hf t h6), hu.cell h1 (hf t h6), hu.cell h2 (hf t h6), hu.cell h3 (hf t h6), IsTrie.upd h4 hu hf, IsTrie.upd h5 hu hf, h6⟩
theorem IsTable.mono {w : World} {t : Nat} {F F' : Nat → Prop} {rs : List Rule} (h : IsTable w t F rs) (hf : ∀ k, F k → F' k) : IsTable w t F' rs := by
  obtain ⟨tr, tw, h0, h1, h2, h3, h4, h5, h6⟩ := h.mem
  exact ⟨tr, tw, h0, h1, h2, h3, IsTrie.mono h4 hf, IsTrie.mono h5 hf, hf t h6⟩

set_option maxHeartbeats 1000000 in
theorem table_Of {F : Nat → Prop} {w : World} {v : Value} {rs : List Rule} (hr : Rd eRule F w v rs) (hok : TOk rs) :
    Calls Tryz.prog 60 #[v] w fun e w' => ∃ tb, e = .returned (.tuple #[.pointer (some ⟨tb, 0, none⟩), .int .i64 0]) ∧ IsTable w' tb (fun k => w.heap.size ≤ k) rs ∧ Upd No w w' := by
  obtain ⟨A, n, c, rfl⟩ : ∃ A n c, v = .slice A n c := by obtain ⟨A, c, rfl⟩ := hr.form; exact ⟨_, _, _, rfl⟩
  have HOK : Hd (TOk rs) := ⟨hok⟩
  have h1 := trie_Of hr hok.read.len hok.read.pos hok.read.chk (fun r hr => ⟨(hok.read.sides r hr).1.2, (hok.read.sides r hr).2.2⟩)
  have H1 : Hd _ := ⟨h1⟩
  clear h1 hok
  go_enter Tryz.func60, Tryz.ntmps60
  go_wp2_with (first
    | (go_at_call 90; ((with_reducible refine H1.out.mono ?_)); rintro e w1 ⟨tr, rfl, ht1, hu1⟩)
    | (go_at_call 91; ((with_reducible refine (table_closed (hr.upd hu1 (fun _ _ h => h)) HOK.out.read.len (fun r hr => (HOK.out.read.sides r hr).1) HOK.out.closed).mono ?_)); rintro e w2 ⟨rfl, hu2⟩; have hr2 := (hr.upd hu1 (fun _ _ h => h)).upd hu2 (fun _ _ h => h))
    | (go_at_call 30; ((with_reducible refine (rule_Turn hr2 HOK.out.read.len (fun r hr => ⟨(HOK.out.read.sides r hr).1.2, (HOK.out.read.sides r hr).2.2⟩)).mono ?_)); rintro e w3 ⟨A3, n3, c3, rfl, hown3, hu3⟩; have hr3 := hr2.upd hu3 (fun _ _ h => h))
    | (go_at_call 29; ((with_reducible refine (rule_Longest hr3).mono ?_)); rintro e w4 ⟨rfl, hu4⟩; have hown4 := hown3.upd hu4 (fun _ _ h => h))
    | (go_at_call 29; ((with_reducible refine (rule_Longest hown4.rd).mono ?_)); rintro e w5 ⟨rfl, hu5⟩; have hown5 := (hown4.upd hu5 (fun _ _ h => h)).upd (S := No) ((Upd.refl _ _).alloc (.cells #[.int .i64 (longR rs), .int .i64 (longR (turnR rs)), .pointer (some ⟨tr, 0, none⟩), .pointer none] 118)) (fun _ _ h => h))
    | (go_at_call 90; ((with_reducible refine (trie_Of hown5.rd HOK.out.write.len HOK.out.write.pos HOK.out.write.chk (fun r hr => ⟨(HOK.out.write.sides r hr).1.2, (HOK.out.write.sides r hr).2.2⟩)).mono ?_)); rintro e w6 ⟨tw, rfl, ht6, hu6⟩; obtain ⟨hc6, hf6⟩ := hu6.both (B := w5.heap.size + 1) (by simp) (fun _ _ h => h); have hz6 : w5.heap.size < w6.heap.size := by (have := hu6.size; simp at this; omega)))
  go_ret2
  go_light
  have u5 : Upd No w w5 := (((hu1.trans hu2 (fun _ _ h => h) (fun _ _ h => h)).trans hu3 (fun _ _ h => h) (fun _ _ h => h)).trans hu4 (fun _ _ h => h) (fun _ _ h => h)).trans hu5 (fun _ _ h => h) (fun _ _ h => h)
  have u15 : Upd No w1 w5 := ((hu2.trans hu3 (fun _ _ h => h) (fun _ _ h => h)).trans hu4 (fun _ _ h => h) (fun _ _ h => h)).trans hu5 (fun _ _ h => h) (fun _ _ h => h)
  have u16 : Upd No w1 w6 := (u15.alloc _).trans hu6 (fun _ _ h => h) (fun _ _ h => h)
  have u6 : Upd No w w6 := (u5.alloc _).trans hu6 (fun _ _ h => h) (fun _ _ h => h)
  have hs5 := u5.size
  have h15 := u15.size
  have us : Upd (fun k => k = w5.heap.size) w6 (w6.setCell ⟨w5.heap.size, 3, none⟩ (.pointer (some ⟨tw, 0, none⟩))) := Upd.setCell (S := fun k => k = w5.heap.size) (p := ⟨w5.heap.size, 3, none⟩) (Upd.refl _ _) (fun _ => rfl) _
  have hlt1 : ∀ k, (w.heap.size ≤ k ∧ k < w1.heap.size) → ¬ k = w5.heap.size := fun k hk e => by omega
  refine ⟨w5.heap.size, rfl, ⟨tr, tw, ?_, ?_, ?_, ?_, ?_, ?_, hs5⟩, ?_⟩
  · simp [go_sem, cell_set, hc6]
  · simp [go_sem, cell_set, hc6]
  · simp [go_sem, cell_set, hc6]
  · simp [go_sem, cell_set, hc6]
  · refine IsTrie.mono (F := fun k => w.heap.size ≤ k ∧ k < w1.heap.size) ?_ (fun k hk => hk.1)
    exact IsTrie.upd (IsTrie.upd (IsTrie.bound ht1) u16 (fun _ _ h => h)) us hlt1
  · refine IsTrie.mono (F := fun k => w5.heap.size + 1 ≤ k) ?_ (fun k hk => by omega)
    exact IsTrie.upd (by simpa [IsTr] using ht6) us (fun k hk e => by omega)
  · exact u6.setCell (fun h => by have h' : w5.heap.size < _ := h; omega) _
end Go.Proofs.YtebgjabalnffdaaGreatDoor
