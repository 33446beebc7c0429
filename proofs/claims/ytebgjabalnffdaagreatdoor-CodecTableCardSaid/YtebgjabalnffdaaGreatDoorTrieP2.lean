/- Lemmas for trie.Of's walk. -/
import Derived.Test.YtebgjabalnffdaaGreatDoorTrieP
set_option linter.unusedVariables false
set_option linter.unusedSimpArgs false
set_option maxRecDepth 100000
namespace Go.Proofs.YtebgjabalnffdaaGreatDoor
open Go.RowKit

/-- A trie in the making. -/
def TMid (B : Nat) (w : World) (tb : Nat) (vn vr : Value) (ns : List Nd) (outs : List (List Int)) : Prop :=
  w.cell? ⟨tb, 0, none⟩ = some vn ∧ w.cell? ⟨tb, 1, none⟩ = some vr ∧ w.frozen? ⟨tb, 0, none⟩ = false ∧ w.frozen? ⟨tb, 1, none⟩ = false ∧ Own eNd 213 Any B w vn ns ∧
    Own eRule 115 (fun k => B ≤ k ∧ k ≠ tb ∧ some k ≠ vn.ownBlock) B w vr (outs.map fun o => ([], o)) ∧ B ≤ tb ∧ some tb ≠ vn.ownBlock

theorem TMid.upd {B : Nat} {w w' : World} {tb : Nat} {vn vr : Value} {ns : List Nd} {outs : List (List Int)} (h : TMid B w tb vn vr ns outs) (hu : Upd No w w') : TMid B w' tb vn vr ns outs := by
  obtain ⟨h0, h1, f0, f1, hn, hr, hB, hne⟩ := h
  have hb : tb < w.heap.size := World.block_lt_of_cell? w ⟨tb, 0, none⟩ h0
  exact ⟨hu.cell h0 (fun h => h), hu.cell h1 (fun h => h), (hu.frozen (p := ⟨tb, 0, none⟩) hb (fun h => h)).trans f0, (hu.frozen (p := ⟨tb, 1, none⟩) hb (fun h => h)).trans f1, hn.upd hu (fun _ _ h => h), hr.upd hu (fun _ _ h => h), hB, hne⟩

theorem TMid.isTrie {B : Nat} {w : World} {tb : Nat} {vn vr : Value} {ns : List Nd} {outs : List (List Int)} (h : TMid B w tb vn vr ns outs) (hi : TInv ns) (hs : ns.length ≤ 100000) : IsTrie w tb Any ns outs := by
  obtain ⟨h0, h1, f0, f1, hn, hr, hB, hne⟩ := h
  exact ⟨⟨vn, vr, _, h0, h1, hn.rd, hr.rd.mono (fun _ _ => trivial), by simp [Function.comp_def], trivial⟩, hi.kid, hi.bro, hs, hi.root⟩

theorem of_hor {B : Nat} {wr w5 : World} {tb : Nat} {va vr : Value} {o : Obj} {L : List Rule} (hor : Own eRule 115 (fun k => B ≤ k ∧ k ≠ tb ∧ some k ≠ va.ownBlock) B wr vr L)
    (h5 : Upd (fun b => some b = Value.ownBlock (.slice none 0 0)) (wr.alloc o).drew w5) : Own eRule 115 (fun k => B ≤ k ∧ k ≠ tb ∧ some k ≠ va.ownBlock) B w5 vr L :=
  (hor.upd (S := No) ((Upd.refl _ _).alloc o).drew (fun _ _ h => h)).upd h5 (fun _ _ h => by simp [Value.ownBlock] at h)

theorem of_new {B M : Nat} {w5 : World} {tb : Nat} {va vr : Value} {A5 : Option Addr} {n5 c5 : Nat} {out : List Int} (h : Own (eI .i64) 3 (fun k => M + 1 ≤ k) 0 w5 (.slice A5 n5 c5) ([] ++ out))
    (hfar : ∀ k, M ≤ k → B ≤ k ∧ k ≠ tb ∧ some k ≠ va.ownBlock ∧ some k ≠ vr.ownBlock) :
    ∀ (k : Nat) (y : Rule) (cs : List Value), [(([], out) : Rule)][k]? = some y → [[Value.slice none 0 0, .slice A5 n5 c5]][k]? = some cs → eRule.rep (fun b => (B ≤ b ∧ b ≠ tb ∧ some b ≠ va.ownBlock) ∧ some b ≠ vr.ownBlock) w5 y cs := by
  intro k y cs hy hc
  cases k with
  | succ k => simp at hy
  | zero =>
    simp at hy hc; subst hy; subst hc
    exact eRule_mk (x := ([], out)) (Rd.nil _ _ _) (h.rd.mono (fun k hk => by have := hfar k (by omega); exact ⟨⟨this.1, this.2.1, this.2.2.1⟩, this.2.2.2⟩))

theorem of_meet {w wr w5 w6 : World} {tb : Nat} {An Ar Ai Ao A6 : Option Addr} {nn cn nr cr ni no n6 c6 l1 l2 : Nat} {ns : List Nd} {outs : List (List Int)} {x2 : List Int}
    (hfar : ∀ k, wr.heap.size ≤ k → w.heap.size ≤ k ∧ k ≠ tb ∧ some k ≠ Value.ownBlock (.slice An nn cn) ∧ some k ≠ Value.ownBlock (.slice Ar nr cr)) (hup : Upd No w wr) (hB : w.heap.size ≤ tb)
    (t0 : wr.cell? ⟨tb, 0, none⟩ = some (.slice An nn cn)) (t1 : wr.cell? ⟨tb, 1, none⟩ = some (.slice Ar nr cr)) (f0 : wr.frozen? ⟨tb, 0, none⟩ = false) (f1 : wr.frozen? ⟨tb, 1, none⟩ = false)
    (hon : Own eNd 213 Any w.heap.size wr (.slice An nn cn) ns) (hne : some tb ≠ Value.ownBlock (.slice An nn cn))
    (hor : Own eRule 115 (fun k => w.heap.size ≤ k ∧ k ≠ tb ∧ some k ≠ Value.ownBlock (.slice An nn cn)) w.heap.size wr (.slice Ar nr cr) (outs.map fun o => ([], o)))
    (hup5 : Upd (fun b => some b = Value.ownBlock (.slice none 0 0)) (wr.alloc (.cells #[.slice Ai l1 ni, .slice Ao l2 no] 115)).drew w5)
    (hup6 : Upd (fun b => some b = Value.ownBlock (.slice Ar nr cr)) w5 w6)
    (hown6 : Own eRule 115 (fun k => w.heap.size ≤ k ∧ k ≠ tb ∧ some k ≠ Value.ownBlock (.slice An nn cn)) w.heap.size w6 (.slice A6 n6 c6) ((outs.map fun o => (([], o) : Rule)) ++ [([], x2)])) :
    ∃ (A6' : Option Addr) (n6' c6' : Nat), TMid w.heap.size (w6.setCell ⟨tb, 1, none⟩ (.slice A6 n6 c6)) tb (.slice An nn cn) (.slice A6' n6' c6') ns (outs ++ [x2]) ∧ Upd No w (w6.setCell ⟨tb, 1, none⟩ (.slice A6 n6 c6)) ∧
      (w6.setCell ⟨tb, 1, none⟩ (.slice A6 n6 c6)).cell? ⟨wr.heap.size, 0, none⟩ = some (.slice Ai l1 ni) ∧ wr.heap.size < (w6.setCell ⟨tb, 1, none⟩ (.slice A6 n6 c6)).heap.size := by
  have htb : tb < wr.heap.size := World.block_lt_of_cell? wr ⟨tb, 0, none⟩ t0
  have u1 : Upd No wr (wr.alloc (.cells #[.slice Ai l1 ni, .slice Ao l2 no] 115)).drew := ((Upd.refl _ _).alloc _).drew
  have u5 : Upd No wr w5 := u1.trans hup5 (fun _ _ h => h) (fun _ _ h => by simp [Value.ownBlock] at h)
  have h5 := u5.size
  have h55 : wr.heap.size + 1 ≤ w5.heap.size := by have := hup5.size; simpa using this
  have h6 := hup6.size
  have hrne : ¬ some tb = Value.ownBlock (.slice Ar nr cr) := fun h => (hor.1 tb h.symm).2.1 rfl
  have us : Upd (fun k => k = tb) w6 (w6.setCell ⟨tb, 1, none⟩ (.slice A6 n6 c6)) := Upd.setCell (S := fun k => k = tb) (p := ⟨tb, 1, none⟩) (Upd.refl _ _) (fun _ => rfl) _
  have c0 : w6.cell? ⟨tb, 0, none⟩ = some (.slice An nn cn) := hup6.cell (u5.cell t0 (fun h => h)) hrne
  have c1 : w6.cell? ⟨tb, 1, none⟩ = some (.slice Ar nr cr) := hup6.cell (u5.cell t1 (fun h => h)) hrne
  have g0 : w6.frozen? ⟨tb, 0, none⟩ = false := (hup6.frozen (p := ⟨tb, 0, none⟩) (by show tb < _; omega) hrne).trans ((u5.frozen (p := ⟨tb, 0, none⟩) htb (fun h => h)).trans f0)
  have g1 : w6.frozen? ⟨tb, 1, none⟩ = false := (hup6.frozen (p := ⟨tb, 1, none⟩) (by show tb < _; omega) hrne).trans ((u5.frozen (p := ⟨tb, 1, none⟩) htb (fun h => h)).trans f1)
  have hon5 := hon.upd u5 (fun _ _ h => h)
  have hanr : ∀ k, Value.ownBlock (.slice An nn cn) = some k → ¬ some k = Value.ownBlock (.slice Ar nr cr) := fun k hk e => (hor.1 k e.symm).2.2 hk.symm
  refine ⟨A6, n6, c6, ⟨by simp [cell_set, c0], by simp [cell_set, c1], by simpa using g0, by simpa using g1, ?_, ?_, hB, hne⟩, ?_, ?_, ?_⟩
  · exact (hon5.keep hup6 hanr).keep us (fun k hk e => hne (by rw [hk, e]))
  · have := hown6.upd us (fun k hk e => hk.2.1 e)
    simpa using this
  · have u6 : Upd No w w6 := (hup.trans u5 (fun _ _ h => h) (fun _ _ h => h)).trans hup6 (fun _ _ h => h) (fun i hi e => by have := (hor.1 i e.symm).1; omega)
    exact u6.setCell (fun h => by have h' : tb < _ := h; omega) _
  · rw [cell_set, if_neg (by omega)]
    refine hup6.cell (hup5.cell (by simp [go_sem]) (fun h => by simp [Value.ownBlock] at h)) (fun h => ?_)
    have h2 := (hor.lt _ h.symm).2
    exact absurd h2 (Nat.lt_irrefl _)
  · simp [World.setCell]; omega


theorem of_meet2 {B : Nat} {wr w7 : World} {tb gn : Nat} {A7 : Option Addr} {nn cn n7 c7 : Nat} {vr : Value} {ns ms : List Nd} {outs : List (List Int)}
    (h : TMid B wr tb (.slice (some ⟨gn, 0, none⟩) nn cn) vr ns outs) (hup7 : Upd (fun b => some b = Value.ownBlock (.slice (some ⟨gn, 0, none⟩) nn cn)) wr.drew w7)
    (hat : Value.ownBlock (.slice A7 n7 c7) = Value.ownBlock (.slice (some ⟨gn, 0, none⟩) nn cn) ∨ ∃ b, Value.ownBlock (.slice A7 n7 c7) = some b ∧ wr.drew.heap.size ≤ b)
    (hown7 : Own eNd 213 Any B w7 (.slice A7 n7 c7) ms) :
    TMid B (w7.setCell ⟨tb, 0, none⟩ (.slice A7 n7 c7)) tb (.slice A7 n7 c7) vr ms outs ∧ (∀ w, w.heap.size ≤ B → Upd No w wr → Upd No w (w7.setCell ⟨tb, 0, none⟩ (.slice A7 n7 c7))) := by
  obtain ⟨t0, t1, f0, f1, hon, hor, hB, hne⟩ := h
  have htb : tb < wr.heap.size := World.block_lt_of_cell? wr ⟨tb, 0, none⟩ t0
  have hup : Upd (fun b => some b = Value.ownBlock (.slice (some ⟨gn, 0, none⟩) nn cn)) wr w7 := ((Upd.refl No wr).drew).trans hup7 (fun _ _ h => h.elim) (fun _ _ h => h)
  have us : Upd (fun k => k = tb) w7 (w7.setCell ⟨tb, 0, none⟩ (.slice A7 n7 c7)) := Upd.setCell (S := fun k => k = tb) (p := ⟨tb, 0, none⟩) (Upd.refl _ _) (fun _ => rfl) _
  have c0 := hup.cell t0 hne
  have c1 := hup.cell t1 hne
  have g0 : w7.frozen? ⟨tb, 0, none⟩ = false := (hup.frozen (p := ⟨tb, 0, none⟩) htb hne).trans f0
  have g1 : w7.frozen? ⟨tb, 1, none⟩ = false := (hup.frozen (p := ⟨tb, 1, none⟩) htb hne).trans f1
  have h7 : wr.heap.size ≤ w7.heap.size := hup.size
  have hne7 : some tb ≠ Value.ownBlock (.slice A7 n7 c7) := fun e => by
    rcases hat with hat | ⟨b, hb, hb'⟩
    · rw [hat] at e; exact hne e
    · rw [hb] at e; injection e with e; have h' : wr.heap.size ≤ b := hb'; omega
  refine ⟨⟨by simp [cell_set, c0], by simp [cell_set, c1], by simpa using g0, by simpa using g1, hown7.keep us (fun k hk e => hne7 (by rw [hk, e])), ?_, hB, hne7⟩, fun w hw hu => ?_⟩
  · have h1 := (hor.bound.upd hup (fun k hk e => hk.1.2.2 e)).mono (F' := fun k => B ≤ k ∧ k ≠ tb ∧ some k ≠ Value.ownBlock (.slice A7 n7 c7)) (fun k hk => ⟨hk.1.1, hk.1.2.1, fun e => ?_⟩)
    · exact h1.upd us (fun k hk e => hk.2.1 e)
    · rcases hat with hat | ⟨b, hb, hb'⟩
      · rw [hat] at e; exact hk.1.2.2 e
      · rw [hb] at e; injection e with e; have h' : wr.heap.size ≤ b := hb'; have := hk.2; omega
  · exact (hu.trans hup (fun _ _ h => h) (fun i hi e => by have := (hon.lt i e.symm).1; omega)).setCell (fun h => by have h' : tb < _ := h; omega) _

theorem of_store {B : Nat} {w : World} {tb gn : Nat} {nn cn : Nat} {vr : Value} {ns : List Nd} {outs : List (List Int)} (h : TMid B w tb (.slice (some ⟨gn, 0, none⟩) nn cn) vr ns outs)
    (a : Nat) (x y : Nd) (hx : ns[a]? = some x) (j : Nat) (hj : j < 4) (u : Value) (hy : [Value.int .i64 y.unit, .int .i64 y.kid, .int .i64 y.bro, .int .i64 y.rule] = [Value.int .i64 x.unit, .int .i64 x.kid, .int .i64 x.bro, .int .i64 x.rule].set j u) :
    TMid B (w.setCell ⟨gn, a * 4 + j, none⟩ u) tb (.slice (some ⟨gn, 0, none⟩) nn cn) vr (ns.set a y) outs ∧ (∀ w0, w0.heap.size ≤ B → Upd No w0 w → Upd No w0 (w.setCell ⟨gn, a * 4 + j, none⟩ u)) := by
  obtain ⟨t0, t1, f0, f1, hon, hor, hB, hne⟩ := h
  have hg : gn ≠ tb := fun e => hne (by simp [Value.ownBlock, e])
  have us : Upd (fun k => k = gn) w (w.setCell ⟨gn, a * 4 + j, none⟩ u) := Upd.setCell (S := fun k => k = gn) (p := ⟨gn, a * 4 + j, none⟩) (Upd.refl _ _) (fun _ => rfl) _
  refine ⟨⟨?_, ?_, by simpa using f0, by simpa using f1, hon.storeFlat a x y hx j hj u hy, hor.upd us (fun k hk e => hk.2.2 (by simp [Value.ownBlock, e])), hB, hne⟩, fun w0 h0 hu => ?_⟩
  · rw [cell_set, if_neg (fun e => hg e.1)]; exact t0
  · rw [cell_set, if_neg (fun e => hg e.1)]; exact t1
  · exact hu.setCell (fun h => by have h' : gn < _ := h; have := (hon.lt gn rfl).1; omega) _

theorem foldl_take_succ {ns0 ns1 : List Nd} {a : Nat} {us : List Int} {j : Nat} (hj : j < us.length) (h : (ns1, a) = (us.take j).foldl insU (ns0, 0)) : (us.take (j + 1)).foldl insU (ns0, 0) = insU (ns1, a) (rdI us j) := by
  rw [List.take_succ_eq_append_getElem hj, List.foldl_append, ← h]
  simp [rdI, List.getD_eq_getElem?_getD, hj]

theorem TMid.done {B : Nat} {w : World} {tb : Nat} {vn vr : Value} {ns : List Nd} {outs : List (List Int)} (h : TMid B w tb vn vr ns outs) (hi : TInv ns) (hs : ns.length ≤ 100000) : IsTrie w tb (fun k => B ≤ k) ns outs := by
  obtain ⟨h0, h1, f0, f1, hn, hr, hB, hne⟩ := h
  have hn' : Own eNd 213 (fun k => B ≤ k) B w vn ns := hn.foot (fun k hk => ⟨(hn.lt k hk).1, (hn.lt k hk).1⟩)
  exact ⟨⟨vn, vr, _, h0, h1, hn'.rd, hr.rd.mono (fun _ h => h.1), by simp [Function.comp_def], hB⟩, hi.kid, hi.bro, hs, hi.root⟩
end Go.Proofs.YtebgjabalnffdaaGreatDoor
