/- table's Read, Write, Joins, Join; rewrite.All. -/
import Derived.Test.YtebgjabalnffdaaGreatDoorMatB
set_option linter.unusedVariables false
set_option linter.unusedSimpArgs false
set_option maxRecDepth 100000
namespace Go.Proofs.YtebgjabalnffdaaGreatDoor
open Go.RowKit

theorem table_Read {w : World} {tb : Nat} {F : Nat → Prop} {rs : List Rule} (h : IsTable w tb F rs) :
    Calls Tryz.prog 85 #[.pointer (some ⟨tb, 0, none⟩)] w fun e w' => ∃ tr, e = .returned (.pointer (some ⟨tr, 0, none⟩)) ∧ IsTr w tr F rs ∧ w = w' := by
  obtain ⟨tr, tw, h0, h1, h2, h3, h4, h5, h6⟩ := h.mem
  have H4 : Hd _ := ⟨h4⟩
  clear h h4 h5
  go_enter Tryz.func85, Tryz.ntmps85
  go_wp2
  go_ret
  exact ⟨tr, rfl, H4.out, rfl⟩
theorem table_Write {w : World} {tb : Nat} {F : Nat → Prop} {rs : List Rule} (h : IsTable w tb F rs) :
    Calls Tryz.prog 89 #[.pointer (some ⟨tb, 0, none⟩)] w fun e w' => ∃ tr, e = .returned (.pointer (some ⟨tr, 0, none⟩)) ∧ IsTr w tr F (turnR rs) ∧ w = w' := by
  obtain ⟨tr, tw, h0, h1, h2, h3, h4, h5, h6⟩ := h.mem
  have H5 : Hd _ := ⟨h5⟩
  clear h h4 h5
  go_enter Tryz.func89, Tryz.ntmps89
  go_wp2
  go_ret
  exact ⟨tw, rfl, H5.out, rfl⟩
theorem table_Longest {w : World} {tb : Nat} {F : Nat → Prop} {rs : List Rule} (h : IsTable w tb F rs) :
    Calls Tryz.prog 28 #[.pointer (some ⟨tb, 0, none⟩)] w fun e w' => e = .returned (.tuple #[.int .i64 (longR rs), .int .i64 (longR (turnR rs))]) ∧ Upd No w w' := by
  obtain ⟨tr, tw, h0, h1, h2, h3, h4, h5, h6⟩ := h.mem
  clear h h4 h5
  go_enter Tryz.func28, Tryz.ntmps28
  go_wp2
  go_quiet (fail)
  go_wp2
  go_ret2
  exact ⟨rfl, (Upd.refl _ _).drewN _⟩

def joinsF (rs : List Rule) (ahead us : List Int) : Bool := decide (0 < ahead.length) && decide (ahead.length < (longT (trieN rs) (ahead ++ us)).2.1)

set_option maxHeartbeats 4000000 in
theorem table_Joins {w : World} {tb : Nat} {F F' F'' : Nat → Prop} {rs : List Rule} {v u : Value} {ahead us : List Int} (h : IsTable w tb F rs) (hv : Rd (eI .i64) F' w v ahead) (hu : Rd (eI .i64) F'' w u us) (hl : ahead.length ≤ 1000) (hl' : us.length ≤ 1000) :
    Calls Tryz.prog 210 #[.pointer (some ⟨tb, 0, none⟩), v, u] w fun e w' => e = .returned (.bool (joinsF rs ahead us)) ∧ Upd No w w' := by
  obtain ⟨tr, tw, h0, h1, h2, h3, h4, h5, h6⟩ := h.mem
  obtain ⟨A, c, rfl⟩ := hv.form
  obtain ⟨A', c', rfl⟩ := hu.form
  by_cases hz : ahead.length = 0
  · have hz1 : ((ahead.length : Int) == 0) = true := by simp [hz]
    go_enter Tryz.func210, Tryz.ntmps210
    go_wp2
    go_ret
    exact ⟨bret (by simp [joinsF, hz]), Upd.refl _ _⟩
  · have hz1 : ((ahead.length : Int) == 0) = false := by simpa using hz
    have HZ : Hd (¬ ahead.length = 0) := ⟨hz⟩
    clear hz
    go_enter Tryz.func210, Tryz.ntmps210
    go_wp2
    go_upto_region 3 with fail
    have hd : Upd No w w.drew := (Upd.refl _ _).drew
    go_region_held3 (fun w' => w'.cell? ⟨tb, 2, none⟩ = some (.pointer (some ⟨tr, 0, none⟩)))
      (first | exact h2 | exact hS3 | exact hS4)
      (first
        | (go_at_call 67; refine (slices_Clone (hv.upd hd (fun _ _ h => h)) (by omega)).mono ?_; rintro e w3 ⟨A3, c3, rfl, hq3, hup3⟩; have hS3 : w3.cell? ⟨tb, 2, none⟩ = some (.pointer (some ⟨tr, 0, none⟩)) := hup3.cell h2 (fun h => h))
        | ((refine step_appendRow (F := fun k => w.heap.size ≤ k) (eI .i64) F'' w.heap.size _ (.tmp 19) (.tmp 20) 34 3 (.int .i64 0) 8 rfl Tryz.underlying34 info_int rfl (by decide) (.slice A3 ahead.length c3) (.slice A' us.length c') ahead us (by rfl) (by rfl) (hq3.mono (fun k hk => hk)) ((hu.upd hd (fun _ _ h => h)).upd hup3 (fun _ _ h => h)) (fun _ _ h => h) (fun k hk => Nat.le_trans hup3.size hk) hup3.size (by omega) (by decide) ?_; intro A4 n4 c4 w4 hown4 hup4 _ _; have hS4 : w4.cell? ⟨tb, 2, none⟩ = some (.pointer (some ⟨tr, 0, none⟩)) := hup4.cell hS3 (fun e => Nat.lt_irrefl _ (Nat.lt_of_lt_of_le (World.block_lt_of_cell? w ⟨tb, 2, none⟩ h2) (hq3.lt _ e.symm).1))))
        | (go_at_call 135; refine (trie_Longest (IsTrie.upd (IsTrie.upd (IsTrie.upd (IsTrie.bound h4) hd (fun _ _ h => h)) hup3 (fun _ _ h => h)) hup4 (fun k hk e => Nat.lt_irrefl _ (Nat.lt_of_lt_of_le hk.2 (hq3.lt _ e.symm).1))) hown4.rd).mono ?_; rintro e w5 ⟨rfl, rfl⟩))
    all_goals
      go_wp2
      go_ret
      go_light
      refine ⟨bret (by simp [joinsF]; intro _; have := HZ.out; omega), ?_⟩
      exact ((hd.trans hup3 (T := No) (fun _ _ h => h) (fun _ _ h => h)).trans hup4 (T := No) (fun _ _ h => h) (fun i hi e => Nat.lt_irrefl _ (Nat.lt_of_lt_of_le hi (hq3.lt _ e.symm).1)))

def tokJ (rs : List Rule) (ahead : List Int) (x : Tok) : Tok := if x.err = 0 ∧ joinsF rs ahead x.out = true then ⟨x.pos, x.len, [], 3⟩ else x
theorem table_Join {w : World} {tb : Nat} {F F' F'' : Nat → Prop} {rs : List Rule} {v o : Value} {ahead : List Int} {x : Tok} (h : IsTable w tb F rs) (hv : Rd (eI .i64) F' w v ahead) (ho : Rd (eI .i64) F'' w o x.out) (hl : ahead.length ≤ 1000) (hl' : x.out.length ≤ 1000) :
    Calls Tryz.prog 208 #[.pointer (some ⟨tb, 0, none⟩), v, .agg #[.int .i64 x.pos, .int .i64 x.len, o, .int .i64 x.err]] w fun e w' =>
      ∃ o', e = .returned (.agg #[.int .i64 (tokJ rs ahead x).pos, .int .i64 (tokJ rs ahead x).len, o', .int .i64 (tokJ rs ahead x).err]) ∧ Rd (eI .i64) F'' w' o' (tokJ rs ahead x).out ∧ Upd No w w' := by
  obtain ⟨A, c, rfl⟩ := hv.form
  obtain ⟨A', c', rfl⟩ := ho.form
  by_cases hz : x.err = 0
  · have hz1 : (x.err == 0) = true := by simp [hz]
    have HZ : Hd (x.err = 0) := ⟨hz⟩
    clear hz
    obtain ⟨jn, hjn⟩ : ∃ jn, jn = joinsF rs ahead x.out := ⟨_, rfl⟩
    have HJ : Hd (∀ w', Upd No w w' → Calls Tryz.prog 210 #[.pointer (some ⟨tb, 0, none⟩), .slice A ahead.length c, .slice A' x.out.length c'] w' fun e w'' => e = .returned (.bool jn) ∧ Upd No w' w'') :=
      ⟨fun w' hu => by rw [hjn]; exact table_Joins (h.upd hu (fun _ _ h => h)) (hv.upd hu (fun _ _ h => h)) (ho.upd hu (fun _ _ h => h)) hl hl'⟩
    have HN : Hd (jn = joinsF rs ahead x.out) := ⟨hjn⟩
    have HO : Hd _ := ⟨ho⟩
    clear h hv ho hjn
    cases hj : jn
    · subst hj
      go_enter Tryz.func208, Tryz.ntmps208
      go_wp2_with (go_at_call 210; refine (HJ.out _ ?_).mono ?_; exact ((Upd.refl _ _).alloc _).alloc _; rintro e w1 ⟨rfl, hu1⟩; obtain ⟨hc, hf⟩ := hu1.both (B := w.heap.size + 1 + 1) (by simp) (fun _ _ h => h); have hz1 : w.heap.size + 1 + 1 ≤ w1.heap.size := (by have := hu1.size; simpa using this))
      have hu : Upd No w w1 := (((Upd.refl No _).alloc _).alloc _).trans hu1 (fun _ _ h => h) (fun _ _ h => h)
      refine bodyPost_ret (v := .agg #[.int .i64 x.pos, .int .i64 x.len, .slice A' x.out.length c', .int .i64 x.err]) (by simp [results, Tryz.results208, go_sem, cell_set, *]) rfl ?_
      have e : tokJ rs ahead x = x := by rw [tokJ, if_neg (fun e => by rw [← HN.out] at e; exact Bool.noConfusion e.2)]
      rw [e]
      refine ⟨_, rfl, HO.out.upd (S := No) ?_ (fun _ _ h => h), ?_⟩
      all_goals
        iterate 4 (refine Upd.setCell ?_ (fun h => by simp at h; omega) _)
        exact hu
    · subst hj
      go_enter Tryz.func208, Tryz.ntmps208
      go_wp2_with (go_at_call 210; refine (HJ.out _ ?_).mono ?_; exact ((Upd.refl _ _).alloc _).alloc _; rintro e w1 ⟨rfl, hu1⟩; obtain ⟨hc, hf⟩ := hu1.both (B := w.heap.size + 1 + 1) (by simp) (fun _ _ h => h); have hz1 : w.heap.size + 1 + 1 ≤ w1.heap.size := (by have := hu1.size; simpa using this))
      have hu : Upd No w w1 := (((Upd.refl No _).alloc _).alloc _).trans hu1 (fun _ _ h => h) (fun _ _ h => h)
      refine bodyPost_ret (v := .agg #[.int .i64 x.pos, .int .i64 x.len, .slice none 0 0, .int .i64 3]) (by simp [results, Tryz.results208, go_sem, cell_set, *]) rfl ?_
      have e : tokJ rs ahead x = ⟨x.pos, x.len, [], 3⟩ := by rw [tokJ, if_pos ⟨HZ.out, HN.out.symm⟩]
      rw [e]
      refine ⟨_, rfl, Rd.nil _ _ _, ?_⟩
      iterate 4 (refine Upd.setCell ?_ (fun h => by simp at h; omega) _)
      exact hu
  · have hz1 : (x.err == 0) = false := by simpa using hz
    go_enter Tryz.func208, Tryz.ntmps208
    go_wp2
    refine bodyPost_ret (v := .agg #[.int .i64 x.pos, .int .i64 x.len, .slice A' x.out.length c', .int .i64 x.err]) (by simp [results, Tryz.results208, go_sem, cell_set, *]) rfl ?_
    have e : tokJ rs ahead x = x := by rw [tokJ, if_neg (fun e => hz e.1)]
    rw [e]
    refine ⟨_, rfl, ho.upd (S := No) ?_ (fun _ _ h => h), ?_⟩
    all_goals
      first
        | exact ((Upd.refl No _).alloc _).alloc _
        | (iterate 4 (refine Upd.setCell ?_ (fun h => by simp at h; omega) _)
           exact ((Upd.refl No _).alloc _).alloc _)

end Go.Proofs.YtebgjabalnffdaaGreatDoor
