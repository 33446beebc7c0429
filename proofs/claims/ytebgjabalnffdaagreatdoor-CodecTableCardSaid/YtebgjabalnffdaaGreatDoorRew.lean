/- rewrite.one, All; Table.Decode. -/
import Derived.Test.YtebgjabalnffdaaGreatDoorTab
set_option linter.unusedVariables false
set_option linter.unusedSimpArgs false
set_option maxRecDepth 100000
namespace Go.Proofs.YtebgjabalnffdaaGreatDoor
open Go.RowKit

def Side8 (rs : List Rule) : Prop := ∀ r ∈ rs, r.1.length ≤ 8 ∧ r.2.length ≤ 8

set_option maxHeartbeats 4000000 in
theorem rewrite_one {w : World} {t : Nat} {F F' : Nat → Prop} {rs : List Rule} {v : Value} {us : List Int} (h : IsTr w t F rs) (hok : Side8 rs) (hu : Rd (eI .i64) F' w v us) (pos : Int) :
    Calls Tryz.prog 103 #[.pointer (some ⟨t, 0, none⟩), v, .int .i64 pos] w fun e w' => ∃ o, e = .returned (.agg #[.int .i64 (tokT rs pos (longT (trieN rs) us).1 (longT (trieN rs) us).2.1).pos, .int .i64 (tokT rs pos (longT (trieN rs) us).1 (longT (trieN rs) us).2.1).len, o, .int .i64 (tokT rs pos (longT (trieN rs) us).1 (longT (trieN rs) us).2.1).err]) ∧
      Rd (eI .i64) (fun k => w.heap.size ≤ k) w' o (tokT rs pos (longT (trieN rs) us).1 (longT (trieN rs) us).2.1).out ∧ Upd No w w' := by
  obtain ⟨A, c, rfl⟩ := hu.form
  obtain ⟨k, m, op, hl⟩ : ∃ (k : Int) (m : Nat) (op : Bool), longT (trieN rs) us = (k, m, op) := ⟨_, _, _, rfl⟩
  have hL := fun o => trie_Longest (IsTrie.upd h ((Upd.refl No w).alloc o) (fun _ _ h => h)) (hu.upd ((Upd.refl No w).alloc o) (fun _ _ h => h))
  have hbd := longT_bd (trieN_rule rs (fun r hr => (hok r hr).1)) (trieN_inv rs (fun r hr => (hok r hr).1)).1 (by omega) us
  rw [hl] at hL hbd ⊢
  simp only at hL hbd ⊢
  obtain ⟨b1, b2, b3, b4⟩ := hbd
  have HL : Hd _ := ⟨hL⟩
  clear hL hl
  by_cases hk0 : k < 0
  · have hk1 : decide (k < 0) = true := by simpa using hk0
    go_enter Tryz.func103, Tryz.ntmps103
    go_wp2_with (go_at_call 135; refine (HL.out _).mono ?_; rintro e w' ⟨rfl, rfl⟩)
    refine bodyPost_ret (v := .agg #[.int .i64 pos, .int .i64 1, .slice none 0 0, .int .i64 3]) (by simp [results, Tryz.results103, go_sem, cell_set, *]) rfl ?_
    simp only [tokT, if_pos hk0]
    exact ⟨_, rfl, Rd.nil _ _ _, (Upd.refl No _).alloc _⟩
  · obtain ⟨kn, rfl⟩ : ∃ kn : Nat, k = kn := ⟨k.toNat, by omega⟩
    have hkl : kn < (rs.map (·.2)).length := by simp; omega
    have hol : ((rs.map (·.2)).getD kn []).length ≤ 8 := by
      obtain ⟨r, hr, he⟩ := List.mem_map.1 (List.getElem_mem hkl)
      rw [List.getD_eq_getElem?_getD, List.getElem?_eq_getElem hkl, ← he]
      exact (hok r hr).2
    have hO := fun o => trie_Out (IsTrie.upd h ((Upd.refl No w).alloc o) (fun _ _ h => h)) kn hkl hol
    have HO : Hd _ := ⟨hO⟩
    have hk1 : decide ((kn : Int) < 0) = false := by simp
    clear hO hol hkl
    go_enter Tryz.func103, Tryz.ntmps103
    go_wp2_with (first
      | (go_at_call 135; refine (HL.out _).mono ?_; rintro e w' ⟨rfl, rfl⟩)
      | (go_at_call 136; refine (HO.out _).mono ?_; rintro e w6 ⟨A6, n6, c6, rfl, hown6, hup6⟩; obtain ⟨hc6, hf6⟩ := hup6.both (B := w.heap.size + 1) (by simp) (fun _ _ h => h); have hz6 : w.heap.size + 1 ≤ w6.heap.size := (by have := hup6.size; simpa using this)))
    refine bodyPost_ret (v := .agg #[.int .i64 pos, .int .i64 m, .slice A6 n6 c6, .int .i64 0]) (by simp [results, Tryz.results103, go_sem, cell_set, *]) rfl ?_
    simp only [tokT, if_neg (Int.not_lt.mpr hk0)]
    refine ⟨_, rfl, ?_, ?_⟩
    · refine (Rd.upd (S := fun k => k = w.heap.size) hown6.rd ?_ (fun k hk e => by simp at hk; omega)).mono (fun k hk => by simp at hk; omega)
      iterate 4 (refine Upd.setCell (S := fun k => k = w.heap.size) ?_ (fun _ => rfl) _)
      exact Upd.refl _ _
    · iterate 4 (refine Upd.setCell ?_ (fun h => by simp at h) _)
      exact ((Upd.refl No _).alloc _).trans hup6 (fun _ _ h => h) (fun _ _ h => h)

def AllRel (w : World) (rs : List Rule) (us : List Int) (tot : List Tok) (g : Nat) (v p : Value) (wr : World) : Prop :=
  ∃ (A : Option Addr) (n c : Nat) (out : List Tok) (j : Nat), v = .slice A n c ∧ p = .int .i64 j ∧ Own eTok 42 (fun k => w.heap.size ≤ k) w.heap.size wr (.slice A n c) out ∧ j ≤ us.length ∧ g + j = us.length ∧ out.length ≤ j ∧
    (∃ f, g ≤ f ∧ out ++ (mLoop rs true f (us.drop j) j).1 = tot) ∧ Upd No w wr

set_option maxHeartbeats 4000000 in
theorem rewrite_All {w : World} {t : Nat} {F F' : Nat → Prop} {rs : List Rule} {v : Value} {us : List Int} (h : IsTr w t F rs) (hok : Side8 rs) (hu : Rd (eI .i64) F' w v us) (hl : us.length ≤ 100000) :
    Calls Tryz.prog 68 #[.pointer (some ⟨t, 0, none⟩), v] w fun e w' => ∃ A n c, e = .returned (.slice A n c) ∧ Own eTok 42 (fun k => w.heap.size ≤ k) w.heap.size w' (.slice A n c) (mLoop rs true us.length us 0).1 ∧ Upd No w w' := by
  obtain ⟨A, c, rfl⟩ := hu.form
  obtain ⟨tot, htot⟩ : ∃ tot, tot = (mLoop rs true us.length us 0).1 := ⟨_, rfl⟩
  rw [← htot]
  have HT : Hd (tot = (mLoop rs true us.length us 0).1) := ⟨htot⟩
  have HI : Hd _ := ⟨h⟩
  have HOK : Hd _ := ⟨hok⟩
  have HU : Hd _ := ⟨hu⟩
  clear htot h hok
  go_enter Tryz.func68, Tryz.ntmps68
  go_wp2
  go_loopg [5, 6] us.length (AllRel w rs us tot)
  case atStart =>
    exact ⟨none, 0, 0, [], 0, rfl, rfl, Own.nil _ _ _ _ _, Nat.zero_le _, rfl, Nat.le_refl _, ⟨us.length, Nat.le_refl _, by simp [HT.out]⟩, Upd.refl _ _⟩
  case round =>
    obtain ⟨A1, n1, c1, out, j, rfl, rfl, hown, hj, hgj, hol, hf, hup⟩ := hrel
    have HF : Hd _ := ⟨hf⟩
    clear hf
    by_cases hlt : j < us.length
    · have hr1 := HU.out.upd hup (fun _ _ h => h)
      obtain ⟨A2, c2, hrun, hrd⟩ := hr1.cutL (P := Tryz.prog) Tryz.underlying34 size_int j (by omega)
      obtain ⟨tk, HTk⟩ : ∃ tk, Hd (tk = tokT rs j (longT (trieN rs) (us.drop j)).1 (longT (trieN rs) (us.drop j)).2.1) := ⟨_, ⟨rfl⟩⟩
      have hOne := rewrite_one (IsTrie.upd HI.out hup (fun _ _ h => h)) HOK.out hrd j
      rw [← HTk.out] at hOne
      have HO : Hd _ := ⟨hOne⟩
      have hbd := longT_bd (trieN_rule rs (fun r hr => (HOK.out r hr).1)) (trieN_inv rs (fun r hr => (HOK.out r hr).1)).1 (by omega) (us.drop j)
      obtain ⟨l, hlen, hll, HLen⟩ : ∃ l : Nat, tk.len = l ∧ 1 ≤ l ∧ l ≤ us.length - j ∧ Hd (l = max 1 (longT (trieN rs) (us.drop j)).2.1) := by
        refine ⟨max 1 (longT (trieN rs) (us.drop j)).2.1, ?_, by omega, by simp at hbd; omega, ⟨rfl⟩⟩
        rw [HTk.out, tokT]
        by_cases hk0 : (longT (trieN rs) (us.drop j)).1 < 0
        · rw [if_pos hk0, hbd.2.2.2 hk0]; rfl
        · rw [if_neg hk0]; have := hbd.2.2.1 (by omega); simp only; omega
      clear hbd hOne
      rw [hlen] at HO
      obtain ⟨hl1, HLen⟩ := HLen
      go_wp2_with (first
        | (go_at_call 103; (refine HO.out.mono ?_; rintro e w6 ⟨o, rfl, hro, hup6⟩; obtain ⟨Ao, co, rfl⟩ := hro.form))
        | (at_builtin; go_loud (refine wp_appendLit (F := fun k => w.heap.size ≤ k) eTok w.heap.size rfl (.tmp 18) (.tmp 20) 32 42 _ 48 rfl Tryz.underlying32 info_Token rfl (by decide) (.slice A1 n1 c1) out [tk] [[.int .i64 tk.pos, .int .i64 l, .slice Ao tk.out.length co, .int .i64 tk.err]] _ 1 rfl (by show Value.slice (some ⟨w6.heap.size + 1, 0, none⟩) 1 1 = _; simp) rfl rfl rfl ?qo ?qhr ?qnew ?qb ?ql (by decide) ?_)))
      case qo => exact (hown.upd hup6 (fun _ _ h => h)).alloc _
      case qhr =>
        have := hup.size
        have := hup6.size
        intro k y cs hy hc
        cases k with
        | zero =>
          simp at hy hc; subst hy; subst hc
          rw [← hlen]
          refine eTok_mk ((hro.upd ((Upd.refl No _).alloc _) (fun _ _ h => h)).mono (fun k hk => ⟨by omega, fun e => ?_⟩))
          have := (hown.lt k e.symm).2; omega
        | succ k => simp at hy
      case qnew => intro k hk; have := hup.size; have := hup6.size; simp at hk; omega
      case qb => have := hup.size; have := hup6.size; simp; omega
      case ql => simp; omega
      intro A3 n3 c3 w7 hown7 hup7 hat7
      have hg : w7.cell? ⟨w6.heap.size, 1, none⟩ = some (.int .i64 l) := hup7.cell (by simp [go_sem]) (fun e => by have := (hown.lt _ e.symm).2; have := hup6.size; simp at *; omega)
      have hjl : j + l ≤ 100000 := by omega
      have hjl2 : (j : Int) + (l : Int) ≤ 100000 := by omega
      go_wp2
      go_roundg (gk - l)
      case measure => omega
      case rel =>
        go_light
        refine ⟨A3, n3, c3, out ++ [tk], j + l, rfl, by go_num, hown7, by omega, by omega, by simp; omega, ?_, ?_⟩
        · obtain ⟨f, hf, hEQ⟩ := HF.out
          obtain ⟨g, rfl⟩ : ∃ g, f = g + 1 := ⟨f - 1, by omega⟩
          have hz : ¬ (us.drop j).length = 0 := by simp; omega
          simp only [mLoop, if_neg hz, Bool.not_true, Bool.and_false, Bool.false_eq_true, if_false] at hEQ
          rw [← HTk.out, ← HLen.out] at hEQ
          refine ⟨g, by omega, ?_⟩
          rw [← hEQ]
          simp
        · exact (hup.trans ((hup6.alloc _)) (T := No) (fun _ _ h => h) (fun _ _ h => h)).trans hup7 (fun _ _ h => h) (fun i hi e => by have := (hown.lt i e.symm).1; omega)
    · have hlt1 : decide (j < us.length) = false := by simpa using hlt
      go_wp2
      go_ret
      go_light
      obtain ⟨f, hf, hEQ⟩ := HF.out
      rw [List.drop_of_length_le (by omega), show mLoop rs true f [] (j : Int) = ([], [], (j : Int)) by cases f <;> simp [mLoop]] at hEQ
      simp only [List.append_nil] at hEQ
      subst hEQ
      exact ⟨_, _, _, rfl, hown, hup⟩

theorem table_Decode {w : World} {tb : Nat} {F F' : Nat → Prop} {rs : List Rule} {v : Value} {us : List Int} (h : IsTable w tb F rs) (hok : Side8 rs) (hu : Rd (eI .i64) F' w v us) (hl : us.length ≤ 100000) :
    Calls Tryz.prog 31 #[.pointer (some ⟨tb, 0, none⟩), v] w fun e w' => ∃ A n c, e = .returned (.slice A n c) ∧ Own eTok 42 (fun k => w.heap.size ≤ k) w.heap.size w' (.slice A n c) (mLoop rs true us.length us 0).1 ∧ Upd No w w' := by
  obtain ⟨tr, tw, h0, h1, h2, h3, h4, h5, h6⟩ := h.mem
  have H : Hd _ := ⟨rewrite_All h4 hok hu hl⟩
  clear h h4 h5 hok
  obtain ⟨A, c, rfl⟩ := hu.form
  go_enter Tryz.func31, Tryz.ntmps31
  go_wp2_with (go_at_call 68; refine H.out.mono ?_; rintro e w' hq; obtain ⟨A, n, c, rfl, hq⟩ := hq)
  go_ret
  exact ⟨A, n, c, rfl, hq⟩
end Go.Proofs.YtebgjabalnffdaaGreatDoor
