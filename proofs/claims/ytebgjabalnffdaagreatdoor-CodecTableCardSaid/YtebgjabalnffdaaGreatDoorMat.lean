/- match.Match: its state in memory, and what its methods do. -/
import Derived.Test.YtebgjabalnffdaaGreatDoorMatP
set_option linter.unusedVariables false
set_option linter.unusedSimpArgs false
set_option maxRecDepth 100000
namespace Go.Proofs.YtebgjabalnffdaaGreatDoor
open Go.RowKit

/-- A match at block m by rules rs (F: the blocks of its trie): what waits, where that begins; S: the blocks that it may write. -/
def IsMat (w : World) (m : Nat) (S F : Nat → Prop) (rs : List Rule) (wait : List Int) (pos : Int) : Prop :=
  ∃ v t st, w.cell? ⟨m, 0, none⟩ = some (.pointer (some ⟨t, 0, none⟩)) ∧ w.cell? ⟨m, 1, none⟩ = some v ∧ w.cell? ⟨m, 2, none⟩ = some (.int .i64 pos) ∧ w.cell? ⟨m, 3, none⟩ = some (.int .i64 st) ∧
    w.frozen? ⟨m, 1, none⟩ = false ∧ w.frozen? ⟨m, 2, none⟩ = false ∧ w.frozen? ⟨m, 3, none⟩ = false ∧
    Own (eI .i64) 3 Any 0 w v wait ∧ S m ∧ (∀ k, v.ownBlock = some k → S k ∧ k ≠ m) ∧ (∀ k, S k → k < w.heap.size) ∧ IsTr w t F rs ∧ (∀ k, F k → ¬ S k) ∧ ∀ k, F k → k < w.heap.size

theorem match_Held (b : Nat) (S F : Nat → Prop) (rs : List Rule) (wait : List Int) (pos : Int) (w : World) (h : IsMat w b S F rs wait pos) :
    Calls Tryz.prog 206 #[.pointer (some ⟨b, 0, none⟩)] w fun e w' => e = .returned (.int .i64 wait.length) ∧ w = w' := by
  obtain ⟨v, t, st, h0, h1, h2, h3, f1, f2, f3, ho, _⟩ := h
  obtain ⟨A, c, rfl⟩ := ho.rd.form
  go_enter Tryz.func206, Tryz.ntmps206
  go_wp2
  go_ret
  exact ⟨rfl, rfl⟩

theorem IsMat.lt {w : World} {b : Nat} {S F : Nat → Prop} {rs : List Rule} {wait : List Int} {pos : Int} (h : IsMat w b S F rs wait pos) : ∀ k, S k → k < w.heap.size := by
  obtain ⟨v, t, st, h0, h1, h2, h3, f1, f2, f3, ho, hS, hv, hSz, _⟩ := h
  exact hSz
theorem IsMat.upd {w w' : World} {b : Nat} {S F T : Nat → Prop} {rs : List Rule} {wait : List Int} {pos : Int} (h : IsMat w b S F rs wait pos) (hu : Upd T w w') (hn : ∀ k, S k → ¬ T k) (hn' : ∀ k, F k → ¬ T k) : IsMat w' b S F rs wait pos := by
  obtain ⟨v, t, st, h0, h1, h2, h3, f1, f2, f3, ho, hS, hv, hSz, ht, hF, hFz⟩ := h
  have hb : b < w.heap.size := World.block_lt_of_cell? w ⟨b, 0, none⟩ h0
  exact ⟨v, t, st, hu.cell h0 (hn b hS), hu.cell h1 (hn b hS), hu.cell h2 (hn b hS), hu.cell h3 (hn b hS), (hu.frozen (p := ⟨b, 1, none⟩) hb (hn b hS)).trans f1, (hu.frozen (p := ⟨b, 2, none⟩) hb (hn b hS)).trans f2,
    (hu.frozen (p := ⟨b, 3, none⟩) hb (hn b hS)).trans f3, ho.keep hu (fun k hk => hn k (hv k hk).1), hS, hv, fun k hk => Nat.lt_of_lt_of_le (hSz k hk) hu.size, IsTrie.upd ht hu hn', hF, fun k hk => Nat.lt_of_lt_of_le (hFz k hk) hu.size⟩

theorem IsMat.steps {w : World} {b : Nat} {S F : Nat → Prop} {rs : List Rule} {wait : List Int} {pos : Int} (h : IsMat w b S F rs wait pos) (n : Nat) (x : Int) :
    IsMat ((w.drewN n).setCell ⟨b, 3, none⟩ (.int .i64 x)) b S F rs wait pos ∧ Upd (fun k => k = b) w ((w.drewN n).setCell ⟨b, 3, none⟩ (.int .i64 x)) := by
  have hu : Upd (fun k => k = b) w ((w.drewN n).setCell ⟨b, 3, none⟩ (.int .i64 x)) := Upd.setCell (S := fun k => k = b) (p := ⟨b, 3, none⟩) ((Upd.refl _ _).drewN n) (fun _ => rfl) _
  refine ⟨?_, hu⟩
  obtain ⟨v, t, st, h0, h1, h2, h3, f1, f2, f3, ho, hS, hv, hSz, ht, hF, hFz⟩ := h
  refine ⟨v, t, x, ?_, ?_, ?_, ?_, ?_, ?_, ?_, ho.keep hu (fun k hk => (hv k hk).2), hS, hv, fun k hk => Nat.lt_of_lt_of_le (hSz k hk) hu.size, IsTrie.upd ht hu (fun k hk e => hF k hk (e ▸ hS)), hF, fun k hk => Nat.lt_of_lt_of_le (hFz k hk) hu.size⟩
  all_goals simp [go_sem, cell_set, *]

def inMat (b : Nat) (F : Nat → Prop) (rs : List Rule) (wait : List Int) (pos : Int) : (Nat → Prop) → World → Prop := fun S' w' => IsMat w' b S' F rs wait pos
def MatRel (w : World) (b : Nat) (S F : Nat → Prop) (rs : List Rule) (fin : Bool) (tot : List Tok × List Int × Int) (k : Nat) (v : Value) (wr : World) : Prop :=
  ∃ A n c out S' wait pos, v = .slice A n c ∧ Own eTok 42 (fun k => w.heap.size ≤ k ∧ ¬ S' k) w.heap.size wr (.slice A n c) out ∧ IsMat wr b S' F rs wait pos ∧ Upd S w wr ∧ (∀ k, S' k → S k ∨ w.heap.size ≤ k) ∧
    wait.length = k ∧ k ≤ 1000 ∧ 0 ≤ pos ∧ pos + k ≤ 1000000 ∧ (∃ f, k ≤ f ∧ out ++ (mLoop rs fin f wait pos).1 = tot.1 ∧ (mLoop rs fin f wait pos).2 = tot.2) ∧ out.length + k ≤ 2000

def MCells (w : World) (b t : Nat) (v : Value) (pos : Int) : Prop :=
  ∃ st, w.cell? ⟨b, 0, none⟩ = some (.pointer (some ⟨t, 0, none⟩)) ∧ w.cell? ⟨b, 1, none⟩ = some v ∧ w.cell? ⟨b, 2, none⟩ = some (.int .i64 pos) ∧ w.cell? ⟨b, 3, none⟩ = some (.int .i64 st) ∧
    w.frozen? ⟨b, 1, none⟩ = false ∧ w.frozen? ⟨b, 2, none⟩ = false ∧ w.frozen? ⟨b, 3, none⟩ = false
theorem MCells.upd {S : Nat → Prop} {w w' : World} {b t : Nat} {v : Value} {pos : Int} (h : MCells w b t v pos) (hu : Upd S w w') (hn : ¬ S b) : MCells w' b t v pos := by
  obtain ⟨st, h0, h1, h2, h3, f1, f2, f3⟩ := h
  have hb : b < w.heap.size := World.block_lt_of_cell? w ⟨b, 0, none⟩ h0
  exact ⟨st, hu.cell h0 hn, hu.cell h1 hn, hu.cell h2 hn, hu.cell h3 hn, (hu.frozen (p := ⟨b, 1, none⟩) hb hn).trans f1, (hu.frozen (p := ⟨b, 2, none⟩) hb hn).trans f2, (hu.frozen (p := ⟨b, 3, none⟩) hb hn).trans f3⟩
/-- A token that is made. -/
def TokAt (w0 wd : World) (tk : Tok) : Prop :=
  ∃ o, wd.cell? ⟨w0.heap.size, 0, none⟩ = some (.int .i64 tk.pos) ∧ wd.cell? ⟨w0.heap.size, 1, none⟩ = some (.int .i64 tk.len) ∧ wd.cell? ⟨w0.heap.size, 2, none⟩ = some o ∧ wd.cell? ⟨w0.heap.size, 3, none⟩ = some (.int .i64 tk.err) ∧
    Rd (eI .i64) (fun k => w0.heap.size < k) wd o tk.out ∧ Upd No w0 wd ∧ w0.heap.size < wd.heap.size

theorem mat_upd1 (w : World) (o : Obj) (v : Value) {i : Nat} : Upd No w ((w.alloc o).setCell ⟨w.heap.size, i, none⟩ v) :=
  Upd.setCell ((Upd.refl _ _).alloc _) (fun h => absurd h (Nat.lt_irrefl _)) _

theorem mat_meet {w1 w2 w5 : World} {b t : Nat} {v : Value} {A5 : Option Addr} {n5 c5 : Nat} {xs : List Int} {ps : Int} (hmc : MCells w1 b t v ps) (hu0 : Upd No w1 w2) (hown5 : Own (eI .i64) 3 (fun k => w1.heap.size ≤ k) 0 w5 (.slice A5 n5 c5) ([] ++ xs))
    (hup5 : Upd (fun k => some k = Value.ownBlock (.slice none 0 0)) w2 w5) :
    ∃ A5' n5' c5', MCells (w5.setCell ⟨b, 1, none⟩ (.slice A5 n5 c5)) b t (.slice A5' n5' c5') ps ∧ Own (eI .i64) 3 (fun k => w1.heap.size ≤ k) 0 (w5.setCell ⟨b, 1, none⟩ (.slice A5 n5 c5)) (.slice A5' n5' c5') xs ∧
      Upd (fun k => k = b) w1 (w5.setCell ⟨b, 1, none⟩ (.slice A5 n5 c5)) := by
  have hu5 : Upd No w1 w5 := hu0.trans hup5 (fun _ _ h => h) (fun k _ h => by simp [Value.ownBlock] at h)
  have hus : Upd (fun k => k = b) w5 (w5.setCell ⟨b, 1, none⟩ (.slice A5 n5 c5)) := Upd.setCell (S := fun k => k = b) (p := ⟨b, 1, none⟩) (Upd.refl _ _) (fun _ => rfl) _
  have hb : b < w1.heap.size := by obtain ⟨st, h0, _⟩ := hmc; exact World.block_lt_of_cell? w1 ⟨b, 0, none⟩ h0
  have hm5 := hmc.upd hu5 (fun h => h)
  refine ⟨A5, n5, c5, ?_, ?_, hu5.trans hus (fun _ _ h => h.elim) (fun _ _ h => h)⟩
  · obtain ⟨st, h0, h1, h2, h3, f1, f2, f3⟩ := hm5
    exact ⟨st, by simp [cell_set, *], by simp [cell_set, *], by simp [cell_set, *], by simp [cell_set, *], by simp [frozen_set, *], by simp [frozen_set, *], by simp [frozen_set, *]⟩
  · rw [List.nil_append] at hown5
    exact hown5.keep hus (fun k hk e => by have := hown5.1 k hk; omega)
theorem mat_next {w1 wx : World} {b t l : Nat} {S' F : Nat → Prop} {rs : List Rule} {wt : List Int} {ps : Int} {A5 : Option Addr} {n5 c5 : Nat} (n : Nat) (hmc5 : MCells wx b t (.slice A5 n5 c5) ps)
    (hown5 : Own (eI .i64) 3 (fun k => w1.heap.size ≤ k) 0 wx (.slice A5 n5 c5) (wt.drop l)) (hup5 : Upd (fun k => k = b) w1 wx) (ht : IsTr w1 t F rs) (hFS : ∀ k, F k → ¬ S' k) (hFz : ∀ k, F k → k < w1.heap.size) (hSb : S' b) (hb : b < w1.heap.size) :
    IsMat ((wx.drewN n).setCell ⟨b, 2, none⟩ (.int .i64 (ps + l))) b (fun k => k = b ∨ Value.ownBlock (.slice A5 n5 c5) = some k) F rs (wt.drop l) (ps + l) ∧ Upd (fun k => k = b) w1 ((wx.drewN n).setCell ⟨b, 2, none⟩ (.int .i64 (ps + l))) := by
  have hus : Upd (fun k => k = b) wx ((wx.drewN n).setCell ⟨b, 2, none⟩ (.int .i64 (ps + l))) := Upd.setCell (S := fun k => k = b) (p := ⟨b, 2, none⟩) ((Upd.refl _ _).drewN n) (fun _ => rfl) _
  have hu : Upd (fun k => k = b) w1 ((wx.drewN n).setCell ⟨b, 2, none⟩ (.int .i64 (ps + l))) := hup5.trans hus (fun _ _ h => h) (fun _ _ h => h)
  have hsz := hu.size
  have hsz2 := hus.size
  refine ⟨?_, hu⟩
  obtain ⟨st, h0, h1, h2, h3, f1, f2, f3⟩ := hmc5
  refine ⟨.slice A5 n5 c5, t, st, by simp [cell_set, *], by simp [cell_set, *], by simp [cell_set, *], by simp [cell_set, *], by simp [frozen_set, *], by simp [frozen_set, *], by simp [frozen_set, *],
    (hown5.keep hus (fun k hk e => by have := hown5.1 k hk; omega)).mono (fun _ _ => trivial), .inl rfl, fun k hk => ⟨.inr hk, fun e => by have := hown5.1 k hk; omega⟩, ?_, IsTrie.upd ht hu (fun k hk e => hFS k hk (e ▸ hSb)), ?_, fun k hk => by have := hFz k hk; omega⟩
  · rintro k (rfl | hk)
    · omega
    · have := (hown5.lt k hk).2; omega
  · rintro k hk (rfl | hk')
    · exact hFS k hk hSb
    · have := hown5.1 k hk'; have := hFz k hk; omega

set_option maxHeartbeats 4000000 in
theorem match_take (b : Nat) (S F : Nat → Prop) (rs : List Rule) (fin : Bool) (wait : List Int) (pos : Int) (w : World) (h : IsMat w b S F rs wait pos) (hok : ∀ r ∈ rs, r.1.length ≤ 8 ∧ r.2.length ≤ 8)
    (hl : wait.length ≤ 1000) (hp : 0 ≤ pos) (hp' : pos + wait.length ≤ 1000000) :
    Calls Tryz.prog 209 #[.pointer (some ⟨b, 0, none⟩), .bool fin] w (MPost w S (mLoop rs fin wait.length wait pos).1 (inMat b F rs (mLoop rs fin wait.length wait pos).2.1 (mLoop rs fin wait.length wait pos).2.2)) := by
  obtain ⟨tot, htot⟩ : ∃ tot, tot = mLoop rs fin wait.length wait pos := ⟨_, rfl⟩
  rw [← htot]
  have HT : Hd (tot = mLoop rs fin wait.length wait pos) := ⟨htot⟩
  have HM : Hd _ := ⟨h⟩
  have HI : Hd _ := ⟨trieN_inv rs (fun r hr => (hok r hr).1)⟩
  have HR : Hd _ := ⟨trieN_rule rs (fun r hr => (hok r hr).1)⟩
  have HOK : Hd _ := ⟨hok⟩
  have HF0 : Hd (∀ k, F k → k < w.heap.size) := ⟨by obtain ⟨v, t, st, h0, h1, h2, h3, f1, f2, f3, ho, hS, hv, hSz, ht, hF, hFz⟩ := h; exact hFz⟩
  clear htot h hok
  go_enter Tryz.func209, Tryz.ntmps209
  go_wp2
  go_loopg [5] wait.length (MatRel w b S F rs fin tot)
  case atStart =>
    exact ⟨none, 0, 0, [], S, wait, pos, rfl, Own.nil _ _ _ _ _, HM.out, Upd.refl _ _, fun k hk => .inl hk, rfl, hl, hp, hp', ⟨wait.length, Nat.le_refl _, by simp [HT.out], by rw [HT.out]⟩, by simp; omega⟩
  case round =>
    obtain ⟨A, n, c, out, S', wt, ps, rfl, hown, hmat, hup, hS', hk, hk', hp0, hp1, heq, hlen⟩ := hrel
    clear hl hp hp' HM HT
    have HMat : Hd _ := ⟨hmat⟩
    obtain ⟨v, t, st, h0, h1, h2, h3, f1, f2, f3, ho, hSb, hSv, hSz, ht, hFS, hFz⟩ := hmat
    obtain ⟨A0, c0, rfl⟩ := ho.rd.form
    have HK : Hd (wt.length = gk) := ⟨hk⟩
    have hwl : wt.length ≤ 1000 := by omega
    have hwp : ps + wt.length ≤ 1000000 := by omega
    have HEQ : Hd _ := ⟨heq⟩
    clear hk heq
    by_cases hz : wt.length = 0
    · have hz1 : decide (0 < wt.length) = false := by rw [hz]; rfl
      go_wp2
      go_ret
      go_light
      obtain ⟨f, hf, hEQ⟩ := HEQ.out
      rw [show mLoop rs fin f wt ps = ([], wt, ps) by cases f <;> simp [mLoop, hz]] at hEQ
      simp only [List.append_nil] at hEQ
      obtain ⟨rfl, hEQ2⟩ := hEQ
      exact ⟨_, _, _, S', rfl, hown, by rw [← hEQ2]; exact HMat.out, hup, hS'⟩
    · obtain ⟨k, m, op, hu⟩ : ∃ (k : Int) (m : Nat) (op : Bool), longT (trieN rs) wt = (k, m, op) := ⟨_, _, _, rfl⟩
      have hL := fun x => (trie_Longest (IsTrie.upd ht ((Upd.refl No wr).drewN x) (fun _ _ h => h)) (ho.rd.upd ((Upd.refl No wr).drewN x) (fun _ _ h => h))).mono (R' := fun e w' => e = .returned (.tuple #[.int .i64 (longT (trieN rs) wt).1, .int .i64 (longT (trieN rs) wt).2.1, .bool (longT (trieN rs) wt).2.2]) ∧ w' = wr.drewN x) (fun e w' h => ⟨h.1, h.2.symm⟩)
      have hbd := longT_bd HR.out HI.out.1 (by omega) wt
      rw [hu] at hL hbd
      simp only at hL hbd
      obtain ⟨b1, b2, b3, b4⟩ := hbd
      have HL : Hd _ := ⟨hL⟩
      have HU : Hd _ := ⟨hu⟩
      clear hL hu
      go_wp2_with fail
      go_quiet (first | (go_at_call 135; exact Calls.quiet_of_same (HL.out _)))
      clear HL
      go_upto_region 4 with fail
      go_cut [] (fun wx => IsMat wx b S' F rs wt ps ∧ Upd (fun k => k = b) wr wx)
      case first =>
        go_region
        go_wp2_with fail
        go_meet
        go_light
        exact IsMat.steps HMat.out _ _
      case rest =>
        obtain ⟨hmat, hu1⟩ := hcut
        have HMat2 : Hd _ := ⟨hmat⟩
        have hup2 : Upd S w wc := hup.trans hu1 (fun _ _ h => h) (fun i hi e => by subst e; exact (hS' i hSb).elim id (fun h => by omega))
        have hown2 : Own eTok 42 (fun k => w.heap.size ≤ k ∧ ¬ S' k) w.heap.size wc (.slice A n c) out := hown.upd hu1 (fun k hk e => hk.2 (e ▸ hSb))
        clear h0 h1 h2 h3 f1 f2 f3 ho hSb hSv hSz ht hFS hFz
        clear hup hown hu1
        obtain ⟨v, t, st, h0, h1, h2, h3, f1, f2, f3, ho, hSb, hSv, hSz, ht, hFS, hFz⟩ := hmat
        obtain ⟨A0, c0, rfl⟩ := ho.rd.form
        obtain ⟨wd, rfl⟩ : ∃ wd : World, wd = wc := ⟨_, rfl⟩
        go_upto_region 5 with fail
        go_cut [45] (fun v wx => wx = wd ∧ v = .bool (op && !fin))
        case first =>
          cases op <;> cases fin
          all_goals
            go_wp2_with fail
            go_meet
            go_light
            exact ⟨rfl, rfl⟩
        case rest =>
        obtain ⟨rfl, rfl⟩ := hcut
        by_cases hop : (op && !fin) = true
        · rw [hop]
          go_wp2
          go_ret
          go_light
          obtain ⟨f, hf, hEQ⟩ := HEQ.out
          have hk := HK.out
          obtain ⟨g, rfl⟩ : ∃ g, f = g + 1 := ⟨f - 1, by omega⟩
          simp only [mLoop, HU.out, if_neg hz, hop, if_true, List.append_nil] at hEQ
          obtain ⟨rfl, hEQ2⟩ := hEQ
          exact ⟨_, _, _, S', rfl, hown2, by rw [← hEQ2]; exact HMat2.out, hup2, hS'⟩
        · have HOp : Hd _ := ⟨hop⟩
          rw [show (op && !fin) = false by simpa using hop]
          clear hop
          obtain ⟨l, HLen⟩ : ∃ l : Nat, Hd (l = max 1 m) := ⟨_, ⟨rfl⟩⟩
          obtain ⟨tk, HTk⟩ : ∃ tk : Tok, Hd (tk = tokT rs ps k m) := ⟨_, ⟨rfl⟩⟩
          have hb0 : b < wc.heap.size := World.block_lt_of_cell? wc ⟨b, 0, none⟩ h0
          have hb1 : b < wc.heap.size + 1 := by omega
          have hne1 : ¬ b = wc.heap.size := by omega
          have hne2 : ¬ wc.heap.size = b := by omega
          obtain ⟨we, rfl⟩ : ∃ we : World, we = wc := ⟨_, rfl⟩
          go_upto_if 54 with fail
          go_cut [9] from 10 to 86 (fun v wx => v = .pointer (some ⟨we.heap.size, 0, none⟩) ∧ TokAt we wx tk)
          case first =>
            by_cases hk0 : k < 0
            · have hm0 := b4 hk0
              subst hm0
              have hk1 : decide (k < 0) = true := by simpa using hk0
              go_wp2_with fail
              go_meet
              go_light
              refine ⟨rfl, ?_⟩
              rw [HTk.out, tokT, if_pos hk0]
              exact ⟨.slice none 0 0, by simp [go_sem], by simp [go_sem], by simp [go_sem], by simp [go_sem], Rd.nil _ _ _, (Upd.refl _ _).alloc _, by simp⟩
            · obtain ⟨kn, rfl⟩ : ∃ kn : Nat, k = kn := ⟨k.toNat, by omega⟩
              have hm1 := b3 (by omega)
              have hkl : kn < (rs.map (·.2)).length := by simp; omega
              have hol : ((rs.map (·.2)).getD kn []).length ≤ 8 := by
                obtain ⟨r, hr, he⟩ := List.mem_map.1 (List.getElem_mem hkl)
                rw [List.getD_eq_getElem?_getD, List.getElem?_eq_getElem hkl, ← he]
                exact (HOK.out r hr).2
              have hO := fun o => trie_Out (IsTrie.upd ht ((Upd.refl No we).alloc o) (fun _ _ h => h)) kn hkl hol
              have HO : Hd _ := ⟨hO⟩
              have hk1 : decide ((kn : Int) < 0) = false := by simp
              clear hO hol hkl
              go_wp2_with (go_at_call 136; go_loud (refine (HO.out _).mono ?_; rintro e w6 ⟨A6, n6, c6, rfl, hown6, hup6⟩; obtain ⟨hc6, hf6⟩ := hup6.both (B := we.heap.size + 1) (by simp) (fun _ _ h => h); have hz6 : we.heap.size + 1 ≤ w6.heap.size := by (have := hup6.size; simpa using this)))
              all_goals
                go_meet
                go_light
                refine ⟨rfl, ?_⟩
                rw [HTk.out, tokT, if_neg (Int.not_lt.mpr hk0)]
                have hus : Upd (fun k => k = we.heap.size) w6 (w6.setCell ⟨we.heap.size, 2, none⟩ (.slice A6 n6 c6)) := Upd.setCell (S := fun k => k = we.heap.size) (p := ⟨we.heap.size, 2, none⟩) (Upd.refl _ _) (fun _ => rfl) _
                have hrd6 := (hown6.rd.upd (S := fun k => k = we.heap.size) hus (fun k hk e => by simp at hk; omega)).mono (F' := fun k => we.heap.size < k) (fun k hk => by simp at hk; omega)
                refine ⟨.slice A6 n6 c6, by simp [go_sem, cell_set, hc6], by (try simp [go_sem, cell_set, hc6]) <;> (try intro _) <;> (try omega), by simp [go_sem, cell_set, hc6], by simp [go_sem, cell_set, hc6], by simpa using hrd6, ?_, by simp [World.setCell]; omega⟩
                exact Upd.setCell (((Upd.refl _ _).alloc _).trans hup6 (fun _ _ h => h) (fun _ _ h => h)) (fun h => absurd h (Nat.lt_irrefl _)) _
          case rest =>
            obtain ⟨rfl, htk⟩ := hcut
            have hmc : MCells wc b t (.slice A0 wt.length c0) ps := by
              obtain ⟨o, g0, g1, g2, g3, hro, hud, hzd⟩ := htk
              exact MCells.upd ⟨st, h0, h1, h2, h3, f1, f2, f3⟩ hud (fun h => h)
            have hlen1 : tk.len = l := by
              rw [HTk.out, HLen.out, tokT]
              by_cases hk0 : k < 0
              · rw [if_pos hk0, b4 hk0]; rfl
              · rw [if_neg hk0]; have := b3 (by omega); simp only; omega
            obtain ⟨o, g0, g1, g2, g3, hro, hud, hzd⟩ := htk
            rw [hlen1] at g1
            clear h0 h1 h2 h3 f1 f2 f3
            obtain ⟨st, h0, h1, h2, h3, f1, f2, f3⟩ := hmc
            have hwz : w.heap.size ≤ we.heap.size := hup2.size
            have hA : b ≠ we.heap.size ∧ ∀ k, Value.ownBlock (.slice A n c) = some k → k < we.heap.size ∧ ¬ S' k := ⟨by omega, fun k hk => ⟨(hown2.lt k hk).2, (hown2.1 k hk).2⟩⟩
            go_upto_region 10 with fail
            go_wp2_with (at_builtin; go_loud (refine wp_appendLit (F := fun k => w.heap.size ≤ k ∧ ¬ S' k) eTok w.heap.size rfl (.tmp 63) (.tmp 65) 32 42 _ 48 rfl Tryz.underlying32 info_Token rfl (by decide) (.slice A n c) out [tk] [[.int .i64 tk.pos, .int .i64 l, o, .int .i64 tk.err]] _ 1 rfl rfl rfl rfl rfl ?qo ?qhr ?qnew ?qb ?ql (by decide) ?_))
            case qo => exact hown2.upd hud (fun _ _ h => h)
            case qhr =>
              intro k y cs hy hc
              cases k with
              | zero =>
                simp at hy hc; subst hy; subst hc
                rw [← hlen1]
                refine eTok_mk (hro.mono (fun k hk => ⟨⟨by omega, fun e => by have := hSz k e; omega⟩, fun e => ?_⟩))
                have := (hA.2 k e.symm).1; omega
              | succ k => simp at hy
            case qnew => exact fun k hk => ⟨by omega, fun e => by have := hSz k e; omega⟩
            case qb => omega
            case ql => simp; omega
            intro A1 n1 c1 w1 hown1 hupd1 hat1
            have hbn : ¬ some b = Value.ownBlock (.slice A n c) := fun e => (hA.2 b e.symm).2 hSb
            have hmc : MCells w1 b t (.slice A0 wt.length c0) ps := MCells.upd ⟨st, h0, h1, h2, h3, f1, f2, f3⟩ hupd1 hbn
            have hgn : ¬ some we.heap.size = Value.ownBlock (.slice A n c) := fun e => Nat.lt_irrefl _ (hA.2 _ e.symm).1
            have hg1 : w1.cell? ⟨we.heap.size, 1, none⟩ = some (.int .i64 l) := hupd1.cell g1 hgn
            clear h0 h1 h2 h3 f1 f2 f3 g0 g1 g2 g3
            have HMC : Hd _ := ⟨hmc⟩
            obtain ⟨st, h0, h1, h2, h3, f1, f2, f3⟩ := hmc
            have hbz1 : b < w1.heap.size := World.block_lt_of_cell? w1 ⟨b, 0, none⟩ h0
            have hll : l ≤ wt.length := by rw [HLen.out]; omega
            have hrow1 : Rd (eI .i64) Any w1 (.slice A0 wt.length c0) wt := ((ho.keep hud (fun _ _ h => h)).keep hupd1 (fun k hk e => (hA.2 k e.symm).2 (hSv k hk).1)).rd
            obtain ⟨A2, c2, hrun, hrd⟩ := hrow1.cutL (P := Tryz.prog) Tryz.underlying34 size_int l hll
            go_upto_region 11 with fail
            go_cut [] from 10 to 86 (fun wx => ∃ A5 n5 c5, MCells wx b t (.slice A5 n5 c5) ps ∧ Own (eI .i64) 3 (fun k => w1.heap.size ≤ k) 0 wx (.slice A5 n5 c5) (wt.drop l) ∧ Upd (fun k => k = b) w1 wx)
            case first =>
              go_region_law (first | (refine step_wanted rfl ?_; go_loud (refine step_appendRow (F := fun k => w1.heap.size ≤ k) (eI .i64) Any 0 _ (.const (.slice none 0 0)) (.tmp 74) 34 3 (.int .i64 0) 8 rfl Tryz.underlying34 info_int rfl (by decide) (.slice none 0 0) (.slice A2 (wt.length - l) c2) [] (wt.drop l) (by rfl) (by rfl) (Own.nil _ _ _ _ _) (hrd.upd ((Upd.refl No _).drew) (fun _ _ h => h)) (fun _ _ h => h) (fun k hk => by simpa using hk) (Nat.zero_le _) (by simp; omega) (by decide) ?_; intro A5 n5 c5 w5 hown5 hup5 _ _); have t15 : w5.cell? ⟨b, 1, none⟩ = some (.slice A0 wt.length c0) := hup5.cell (by simp [go_sem, *]) (fun h => by simp [Value.ownBlock] at h); have f15 : w5.frozen? ⟨b, 1, none⟩ = false := (hup5.frozen (p := ⟨b, 1, none⟩) (by simp; omega) (fun h => by simp [Value.ownBlock] at h)).trans (by simp [go_sem, *])))
              all_goals
                go_wp2_with fail
                go_meet
                go_light
                exact mat_meet HMC.out (by first | exact (Upd.refl _ _).drew | exact Upd.refl _ _) hown5 hup5
            case rest =>
              obtain ⟨A5, n5, c5, hmc5, hown5, hup5⟩ := hcut
              have hg5 : wc.cell? ⟨we.heap.size, 1, none⟩ = some (.int .i64 l) := hup5.cell hg1 (fun h => hA.1 h.symm)
              have HMC5 : Hd _ := ⟨hmc5⟩
              clear h0 h1 h2 h3 f1 f2 f3 hrun hrd hrow1 hg1
              obtain ⟨st, h0, h1, h2, h3, f1, f2, f3⟩ := hmc5
              have hp2 : ps + (l : Int) ≤ 1000000 := by omega
              have hp1 : 0 ≤ ps + (l : Int) := by omega
              go_upto_region 12 with fail
              go_region
              go_wp2
              go_roundg (gk - l)
              case measure => have := HK.out; have := HLen.out; omega
              case rel =>
                go_light
                have hk := HK.out
                have hln := HLen.out
                obtain ⟨hm6, hu6⟩ := mat_next 1 HMC5.out hown5 hup5 (IsTrie.upd (IsTrie.upd ht hud (fun _ _ h => h)) hupd1 (fun k hk e => by have := HF0.out k hk; have := (hown2.lt k e.symm).1; omega)) hFS (fun k hk => by have := hFz k hk; have := hud.size; have := hupd1.size; omega) hSb hbz1
                refine ⟨A1, n1, c1, out ++ [tk], _, wt.drop l, ps + l, rfl, ?_, hm6, ?_, ?_, by simp; omega, by omega, by omega, by omega, ?_, by simp; omega⟩
                · exact (hown1.bound.upd hu6 (fun k hk e => hk.1.2 (e ▸ hSb))).mono (fun k hk => ⟨hk.1.1, fun e => e.elim (fun e => hk.1.2 (e ▸ hSb)) (fun e => by have := hown5.1 k e; omega)⟩)
                · exact ((hup2.trans hud (T := S) (fun _ _ h => h) (fun _ _ h => h.elim)).trans hupd1 (T := S) (fun _ _ h => h) (fun i hi e => absurd (hown2.lt i e.symm).1 (by omega))).trans hu6 (fun _ _ h => h) (fun i hi e => by subst e; exact (hS' i hSb).elim id (fun h => by omega))
                · have := hud.size
                  have := hupd1.size
                  rintro k (rfl | hk)
                  · exact hS' _ hSb
                  · have := hown5.1 k hk; exact .inr (by omega)
                · obtain ⟨f, hf, hEQ⟩ := HEQ.out
                  obtain ⟨g, rfl⟩ : ∃ g, f = g + 1 := ⟨f - 1, by omega⟩
                  simp only [mLoop, HU.out, if_neg hz, if_neg HOp.out] at hEQ
                  rw [← HTk.out, ← hln] at hEQ
                  exact ⟨g, by omega, by simpa using hEQ.1, hEQ.2⟩
end Go.Proofs.YtebgjabalnffdaaGreatDoor
