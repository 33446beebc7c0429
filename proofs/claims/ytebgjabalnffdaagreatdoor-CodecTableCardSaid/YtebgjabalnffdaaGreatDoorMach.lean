/- Machines, behind an interface; machine.All. -/
import Derived.Test.YtebgjabalnffdaaGreatDoorUnits
set_option linter.unusedVariables false
set_option linter.unusedSimpArgs false
set_option maxRecDepth 100000
namespace Go.Proofs.YtebgjabalnffdaaGreatDoor
open Go.RowKit

/-- A machine behind an interface: its state σ in lists alone; inv: how it lies in memory (S: the blocks that it may write, G: those that it reads alone). -/
structure Mach (σ : Type) where
  tag : TypeId
  val : Value
  inv : σ → (Nat → Prop) → (Nat → Prop) → World → Prop
  put : σ → Int → List Tok × σ
  fin : σ → List Tok × σ
  held : σ → Nat
  ok : σ → Int → Prop
  okE : σ → Prop
  fP : FuncId
  fE : FuncId
  fH : FuncId
  rP : Value
  rE : Value
  rH : Value
  mP : ∀ K s S G w, inv s S G w → (method (K + 1) tag val "Put").run Tryz.prog w = .ok (fP, rP) w
  mE : ∀ K s S G w, inv s S G w → (method (K + 1) tag val "End").run Tryz.prog w = .ok (fE, rE) w
  mH : ∀ K s S G w, inv s S G w → (method (K + 1) tag val "Held").run Tryz.prog w = .ok (fH, rH) w
  qP : ∀ args w, (callFunc fP args).run Tryz.prog w = .ok (.enter fP args) w
  qE : ∀ args w, (callFunc fE args).run Tryz.prog w = .ok (.enter fE args) w
  qH : ∀ args w, (callFunc fH args).run Tryz.prog w = .ok (.enter fH args) w
  cP : ∀ s S G w u, inv s S G w → ok s u → Calls Tryz.prog fP #[rP, .int .i64 u] w (MPost w S (put s u).1 (fun S' w' => ∃ G' : Nat → Prop, (∀ k, G' k → G k ∨ w.heap.size ≤ k) ∧ inv (put s u).2 S' G' w'))
  cE : ∀ s S G w, inv s S G w → okE s → Calls Tryz.prog fE #[rE] w (MPost w S (fin s).1 (fun S' w' => ∃ G' : Nat → Prop, (∀ k, G' k → G k ∨ w.heap.size ≤ k) ∧ inv (fin s).2 S' G' w'))
  cH : ∀ s S G w, inv s S G w → Calls Tryz.prog fH #[rH] w fun e w' => e = .returned (.int .i64 (held s)) ∧ w = w'
  upd : ∀ s S G T w w', inv s S G w → Upd T w w' → (∀ k, S k → ¬ T k) → (∀ k, G k → ¬ T k) → inv s S G w'
  lt : ∀ s S G w, inv s S G w → (∀ k, S k → k < w.heap.size) ∧ ∀ k, G k → k < w.heap.size

variable {σ : Type}
def Mach.run (M : Mach σ) : σ → List Int → List Tok × σ
  | s, [] => ([], s)
  | s, u :: us => ((M.put s u).1 ++ (M.run (M.put s u).2 us).1, (M.run (M.put s u).2 us).2)
def Mach.okR (M : Mach σ) : σ → List Int → Prop
  | s, [] => M.okE s
  | s, u :: us => M.ok s u ∧ M.okR (M.put s u).2 us

def MAllRel (M : Mach σ) (w : World) (S G : Nat → Prop) (us : List Int) (tot : List Tok × σ) (g : Nat) (v k : Value) (wr : World) : Prop :=
  ∃ (A : Option Addr) (n c j : Nat) (out : List Tok) (s : σ) (S' G' : Nat → Prop), v = .slice A n c ∧ k = .int .i64 j ∧ g + j = us.length ∧ j ≤ us.length ∧
    Own eTok 42 (fun k => w.heap.size ≤ k ∧ ¬ S' k) w.heap.size wr (.slice A n c) out ∧ M.inv s S' G' wr ∧ Upd S w wr ∧ (∀ k, S' k → S k ∨ w.heap.size ≤ k) ∧ (∀ k, G' k → (G k ∨ w.heap.size ≤ k) ∧ some k ≠ Value.ownBlock (.slice A n c)) ∧
    M.okR s (us.drop j) ∧ out ++ (M.run s (us.drop j)).1 = tot.1 ∧ (M.run s (us.drop j)).2 = tot.2

set_option maxHeartbeats 4000000 in
theorem machine_All (M : Mach σ) {w : World} {S G F : Nat → Prop} {s : σ} {v : Value} {us : List Int} (h : M.inv s S G w) (hu : Rd (eI .i64) F w v us) (hF : ∀ k, F k → ¬ S k) (hok : M.okR s us) (hl : us.length ≤ 100000) (hlen : (M.run s us).1.length ≤ 1000000) (hlen2 : ((M.run s us).1 ++ (M.fin (M.run s us).2).1).length ≤ 1000000) :
    Calls Tryz.prog 19 #[.iface M.tag M.val, v] w fun e w' => ∃ A n c S', e = .returned (.slice A n c) ∧ Own eTok 42 (fun k => w.heap.size ≤ k ∧ ¬ S' k) w.heap.size w' (.slice A n c) ((M.run s us).1 ++ (M.fin (M.run s us).2).1) ∧ (∃ G' : Nat → Prop, (∀ k, G' k → G k ∨ w.heap.size ≤ k) ∧ M.inv (M.fin (M.run s us).2).2 S' G' w') ∧ Upd S w w' ∧ ∀ k, S' k → S k ∨ w.heap.size ≤ k := by
  obtain ⟨A, c, rfl⟩ := hu.form
  obtain ⟨tot, htot⟩ : ∃ tot, tot = M.run s us := ⟨_, rfl⟩
  rw [← htot] at hlen hlen2 ⊢
  have HT : Hd (tot = M.run s us) := ⟨htot⟩
  have HI : Hd _ := ⟨h⟩
  have HU : Hd _ := ⟨hu⟩
  have HOK : Hd _ := ⟨hok⟩
  clear htot h hok
  go_enter Tryz.func19, Tryz.ntmps19
  go_wp2
  go_loopg [5, 10] us.length (MAllRel M w S G us tot)
  case atStart =>
    exact ⟨none, 0, 0, 0, [], s, S, G, rfl, rfl, rfl, Nat.zero_le _, Own.nil _ _ _ _ _, HI.out, Upd.refl _ _, fun k hk => .inl hk, fun k hk => ⟨.inl hk, fun e => by simp [Value.ownBlock] at e⟩, HOK.out, by simp [HT.out], by simp [HT.out]⟩
  case round =>
    obtain ⟨A1, n1, c1, j, out, s1, S1, G1, rfl, rfl, hgj, hj, hown, hinv, hup, hS1, hG1, hok1, he1, he2⟩ := hrel
    have HE1 : Hd _ := ⟨he1⟩
    have HE2 : Hd _ := ⟨he2⟩
    have HInv : Hd _ := ⟨hinv⟩
    have HK1 : Hd _ := ⟨hok1⟩
    by_cases hlt : j < us.length
    · have hr1 := HU.out.bound.upd hup (fun k hk => hF k hk.1)
      obtain ⟨b0, off, x, cs, rfl, _, _, hx, hrep, hcell⟩ := hr1.at_ hlt
      obtain rfl := hrep
      have e0 := hcell 0 _ rfl
      simp at e0
      have hdr : us.drop j = x :: us.drop (j + 1) := by rw [List.drop_eq_getElem_cons hlt]; congr 1; rw [List.getElem?_eq_getElem hlt] at hx; simpa using hx
      rw [hdr] at hok1
      have hm := fun K => M.mP K s1 S1 G1 wr hinv
      have hq := M.qP
      have HC : Hd _ := ⟨M.cP s1 S1 G1 wr x hinv hok1.1⟩
      have hol : out.length + (M.put s1 x).1.length ≤ 1000000 := by
        have h := congrArg List.length he1
        rw [hdr] at h
        simp only [Mach.run, List.length_append] at h
        omega
      have HDR : Hd _ := ⟨hdr⟩
      obtain ⟨ys, s2, hys⟩ : ∃ ys s2, M.put s1 x = (ys, s2) := ⟨_, _, rfl⟩
      rw [hys] at HC hol
      have HYS : Hd _ := ⟨hys⟩
      clear hx hcell hinv he1 he2 hok1 hdr hys
      go_wp2_with (first
        | (at_builtin; go_loud (refine wp_appendRow (F := fun k => w.heap.size ≤ k ∧ ¬ S2 k) eTok (fun k => wr.heap.size ≤ k ∧ ¬ S2 k) w.heap.size rfl (.tmp 14) (.tmp 17) 32 42 _ 48 rfl Tryz.underlying32 info_Token rfl (by decide) (.slice A1 n1 c1) (.slice A2 n2 c2) out ys rfl rfl ?qo hown2.rd ?qel ?qnew ?qb ?ql (by decide) ?_))
        | (refine HC.out.mono ?_; rintro e w2 hq2; obtain ⟨A2, n2, c2, S2, rfl, hown2, ⟨G2, hG2, hinv2⟩, hup2, hS2⟩ := hq2))
      case qo => exact ((hown.bound.upd hup2 (fun k hk => hk.1.2)).mono (fun k hk => ⟨hk.1.1, fun e => (hS2 k e).elim (fun e => hk.1.2 e) (fun e => by have := hk.2; omega)⟩)).lower (Nat.le_refl _)
      case qel => intro y cs hy; exact eTok.mono (fun k hk => ⟨⟨Nat.le_trans hup.size hk.1, hk.2⟩, fun e => by have := (hown.lt k e.symm).2; have := hk.1; omega⟩) hy
      case qnew => intro k hk; exact ⟨Nat.le_trans (Nat.le_trans hup.size hup2.size) hk, fun e => by have := (M.lt _ _ _ _ hinv2).1 k e; omega⟩
      case qb => exact Nat.le_trans hup.size hup2.size
      case ql => omega
      intro A3 n3 c3 w3 hown3 hup3 hat3 _
      go_wp2
      go_roundg (gk - 1)
      case measure => omega
      case rel =>
        go_light
        have hok2 := HK1.out
        rw [HDR.out] at hok2
        have heq1 := HE1.out
        have heq2 := HE2.out
        rw [HDR.out] at heq1 heq2
        simp only [Mach.run, Mach.okR, HYS.out] at heq1 heq2 hok2
        refine ⟨A3, n3, c3, j + 1, out ++ ys, s2, S2, G2, rfl, by go_num, by omega, by omega, hown3, ?_, ?_, ?_, ?_, hok2.2, by rw [← heq1]; simp, heq2⟩
        · refine M.upd _ _ _ _ _ _ hinv2 hup3 (fun k hk e => ?_) (fun k hk e => ?_)
          · have h1 := hown.1 k e.symm
            have h2 := (hown.lt k e.symm).2
            rcases hS2 k hk with h3 | h3
            · exact h1.2 h3
            · omega
          · have h2 := (hown.lt k e.symm).2
            rcases hG2 k hk with h3 | h3
            · exact (hG1 k h3).2 e
            · omega
        · refine (hup.trans hup2 (T := S) (fun _ _ h => h) (fun k hk h => (hS1 k h).elim id (fun e => by omega))).trans hup3 (fun _ _ h => h) (fun k hk e => ?_)
          have := (hown.lt k e.symm).1; omega
        · intro k hk
          rcases hS2 k hk with h | h
          · exact hS1 k h
          · have := hup.size; exact .inr (by omega)
        · intro k hk
          have hkz := (M.lt _ _ _ _ hinv2).2 k hk
          have := hup.size
          refine ⟨?_, fun e => ?_⟩
          · rcases hG2 k hk with h | h
            · exact (hG1 k h).1
            · exact .inr (by omega)
          · rcases hat3 with h | ⟨g, h, h'⟩
            · rw [h] at e
              have h2 := (hown.lt k e.symm).2
              rcases hG2 k hk with h3 | h3
              · exact (hG1 k h3).2 e
              · omega
            · rw [h] at e; injection e with e; omega
    · have hlt1 : decide (j < us.length) = false := by simpa using hlt
      have hnil : us.drop j = [] := List.drop_of_length_le (by omega)
      rw [hnil] at he1 he2 hok1
      simp only [Mach.run, List.append_nil] at he1 he2
      have hm := fun K => M.mE K s1 S1 G1 wr hinv
      have hq := M.qE
      have HC : Hd _ := ⟨M.cE s1 S1 G1 wr hinv hok1⟩
      obtain ⟨ys, s2, hys⟩ : ∃ ys s2, M.fin s1 = (ys, s2) := ⟨_, _, rfl⟩
      have HFin : Hd (tot.1 ++ (M.fin tot.2).1 = out ++ ys ∧ (M.fin tot.2).2 = s2) := ⟨by rw [← he1, ← he2, hys]; exact ⟨rfl, rfl⟩⟩
      rw [HFin.out.1] at hlen2
      rw [hys] at HC
      simp only at HC
      have hol : out.length + ys.length ≤ 1000000 := by simpa using hlen2
      clear he1 he2 hok1 hnil hys hinv
      go_wp2_with (first
        | (at_builtin; go_loud (refine wp_appendRow (F := fun k => w.heap.size ≤ k ∧ ¬ S2 k) eTok (fun k => wr.heap.size ≤ k ∧ ¬ S2 k) w.heap.size rfl (.tmp 20) (.tmp 22) 32 42 _ 48 rfl Tryz.underlying32 info_Token rfl (by decide) (.slice A1 n1 c1) (.slice A2 n2 c2) out ys rfl rfl ?qo hown2.rd ?qel ?qnew ?qb ?ql (by decide) ?_))
        | (refine HC.out.mono ?_; rintro e w2 hq2; obtain ⟨A2, n2, c2, S2, rfl, hown2, ⟨G2, hG2, hinv2⟩, hup2, hS2⟩ := hq2))
      case qo => exact ((hown.bound.upd hup2 (fun k hk => hk.1.2)).mono (fun k hk => ⟨hk.1.1, fun e => (hS2 k e).elim (fun e => hk.1.2 e) (fun e => by have := hk.2; omega)⟩)).lower (Nat.le_refl _)
      case qel => intro y cs hy; exact eTok.mono (fun k hk => ⟨⟨Nat.le_trans hup.size hk.1, hk.2⟩, fun e => by have := (hown.lt k e.symm).2; have := hk.1; omega⟩) hy
      case qnew => intro k hk; exact ⟨Nat.le_trans (Nat.le_trans hup.size hup2.size) hk, fun e => by have := (M.lt _ _ _ _ hinv2).1 k e; omega⟩
      case qb => exact Nat.le_trans hup.size hup2.size
      case ql => omega
      intro A3 n3 c3 w3 hown3 hup3 hat3 _
      go_wp2
      go_ret
      go_light
      rw [HFin.out.1, HFin.out.2]
      refine ⟨A3, n3, c3, S2, rfl, hown3, ⟨G2, fun k hk => (hG2 k hk).elim (fun h => (hG1 k h).1) (fun h => .inr (Nat.le_trans hup.size h)), ?_⟩, ?_, ?_⟩
      · refine M.upd _ _ _ _ _ _ hinv2 hup3 (fun k hk e => ?_) (fun k hk e => ?_)
        · have h1 := hown.1 k e.symm
          have h2 := (hown.lt k e.symm).2
          rcases hS2 k hk with h3 | h3
          · exact h1.2 h3
          · omega
        · have h2 := (hown.lt k e.symm).2
          rcases hG2 k hk with h3 | h3
          · exact (hG1 k h3).2 e
          · omega
      · refine (hup.trans hup2 (T := S) (fun _ _ h => h) (fun k hk h => (hS1 k h).elim id (fun e => by omega))).trans hup3 (fun _ _ h => h) (fun k hk e => ?_)
        have := (hown.lt k e.symm).1; omega
      · intro k hk
        rcases hS2 k hk with h | h
        · exact hS1 k h
        · have := hup.size; exact .inr (by omega)
end Go.Proofs.YtebgjabalnffdaaGreatDoor
