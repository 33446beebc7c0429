/- carry.Reader: its state in memory, and what its methods do. -/
import Derived.Test.YtebgjabalnffdaaGreatDoorUtfB
set_option linter.unusedVariables false
set_option linter.unusedSimpArgs false
set_option maxRecDepth 100000
namespace Go.Proofs.YtebgjabalnffdaaGreatDoor
open Go.RowKit

/-- A token. -/
structure Tok where
  pos : Int
  len : Int
  out : List Int
  err : Int
deriving Inhabited, DecidableEq, Repr

def eTok : Enc Tok := ((eI .i64).pair ((eI .i64).pair ((eI .i64).row.pair (eI .i64)))).via fun t => (t.pos, t.len, t.out, t.err)

theorem eTok_mk {F : Nat → Prop} {w : World} {o : Value} {p l e : Int} {out : List Int} (h : Rd (eI .i64) F w o out) : eTok.rep F w ⟨p, l, out, e⟩ [.int .i64 p, .int .i64 l, o, .int .i64 e] :=
  ⟨[.int .i64 p], _, rfl, rfl, [.int .i64 l], _, rfl, rfl, [o], _, rfl, ⟨o, rfl, h⟩, rfl⟩
theorem eTok_of {F : Nat → Prop} {w : World} {x : Tok} {cs : List Value} (h : eTok.rep F w x cs) : ∃ o, cs = [.int .i64 x.pos, .int .i64 x.len, o, .int .i64 x.err] ∧ Rd (eI .i64) F w o x.out := by
  obtain ⟨_, _, rfl, rfl, _, _, rfl, rfl, _, _, rfl, ⟨o, rfl, ho⟩, rfl⟩ := h
  exact ⟨o, rfl, ho⟩

/-- A reader at block b: what waits, where that begins; S: the blocks that it may write. -/
def IsRdr (w : World) (b : Nat) (S : Nat → Prop) (wait : List Int) (pos : Int) : Prop :=
  ∃ v, w.cell? ⟨b, 0, none⟩ = some v ∧ w.cell? ⟨b, 1, none⟩ = some (.int .i64 pos) ∧ w.frozen? ⟨b, 0, none⟩ = false ∧ w.frozen? ⟨b, 1, none⟩ = false ∧
    Own (eI .u8) 5 Any 0 w v wait ∧ S b ∧ (∀ k, v.ownBlock = some k → S k ∧ k ≠ b) ∧ ∀ k, S k → k < w.heap.size

theorem reader_Held (b : Nat) (S : Nat → Prop) (wait : List Int) (pos : Int) (w : World) (h : IsRdr w b S wait pos) :
    Calls Tryz.prog 181 #[.pointer (some ⟨b, 0, none⟩)] w fun e w' => e = .returned (.int .i64 wait.length) ∧ w = w' := by
  obtain ⟨v, h0, h1, h2, h3, ho, _⟩ := h
  obtain ⟨A, c, rfl⟩ := ho.rd.form
  go_enter Tryz.func181, Tryz.ntmps181
  go_wp2
  go_ret
  exact ⟨rfl, rfl⟩

/-- Behind a step: the reader, and what may be written by the next one. -/
def RdrPost (w : World) (b : Nat) (S : Nat → Prop) (wait : List Int) (pos : Int) (S' : Nat → Prop) (w' : World) : Prop :=
  IsRdr w' b S' wait pos ∧ Upd S w w' ∧ ∀ k, S' k → S k ∨ w.heap.size ≤ k

def TakePost (w : World) (b : Nat) (S : Nat → Prop) (wait : List Int) (pos s e : Int) (n : Nat) (en : Ending) (w' : World) : Prop :=
  ∃ o S', en = .returned (.agg #[.int .i64 pos, .int .i64 n, o, .int .i64 e]) ∧ Rd (eI .i64) (fun k => w.heap.size ≤ k ∧ ¬ S' k) w' o (if e = 0 then [s] else []) ∧
    RdrPost w b S (wait.drop n) (pos + n) S' w'

theorem take_end {w w1 w' : World} {b : Nat} {S : Nat → Prop} {wait : List Int} {pos s e : Int} {n B : Nat} {A3 : Option Addr} {n3 c3 : Nat} {o : Value}
    (hS : S b) (hB : w.heap.size < B) (hall : Upd S w w1)
    (hown : Own (eI .u8) 5 (fun k => B ≤ k) 0 w1 (.slice A3 n3 c3) (wait.drop n))
    (ho : Rd (eI .i64) (fun k => w.heap.size < k ∧ k < B) w1 o (if e = 0 then [s] else [])) (hbw : b < w.heap.size)
    (hU : Upd (fun k => k = b ∨ k = w.heap.size) w1 w') (hU' : Upd S w w')
    (c0 : w'.cell? ⟨b, 0, none⟩ = some (.slice A3 n3 c3)) (c1 : w'.cell? ⟨b, 1, none⟩ = some (.int .i64 (pos + n))) (f0 : w'.frozen? ⟨b, 0, none⟩ = false) (f1 : w'.frozen? ⟨b, 1, none⟩ = false) :
    TakePost w b S wait pos s e n (.returned (.agg #[.int .i64 pos, .int .i64 n, o, .int .i64 e])) w' := by
  have hsz := hU'.size
  have hsz2 := hU.size
  refine ⟨o, fun k => k = b ∨ Value.ownBlock (.slice A3 n3 c3) = some k, rfl, ?_, ⟨⟨_, c0, c1, f0, f1, ?_, .inl rfl, fun k hk => ⟨.inr hk, ?_⟩, ?_⟩, hU', ?_⟩⟩
  · refine (ho.upd hU (fun k hk => by omega)).mono (fun k hk => ⟨by omega, ?_⟩)
    rintro (rfl | hk')
    · omega
    · have := hown.1 k hk'; omega
  · exact (hown.keep hU (fun k hk => by have := hown.1 k hk; omega)).mono (fun _ _ => trivial)
  · have := hown.1 k hk; omega
  · rintro k (rfl | hk)
    · omega
    · have := (hown.lt k hk).2; omega
  · rintro k (rfl | hk)
    · exact .inl hS
    · have := hown.1 k hk; exact .inr (by omega)

theorem reader_take (b : Nat) (S : Nat → Prop) (wait : List Int) (pos s e : Int) (n : Nat) (w : World) (h : IsRdr w b S wait pos) (hn : n ≤ wait.length) (hl : wait.length ≤ 1000)
   (hp : 0 ≤ pos) (hp' : pos ≤ 1000000) :
    Calls Tryz.prog 183 #[.pointer (some ⟨b, 0, none⟩), .int .i64 s, .int .i64 n, .int .i64 e] w (TakePost w b S wait pos s e n) := by
  obtain ⟨v, h0, h1, h2, h3, ho, hS, hSv, hSz⟩ := h
  obtain ⟨A, c, rfl⟩ := ho.rd.form
  obtain ⟨A2, c2, hrun, hrd⟩ := ho.rd.cutL (P := Tryz.prog) Tryz.underlying22 size_u8 n hn
  have hb0 : b < w.heap.size := World.block_lt_of_cell? w ⟨b, 0, none⟩ h0
  have hb1 : b < w.heap.size + 1 := by omega
  have hb2 : b < w.heap.size + 1 + 1 := by omega
  have hb3 : b < w.heap.size + 1 + 1 + 1 := by omega
  have hne1 : ¬ b = w.heap.size := by omega
  have hne2 : ¬ w.heap.size = b := by omega
  by_cases he : e = 0
  · subst he
    go_enter Tryz.func183, Tryz.ntmps183
    go_wp2_with (at_builtin; refine wp_appendRow (F := fun k => w.heap.size + 1 + 1 + 1 ≤ k) (eI .u8) Any 0 rfl _ _ 22 5 (.int .u8 0) 1 rfl Tryz.underlying22 info_u8 rfl (by decide) _ _ [] (wait.drop n) rfl rfl (Own.nil _ _ _ _ _) ?qhr (fun _ _ h => h) ?qnew (Nat.zero_le _) ?ql (by decide) ?_)
    case qhr => exact hrd.upd (S := No) ((((Upd.refl _ _).alloc _).alloc _).alloc _) (fun _ _ h => h)
    case qnew => intro k hk; simp at hk; omega
    case ql => simp; omega
    intro A3 n3 c3 w1 hown hupd _ _
    have hro := (Rd.one (F := fun k => w.heap.size < k ∧ k < w.heap.size + 1 + 1 + 1) .i64 s _ _ (by simp; omega)).upd hupd (fun k _ h => by simp [Value.ownBlock] at h)
    have hall : Upd S w w1 := Upd.trans (S := S) ((((Upd.refl S w).alloc _).alloc _).alloc _) hupd (fun _ _ h => h) (fun _ _ h => by simp [Value.ownBlock] at h)
    obtain ⟨hc, hf⟩ := hupd.both (B := w.heap.size + 1 + 1 + 1) (by simp) (fun b _ h => by simp [Value.ownBlock] at h)
    have hz : w.heap.size + 1 + 1 + 1 ≤ w1.heap.size := by have := hupd.size; simpa using this
    have hzb : b < w1.heap.size := by omega
    have hz0 : w.heap.size < w1.heap.size := by omega
    have hz1 : w.heap.size + 1 < w1.heap.size := by omega
    go_wp2
    refine bodyPost_ret (v := .agg #[.int .i64 pos, .int .i64 n, .slice (some ⟨w.heap.size + 1 + 1, 0, none⟩) 1 1, .int .i64 0]) ?_ rfl ?_
    · simp [results, Tryz.results183, go_sem, cell_set, *]
    · refine take_end (B := w.heap.size + 1 + 1 + 1) hS (by omega) hall hown (by simpa using hro) hb0 ?_ ?_ ?_ ?_ ?_ ?_
      · iterate 6 (refine Upd.setCell ?_ ?_ _)
        all_goals first | exact Upd.refl _ _ | (intro _; simp)
      · iterate 6 (refine Upd.setCell ?_ ?_ _)
        all_goals first | exact hall | (intro _; exact hS) | (intro h; simp at h)
      all_goals simp [go_sem, cell_set, *]
  · have he' : (e == 0) = false := by simpa using he
    go_enter Tryz.func183, Tryz.ntmps183
    go_wp2_with (at_builtin; refine wp_appendRow (F := fun k => w.heap.size + 1 + 1 ≤ k) (eI .u8) Any 0 rfl _ _ 22 5 (.int .u8 0) 1 rfl Tryz.underlying22 info_u8 rfl (by decide) _ _ [] (wait.drop n) rfl rfl (Own.nil _ _ _ _ _) ?qhr (fun _ _ h => h) ?qnew (Nat.zero_le _) ?ql (by decide) ?_)
    case qhr => exact hrd.upd (S := No) (((Upd.refl _ _).alloc _).alloc _) (fun _ _ h => h)
    case qnew => intro k hk; simp at hk; omega
    case ql => simp; omega
    intro A3 n3 c3 w1 hown hupd _ _
    have hall : Upd S w w1 := Upd.trans (S := S) (((Upd.refl S w).alloc _).alloc _) hupd (fun _ _ h => h) (fun _ _ h => by simp [Value.ownBlock] at h)
    obtain ⟨hc, hf⟩ := hupd.both (B := w.heap.size + 1 + 1) (by simp) (fun b _ h => by simp [Value.ownBlock] at h)
    have hz : w.heap.size + 1 + 1 ≤ w1.heap.size := by have := hupd.size; simpa using this
    have hzb : b < w1.heap.size := by omega
    have hz0 : w.heap.size < w1.heap.size := by omega
    have hz1 : w.heap.size + 1 < w1.heap.size := by omega
    go_wp2
    refine bodyPost_ret (v := .agg #[.int .i64 pos, .int .i64 n, .slice none 0 0, .int .i64 e]) ?_ rfl ?_
    · simp [results, Tryz.results183, go_sem, cell_set, *]
    · refine take_end (B := w.heap.size + 1 + 1) hS (by omega) hall hown (by rw [if_neg he]; exact Rd.nil _ _ _) hb0 ?_ ?_ ?_ ?_ ?_ ?_
      · iterate 6 (refine Upd.setCell ?_ ?_ _)
        all_goals first | exact Upd.refl _ _ | (intro _; simp)
      · iterate 6 (refine Upd.setCell ?_ ?_ _)
        all_goals first | exact hall | (intro _; exact hS) | (intro h; simp at h)
      all_goals simp [go_sem, cell_set, *]

theorem IsRdr.lt {w : World} {b : Nat} {S : Nat → Prop} {wait : List Int} {pos : Int} (h : IsRdr w b S wait pos) : ∀ k, S k → k < w.heap.size := by
  obtain ⟨v, h0, h1, h2, h3, ho, hS, hSv, hSz⟩ := h
  exact hSz
theorem IsRdr.upd {w w' : World} {b : Nat} {S T : Nat → Prop} {wait : List Int} {pos : Int} (h : IsRdr w b S wait pos) (hu : Upd T w w') (hn : ∀ k, S k → ¬ T k) : IsRdr w' b S wait pos := by
  obtain ⟨v, h0, h1, h2, h3, ho, hS, hv, hSz⟩ := h
  have hb : b < w.heap.size := World.block_lt_of_cell? w ⟨b, 0, none⟩ h0
  exact ⟨v, hu.cell h0 (hn b hS), hu.cell h1 (hn b hS), (hu.frozen (p := ⟨b, 0, none⟩) hb (hn b hS)).trans h2, (hu.frozen (p := ⟨b, 1, none⟩) hb (hn b hS)).trans h3, ho.keep hu (fun k hk => hn k (hv k hk).1), hS, hv, fun k hk => Nat.lt_of_lt_of_le (hSz k hk) hu.size⟩

/-- What a machine's step leaves: new tokens, and its state; S': what the next step may write. -/
def MPost (w : World) (S : Nat → Prop) (toks : List Tok) (inv : (Nat → Prop) → World → Prop) (en : Ending) (w' : World) : Prop :=
  ∃ A n c S', en = .returned (.slice A n c) ∧ Own eTok 42 (fun k => w.heap.size ≤ k ∧ ¬ S' k) w.heap.size w' (.slice A n c) toks ∧ inv S' w' ∧ Upd S w w' ∧ ∀ k, S' k → S k ∨ w.heap.size ≤ k

def rLoop : Nat → List Int → Int → List Tok × List Int × Int
  | 0, wait, pos => ([], wait, pos)
  | k + 1, wait, pos => if wait.length = 0 then ([], wait, pos) else if (uOne wait).2.2 = 2 then ([], wait, pos) else
      (⟨pos, (uOne wait).2.1, if (uOne wait).2.2 = 0 then [(uOne wait).1] else [], (uOne wait).2.2⟩ :: (rLoop k (wait.drop (uOne wait).2.1.toNat) (pos + (uOne wait).2.1)).1, (rLoop k (wait.drop (uOne wait).2.1.toNat) (pos + (uOne wait).2.1)).2)

theorem uCore_bd (n : Nat) (x1 x2 x3 sz s lo hi : Int) (hn : 0 < n) (hz : 0 ≤ sz) (hz' : sz ≤ 4) : 1 ≤ (uCore n x1 x2 x3 sz s lo hi).2.1 ∧ (uCore n x1 x2 x3 sz s lo hi).2.1 ≤ n := by
  unfold uCore
  by_cases a : sz = 0
  · rw [if_pos a]; constructor <;> dsimp only <;> omega
  rw [if_neg a]
  by_cases b : 1 = sz
  · rw [if_pos b]; constructor <;> dsimp only <;> omega
  rw [if_neg b]
  by_cases c : 1 = n
  · rw [if_pos (by omega)]; constructor <;> dsimp only <;> omega
  rw [if_neg (by omega)]
  by_cases d : x1 < lo
  · rw [if_pos d]; constructor <;> dsimp only <;> omega
  rw [if_neg d]
  by_cases e : hi < x1
  · rw [if_pos e]; constructor <;> dsimp only <;> omega
  rw [if_neg e]
  by_cases b : 2 = sz
  · rw [if_pos b]; constructor <;> dsimp only <;> omega
  rw [if_neg b]
  by_cases c : 2 = n
  · rw [if_pos (by omega)]; constructor <;> dsimp only <;> omega
  rw [if_neg (by omega)]
  by_cases d : x2 < 128
  · rw [if_pos d]; constructor <;> dsimp only <;> omega
  rw [if_neg d]
  by_cases e : 191 < x2
  · rw [if_pos e]; constructor <;> dsimp only <;> omega
  rw [if_neg e]
  by_cases b : 3 = sz
  · rw [if_pos b]; constructor <;> dsimp only <;> omega
  rw [if_neg b]
  by_cases c : 3 = n
  · rw [if_pos (by omega)]; constructor <;> dsimp only <;> omega
  rw [if_neg (by omega)]
  by_cases d : x3 < 128
  · rw [if_pos d]; constructor <;> dsimp only <;> omega
  rw [if_neg d]
  by_cases e : 191 < x3
  · rw [if_pos e]; constructor <;> dsimp only <;> omega
  rw [if_neg e]
  constructor <;> dsimp only <;> omega

theorem uOne_bd {bs : List Int} (h : Bytes8 bs) (hn : 0 < bs.length) : 1 ≤ (uOne bs).2.1 ∧ (uOne bs).2.1 ≤ bs.length := by
  unfold uOne
  rw [if_neg (by omega)]
  have := uLead_bd _ (h.at_ 0).1
  exact uCore_bd _ _ _ _ _ _ _ _ hn this.1 this.2.1

theorem reader_End (b : Nat) (S : Nat → Prop) (wait : List Int) (pos : Int) (w : World) (h : IsRdr w b S wait pos) (hl : wait.length ≤ 1000) (hp : 0 ≤ pos) (hp' : pos ≤ 1000000) :
    Calls Tryz.prog 180 #[.pointer (some ⟨b, 0, none⟩)] w (MPost w S (if wait.length = 0 then [] else [⟨pos, wait.length, [], 2⟩]) (fun S' w' => IsRdr w' b S' [] (pos + wait.length))) := by
  have h' := h
  obtain ⟨v, h0, h1, h2, h3, ho, hS⟩ := h
  obtain ⟨A, c, rfl⟩ := ho.rd.form
  by_cases hn : wait.length = 0
  · obtain rfl : wait = [] := List.eq_nil_of_length_eq_zero hn
    go_enter Tryz.func180, Tryz.ntmps180
    go_wp2
    go_ret
    exact ⟨_, _, _, S, rfl, Own.nil _ _ _ _ _, by simpa using h', Upd.refl _ _, fun k hk => .inl hk⟩
  · have hz : ((wait.length : Int) == 0) = false := by simpa using hn
    go_enter Tryz.func180, Tryz.ntmps180
    go_wp2_with (go_at_call 183; refine (reader_take _ _ _ _ _ _ _ _ h' (Nat.le_refl _) hl hp hp').mono ?_; rintro e w1 ⟨o, S', rfl, hro, hrd, hup, hS'⟩)
    go_ret
    have hrd' := hrd.upd (T := No) ((Upd.refl _ _).alloc (.cells #[.int .i64 pos, .int .i64 wait.length, o, .int .i64 2] 42)) (fun _ _ h => h)
    rw [List.drop_length] at hrd'
    refine ⟨_, _, _, S', rfl, ?_, hrd', hup.alloc _, hS'⟩
    have hS'' : ¬ S' w1.heap.size := fun e => by have := hrd.lt _ e; omega
    have hl := Own.lit (E := eTok) (e := 42) (F := fun k => w.heap.size ≤ k ∧ ¬ S' k) (base := w.heap.size) w1 [(⟨pos, (wait.length : Int), [], 2⟩ : Tok)] [[.int .i64 pos, .int .i64 wait.length, o, .int .i64 2]] rfl (by simp) hup.size ⟨hup.size, hS''⟩ (fun k x cs hx hc => by
      cases k with
      | zero => simp at hx hc; subst hx; subst hc; exact eTok_mk (by simpa using hro)
      | succ k => simp at hx)
    simpa [hn] using hl

def inRdr (b : Nat) (wait : List Int) (pos : Int) : (Nat → Prop) → World → Prop := fun S' w' => IsRdr w' b S' wait pos
def RdrRel (w : World) (b : Nat) (S : Nat → Prop) (tot : List Tok × List Int × Int) (k : Nat) (v : Value) (wr : World) : Prop :=
  ∃ A n c out S' wait pos, v = .slice A n c ∧ Own eTok 42 (fun k => w.heap.size ≤ k ∧ ¬ S' k) w.heap.size wr (.slice A n c) out ∧ RdrPost w b S wait pos S' wr ∧
    wait.length = k ∧ k ≤ 1000 ∧ Bytes8 wait ∧ 0 ≤ pos ∧ pos + k ≤ 1000000 ∧ (∃ f, k ≤ f ∧ out ++ (rLoop f wait pos).1 = tot.1 ∧ (rLoop f wait pos).2 = tot.2) ∧ out.length + k ≤ 2000

theorem reader_Put (b : Nat) (S : Nat → Prop) (wait : List Int) (pos c : Int) (w : World) (h : IsRdr w b S wait pos) (hl : wait.length ≤ 900) (hp : 0 ≤ pos) (hp' : pos ≤ 900000) (hb8 : Bytes8 wait) (hc0 : 0 ≤ c) (hc1 : c ≤ 255) :
    Calls Tryz.prog 184 #[.pointer (some ⟨b, 0, none⟩), .int .u8 c] w (MPost w S (rLoop (wait.length + 1) (wait ++ [c]) pos).1 (inRdr b (rLoop (wait.length + 1) (wait ++ [c]) pos).2.1 (rLoop (wait.length + 1) (wait ++ [c]) pos).2.2)) := by
  obtain ⟨tot, htot⟩ : ∃ tot, tot = rLoop (wait.length + 1) (wait ++ [c]) pos := ⟨_, rfl⟩
  rw [← htot]
  have h' := h
  obtain ⟨v, h0, h1, h2, h3, ho, hS, hSv, hSz⟩ := h
  obtain ⟨A, c0, rfl⟩ := ho.rd.form
  have hbw : b < w.heap.size := World.block_lt_of_cell? w ⟨b, 0, none⟩ h0
  go_enter Tryz.func184, Tryz.ntmps184
  go_wp2_with (at_builtin; go_loud (refine wp_appendLit (F := Any) (eI .u8) 0 rfl (.tmp 13) (.tmp 15) 22 5 (.int .u8 0) 1 rfl Tryz.underlying22 info_u8 rfl (by decide) (.slice A wait.length c0) wait [c] [[.int .u8 c]] _ 1 rfl rfl rfl rfl rfl ho ?qhr ?qnew (Nat.zero_le _) ?ql (by decide) ?_))
  case qhr => intro k y cs hy hc; cases k with
    | zero => simp at hy hc; subst hy; subst hc; rfl
    | succ k => simp at hy
  case qnew => intro k hk; trivial
  case ql => simp; omega
  intro A3 n3 c3 w1 hown hupd hat
  obtain ⟨hc, hf⟩ := hupd.bothN
  have hz : w.heap.size ≤ w1.heap.size := hupd.size
  have hzb : b < w1.heap.size := by omega
  have hnb : ¬ some b = Value.ownBlock (.slice A wait.length c0) := fun e => (hSv b e.symm).2 rfl
  go_wp2
  have hU1 : Upd (fun k => k = b) w1 (w1.setCell ⟨b, 0, none⟩ (.slice A3 n3 c3)) := Upd.setCell (S := fun k => k = b) (p := ⟨b, 0, none⟩) (Upd.refl _ _) (fun _ => rfl) _
  have hat' : ∀ k, Value.ownBlock (.slice A3 n3 c3) = some k → (S k ∨ w.heap.size ≤ k) ∧ k ≠ b := by
    intro k hk
    rcases hat with hat | ⟨g, hg, hg'⟩
    · rw [hat] at hk; exact ⟨.inl (hSv k hk).1, (hSv k hk).2⟩
    · rw [hg] at hk; injection hk with hk; exact ⟨.inr (by omega), by omega⟩
  have hst : RdrPost w b S (wait ++ [c]) pos (fun k => k = b ∨ Value.ownBlock (.slice A3 n3 c3) = some k) (w1.setCell ⟨b, 0, none⟩ (.slice A3 n3 c3)) := by
    refine ⟨⟨.slice A3 n3 c3, ?_, ?_, ?_, ?_, hown.keep hU1 (fun k hk => (hat' k hk).2), .inl rfl, fun k hk => ⟨.inr hk, (hat' k hk).2⟩, ?_⟩, ?_, ?_⟩
    · simp [go_sem, cell_set, *]
    · simp [go_sem, cell_set, *]
    · simp [go_sem, cell_set, *]
    · simp [go_sem, cell_set, *]
    · have := hU1.size
      rintro k (rfl | hk)
      · omega
      · have := (hown.lt k hk).2; omega
    · exact (hupd.mono (fun k _ hk => (hSv k hk.symm).1)).setCell (fun _ => hS) _
    · rintro k (rfl | hk)
      · exact .inl hS
      · exact (hat' k hk).1
  clear hc hf hz hzb hnb hU1 hat' hat hupd hown h0 h1 h2 h3 ho hSv hSz
  go_loopg [5] (wait.length + 1) (RdrRel w b S tot)
  case atStart =>
    refine ⟨none, 0, 0, [], _, wait ++ [c], pos, rfl, Own.nil _ _ _ _ _, hst, by simp, by omega, ?_, hp, by push_cast; omega, ?_, by simp; omega⟩
    · intro x hx
      rcases List.mem_append.1 hx with hx | hx
      · exact hb8 x hx
      · simp at hx; subst hx; exact ⟨hc0, hc1⟩
    · rw [htot]; exact ⟨wait.length + 1, by omega, by simp, rfl⟩
  case round =>
    obtain ⟨A, n, c, out, S', wt, ps, rfl, hown, ⟨hrd, hup, hS'⟩, hk, hk', hb8, hp0, hp1, heq, hlen⟩ := hrel
    have hrd0 := hrd
    obtain ⟨v, h0, h1, h2, h3, ho, hSb, hSv, hSz⟩ := hrd
    obtain ⟨A0, c0, rfl⟩ := ho.rd.form
    have HK : Hd (wt.length = gk) := ⟨hk⟩
    have hwl : wt.length ≤ 1000 := by omega
    have hwp : ps + wt.length ≤ 1000000 := by omega
    clear hk
    have hEQ : Hd (∃ f, gk ≤ f ∧ out ++ (rLoop f wt ps).1 = tot.1 ∧ (rLoop f wt ps).2 = tot.2) := ⟨heq⟩
    clear heq
    by_cases hz : wt.length = 0
    · have hz1 : decide (0 < wt.length) = false := by rw [hz]; rfl
      go_wp2
      go_ret
      go_light
      have hk := HK.out
      obtain ⟨f, hf, hEQ⟩ := hEQ.out
      rw [show rLoop f wt ps = ([], wt, ps) by cases f <;> simp [rLoop, hz]] at hEQ
      simp only [List.append_nil] at hEQ
      obtain ⟨rfl, hEQ2⟩ := hEQ
      exact ⟨_, _, _, S', rfl, hown, by rw [← hEQ2]; exact hrd0, hup, hS'⟩
    · obtain ⟨s0, m, e0, hu⟩ : ∃ (s0 : Int) (m : Nat) (e0 : Int), uOne wt = (s0, (m : Int), e0) := ⟨_, (uOne wt).2.1.toNat, _, by rw [Int.toNat_of_nonneg (by have := uOne_bd hb8 (by omega); omega)]⟩
      have hOne := utf_One ho.rd hb8
      have hbd := uOne_bd hb8 (by omega)
      rw [hu] at hOne hbd
      simp only at hOne hbd
      have HO : Hd (Calls Tryz.prog 185 #[.slice A0 wt.length c0] wr fun e w' => e = .returned (.tuple #[.int .i64 s0, .int .i64 m, .int .i64 e0]) ∧ wr = w') := ⟨hOne⟩
      have HU : Hd (uOne wt = (s0, (m : Int), e0)) := ⟨hu⟩
      clear hOne hu
      by_cases he : e0 = 2
      · have he1 : (e0 == 2) = true := by simp [he]
        have HE : Hd (e0 = 2) := ⟨he⟩
        clear he
        go_wp2_with (go_at_call 185; refine HO.out.mono ?_; rintro e w' ⟨rfl, rfl⟩)
        go_ret
        go_light
        obtain ⟨f, hf, hEQ⟩ := hEQ.out
        have hu := HU.out
        obtain ⟨g, rfl⟩ : ∃ g, f = g + 1 := ⟨f - 1, by have := HK.out; omega⟩
        simp only [rLoop, hu, HE.out, if_neg hz, if_true, List.append_nil] at hEQ
        obtain ⟨rfl, hEQ2⟩ := hEQ
        exact ⟨_, _, _, S', rfl, hown, by rw [← hEQ2]; exact hrd0, hup, hS'⟩
      · have he1 : (e0 == 2) = false := by simp [he]
        obtain ⟨os, HOS⟩ : ∃ os, Hd (os = if e0 = 0 then [s0] else []) := ⟨_, ⟨rfl⟩⟩
        go_wp2_with (first | (go_at_call 185; refine HO.out.mono ?_; rintro e w' ⟨rfl, rfl⟩) | (go_at_call 183; go_loud (refine (reader_take _ _ _ _ _ _ m _ hrd0 (by omega) (by omega) hp0 (by omega)).mono ?_; rintro _ w2 ⟨o, S2, rfl, hro, hrd2, hup2, hS2⟩; rw [← HOS.out] at hro)) | (at_builtin; go_loud (refine wp_appendLit (F := fun k => w.heap.size ≤ k ∧ ¬ S2 k) eTok w.heap.size rfl (.tmp 36) (.tmp 42) 32 42 _ 48 rfl Tryz.underlying32 info_Token rfl (by decide) (.slice A n c) out [⟨ps, m, os, e0⟩] [[.int .i64 ps, .int .i64 m, o, .int .i64 e0]] _ 1 rfl rfl rfl rfl rfl ?qo ?qhr ?qnew ?qb ?ql (by decide) ?_)))
        case qo => exact ((hown.bound.upd hup2 (fun k hk => hk.1.2)).mono (fun k hk => ⟨hk.1.1, fun e => (hS2 k e).elim (fun e => hk.1.2 e) (fun e => by have := hk.2; omega)⟩)).lower (Nat.le_refl _)
        case qhr =>
          intro k y cs hy hc
          cases k with
          | zero =>
            simp at hy hc; subst hy; subst hc
            refine eTok_mk (hro.mono (fun k hk => ⟨⟨Nat.le_trans hup.size hk.1, hk.2⟩, fun e => ?_⟩))
            have := (hown.lt k e.symm).2; omega
          | succ k => simp at hy
        case qnew => intro k hk; exact ⟨Nat.le_trans (Nat.le_trans hup.size hup2.size) hk, fun e => by have := hrd2.lt k e; omega⟩
        case qb => exact Nat.le_trans hup.size hup2.size
        case ql => simp; omega
        intro A1 n1 c1 w3 hown3 hup3 hat3
        go_wp2
        go_roundg (gk - m)
        case measure => have := HK.out; omega
        case rel =>
          go_light
          have hg := HK.out
          have hSn : ∀ k, S2 k → ¬ some k = Value.ownBlock (.slice A n c) := fun k hk e => by
            have h1 := hown.1 k e.symm
            have h2 := (hown.lt k e.symm).2
            rcases hS2 k hk with h3 | h3
            · exact h1.2 h3
            · omega
          refine ⟨A1, n1, c1, _, S2, wt.drop m, ps + m, rfl, hown3, ⟨hrd2.upd hup3 hSn, ?_, ?_⟩, by simp; omega, by omega, fun x hx => hb8 x (List.mem_of_mem_drop hx), by omega, by omega, ?_, by simp; omega⟩
          · refine (hup.trans hup2 (T := S) (fun _ _ h => h) (fun k hk h => (hS' k h).elim id (fun e => by omega))).trans hup3 (fun _ _ h => h) (fun k hk e => ?_)
            have := (hown.lt k e.symm).1; omega
          · intro k hk
            rcases hS2 k hk with h | h
            · exact hS' k h
            · have := hup.size; exact .inr (by omega)
          · obtain ⟨f, hf, hEQ⟩ := hEQ.out
            have hu := HU.out
            obtain ⟨g, rfl⟩ : ∃ g, f = g + 1 := ⟨f - 1, by omega⟩
            have hne : ¬ e0 = 2 := by simpa using he1
            have hos := HOS.out
            simp only [rLoop, hu, if_neg hz, if_neg hne] at hEQ
            rw [← hos] at hEQ
            simp only [Int.toNat_natCast] at hEQ
            exact ⟨g, by omega, by simpa using hEQ.1, hEQ.2⟩

theorem bytes_Put (b : Nat) (S : Nat → Prop) (wait : List Int) (pos u : Int) (w : World) (h : IsRdr w b S wait pos) (hl : wait.length ≤ 900) (hp : 0 ≤ pos) (hp' : pos ≤ 900000) (hb8 : Bytes8 wait) (hu0 : 0 ≤ u) (hu1 : u ≤ 255) :
    Calls Tryz.prog 182 #[.pointer (some ⟨b, 0, none⟩), .int .i64 u] w (MPost w S (rLoop (wait.length + 1) (wait ++ [u]) pos).1 (inRdr b (rLoop (wait.length + 1) (wait ++ [u]) pos).2.1 (rLoop (wait.length + 1) (wait ++ [u]) pos).2.2)) := by
  have hm : u % 256 = u := by omega
  have H := reader_Put b S wait pos u w h hl hp hp' hb8 hu0 hu1
  have HH : Hd _ := ⟨H⟩
  clear H
  go_enter Tryz.func182, Tryz.ntmps182
  go_wp2_with (go_at_call 184; refine HH.out.mono ?_; rintro e w' hq; obtain ⟨A, n, c, S', rfl, hq⟩ := hq)
  go_ret
  exact ⟨A, n, c, S', rfl, hq⟩
end Go.Proofs.YtebgjabalnffdaaGreatDoor
