/- The machines of a table's reader, and of UTF-8's bytes. -/
import Derived.Test.YtebgjabalnffdaaGreatDoorMach
set_option linter.unusedVariables false
set_option linter.unusedSimpArgs false
set_option maxRecDepth 100000
namespace Go.Proofs.YtebgjabalnffdaaGreatDoor
open Go.RowKit

theorem MPost.to {w w' : World} {S : Nat → Prop} {toks : List Tok} {inv inv2 : (Nat → Prop) → World → Prop} {e : Ending} (h : MPost w S toks inv e w') (hp : ∀ S' w', Upd S w w' → (∀ k, S' k → S k ∨ w.heap.size ≤ k) → inv S' w' → inv2 S' w') : MPost w S toks inv2 e w' := by
  obtain ⟨A, n, c, S', he, hown, hinv, hu, hS⟩ := h
  exact ⟨A, n, c, S', he, hown, hp S' w' hu hS hinv, hu, hS⟩

theorem dec_m0P (K : Nat) (w : World) (d : Nat) : (method (K + 1) 150 (.pointer (some ⟨d, 0, none⟩)) "Put").run Tryz.prog w = ((do let v ← loadVar 151 ⟨d, 0, none⟩; pure (207, v)) : Sem _).run Tryz.prog w := by kernel_rfl
theorem dec_m0E (K : Nat) (w : World) (d : Nat) : (method (K + 1) 150 (.pointer (some ⟨d, 0, none⟩)) "End").run Tryz.prog w = ((do let v ← loadVar 151 ⟨d, 0, none⟩; pure (205, v)) : Sem _).run Tryz.prog w := by kernel_rfl
theorem dec_m0H (K : Nat) (w : World) (d : Nat) : (method (K + 1) 150 (.pointer (some ⟨d, 0, none⟩)) "Held").run Tryz.prog w = ((do let v ← loadVar 151 ⟨d, 0, none⟩; pure (206, v)) : Sem _).run Tryz.prog w := by kernel_rfl

def decInv (d m : Nat) (F0 : Nat → Prop) (rs : List Rule) (s : List Int × Int) (S : Nat → Prop) (w : World) : Prop :=
  w.cell? ⟨d, 0, none⟩ = some (.pointer (some ⟨m, 0, none⟩)) ∧ ¬ S d ∧ IsMat w m S F0 rs s.1 s.2

theorem dec_to {d m : Nat} {F0 : Nat → Prop} {rs : List Rule} {s s' : List Int × Int} {S : Nat → Prop} {w : World} (h : decInv d m F0 rs s S w) : ∀ S' w', Upd S w w' → (∀ k, S' k → S k ∨ w.heap.size ≤ k) → inMat m F0 rs s'.1 s'.2 S' w' → decInv d m F0 rs s' S' w' := by
  intro S' w' hu hS hi
  have hd : d < w.heap.size := World.block_lt_of_cell? w ⟨d, 0, none⟩ h.1
  exact ⟨hu.cell h.1 h.2.1, fun e => (hS d e).elim h.2.1 (fun e => by omega), hi⟩

/-- The machine that reads by rules. -/
def decM (d m : Nat) (F0 : Nat → Prop) (rs : List Rule) (hok : Side8 rs) : Mach (List Int × Int) where
  tag := 150
  val := .pointer (some ⟨d, 0, none⟩)
  inv := fun s S G w => decInv d m F0 rs s S w ∧ (∀ k, F0 k ∨ k = d → G k) ∧ ∀ k, G k → k < w.heap.size
  put := fun s u => mLoop rs false (s.1.length + 1) (s.1 ++ [u]) s.2
  fin := fun s => mLoop rs true s.1.length s.1 s.2
  held := fun s => s.1.length
  ok := fun s u => s.1.length ≤ 900 ∧ 0 ≤ s.2 ∧ s.2 + s.1.length ≤ 900000
  okE := fun s => s.1.length ≤ 1000 ∧ 0 ≤ s.2 ∧ s.2 + s.1.length ≤ 1000000
  fP := 207
  fE := 205
  fH := 206
  rP := .pointer (some ⟨m, 0, none⟩)
  rE := .pointer (some ⟨m, 0, none⟩)
  rH := .pointer (some ⟨m, 0, none⟩)
  mP := fun K s S G w h => by rw [dec_m0P]; simp [go_sem, h.1.1]
  mE := fun K s S G w h => by rw [dec_m0E]; simp [go_sem, h.1.1]
  mH := fun K s S G w h => by rw [dec_m0H]; simp [go_sem, h.1.1]
  qP := fun args w => by kernel_rfl
  qE := fun args w => by kernel_rfl
  qH := fun args w => by kernel_rfl
  cP := fun s S G w u h ok => (match_Put m S F0 rs s.1 s.2 u w h.1.2.2 hok ok.1 ok.2.1 ok.2.2).mono fun e w' hq => hq.to fun S' w' hu hS hi => ⟨G, fun k hk => .inl hk, dec_to h.1 S' w' hu hS hi, h.2.1, fun k hk => Nat.lt_of_lt_of_le (h.2.2 k hk) hu.size⟩
  cE := fun s S G w h ok => (match_End m S F0 rs s.1 s.2 w h.1.2.2 hok ok.1 ok.2.1 ok.2.2).mono fun e w' hq => hq.to fun S' w' hu hS hi => ⟨G, fun k hk => .inl hk, dec_to h.1 S' w' hu hS hi, h.2.1, fun k hk => Nat.lt_of_lt_of_le (h.2.2 k hk) hu.size⟩
  cH := fun s S G w h => match_Held m S F0 rs s.1 s.2 w h.1.2.2
  upd := fun s S G T w w' h hu hS hF => ⟨⟨hu.cell h.1.1 (hF d (h.2.1 d (.inr rfl))), h.1.2.1, h.1.2.2.upd hu hS (fun k hk => hF k (h.2.1 k (.inl hk)))⟩, h.2.1, fun k hk => Nat.lt_of_lt_of_le (h.2.2 k hk) hu.size⟩
  lt := fun s S G w h => ⟨h.1.2.2.lt, h.2.2⟩

theorem machine_Decode {w : World} {tb : Nat} {F : Nat → Prop} {rs : List Rule} (h : IsTable w tb F rs) (hF : ∀ k, F k → k < w.heap.size) :
    Calls Tryz.prog 52 #[.pointer (some ⟨tb, 0, none⟩)] w fun e w' => ∃ d m, e = .returned (.iface 150 (.pointer (some ⟨d, 0, none⟩))) ∧ decInv d m F rs ([], 0) (fun k => k = m) w' ∧ w.heap.size ≤ m ∧ w.heap.size ≤ d ∧ Upd No w w' := by
  have H1 : Hd _ := ⟨table_Read h⟩
  clear h
  go_enter Tryz.func52, Tryz.ntmps52
  go_wp2_with (first
    | (go_at_call 85; refine H1.out.mono ?_; rintro e w' ⟨tr, rfl, ht, rfl⟩)
    | (go_at_call 84; refine (match_Of ht hF).mono ?_; rintro e w1 ⟨rfl, hm1, hu1⟩; have hz1 : w.heap.size < w1.heap.size := hm1.lt _ rfl))
  go_ret
  go_light
  refine ⟨w1.heap.size, w.heap.size, rfl, ⟨by simp [go_sem], by omega, hm1.upd ((Upd.refl No _).alloc _) (fun _ _ h => h) (fun _ _ h => h)⟩, Nat.le_refl _, by omega, hu1.alloc _⟩

def bytInv (b : Nat) (s : List Int × Int) (S G : Nat → Prop) (w : World) : Prop := IsRdr w b S s.1 s.2 ∧ ∀ k, G k → k < w.heap.size
/-- The machine that reads UTF-8. -/
def bytM (b : Nat) : Mach (List Int × Int) where
  tag := 88
  val := .pointer (some ⟨b, 0, none⟩)
  inv := bytInv b
  put := fun s u => rLoop (s.1.length + 1) (s.1 ++ [u]) s.2
  fin := fun s => (if s.1.length = 0 then [] else [⟨s.2, s.1.length, [], 2⟩], ([], s.2 + s.1.length))
  held := fun s => s.1.length
  ok := fun s u => s.1.length ≤ 900 ∧ 0 ≤ s.2 ∧ s.2 ≤ 900000 ∧ Bytes8 s.1 ∧ 0 ≤ u ∧ u ≤ 255
  okE := fun s => s.1.length ≤ 1000 ∧ 0 ≤ s.2 ∧ s.2 ≤ 1000000
  fP := 182
  fE := 180
  fH := 181
  rP := .pointer (some ⟨b, 0, none⟩)
  rE := .pointer (some ⟨b, 0, none⟩)
  rH := .pointer (some ⟨b, 0, none⟩)
  mP := fun K s S G w h => by kernel_rfl
  mE := fun K s S G w h => by kernel_rfl
  mH := fun K s S G w h => by kernel_rfl
  qP := fun args w => by kernel_rfl
  qE := fun args w => by kernel_rfl
  qH := fun args w => by kernel_rfl
  cP := fun s S G w u h ok => (bytes_Put b S s.1 s.2 u w h.1 ok.1 ok.2.1 ok.2.2.1 ok.2.2.2.1 ok.2.2.2.2.1 ok.2.2.2.2.2).mono fun e w' hq => hq.to fun S' w' hu hS hi => ⟨G, fun k hk => .inl hk, hi, fun k hk => Nat.lt_of_lt_of_le (h.2 k hk) hu.size⟩
  cE := fun s S G w h ok => (reader_End b S s.1 s.2 w h.1 ok.1 ok.2.1 ok.2.2).mono fun e w' hq => hq.to fun S' w' hu hS hi => ⟨G, fun k hk => .inl hk, hi, fun k hk => Nat.lt_of_lt_of_le (h.2 k hk) hu.size⟩
  cH := fun s S G w h => reader_Held b S s.1 s.2 w h.1
  upd := fun s S G T w w' h hu hS hF => ⟨h.1.upd hu hS, fun k hk => Nat.lt_of_lt_of_le (h.2 k hk) hu.size⟩
  lt := fun s S G w h => ⟨h.1.lt, h.2⟩
end Go.Proofs.YtebgjabalnffdaaGreatDoor
