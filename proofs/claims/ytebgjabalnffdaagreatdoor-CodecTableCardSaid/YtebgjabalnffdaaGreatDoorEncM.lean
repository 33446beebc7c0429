/- machine.Encoder as a machine. -/
import Derived.Test.YtebgjabalnffdaaGreatDoorEnc
set_option linter.unusedVariables false
set_option linter.unusedSimpArgs false
set_option maxRecDepth 100000
namespace Go.Proofs.YtebgjabalnffdaaGreatDoor
open Go.RowKit

theorem tokT_out {rs : List Rule} (hok : Side8 rs) (pos k : Int) (n : Nat) : (tokT rs pos k n).out.length ≤ 8 := by
  unfold tokT
  split
  · simp
  · simp only
    rw [List.getD_eq_getElem?_getD]
    cases h : (rs.map (·.2))[k.toNat]? with
    | none => simp
    | some o =>
      have := List.mem_of_getElem? h
      obtain ⟨r, hr, rfl⟩ := List.mem_map.1 this
      exact (hok r hr).2
theorem mLoop_out {rs : List Rule} (hok : Side8 rs) (fin : Bool) : ∀ f wait pos, ∀ x ∈ (mLoop rs fin f wait pos).1, x.out.length ≤ 8 := by
  intro f
  induction f with
  | zero => intro wait pos x hx; simp [mLoop] at hx
  | succ f ih =>
    intro wait pos x hx
    unfold mLoop at hx
    split at hx
    · simp at hx
    · split at hx
      · simp at hx
      · simp only [List.mem_cons] at hx
        rcases hx with rfl | hx
        · exact tokT_out hok _ _ _
        · exact ih _ _ x hx
theorem mLoop_len {rs : List Rule} (fin : Bool) : ∀ f wait pos, (mLoop rs fin f wait pos).1.length ≤ f := by
  intro f
  induction f with
  | zero => intro wait pos; simp [mLoop]
  | succ f ih =>
    intro wait pos
    unfold mLoop
    split
    · simp
    · split
      · simp
      · simp only [List.length_cons]
        have := ih (wait.drop (max 1 (longT (trieN rs) wait).2.1)) (pos + (max 1 (longT (trieN rs) wait).2.1 : Nat))
        omega

abbrev EncS := List Int × Int × List Int
structure EncInv (b m tb : Nat) (F : Nat → Prop) (rs : List Rule) (s : EncS) (S G : Nat → Prop) (w : World) : Prop where
  mem : ∃ va Sm, ECells w b m tb va ∧ IsMat w m Sm F (turnR rs) s.1 s.2.1 ∧ Rd (eI .i64) G w va s.2.2 ∧ ¬ Sm b ∧ ∀ k, Sm k → S k
  tab : IsTable w tb F rs
  sb : S b
  FG : ∀ k, F k → G k
  GS : ∀ k, G k → ¬ S k ∧ k < w.heap.size
  Sz : ∀ k, S k → k < w.heap.size
def encStep (rs : List Rule) (a : List Int) (r : List Tok × List Int × Int) : List Tok × EncS := ((joinL rs a r.1).1, (r.2.1, r.2.2, (joinL rs a r.1).2))

theorem EncInv.held {b m tb : Nat} {F : Nat → Prop} {rs : List Rule} {s : EncS} {S G : Nat → Prop} {w : World} (h : EncInv b m tb F rs s S G w) :
    Calls Tryz.prog 199 #[.pointer (some ⟨b, 0, none⟩)] w fun e w' => e = .returned (.int .i64 s.1.length) ∧ w = w' := by
  obtain ⟨va, Sm, ⟨c0, c1, c2, d2⟩, hm, _⟩ := h.mem
  have H : Hd _ := ⟨match_Held m Sm F _ _ _ w hm⟩
  clear h hm
  go_enter Tryz.func199, Tryz.ntmps199
  go_wp2_with (go_at_call 206; refine H.out.mono ?_; rintro e w' ⟨rfl, rfl⟩)
  go_ret
  exact ⟨rfl, rfl⟩

def EncOut (b m tb : Nat) (F : Nat → Prop) (rs : List Rule) (S G : Nat → Prop) (w : World) (r : List Tok × EncS) (e : Ending) (w' : World) : Prop :=
  MPost w S r.1 (fun S' w' => ∃ G' : Nat → Prop, (∀ k, G' k → G k ∨ w.heap.size ≤ k) ∧ EncInv b m tb F rs r.2 S' G' w') e w'

theorem enc_join {b m tb : Nat} {F : Nat → Prop} {rs : List Rule} {s : EncS} {S G Sm : Nat → Prop} {w w1 : World} {va v : Value} {r : List Tok × List Int × Int} (h : EncInv b m tb F rs s S G w) (hc : ECells w b m tb va) (ha : Rd (eI .i64) G w va s.2.2) (hSb : ¬ Sm b) (hSm : ∀ k, Sm k → S k)
    (hr : MPost w Sm r.1 (inMat m F (turnR rs) r.2.1 r.2.2) (.returned v) w1) (hl : r.1.length ≤ 2000) (hal : s.2.2.length ≤ 1000) (hol : ∀ x ∈ r.1, x.out.length ≤ 1000) :
    Calls Tryz.prog 204 #[.pointer (some ⟨b, 0, none⟩), v] w1 (EncOut b m tb F rs S G w (encStep rs s.2.2 r)) := by
  obtain ⟨A, n, c, Sm', he, hown, hmat, hu, hS'⟩ := hr
  injection he with he
  subst he
  have hbz : b < w.heap.size := World.block_lt_of_cell? w ⟨b, 0, none⟩ hc.1
  have hFS : ∀ k, F k → ¬ Sm k := fun k hk e => (h.GS k (h.FG k hk)).1 (hSm k e)
  have hGS : ∀ k, G k → ¬ Sm k := fun k hk e => (h.GS k hk).1 (hSm k e)
  have hFz : ∀ k, F k → k < w.heap.size := fun k hk => (h.GS k (h.FG k hk)).2
  have hov : ∀ k, Value.ownBlock (.slice A n c) = some k → w.heap.size ≤ k ∧ ¬ Sm' k ∧ k < w1.heap.size := fun k hk => ⟨(hown.1 k hk).1, (hown.1 k hk).2, (hown.lt k hk).2⟩
  have hSb' : ¬ Sm' b := fun e => (hS' b e).elim hSb (fun e => by omega)
  refine (encoder_join (FT := F) (hc.upd hu hSb) (h.tab.upd hu hFS) (ha.upd hu hGS) hown (fun e => (h.GS b e).1 h.sb) (fun e => by omega) (fun e => (h.GS b (h.FG b e)).1 h.sb)
    (fun k hk => ⟨fun e => by have := (h.GS k e).2; have := (hov k hk).1; omega, fun e => by have := hFz k e; have := (hov k hk).1; omega⟩) hl hal hol).mono ?_
  rintro e w2 ⟨va', rfl, hown2, hc2, ha2, hu2⟩
  have hz1 := hu.size
  have hz2 := hu2.size
  have hmat' : IsMat w1 m Sm' F (turnR rs) r.2.1 r.2.2 := hmat
  have hub : Upd S w w2 := hu.trans hu2 (fun i _ h => hSm i h) (fun i hi e => e.elim (fun e => e ▸ h.sb) (fun e => by have := (hov i e).1; omega))
  refine ⟨A, n, c, fun k => k = b ∨ Sm' k, rfl, hown2.mono (fun k hk => ⟨hk.1, fun e => e.elim (fun e => by omega) hk.2⟩), ⟨fun k => ((G k ∨ (w.heap.size ≤ k ∧ ¬ Sm' k)) ∧ Value.ownBlock (.slice A n c) ≠ some k) ∧ k < w2.heap.size, fun k hk => hk.1.1.elim .inl (fun e => .inr e.1), ?_⟩, hub, ?_⟩
  · constructor
    · refine ⟨va', Sm', hc2, ?_, ha2.bound, hSb', fun k hk => .inr hk⟩
      refine hmat'.upd hu2 (fun k hk e => e.elim (fun e => hSb' (e ▸ hk)) (fun e => (hov k e).2.1 hk)) (fun k hk e => e.elim (fun e => by subst e; exact (h.GS k (h.FG k hk)).1 h.sb) (fun e => by have := hFz k hk; have := (hov k e).1; omega))
    · exact (h.tab.upd hu hFS).upd hu2 (fun k hk e => e.elim (fun e => by subst e; exact (h.GS k (h.FG k hk)).1 h.sb) (fun e => by have := hFz k hk; have := (hov k e).1; omega))
    · exact .inl rfl
    · intro k hk
      have := hFz k hk
      exact ⟨⟨.inl (h.FG k hk), fun e => by have := (hov k e).1; omega⟩, by omega⟩
    · rintro k ⟨⟨hk, hk'⟩, hk2⟩
      refine ⟨?_, hk2⟩
      rintro (rfl | e)
      · rcases hk with hk | hk
        · exact (h.GS k hk).1 h.sb
        · omega
      · rcases hk with hk | hk
        · rcases hS' k e with e | e
          · exact hGS k hk e
          · have := (h.GS k hk).2; omega
        · exact hk.2 e
    · rintro k (rfl | hk)
      · omega
      · have := hmat'.lt k hk; omega
  · rintro k (rfl | hk)
    · exact .inl h.sb
    · exact (hS' k hk).elim (fun e => .inl (hSm k e)) .inr

theorem encoder_Put {b m tb : Nat} {F : Nat → Prop} {rs : List Rule} {s : EncS} {S G : Nat → Prop} {w : World} (h : EncInv b m tb F rs s S G w) (hok : Side8 (turnR rs)) (u : Int) (hl : s.1.length ≤ 900) (hp : 0 ≤ s.2.1) (hp' : s.2.1 + s.1.length ≤ 900000) (hal : s.2.2.length ≤ 1000) :
    Calls Tryz.prog 203 #[.pointer (some ⟨b, 0, none⟩), .int .i64 u] w (EncOut b m tb F rs S G w (encStep rs s.2.2 (mLoop (turnR rs) false (s.1.length + 1) (s.1 ++ [u]) s.2.1))) := by
  obtain ⟨va, Sm, hc, hm, ha, hSb, hSm⟩ := h.mem
  have H1 : Hd _ := ⟨match_Put m Sm F (turnR rs) s.1 s.2.1 u w hm hok hl hp hp'⟩
  have H2 : Hd _ := ⟨fun v w1 hr => enc_join (w1 := w1) (v := v) (r := mLoop (turnR rs) false (s.1.length + 1) (s.1 ++ [u]) s.2.1) h hc ha hSb hSm hr (by have := mLoop_len (rs := turnR rs) false (s.1.length + 1) (s.1 ++ [u]) s.2.1; omega) hal (fun x hx => by have := mLoop_out hok _ _ _ _ x hx; omega)⟩
  obtain ⟨c0, c1, c2, d2⟩ := hc
  clear h hm ha
  go_enter Tryz.func203, Tryz.ntmps203
  go_wp2_with (first
    | (go_at_call 207; refine H1.out.mono ?_; rintro e w1 hq; obtain ⟨v, rfl⟩ : ∃ v, e = .returned v := by obtain ⟨A, n, c, S', he, _⟩ := hq; exact ⟨_, he⟩)
    | (go_at_call 204; refine (H2.out _ _ hq).mono ?_; rintro e w2 hq2; obtain ⟨A, n, c, S', rfl, hq2⟩ := hq2))
  go_ret
  exact ⟨A, n, c, S', rfl, hq2⟩
theorem encoder_End {b m tb : Nat} {F : Nat → Prop} {rs : List Rule} {s : EncS} {S G : Nat → Prop} {w : World} (h : EncInv b m tb F rs s S G w) (hok : Side8 (turnR rs)) (hl : s.1.length ≤ 1000) (hp : 0 ≤ s.2.1) (hp' : s.2.1 + s.1.length ≤ 1000000) (hal : s.2.2.length ≤ 1000) :
    Calls Tryz.prog 198 #[.pointer (some ⟨b, 0, none⟩)] w (EncOut b m tb F rs S G w (encStep rs s.2.2 (mLoop (turnR rs) true s.1.length s.1 s.2.1))) := by
  obtain ⟨va, Sm, hc, hm, ha, hSb, hSm⟩ := h.mem
  have H1 : Hd _ := ⟨match_End m Sm F (turnR rs) s.1 s.2.1 w hm hok hl hp hp'⟩
  have H2 : Hd _ := ⟨fun v w1 hr => enc_join (w1 := w1) (v := v) (r := mLoop (turnR rs) true s.1.length s.1 s.2.1) h hc ha hSb hSm hr (by have := mLoop_len (rs := turnR rs) true s.1.length s.1 s.2.1; omega) hal (fun x hx => by have := mLoop_out hok _ _ _ _ x hx; omega)⟩
  obtain ⟨c0, c1, c2, d2⟩ := hc
  clear h hm ha
  go_enter Tryz.func198, Tryz.ntmps198
  go_wp2_with (first
    | (go_at_call 205; refine H1.out.mono ?_; rintro e w1 hq; obtain ⟨v, rfl⟩ : ∃ v, e = .returned v := by obtain ⟨A, n, c, S', he, _⟩ := hq; exact ⟨_, he⟩)
    | (go_at_call 204; refine (H2.out _ _ hq).mono ?_; rintro e w2 hq2; obtain ⟨A, n, c, S', rfl, hq2⟩ := hq2))
  go_ret
  exact ⟨A, n, c, S', rfl, hq2⟩

/-- The machine that writes by rules. -/
def encM (b m tb : Nat) (F : Nat → Prop) (rs : List Rule) (hok : Side8 (turnR rs)) : Mach EncS where
  tag := 106
  val := .pointer (some ⟨b, 0, none⟩)
  inv := EncInv b m tb F rs
  put := fun s u => encStep rs s.2.2 (mLoop (turnR rs) false (s.1.length + 1) (s.1 ++ [u]) s.2.1)
  fin := fun s => encStep rs s.2.2 (mLoop (turnR rs) true s.1.length s.1 s.2.1)
  held := fun s => s.1.length
  ok := fun s u => s.1.length ≤ 900 ∧ 0 ≤ s.2.1 ∧ s.2.1 + s.1.length ≤ 900000 ∧ s.2.2.length ≤ 1000
  okE := fun s => s.1.length ≤ 1000 ∧ 0 ≤ s.2.1 ∧ s.2.1 + s.1.length ≤ 1000000 ∧ s.2.2.length ≤ 1000
  fP := 203
  fE := 198
  fH := 199
  rP := .pointer (some ⟨b, 0, none⟩)
  rE := .pointer (some ⟨b, 0, none⟩)
  rH := .pointer (some ⟨b, 0, none⟩)
  mP := fun K s S G w h => by kernel_rfl
  mE := fun K s S G w h => by kernel_rfl
  mH := fun K s S G w h => by kernel_rfl
  qP := fun args w => by kernel_rfl
  qE := fun args w => by kernel_rfl
  qH := fun args w => by kernel_rfl
  cP := fun s S G w u h ok => encoder_Put h hok u ok.1 ok.2.1 ok.2.2.1 ok.2.2.2
  cE := fun s S G w h ok => encoder_End h hok ok.1 ok.2.1 ok.2.2.1 ok.2.2.2
  cH := fun s S G w h => h.held
  upd := fun s S G T w w' h hu hS hG => by
    obtain ⟨va, Sm, hc, hm, ha, hSb, hSm⟩ := h.mem
    exact ⟨⟨va, Sm, hc.upd hu (hS b h.sb), hm.upd hu (fun k hk => hS k (hSm k hk)) (fun k hk => hG k (h.FG k hk)), ha.upd hu hG, hSb, hSm⟩, h.tab.upd hu (fun k hk => hG k (h.FG k hk)), h.sb, h.FG, fun k hk => ⟨(h.GS k hk).1, Nat.lt_of_lt_of_le (h.GS k hk).2 hu.size⟩, fun k hk => Nat.lt_of_lt_of_le (h.Sz k hk) hu.size⟩
  lt := fun s S G w h => ⟨h.Sz, fun k hk => (h.GS k hk).2⟩

theorem machine_Encode {w : World} {tb : Nat} {F : Nat → Prop} {rs : List Rule} (h : IsTable w tb F rs) (hF : ∀ k, F k → k < w.heap.size) :
    Calls Tryz.prog 58 #[.pointer (some ⟨tb, 0, none⟩)] w fun e w' => ∃ b m, e = .returned (.pointer (some ⟨b, 0, none⟩)) ∧ EncInv b m tb F rs ([], 0, []) (fun k => k = b ∨ k = m) F w' ∧ w.heap.size ≤ m ∧ w.heap.size ≤ b ∧ Upd No w w' := by
  have H1 : Hd _ := ⟨table_Write h⟩
  have HT : Hd _ := ⟨h⟩
  clear h
  go_enter Tryz.func58, Tryz.ntmps58
  go_wp2_with (first
    | (go_at_call 89; refine H1.out.mono ?_; rintro e w' ⟨tr, rfl, ht, rfl⟩)
    | (go_at_call 84; refine (match_Of ht hF).mono ?_; rintro e w1 ⟨rfl, hm1, hu1⟩; have hz1 : w.heap.size < w1.heap.size := hm1.lt _ rfl))
  go_ret
  go_light
  have hu := hu1.alloc (.cells #[.pointer (some ⟨w.heap.size, 0, none⟩), .pointer (some ⟨tb, 0, none⟩), .slice none 0 0] 161)
  refine ⟨w1.heap.size, w.heap.size, rfl, ⟨⟨.slice none 0 0, fun k => k = w.heap.size, ⟨by simp [go_sem], by simp [go_sem], by simp [go_sem], by simp [go_sem]⟩, hm1.upd ((Upd.refl No _).alloc _) (fun _ _ h => h) (fun _ _ h => h), Rd.nil _ _ _, by omega, fun k hk => .inr hk⟩, HT.out.upd hu (fun _ _ h => h), .inl rfl, fun k hk => hk, fun k hk => ⟨?_, ?_⟩, ?_⟩, Nat.le_refl _, by omega, hu⟩
  · have := hF k hk; rintro (rfl | rfl) <;> omega
  · have := hF k hk; have := hu.size; omega
  · have := hu.size; rintro k (rfl | rfl) <;> simp <;> omega
end Go.Proofs.YtebgjabalnffdaaGreatDoor
