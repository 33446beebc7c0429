/- machine.Encoder's join. -/
import Derived.Test.YtebgjabalnffdaaGreatDoorMachI
set_option linter.unusedVariables false
set_option linter.unusedSimpArgs false
set_option maxRecDepth 100000
namespace Go.Proofs.YtebgjabalnffdaaGreatDoor
open Go.RowKit

theorem flatten_set' {n : Nat} (css : List (List Value)) (hl : ∀ cs ∈ css, cs.length = n) (a : Nat) (cs : List Value) (hx : css[a]? = some cs) (j : Nat) (hj : j < n) (u : Value) :
    css.flatten.set (a * n + j) u = (css.set a (cs.set j u)).flatten := by
  induction css generalizing a with
  | nil => simp at hx
  | cons z xs ih =>
    have hz := hl z (by simp)
    cases a with
    | zero =>
      simp at hx; subst hx
      simp only [List.flatten_cons, List.set_cons_zero, Nat.zero_mul, Nat.zero_add]
      rw [List.set_append_left _ _ (by rw [hz]; exact hj)]
    | succ a =>
      simp only [List.flatten_cons, List.set_cons_succ]
      rw [List.set_append_right _ _ (by rw [hz, Nat.add_mul]; omega), hz, ← ih (fun c hc => hl c (by simp [hc])) a (by simpa using hx)]
      congr 2
      rw [Nat.add_mul]; omega

theorem Own.storeAt {α : Type} {E : Enc α} {e : Nat} {F : Nat → Prop} {base : Nat} {w : World} {g m c : Nat} {xs : List α} (h : Own E e F base w (.slice (some ⟨g, 0, none⟩) m c) xs)
    (a : Nat) (x y : α) (hx : xs[a]? = some x) (j : Nat) (hj : j < E.sz) (u : Value)
    (hy : ∀ cs, E.rep (fun b => F b ∧ some b ≠ Value.ownBlock (.slice (some ⟨g, 0, none⟩) m c)) w x cs → E.rep (fun b => F b ∧ some b ≠ Value.ownBlock (.slice (some ⟨g, 0, none⟩) m c)) w y (cs.set j u)) :
    Own E e F base (w.setCell ⟨g, a * E.sz + j, none⟩ u) (.slice (some ⟨g, 0, none⟩) m c) (xs.set a y) := by
  obtain ⟨h0, css, hlen, ho, hr⟩ := h
  have hm : xs.length = m := by
    rcases ho.2 with ⟨h, _⟩ | ⟨g', cap, cur, h, _⟩
    · cases h
    · injection h with h2 h3 h4; exact h3.symm
  subst hm
  have ha : a < xs.length := (List.getElem?_eq_some_iff.1 hx).1
  obtain ⟨cs0, hcs0⟩ : ∃ cs0, css[a]? = some cs0 := ⟨css[a]'(by omega), by simp⟩
  have hst := ho.stored (a * E.sz + j) u
  have hall : ∀ cs ∈ css, cs.length = E.sz := by
    intro c hc
    obtain ⟨i, hi, rfl⟩ := List.getElem_of_mem hc
    exact E.len (hr i (xs[i]'(by omega)) _ (by simp) (by simp))
  have hmove : ∀ b, some b ≠ Value.ownBlock (.slice (some ⟨g, 0, none⟩) xs.length c) → (w.setCell ⟨g, a * E.sz + j, none⟩ u).heap[b]? = w.heap[b]? := by
    intro b hb
    refine Below.heap_setCell _ _ _ _ (fun e => hb ?_)
    have e' : b = g := e
    subst e'
    simp [Value.ownBlock]
  refine ⟨h0, css.set a (cs0.set j u), by simp [hlen], ?_, fun k x' cs hx' hc => ?_⟩
  · rw [flatten_set' css hall a cs0 hcs0 j hj u] at hst
    simpa using hst.1
  · by_cases hk : k = a
    · subst hk
      rw [List.getElem?_set_self (by omega)] at hx' hc
      injection hx' with hx'; injection hc with hc
      subst hx'; subst hc
      exact E.move (fun b hb => hmove b hb.2) (hy cs0 (hr k x cs0 hx hcs0))
    · rw [List.getElem?_set_ne (by omega)] at hx' hc
      exact E.move (fun b hb => hmove b hb.2) (hr k x' cs hx' hc)

theorem Own.at_ {α : Type} {E : Enc α} {e : Nat} {F : Nat → Prop} {base : Nat} {w : World} {g m c : Nat} {xs : List α} (h : Own E e F base w (.slice (some ⟨g, 0, none⟩) m c) xs) {k : Nat} {x : α} (hx : xs[k]? = some x) :
    ∃ cs, E.rep (fun b => F b ∧ b ≠ g) w x cs ∧ ∀ j u, cs[j]? = some u → w.cell? ⟨g, k * E.sz + j, none⟩ = some u := by
  obtain ⟨h0, css, hl, ho, hr⟩ := h
  have hk : k < xs.length := (List.getElem?_eq_some_iff.1 hx).1
  rcases ho.2 with ⟨hv, hn⟩ | ⟨g', cap, cur, hv, hg, hh, hnc, hm, hsz, htk⟩
  · omega
  · injection hv with hv1 hv2 hv3
    injection hv1 with hv1
    injection hv1 with hv1
    subst hv1
    obtain ⟨cs, hcs⟩ : ∃ cs, css[k]? = some cs := ⟨css[k]'(by omega), by simp⟩
    refine ⟨cs, E.mono (fun b hb => ⟨hb.1, fun e => hb.2 (by rw [e]; simp [Value.ownBlock])⟩) (hr k x cs hx hcs), fun j u hu => ?_⟩
    have hall : ∀ cs ∈ css, cs.length = E.sz := by
      intro c hc
      obtain ⟨i, hi, rfl⟩ := List.getElem_of_mem hc
      exact E.len (hr i (xs[i]'(by omega)) _ (by simp) (by simp))
    have h1 := flatten_at hall k j cs hcs u hu
    rw [← htk, List.getElem?_take] at h1
    split at h1
    · have h2 : cur[k * E.sz + j]? = some u := by simpa using h1
      simp [World.cell?, hh, h2]
    · simp at h1

/-- A token stored in a row of tokens. -/
theorem Own.storeTok {e : Nat} {F : Nat → Prop} {base : Nat} {w : World} {g m c : Nat} {xs : List Tok} (h : Own eTok e F base w (.slice (some ⟨g, 0, none⟩) m c) xs) (a : Nat) (ha : a < xs.length) (y : Tok) {o : Value}
    (ho : Rd (eI .i64) (fun b => F b ∧ b ≠ g) w o y.out) :
    Own eTok e F base ((((w.setCell ⟨g, a * 4, none⟩ (.int .i64 y.pos)).setCell ⟨g, a * 4 + 1, none⟩ (.int .i64 y.len)).setCell ⟨g, a * 4 + 2, none⟩ o).setCell ⟨g, a * 4 + 3, none⟩ (.int .i64 y.err)) (.slice (some ⟨g, 0, none⟩) m c) (xs.set a y) := by
  have hob : Value.ownBlock (.slice (some ⟨g, 0, none⟩) m c) = some g := by simp [Value.ownBlock]
  obtain ⟨x, hx⟩ : ∃ x, xs[a]? = some x := ⟨xs[a], by simp [ha]⟩
  have hu : ∀ (W : World) i v, Upd (fun k => k = g) W (W.setCell ⟨g, i, none⟩ v) := fun W i v => Upd.setCell (S := fun k => k = g) (p := ⟨g, i, none⟩) (Upd.refl _ _) (fun _ => rfl) _
  have h1 := h.storeAt a x ⟨y.pos, x.len, x.out, x.err⟩ hx 0 (by decide) (.int .i64 y.pos) (fun cs hc => by
    obtain ⟨ox, rfl, hox⟩ := eTok_of hc
    exact eTok_mk hox)
  have h2 := h1.storeAt a ⟨y.pos, x.len, x.out, x.err⟩ ⟨y.pos, y.len, x.out, x.err⟩ (by simp [ha]) 1 (by decide) (.int .i64 y.len) (fun cs hc => by
    obtain ⟨ox, rfl, hox⟩ := eTok_of hc
    exact eTok_mk hox)
  have h3 := h2.storeAt a ⟨y.pos, y.len, x.out, x.err⟩ ⟨y.pos, y.len, y.out, x.err⟩ (by simp [ha]) 2 (by decide) o (fun cs hc => by
    obtain ⟨ox, rfl, hox⟩ := eTok_of hc
    refine eTok_mk (((ho.upd (hu _ _ _) (fun k hk e => hk.2 e)).upd (hu _ _ _) (fun k hk e => hk.2 e)).mono (fun k hk => ⟨hk.1, ?_⟩))
    rw [hob]; intro e; injection e with e; exact hk.2 e)
  have h4 := h3.storeAt a ⟨y.pos, y.len, y.out, x.err⟩ y (by simp [ha]) 3 (by decide) (.int .i64 y.err) (fun cs hc => by
    obtain ⟨ox, rfl, hox⟩ := eTok_of hc
    exact eTok_mk hox)
  simpa [eTok] using h4

def joinL (rs : List Rule) : List Int → List Tok → List Tok × List Int
  | a, [] => ([], a)
  | a, x :: xs => (tokJ rs a x :: (joinL rs (if (tokJ rs a x).err = 0 then x.out else a) xs).1, (joinL rs (if (tokJ rs a x).err = 0 then x.out else a) xs).2)
theorem joinL_snoc (rs : List Rule) (xs : List Tok) (x : Tok) : ∀ a, joinL rs a (xs ++ [x]) = ((joinL rs a xs).1 ++ [tokJ rs (joinL rs a xs).2 x], if (tokJ rs (joinL rs a xs).2 x).err = 0 then x.out else (joinL rs a xs).2) := by
  induction xs with
  | nil => intro a; rfl
  | cons y ys ih => intro a; rw [List.cons_append, joinL, ih]; rfl
theorem joinL_len (rs : List Rule) (xs : List Tok) : ∀ a, (joinL rs a xs).1.length = xs.length := by
  induction xs with
  | nil => intro a; rfl
  | cons y ys ih => intro a; simp [joinL, ih]
theorem joinL_bd (rs : List Rule) {B : Nat} (xs : List Tok) : ∀ a, a.length ≤ B → (∀ x ∈ xs, x.out.length ≤ B) → (joinL rs a xs).2.length ≤ B := by
  induction xs with
  | nil => intro a h _; exact h
  | cons y ys ih =>
    intro a h h2
    simp only [joinL]
    exact ih _ (by split; exact h2 y (by simp); exact h) (fun x hx => h2 x (by simp [hx]))

/-- What of an encoder's block a join looks at. -/
def ECells (w : World) (b m tb : Nat) (va : Value) : Prop :=
  w.cell? ⟨b, 0, none⟩ = some (.pointer (some ⟨m, 0, none⟩)) ∧ w.cell? ⟨b, 1, none⟩ = some (.pointer (some ⟨tb, 0, none⟩)) ∧ w.cell? ⟨b, 2, none⟩ = some va ∧ w.frozen? ⟨b, 2, none⟩ = false
theorem ECells.upd {S : Nat → Prop} {w w' : World} {b m tb : Nat} {va : Value} (h : ECells w b m tb va) (hu : Upd S w w') (hn : ¬ S b) : ECells w' b m tb va := by
  obtain ⟨h0, h1, h2, f2⟩ := h
  have hb : b < w.heap.size := World.block_lt_of_cell? w ⟨b, 0, none⟩ h0
  exact ⟨hu.cell h0 hn, hu.cell h1 hn, hu.cell h2 hn, (hu.frozen (p := ⟨b, 2, none⟩) hb hn).trans f2⟩

def JoinRel (w : World) (b m tb base : Nat) (F G FT : Nat → Prop) (rs : List Rule) (v : Value) (ts : List Tok) (a : List Int) (g : Nat) (k : Value) (wr : World) : Prop :=
  ∃ (j : Nat) (va : Value), k = .int .i64 j ∧ g + j = ts.length ∧ j ≤ ts.length ∧ Own eTok 42 F base wr v ((joinL rs a (ts.take j)).1 ++ ts.drop j) ∧ ECells wr b m tb va ∧
    Rd (eI .i64) (fun k => (G k ∨ F k) ∧ v.ownBlock ≠ some k) wr va (joinL rs a (ts.take j)).2 ∧ Upd (fun k => k = b ∨ v.ownBlock = some k) w wr

set_option maxHeartbeats 4000000 in
theorem encoder_join {w : World} {b m tb base : Nat} {F G FT : Nat → Prop} {rs : List Rule} {v va : Value} {ts : List Tok} {a : List Int} (hc : ECells w b m tb va) (ht : IsTable w tb FT rs) (ha : Rd (eI .i64) G w va a) (hts : Own eTok 42 F base w v ts)
    (hGb : ¬ G b) (hFb : ¬ F b) (hFT : ¬ FT b) (hGv : ∀ k, v.ownBlock = some k → ¬ G k ∧ ¬ FT k) (hl : ts.length ≤ 2000) (hal : a.length ≤ 1000) (hol : ∀ x ∈ ts, x.out.length ≤ 1000) :
    Calls Tryz.prog 204 #[.pointer (some ⟨b, 0, none⟩), v] w fun e w' => ∃ va', e = .returned v ∧ Own eTok 42 F base w' v (joinL rs a ts).1 ∧ ECells w' b m tb va' ∧
      Rd (eI .i64) (fun k => (G k ∨ F k) ∧ v.ownBlock ≠ some k) w' va' (joinL rs a ts).2 ∧ Upd (fun k => k = b ∨ v.ownBlock = some k) w w' := by
  obtain ⟨A, n, c, rfl, hn⟩ := hts.form3
  subst hn
  have hb0 : b < w.heap.size := World.block_lt_of_cell? w ⟨b, 0, none⟩ hc.1
  have HT : Hd _ := ⟨ht⟩
  have HOL : Hd _ := ⟨hol⟩
  have hst : JoinRel w b m tb base F G FT rs (.slice A ts.length c) ts a ts.length (.int .i64 0) w :=
    ⟨0, va, rfl, rfl, Nat.zero_le _, by simpa [joinL] using hts, hc, by simpa [joinL] using ha.mono (fun k hk => ⟨.inl hk, fun e => (hGv k e).1 hk⟩), Upd.refl _ _⟩
  clear ht hol hts hc ha
  go_enter Tryz.func204, Tryz.ntmps204
  go_wp2
  go_loopg [9] ts.length (JoinRel w b m tb base F G FT rs (.slice A ts.length c) ts a)
  case atStart => exact hst
  case round =>
    obtain ⟨j, va, rfl, hgj, hj, hown, hc, hra, hup⟩ := hrel
    clear hst
    by_cases hlt : j < ts.length
    · obtain ⟨x, hx⟩ : ∃ x, ts[j]? = some x := ⟨ts[j], by simp [hlt]⟩
      obtain ⟨ys, hys⟩ : ∃ ys, ys = (joinL rs a (ts.take j)).1 := ⟨_, rfl⟩
      obtain ⟨a1, ha1⟩ : ∃ a1, a1 = (joinL rs a (ts.take j)).2 := ⟨_, rfl⟩
      have HYS : Hd (ys = (joinL rs a (ts.take j)).1) := ⟨hys⟩
      have HA1 : Hd (a1 = (joinL rs a (ts.take j)).2) := ⟨ha1⟩
      have hyl : ys.length = j := by rw [hys, joinL_len]; simp; omega
      have hal1 : a1.length ≤ 1000 := by rw [ha1]; exact joinL_bd rs _ _ hal (fun x hx => HOL.out x (List.mem_of_mem_take hx))
      rw [← hys] at hown
      rw [← ha1] at hra
      have hTK : Hd (ts.take (j + 1) = ts.take j ++ [x]) := ⟨by rw [List.take_add_one, hx]; rfl⟩
      have hDR : Hd (ts.drop j = x :: ts.drop (j + 1)) := ⟨by rw [List.drop_eq_getElem_cons hlt]; congr 1; rw [List.getElem?_eq_getElem hlt] at hx; simpa using hx⟩
      have hxl := HOL.out x (List.mem_of_getElem? hx)
      have htl : (ys ++ ts.drop j).length = ts.length := by simp; omega
      obtain ⟨g, c', he, hgb, hgf⟩ := hown.block (by omega)
      rw [htl] at he
      injection he with he1 he2 he3
      subst he1; subst he3
      have hgz : g < wr.heap.size := (hown.lt g (by simp [Value.ownBlock])).2
      obtain ⟨cs, hrep, hcell⟩ := hown.at_ (k := j) (x := x) (by rw [hDR.out, List.getElem?_append_right (by omega), hyl]; simp)
      obtain ⟨y, rfl⟩ : ∃ y, y = x := ⟨_, rfl⟩
      obtain ⟨ox, rfl, hox⟩ := eTok_of hrep
      obtain ⟨Ax, cx, rfl⟩ := hox.form
      obtain ⟨Aa, ca, rfl⟩ := hra.form
      have e0 := hcell 0 _ rfl
      have e1 := hcell 1 _ rfl
      have e2 := hcell 2 _ rfl
      have e3 := hcell 3 _ rfl
      simp [eTok] at e0 e1 e2 e3
      clear hys ha1 hx hcell hrep
      have HC : Hd _ := ⟨hc⟩
      obtain ⟨c0, c1, c2, d2⟩ := hc
      have hbz : b < wr.heap.size := World.block_lt_of_cell? wr ⟨b, 0, none⟩ c0
      have q1 : b < wr.heap.size + 1 := by omega
      have q2 : ¬ b = wr.heap.size := by omega
      have q3 : ¬ g = wr.heap.size := by omega
      have q4 : g < wr.heap.size + 1 := by omega
      have hgF : F g := hown.1 g (by simp [Value.ownBlock])
      have q5 : ¬ b = g := fun e => hFb (e ▸ hgF)
      have q6 : ¬ g = b := fun e => q5 e.symm
      have hgw : g < w.heap.size ∨ w.heap.size ≤ g := by omega
      have ht1 : IsTable wr tb FT rs := HT.out.upd hup (fun k hk e => e.elim (fun e => hFT (e ▸ hk)) (fun e => (hGv k e).2 hk))
      obtain ⟨z, hz⟩ : ∃ z, z = tokJ rs a1 y := ⟨_, rfl⟩
      have HZ : Hd (z = tokJ rs a1 y) := ⟨hz⟩
      have hd : Upd No wr (wr.alloc (.cells #[.int .i64 y.pos, .int .i64 y.len, .slice Ax y.out.length cx, .int .i64 y.err] 42)).drew := ((Upd.refl _ _).alloc _).drew
      have HJ : Hd _ := ⟨table_Join (x := y) (ht1.upd hd (fun _ _ h => h)) (hra.upd hd (fun _ _ h => h)) (hox.upd hd (fun _ _ h => h)) hal1 hxl⟩
      rw [← hz] at HJ
      clear hz
      go_upto_region 4 with fail
      go_region_held3 (fun w' => w'.cell? ⟨b, 1, none⟩ = some (.pointer (some ⟨tb, 0, none⟩)) ∧ w'.cell? ⟨b, 2, none⟩ = some (.slice Aa a1.length ca) ∧ w'.cell? ⟨wr.heap.size, 0, none⟩ = some (.int .i64 y.pos) ∧ w'.cell? ⟨wr.heap.size, 1, none⟩ = some (.int .i64 y.len) ∧ w'.cell? ⟨wr.heap.size, 2, none⟩ = some (.slice Ax y.out.length cx) ∧ w'.cell? ⟨wr.heap.size, 3, none⟩ = some (.int .i64 y.err))
        (first | exact hS5 | exact ⟨by simp [go_sem, *], by simp [go_sem, *], by simp [go_sem, *], by simp [go_sem, *], by simp [go_sem, *], by simp [go_sem, *]⟩)
        (first
          | (go_at_call 208; (refine HJ.out.mono ?_; rintro e w5 ⟨o', rfl, ho5, hup5⟩; obtain ⟨Ao, co, rfl⟩ := ho5.form; obtain ⟨hc5, hf5⟩ := hup5.both (B := wr.heap.size + 1) (by simp) (fun _ _ h => h); have hz5 : wr.heap.size + 1 ≤ w5.heap.size := (by have := hup5.size; simpa using this); have hgz5 : g < w5.heap.size := (by omega); have hbz5 : b < w5.heap.size := (by omega); have hS5 : w5.cell? ⟨b, 1, none⟩ = some (.pointer (some ⟨tb, 0, none⟩)) ∧ w5.cell? ⟨b, 2, none⟩ = some (.slice Aa a1.length ca) ∧ w5.cell? ⟨wr.heap.size, 0, none⟩ = some (.int .i64 y.pos) ∧ w5.cell? ⟨wr.heap.size, 1, none⟩ = some (.int .i64 y.len) ∧ w5.cell? ⟨wr.heap.size, 2, none⟩ = some (.slice Ax y.out.length cx) ∧ w5.cell? ⟨wr.heap.size, 3, none⟩ = some (.int .i64 y.err) := ⟨by rw [hc5 _ _ q1]; simp [go_sem, *], by rw [hc5 _ _ q1]; simp [go_sem, *], by rw [hc5 _ _ (by omega)]; simp [go_sem], by rw [hc5 _ _ (by omega)]; simp [go_sem], by rw [hc5 _ _ (by omega)]; simp [go_sem], by rw [hc5 _ _ (by omega)]; simp [go_sem]⟩)))
      have hgf5 : ∀ o, w5.frozen? ⟨g, o, none⟩ = false := fun o => by rw [hf5 _ _ q4]; simp [go_sem, *]
      have hcg5 : ∀ o, w5.cell? ⟨g, o, none⟩ = wr.cell? ⟨g, o, none⟩ := fun o => by rw [hc5 _ _ q4]; simp [go_sem, *]
      have u35 : Upd No wr w5 := hd.trans hup5 (fun _ _ h => h) (fun _ _ h => h)
      have hst := (hown.upd u35 (fun _ _ h => h)).storeTok j (by omega) z (o := .slice Ao z.out.length co) ho5
      rw [show (ys ++ ts.drop j).set j z = ys ++ z :: ts.drop (j + 1) by rw [hDR.out, List.set_append_right _ _ (by omega), hyl, Nat.sub_self, List.set_cons_zero]] at hst
      have hru : Upd (fun k => k = g) w5 ((((w5.setCell ⟨g, j * 4, none⟩ (.int .i64 z.pos)).setCell ⟨g, j * 4 + 1, none⟩ (.int .i64 z.len)).setCell ⟨g, j * 4 + 2, none⟩ (.slice Ao z.out.length co)).setCell ⟨g, j * 4 + 3, none⟩ (.int .i64 z.err)) := by
        iterate 4 (refine Upd.setCell (S := fun k => k = g) ?_ (fun _ => rfl) _)
        exact Upd.refl _ _
      obtain ⟨w6, hw6⟩ : ∃ w6 : World, w6 = ((((w5.setCell ⟨g, j * 4, none⟩ (.int .i64 z.pos)).setCell ⟨g, j * 4 + 1, none⟩ (.int .i64 z.len)).setCell ⟨g, j * 4 + 2, none⟩ (.slice Ao z.out.length co)).setCell ⟨g, j * 4 + 3, none⟩ (.int .i64 z.err)) := ⟨_, rfl⟩
      rw [← hw6] at hst hru
      obtain ⟨cs6, hrep6, hcell6⟩ := hst.at_ (k := j) (x := z) (by rw [List.getElem?_append_right (by omega), hyl]; simp)
      obtain ⟨oz, rfl, hoz⟩ := eTok_of hrep6
      have g3 := hcell6 3 _ rfl
      simp [eTok] at g3
      rw [hw6] at g3
      have hec : Hd (ECells w6 b m tb (.slice Aa a1.length ca)) := ⟨(HC.out.upd u35 (fun h => h)).upd hru (fun e => q5 e)⟩
      have hGg : ¬ G g := fun e => (hGv g (by simp [Value.ownBlock])).1 e
      have hua : Upd (fun k => k = b ∨ Value.ownBlock (.slice (some ⟨g, 0, none⟩) ts.length c) = some k) w w6 := (hup.trans u35 (fun _ _ h => h) (fun _ _ h => h.elim)).trans hru (fun _ _ h => h) (fun i _ e => .inr (by subst e; simp [Value.ownBlock]))
      clear hcell6 hrep6
      have hjn : Hd (joinL rs a (ts.take (j + 1)) = (ys ++ [z], if z.err = 0 then y.out else a1)) := ⟨by rw [hTK.out, joinL_snoc, ← HYS.out, ← HA1.out, ← HZ.out]⟩
      have hob : Value.ownBlock (.slice (some ⟨g, 0, none⟩) ts.length c) = some g := by simp [Value.ownBlock]
      by_cases hze : z.err = 0
      · have k1 : (z.err == 0) = true := by simp [hze]
        have HZE : Hd (z.err = 0) := ⟨hze⟩
        rw [hze] at g3
        go_wp2
        go_roundg (gk - 1)
        case measure => omega
        case rel =>
          go_light
          rw [← HZE.out, ← hw6]
          have hus : Upd (fun k => k = b) w6 (w6.setCell ⟨b, 2, none⟩ (.slice Ax y.out.length cx)) := Upd.setCell (S := fun k => k = b) (p := ⟨b, 2, none⟩) (Upd.refl _ _) (fun _ => rfl) _
          refine ⟨j + 1, .slice Ax y.out.length cx, by go_num, by omega, by omega, ?_, ?_, ?_, ?_⟩
          · rw [hjn.out]
            have := hst.upd hus (fun k hk e => hFb (e ▸ hk))
            simpa using this
          · obtain ⟨p0, p1, p2, p3⟩ := hec.out
            exact ⟨by simp [cell_set, p0], by simp [cell_set, p1], by simp [cell_set, p2], by simp [frozen_set, p3]⟩
          · rw [hjn.out, if_pos HZE.out]
            exact ((((hox.upd u35 (fun _ _ h => h)).upd hru (fun k hk e => hk.2 e)).upd hus (fun k hk e => hFb (e ▸ hk.1)))).mono (fun k hk => ⟨.inr hk.1, fun e => by rw [hob] at e; injection e with e; exact hk.2 e.symm⟩)
          · exact hua.trans hus (fun _ _ h => h) (fun i _ e => .inl e)
      · have k1 : (z.err == 0) = false := by simpa using hze
        have HZE : Hd (¬ z.err = 0) := ⟨hze⟩
        go_wp2
        go_roundg (gk - 1)
        case measure => omega
        case rel =>
          go_light
          rw [← hw6]
          refine ⟨j + 1, .slice Aa a1.length ca, by go_num, by omega, by omega, ?_, hec.out, ?_, hua⟩
          · rw [hjn.out]
            simpa using hst
          · rw [hjn.out, if_neg HZE.out]
            exact (hra.upd u35 (fun _ _ h => h)).upd hru (fun k hk e => hk.2 (by rw [hob, e]))
    · have hlt1 : decide (j < ts.length) = false := by simpa using hlt
      have h1 : ts.take j = ts := List.take_of_length_le (by omega)
      have h2 : ts.drop j = [] := List.drop_of_length_le (by omega)
      rw [h1, h2, List.append_nil] at hown
      rw [h1] at hra
      go_wp2
      go_ret
      go_light
      exact ⟨va, rfl, hown, hc, hra, hup⟩
end Go.Proofs.YtebgjabalnffdaaGreatDoor
