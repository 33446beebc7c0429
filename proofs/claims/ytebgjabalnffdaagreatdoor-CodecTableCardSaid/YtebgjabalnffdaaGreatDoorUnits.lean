/- rewrite.Units. -/
import Derived.Test.YtebgjabalnffdaaGreatDoorRew
set_option linter.unusedVariables false
set_option linter.unusedSimpArgs false
set_option maxRecDepth 100000
namespace Go.Proofs.YtebgjabalnffdaaGreatDoor
open Go.RowKit

def tok0 : Tok := ⟨0, 0, [], 0⟩
def badT (ts : List Tok) : Tok := (ts.find? fun t => t.err != 0).getD tok0
def outT (ts : List Tok) : List Int := ts.flatMap (·.out)
theorem outT_snoc (ts : List Tok) (t : Tok) : outT (ts ++ [t]) = outT ts ++ t.out := by simp [outT]
theorem badT_snoc (ts : List Tok) (t : Tok) : badT (ts ++ [t]) = if t.err ≠ 0 ∧ (badT ts).err = 0 then t else badT ts := by
  unfold badT
  rw [List.find?_append]
  cases h : ts.find? fun t => t.err != 0 with
  | some y =>
    have := List.find?_some h
    simp at this
    simp [this]
  | none =>
    by_cases ht : t.err = 0
    · simp [ht, List.find?_cons]
    · have : (t.err != 0) = true := by simpa using ht
      simp [ht, List.find?_cons, this, tok0]
theorem outT_len {ts : List Tok} {B : Nat} (h : ∀ t ∈ ts, t.out.length ≤ B) : (outT ts).length ≤ ts.length * B := by
  induction ts with
  | nil => simp [outT]
  | cons t ts ih =>
    have h1 := h t (by simp)
    have h2 := ih (fun x hx => h x (by simp [hx]))
    simp only [outT, List.flatMap_cons, List.length_append, List.length_cons, Nat.add_mul] at *
    omega

def TCells (w : World) (b : Nat) (x : Tok) (o : Value) : Prop :=
  w.cell? ⟨b, 0, none⟩ = some (.int .i64 x.pos) ∧ w.cell? ⟨b, 1, none⟩ = some (.int .i64 x.len) ∧ w.cell? ⟨b, 2, none⟩ = some o ∧ w.cell? ⟨b, 3, none⟩ = some (.int .i64 x.err) ∧
    w.frozen? ⟨b, 0, none⟩ = false ∧ w.frozen? ⟨b, 1, none⟩ = false ∧ w.frozen? ⟨b, 2, none⟩ = false ∧ w.frozen? ⟨b, 3, none⟩ = false
theorem TCells.upd {S : Nat → Prop} {w w' : World} {b : Nat} {x : Tok} {o : Value} (h : TCells w b x o) (hu : Upd S w w') (hn : ¬ S b) : TCells w' b x o := by
  obtain ⟨h0, h1, h2, h3, f0, f1, f2, f3⟩ := h
  have hb : b < w.heap.size := World.block_lt_of_cell? w ⟨b, 0, none⟩ h0
  exact ⟨hu.cell h0 hn, hu.cell h1 hn, hu.cell h2 hn, hu.cell h3 hn, (hu.frozen (p := ⟨b, 0, none⟩) hb hn).trans f0, (hu.frozen (p := ⟨b, 1, none⟩) hb hn).trans f1, (hu.frozen (p := ⟨b, 2, none⟩) hb hn).trans f2, (hu.frozen (p := ⟨b, 3, none⟩) hb hn).trans f3⟩

def UnitsRel (w : World) (F : Nat → Prop) (ts : List Tok) (g : Nat) (v k : Value) (wr : World) : Prop :=
  ∃ (A : Option Addr) (n c j : Nat) (o : Value), v = .slice A n c ∧ k = .int .i64 j ∧ g + j = ts.length ∧ j ≤ ts.length ∧ Own (eI .i64) 3 (fun k => w.heap.size + 2 ≤ k) (w.heap.size + 2) wr (.slice A n c) (outT (ts.take j)) ∧
    TCells wr (w.heap.size + 1) (badT (ts.take j)) o ∧ Rd (eI .i64) F wr o (badT (ts.take j)).out ∧ TCells wr w.heap.size tok0 (.slice none 0 0) ∧ Upd No w wr

set_option maxHeartbeats 4000000 in
theorem rewrite_Units {F : Nat → Prop} {w : World} {v : Value} {ts : List Tok} (hr : Rd eTok F w v ts) (hl : ts.length ≤ 100000) (ho : ∀ t ∈ ts, t.out.length ≤ 1000) :
    Calls Tryz.prog 24 #[v] w fun e w' => ∃ A n c o, e = .returned (.tuple #[.slice A n c, .agg #[.int .i64 (badT ts).pos, .int .i64 (badT ts).len, o, .int .i64 (badT ts).err]]) ∧
      Own (eI .i64) 3 (fun k => w.heap.size ≤ k) w.heap.size w' (.slice A n c) (outT ts) ∧ Rd (eI .i64) F w' o (badT ts).out ∧ Upd No w w' := by
  obtain ⟨A, c, rfl⟩ := hr.form
  obtain ⟨G, hG, hGF, hGz⟩ : ∃ G : Nat → Prop, Rd eTok G w (.slice A ts.length c) ts ∧ (∀ k, G k → F k) ∧ ∀ k, G k → k < w.heap.size := ⟨_, hr.bound, fun k h => h.1, fun k h => h.2⟩
  have HR : Hd _ := ⟨hG⟩
  have HGF : Hd _ := ⟨hGF⟩
  have HO : Hd _ := ⟨ho⟩
  clear hr ho hG hGF
  go_enter Tryz.func24, Tryz.ntmps24
  go_wp2
  go_loopg [4, 10] ts.length (UnitsRel w G ts)
  case atStart =>
    refine ⟨none, 0, 0, 0, .slice none 0 0, rfl, rfl, rfl, Nat.zero_le _, Own.nil _ _ _ _ _, ⟨by simp [go_sem, badT, tok0], by simp [go_sem, badT, tok0], by simp [go_sem], by simp [go_sem, badT, tok0], by simp [go_sem], by simp [go_sem], by simp [go_sem], by simp [go_sem]⟩, Rd.nil _ _ _,
      ⟨by simp [go_sem, tok0], by simp [go_sem, tok0], by simp [go_sem], by simp [go_sem, tok0], by simp [go_sem], by simp [go_sem], by simp [go_sem], by simp [go_sem]⟩, ((Upd.refl _ _).alloc _).alloc _⟩
  case round =>
    obtain ⟨A1, n1, c1, j, o, rfl, rfl, hgj, hj, hown, hbad, hro, hz0, hup⟩ := hrel
    have HBad : Hd _ := ⟨hbad⟩
    have HZ0 : Hd _ := ⟨hz0⟩
    by_cases hlt : j < ts.length
    · have hr1 := HR.out.upd hup (fun _ _ h => h)
      obtain ⟨b0, off, x, cs, rfl, hb0, hb0z, hx, hrep, hcell⟩ := hr1.at_ hlt
      obtain ⟨ox, rfl, hox⟩ := eTok_of hrep
      obtain ⟨Ax, cx, rfl⟩ := hox.form
      have e0 := hcell 0 _ rfl
      have e1 := hcell 1 _ rfl
      have e2 := hcell 2 _ rfl
      have e3 := hcell 3 _ rfl
      simp [eTok] at e0 e1 e2 e3
      have HX : Hd (ts.take (j + 1) = ts.take j ++ [x]) := ⟨by rw [List.take_add_one, hx]; rfl⟩
      have hxl := HO.out x (List.mem_of_getElem? hx)
      have hol : (outT (ts.take j)).length ≤ 100000000 := by
        have := outT_len (ts := ts.take j) (B := 1000) (fun t ht => HO.out t (List.mem_of_mem_take ht))
        simp at this
        have h2 : min j ts.length * 1000 ≤ 100000 * 1000 := Nat.mul_le_mul_right _ (by omega)
        omega
      obtain ⟨s, hs⟩ : ∃ s, s = outT (ts.take j) := ⟨_, rfl⟩
      obtain ⟨bd, hbd⟩ : ∃ bd, bd = badT (ts.take j) := ⟨_, rfl⟩
      have HS : Hd (s = outT (ts.take j)) := ⟨hs⟩
      have HB : Hd (bd = badT (ts.take j)) := ⟨hbd⟩
      rw [← hs] at hown hol
      rw [← hbd] at hbad hro HBad
      clear hs hbd hcell hrep hx hz0
      obtain ⟨h0, h1, h2, h3, f0, f1, f2, f3⟩ := hbad
      have hsz : w.heap.size + 1 < wr.heap.size := World.block_lt_of_cell? wr ⟨w.heap.size + 1, 0, none⟩ h0
      have q1 : w.heap.size < wr.heap.size := by omega
      have q2 : ¬ w.heap.size + 1 = wr.heap.size := by omega
      have q3 : w.heap.size + 1 < wr.heap.size + 1 := by omega
      obtain ⟨wo, rfl⟩ : ∃ wo : World, wo = wr := ⟨_, rfl⟩
      go_upto_region 6 with fail
      go_wp2_with (at_builtin; go_loud (refine wp_appendRow (F := fun k => w.heap.size + 2 ≤ k) (eI .i64) G (w.heap.size + 2) rfl (.tmp 14) (.tmp 16) 34 3 (.int .i64 0) 8 rfl Tryz.underlying34 info_int rfl (by decide) (.slice A1 n1 c1) (.slice Ax x.out.length cx) s x.out rfl rfl (hown.alloc _) (hox.upd (S := No) ((Upd.refl _ _).alloc _) (fun _ _ h => h)) (fun _ _ h => h) (fun k hk => by simp at hk; omega) (by simp; omega) (by omega) (by decide) ?_))
      intro A2 n2 c2 w1 hown2 hupd2 _ _
      have hnb : ∀ k, k < w.heap.size + 2 → ¬ some k = Value.ownBlock (.slice A1 n1 c1) := fun k hk e => by have := (hown.lt k e.symm).1; omega
      have hnt : ¬ some wo.heap.size = Value.ownBlock (.slice A1 n1 c1) := fun e => Nat.lt_irrefl _ (hown.lt _ e.symm).2
      have hbad1 : TCells w1 (w.heap.size + 1) bd o := TCells.upd (TCells.upd ⟨h0, h1, h2, h3, f0, f1, f2, f3⟩ ((Upd.refl No _).alloc _) (fun h => h)) hupd2 (hnb _ (by omega))
      have hz1 : TCells w1 w.heap.size tok0 (.slice none 0 0) := TCells.upd (TCells.upd HZ0.out ((Upd.refl No _).alloc _) (fun h => h)) hupd2 (hnb _ (by omega))
      have htk1 : TCells w1 wo.heap.size x (.slice Ax x.out.length cx) := TCells.upd (w := wo.alloc (.cells #[.int .i64 x.pos, .int .i64 x.len, .slice Ax x.out.length cx, .int .i64 x.err] 42)) ⟨by simp [go_sem], by simp [go_sem], by simp [go_sem], by simp [go_sem], by simp [go_sem], by simp [go_sem], by simp [go_sem], by simp [go_sem]⟩ hupd2 hnt
      have hup1 : Upd No w w1 := (hup.alloc _).trans hupd2 (fun _ _ h => h) (fun i hi e => hnb i (by omega) e)
      have hro1 : Rd (eI .i64) G w1 o bd.out := (hro.upd (S := No) ((Upd.refl _ _).alloc _) (fun _ _ h => h)).upd hupd2 (fun k hk e => hnb k (by have := hGz k hk; omega) e)
      have hox1 : Rd (eI .i64) G w1 (.slice Ax x.out.length cx) x.out := (hox.upd (S := No) ((Upd.refl _ _).alloc _) (fun _ _ h => h)).upd hupd2 (fun k hk e => hnb k (by have := hGz k hk; omega) e)
      have HB1 : Hd _ := ⟨hbad1⟩
      have HT1 : Hd _ := ⟨htk1⟩
      clear h0 h1 h2 h3 f0 f1 f2 f3 e0 e1 e2 e3 HBad HZ0
      obtain ⟨h0, h1, h2, h3, f0, f1, f2, f3⟩ := hbad1
      obtain ⟨g0, g1, g2, g3, _, _, _, _⟩ := htk1
      by_cases hxe : x.err = 0
      · have k1 : (x.err != 0) = false := by simp [hxe]
        have hkeep : badT (ts.take (j + 1)) = bd := by rw [HX.out, badT_snoc, if_neg (fun e => e.1 hxe), HB.out]
        have HK : Hd _ := ⟨hkeep⟩
        clear hkeep hxe
        go_wp2
        go_roundg (gk - 1)
        case measure => omega
        case rel =>
          go_light
          exact ⟨A2, n2, c2, j + 1, o, rfl, by go_num, by omega, by omega, by rw [HX.out, outT_snoc, ← HS.out]; exact hown2, by rw [HK.out]; exact HB1.out, by rw [HK.out]; exact hro1, hz1, hup1⟩
      · have k1 : (x.err != 0) = true := by simpa using hxe
        by_cases hbe : bd.err = 0
        · have k2 : (bd.err == 0) = true := by simp [hbe]
          have hkeep : badT (ts.take (j + 1)) = x := by rw [HX.out, badT_snoc, if_pos ⟨hxe, by rw [← HB.out]; exact hbe⟩]
          have HK : Hd _ := ⟨hkeep⟩
          clear hkeep hbe hxe
          go_wp2
          go_roundg (gk - 1)
          case measure => omega
          case rel =>
            go_light
            refine ⟨A2, n2, c2, j + 1, .slice Ax x.out.length cx, rfl, by go_num, by omega, by omega, ?_, ?_, ?_, ?_, ?_⟩
            · rw [HX.out, outT_snoc, ← HS.out]
              refine hown2.keep (S := fun k => k = w.heap.size + 1) ?_ (fun k hk e => by have := hown2.1 k hk; omega)
              iterate 4 (refine Upd.setCell (S := fun k => k = w.heap.size + 1) ?_ (fun _ => rfl) _)
              exact Upd.refl _ _
            · rw [HK.out]
              refine ⟨?_, ?_, ?_, ?_, ?_, ?_, ?_, ?_⟩ <;> simp [cell_set, frozen_set, *]
            · rw [HK.out]
              refine hox1.upd (S := fun k => k = w.heap.size + 1) ?_ (fun k hk e => by have := hGz k hk; omega)
              iterate 4 (refine Upd.setCell (S := fun k => k = w.heap.size + 1) ?_ (fun _ => rfl) _)
              exact Upd.refl _ _
            · refine TCells.upd (S := fun k => k = w.heap.size + 1) hz1 ?_ (fun e => by omega)
              iterate 4 (refine Upd.setCell (S := fun k => k = w.heap.size + 1) ?_ (fun _ => rfl) _)
              exact Upd.refl _ _
            · iterate 4 (refine Upd.setCell ?_ (fun h => by have h' : w.heap.size + 1 < w.heap.size := h; omega) _)
              exact hup1
        · have k2 : (bd.err == 0) = false := by simpa using hbe
          have hkeep : badT (ts.take (j + 1)) = bd := by rw [HX.out, badT_snoc, if_neg (fun e => hbe (by rw [HB.out]; exact e.2)), HB.out]
          have HK : Hd _ := ⟨hkeep⟩
          clear hkeep hbe hxe
          go_wp2
          go_roundg (gk - 1)
          case measure => omega
          case rel =>
            go_light
            exact ⟨A2, n2, c2, j + 1, o, rfl, by go_num, by omega, by omega, by rw [HX.out, outT_snoc, ← HS.out]; exact hown2, by rw [HK.out]; exact HB1.out, by rw [HK.out]; exact hro1, hz1, hup1⟩
    · have hlt1 : decide (j < ts.length) = false := by simpa using hlt
      have hjt : Hd (ts.take j = ts) := ⟨List.take_of_length_le (by omega)⟩
      rw [hjt.out] at hown hbad hro
      obtain ⟨h0, h1, h2, h3, f0, f1, f2, f3⟩ := hbad
      obtain ⟨z0, z1, z2, z3, y0, y1, y2, y3⟩ := hz0
      obtain ⟨bd, hbd⟩ : ∃ bd, bd = badT ts := ⟨_, rfl⟩
      have HBD : Hd (bd = badT ts) := ⟨hbd⟩
      rw [← hbd] at h0 h1 h3 hro
      clear hbd HBad
      have hsz : w.heap.size + 1 < wr.heap.size := World.block_lt_of_cell? wr ⟨w.heap.size + 1, 0, none⟩ h0
      have q1 : w.heap.size < wr.heap.size := by omega
      obtain ⟨Ao, co, rfl⟩ := hro.form
      go_upto_region 10 with fail
      go_region
      go_wp2
      refine bodyPost_ret (v := .tuple #[.slice A1 n1 c1, .agg #[.int .i64 bd.pos, .int .i64 bd.len, .slice Ao bd.out.length co, .int .i64 bd.err]]) (by simp [results, Tryz.results24, go_sem, cell_set, *]) rfl ?_
      rw [← HBD.out]
      refine ⟨A1, n1, c1, _, rfl, (hown.mono (F' := fun k => w.heap.size ≤ k) (fun k hk => by omega)).lower (by omega) |>.keep (S := fun k => k = w.heap.size) ?_ (fun k hk e => by have := hown.1 k hk; omega), (hro.upd (S := fun k => k = w.heap.size) ?_ (fun k hk e => by have := hGz k hk; omega)).mono HGF.out, ?_⟩
      · refine Upd.drew ?_
        iterate 4 (refine Upd.setCell (S := fun k => k = w.heap.size) ?_ (fun _ => rfl) _)
        exact Upd.refl _ _
      · refine Upd.drew ?_
        iterate 4 (refine Upd.setCell (S := fun k => k = w.heap.size) ?_ (fun _ => rfl) _)
        exact Upd.refl _ _
      · refine Upd.drew ?_
        iterate 4 (refine Upd.setCell ?_ (fun h => by have h' : w.heap.size < w.heap.size := h; omega) _)
        exact hup
end Go.Proofs.YtebgjabalnffdaaGreatDoor
