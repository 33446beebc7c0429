/- vni.Rules. -/
import Derived.Test.YtebgjabalnffdaaGreatDoorVniS
import Derived.Deep.CutBlock
set_option linter.unusedVariables false
set_option linter.unusedSimpArgs false
set_option maxRecDepth 100000
namespace Go.Proofs.YtebgjabalnffdaaGreatDoor
open Go.RowKit
attribute [local go_sem] run_store_cx

theorem Tryz.mapIB : Tryz.prog.underlying 173 = some (.map 3 4) := by kernel_rfl
theorem Tryz.ubool : Tryz.prog.underlying 4 = some .bool := by kernel_rfl
theorem Tryz.zeroBool (w : World) : (zeroValue 4).run Tryz.prog w = .ok (.bool false) w := by kernel_rfl

/-- Block B is a map from ints to bools: at most n are in it; f: which are true. -/
def MapB (w : World) (B n : Nat) (f : Int → Bool) : Prop :=
  ∃ D : DataW Unit, w.ownsMap Tryz.prog 3 (plainElem Tryz.prog 4) B n D ∧ ∀ c : Int, (Lit.int .i64 c).wf = true → D.atKey (.int .i64 c) (.lit (.bool false)) = .lit (.bool (f c))
theorem MapB.look {w : World} {B n : Nat} {f : Int → Bool} (h : MapB w B n f) {c : Int} (hc : (Lit.int .i64 c).wf = true) : (Instr.lookup 173 (.map (some B)) (.int .i64 c) false).run Tryz.prog w = .ok (.bool (f c)) w := by
  obtain ⟨D, ho, hf⟩ := h
  obtain ⟨v, ps, hrun, hv⟩ := ho.lookup (Go.Maps.int_keyed Tryz.uint64) Tryz.mapIB (Tryz.zeroBool w) (plainElem_bool Tryz.ubool false) (Go.Maps.keyOf_int_mk Tryz.uint64 hc)
  rw [hf c hc] at hv
  have e : v = .bool (f c) := by
    unfold plainElem at hv
    rw [Tryz.ubool] at hv
    cases v <;> simp at hv
    rw [hv.1]
  rw [hrun, e]
theorem MapB.made (w : World) : MapB (w.alloc (.map #[] 0)) w.heap.size 0 (fun _ => false) := ⟨_, World.ownsMap_made _ _ _ _, fun _ _ => rfl⟩
theorem MapB.put {w' : World} {B n : Nat} {f : Int → Bool} {D : DataW Unit} {c : Int} (hf : ∀ x : Int, (Lit.int .i64 x).wf = true → D.atKey (.int .i64 x) (.lit (.bool false)) = .lit (.bool (f x)))
    (hD : Go.Maps.IsMap D) (ho : w'.ownsMap Tryz.prog 3 (plainElem Tryz.prog 4) B (n + 1) (D.put (.int .i64 c) (.lit (.bool true)))) : MapB w' B (n + 1) (fun x => decide (x = c) || f x) := by
  refine ⟨_, ho, fun x hx => ?_⟩
  by_cases h : x = c
  · subst h; rw [Go.Maps.atKey_put_same hD (by simp [WideAt.IsKeyLit])]; simp
  · rw [Go.Maps.atKey_put_other (by simpa using h), hf x hx]; simp [h]
theorem MapB.upd {w w' : World} {S : Nat → Prop} {B n : Nat} {f : Int → Bool} (h : MapB w B n f) (hu : Upd S w w') (hn : ¬ S B) : MapB w' B n f := by
  obtain ⟨D, ⟨es, clock, hb, h1⟩, hf⟩ := h
  exact ⟨D, ⟨es, clock, hu.heap hb hn, h1⟩, hf⟩
theorem MapB.lt {w : World} {B n : Nat} {f : Int → Bool} (h : MapB w B n f) : B < w.heap.size := by obtain ⟨D, ho, _⟩ := h; exact ho.lt

def vniLow (j : Nat) : L3 := if 74 ≤ j then (allV.getD (j - 74) default).1 else (allV.getD j default).1
def vniIn (j : Nat) : List Int := (smallS (vniLow j)).map fun c => if 74 ≤ j then c - 32 else c
def vniLet (j : Nat) : Rule := (vniIn j, [(allV.getD j default).2])
def vniTaken (j : Nat) (c : Int) : Bool := decide (c ∈ (allV.take j).map (·.2))
def vniA : List Rule := (List.range 148).map vniLet
def vniB (n : Nat) : List Rule := (List.range n).flatMap fun (c : Nat) => if vniTaken 148 c = true then [] else [(([(c : Int)], [(c : Int)]) : Rule)]
theorem vniB_succ (n : Nat) : vniB (n + 1) = vniB n ++ (if vniTaken 148 n = true then [] else [(([(n : Int)], [(n : Int)]) : Rule)]) := by simp [vniB, List.range_succ]
theorem vniB_len (n : Nat) : (vniB n).length ≤ n := by
  induction n with
  | zero => simp [vniB]
  | succ n ih => rw [vniB_succ, List.length_append]; split <;> simp <;> omega
def vniRules : List Rule := vniA ++ vniB 128
def vniOk (j : Nat) : Bool := decide (0 ≤ (vniLow j).2.1) && decide ((vniLow j).2.1 ≤ 5) && decide (0 ≤ (vniLow j).2.2) && decide ((vniLow j).2.2 ≤ 5) && (decide ((vniLow j).2.1 ≠ 3) || decide ((vniLow j).1 = 111) || decide ((vniLow j).1 = 117)) &&
  decide ((smallS (vniLow j)).length ≤ 2) && (smallS (vniLow j)).all fun c => decide (0 ≤ c) && decide (c ≤ 300)
theorem vniOk_all : (List.range 148).all vniOk = true := by kernel_rfl
theorem allV_wf : allV.all (fun p => (Lit.int .i64 p.2).wf) = true := by kernel_rfl
theorem vniTaken_succ {j : Nat} {p : L3 × Int} (hp : allV[j]? = some p) (x : Int) : (decide (x = p.2) || vniTaken j x) = vniTaken (j + 1) x := by
  simp only [vniTaken, List.take_add_one, hp, Option.toList_some, List.map_append, List.map_cons, List.map_nil, List.mem_append, List.mem_singleton]
  by_cases h : x = p.2 <;> simp [h]

def VRel (w wA : World) (B : Nat) (g : Nat) (v k : Value) (wr : World) : Prop :=
  ∃ (A : Option Addr) (n c j : Nat), v = .slice A n c ∧ k = .int .i64 j ∧ g + j = 148 ∧ j ≤ 148 ∧ Own eRule 115 (fun k => wA.heap.size ≤ k ∧ k ≠ B) w.heap.size wr (.slice A n c) ((List.range j).map vniLet) ∧ MapB wr B j (vniTaken j) ∧ Upd No wA wr
def VRel2 (w wA : World) (B : Nat) (g : Nat) (v k : Value) (wr : World) : Prop :=
  ∃ (A : Option Addr) (n c j : Nat), v = .slice A n c ∧ k = .int .i64 j ∧ g + j = 128 ∧ j ≤ 128 ∧ Own eRule 115 (fun k => wA.heap.size ≤ k ∧ k ≠ B) w.heap.size wr (.slice A n c) (vniA ++ vniB j) ∧ MapB wr B 148 (vniTaken 148) ∧ Upd No wA wr
def VIn (w3 : World) (up : Bool) (sm : List Int) (g : Nat) (v k : Value) (wx : World) : Prop :=
  ∃ (A : Option Addr) (n c i : Nat), v = .slice A n c ∧ k = .int .i64 i ∧ g + i = sm.length ∧ i ≤ sm.length ∧ Own (eI .i64) 3 (fun k => w3.heap.size ≤ k) w3.heap.size wx (.slice A n c) ((sm.take i).map fun c => if up = true then c - 32 else c) ∧ Upd No w3 wx
theorem VIn.succ {sm : List Int} {i : Nat} {c : Int} (hc : sm[i]? = some c) (f : Int → Int) : (sm.take (i + 1)).map f = (sm.take i).map f ++ [f c] := by
  rw [List.take_add_one, hc]; simp

set_option maxHeartbeats 8000000 in
theorem vni_Rules (w : World) : Calls Tryz.prog 63 #[] w fun e w' => ∃ A n c, e = .returned (.slice A n c) ∧ Own eRule 115 (fun k => w.heap.size ≤ k) w.heap.size w' (.slice A n c) vniRules ∧ Upd No w w' := by
  have hmm := @run_makeMap Tryz.prog
  go_enter Tryz.func63, Tryz.ntmps63
  go_wp2_with fail
  refine (viet_All _).mono ?_
  rintro e wA ⟨A2, n2, c2, A3, n3, c3, rfl, o2, o3, uA⟩
  have hn2 : n2 = 148 := by rw [← o2.rd.lenEq]; simp [allV_len]
  have hn3 : n3 = 148 := by rw [← o3.rd.lenEq]; simp [allV_len]
  subst hn2 hn3
  have HO2 : Hd _ := ⟨o2.rd⟩
  have HO3 : Hd _ := ⟨o3.rd⟩
  have hsA := uA.size
  have HUA : Hd _ := ⟨uA⟩
  clear o2 o3 uA
  go_wp2
  go_loopg [1, 23] 148 (VRel w wA wA.heap.size)
  case atStart => exact ⟨none, 0, 0, 0, rfl, rfl, rfl, by omega, Own.nil _ _ _ _ _, by rw [show vniTaken 0 = fun _ => false from by funext x; simp [vniTaken]]; exact MapB.made wA, (Upd.refl _ _).alloc _⟩
  case round =>
    obtain ⟨A1, n1, c1, j, rfl, rfl, hgj, hj, hown, hmap, hup⟩ := hrel
    have HMap : Hd _ := ⟨hmap⟩
    have HOwn : Hd _ := ⟨hown⟩
    have hzr := hup.size
    have hBr := hmap.lt
    clear hmap hown
    by_cases hlt : j < 148
    · have hlt1 : decide ((j : Int) < 148) = true := by simp; omega
      obtain ⟨p, hp⟩ : ∃ p, allV[j]? = some p := ⟨allV[j]'(by rw [allV_len]; exact hlt), by simp⟩
      have HP : Hd (allV[j]? = some p) := ⟨hp⟩
      have hok := List.all_eq_true.1 vniOk_all j (List.mem_range.2 hlt)
      simp only [vniOk, Bool.and_eq_true, Bool.or_eq_true, decide_eq_true_eq, List.all_eq_true] at hok
      have HOk : Hd _ := ⟨hok⟩
      obtain ⟨b2, off2, x, cs, rfl, _, hb2, hx, hrep, hcl⟩ := (HO2.out.upd hup (fun _ _ h => h)).at_ hlt
      obtain rfl : x = p.1 := by simpa [hp] using hx.symm
      obtain rfl : cs = [.int .i64 p.1.1, .complex .f64 (fB p.1.2.1) (fB p.1.2.2)] := hrep
      have e0 := hcl 0 _ rfl
      have e1 := hcl 1 _ rfl
      obtain ⟨b3, off3, s, cs3, rfl, hF3, hb3, hs, hrep3, hcl3⟩ := (HO3.out.bound.upd hup (fun _ _ h => h)).at_ hlt
      obtain rfl : s = p.2 := by simpa [hp] using hs.symm
      obtain rfl : cs3 = [.int .i64 p.2] := hrep3
      have e2 := hcl3 0 _ rfl
      simp only [show eL.sz = 2 from rfl, flat_sz, Nat.add_zero, Nat.mul_one] at e0 e1 e2
      obtain ⟨⟨p1, p2, p3⟩, ps⟩ := p
      simp only at e0 e1 e2
      obtain ⟨bp2, hbp2⟩ : ∃ b, b = fB p2 := ⟨_, rfl⟩
      obtain ⟨bp3, hbp3⟩ : ∃ b, b = fB p3 := ⟨_, rfl⟩
      rw [← hbp2, ← hbp3] at e1
      have HBp2 : Hd _ := ⟨hbp2⟩
      have HBp3 : Hd _ := ⟨hbp3⟩
      have hb2n : ¬ b2 = wr.heap.size := by omega
      have hb3n : ¬ b3 = wr.heap.size := by omega
      obtain ⟨up, hupd⟩ : ∃ up, decide ((74 : Int) ≤ (j : Int)) = up := ⟨_, rfl⟩
      have HUp : Hd (up = decide (74 ≤ j)) := ⟨by rw [← hupd]; exact decide_eq_decide.2 (by omega)⟩
      obtain ⟨lw, hlw⟩ : ∃ lw, lw = vniLow j := ⟨_, rfl⟩
      have HLw : Hd (lw = vniLow j) := ⟨hlw⟩
      clear hcl hcl3 hx hs hp hbp2 hbp3 hok hlw
      go_upto_if 31 with fail
      go_cut [] (fun wx => wx.cell? ⟨wr.heap.size, 0, none⟩ = some (.int .i64 lw.1) ∧ wx.cell? ⟨wr.heap.size, 1, none⟩ = some (.complex .f64 (fB lw.2.1) (fB lw.2.2)) ∧ Upd No wr wx)
      case first =>
        cases up with
        | false =>
          go_wp2_with fail
          go_meet
          go_light
          have hj74 : ¬ 74 ≤ j := by have := HUp.out; simpa using this
          have e : lw = (p1, p2, p3) := by rw [HLw.out, vniLow, if_neg hj74, List.getD_eq_getElem?_getD, HP.out]; rfl
          rw [e]
          refine ⟨by simp [go_sem], by simp [go_sem, HBp2.out, HBp3.out], ?_⟩
          exact (Upd.refl _ _).alloc _
        | true =>
          have hj74 : 74 ≤ j := by have := HUp.out; simpa using this.symm
          obtain ⟨i, rfl⟩ : ∃ i, j = i + 74 := ⟨j - 74, by omega⟩
          obtain ⟨q, hq⟩ : ∃ q, allV[i]? = some q := ⟨allV[i]'(by rw [allV_len]; omega), by simp⟩
          obtain ⟨b2', off2', x', cs', hA', _, hb2', hx', hrep', hcl'⟩ := (HO2.out.upd hup (fun _ _ h => h)).at_ (k := i) (by omega)
          simp only [Option.some.injEq, Addr.mk.injEq] at hA'
          obtain ⟨rfl, rfl, _⟩ := hA'
          obtain rfl : x' = q.1 := by simpa [hq] using hx'.symm
          obtain rfl : cs' = [.int .i64 q.1.1, .complex .f64 (fB q.1.2.1) (fB q.1.2.2)] := hrep'
          have f0 := hcl' 0 _ rfl
          have f1 := hcl' 1 _ rfl
          simp only [show eL.sz = 2 from rfl, flat_sz, Nat.add_zero, Nat.mul_one] at f0 f1
          have e : lw = q.1 := by rw [HLw.out, vniLow, if_pos hj74, List.getD_eq_getElem?_getD, Nat.add_sub_cancel, hq]; rfl
          rw [← e] at f0 f1
          clear hcl' hx' hq e
          go_wp2_with fail
          go_meet
          go_light
          refine ⟨by simp [go_sem, cell_set, *], by simp [go_sem, cell_set, *], ?_⟩
          repeat first | exact Upd.refl _ _ | (refine Upd.alloc ?_ _) | (refine Upd.setCell ?_ (fun h => by simp at h) _)
      case rest =>
        obtain ⟨g0, g1, hwx⟩ := hcut
        have hzx := hwx.size
        rw [← HLw.out] at HOk
        have hsm := fun W => vni_Small W lw HOk.out.1.1.1.1.1 ⟨HOk.out.1.1.1.1.2, HOk.out.1.1.1.2⟩ (fun h => HOk.out.1.1.2.elim (fun h' => h'.elim (fun h' => (h' h).elim) .inl) .inr)
        obtain ⟨sm, hsme⟩ : ∃ sm, smallS lw = sm := ⟨_, rfl⟩
        obtain ⟨z2, hz2⟩ : ∃ z, fB lw.2.1 = z := ⟨_, rfl⟩
        obtain ⟨z3, hz3⟩ : ∃ z, fB lw.2.2 = z := ⟨_, rfl⟩
        have HSme : Hd (smallS lw = sm) := ⟨hsme⟩
        rw [hsme, hz2, hz3] at hsm
        rw [hz2, hz3] at g1
        have HSm : Hd _ := ⟨hsm⟩
        clear hsme hsm hz2 hz3
        go_upto_block 2 with (go_at_call 96; go_loud (refine (HSm.out _).mono ?_; rintro e w3 ⟨A5, n5, c5, rfl, o5, u3⟩))
        obtain ⟨wo, rfl⟩ : ∃ wo : World, wo = wr := ⟨_, rfl⟩
        obtain ⟨go0, rfl⟩ : ∃ g : Nat, g = gk := ⟨_, rfl⟩
        have hn5 := o5.rd.lenEq
        subst hn5
        have HSR : Hd _ := ⟨o5.rd⟩
        have hz3 := u3.size
        have HW3 : Hd (Upd No wo w3) := ⟨hwx.trans u3 (fun _ _ h => h) (fun _ _ h => h)⟩
        have hl2 : sm.length ≤ 2 := by have := HOk.out.1.2; rw [HSme.out] at this; exact this
        have HBd : Hd (∀ x ∈ sm, 0 ≤ x ∧ x ≤ 300) := ⟨fun x hx => HOk.out.2 x (by rw [HSme.out]; exact hx)⟩
        clear o5 u3 g0 g1 e0 e1 hwx
        go_wp2
        go_loopg [9, 41] sm.length (VIn w3 up sm)
        case atStart => exact ⟨none, 0, 0, 0, rfl, rfl, rfl, Nat.zero_le _, Own.nil _ _ _ _ _, Upd.refl _ _⟩
        case round =>
          obtain ⟨A6, n6, c6, i, rfl, rfl, hgi, hi, hown6, hup6⟩ := hrel
          have hz6 := hup6.size
          by_cases hlti : i < sm.length
          · have hlti1 : decide (i < sm.length) = true := by simpa using hlti
            obtain ⟨b5, off5, c, cs, rfl, _, hb5, hx, hrep, hcl⟩ := (HSR.out.upd hup6 (fun _ _ h => h)).at_ hlti
            obtain rfl : cs = [.int .i64 c] := hrep
            have e5 := hcl 0 _ rfl
            simp only [flat_sz, Nat.add_zero, Nat.mul_one] at e5
            have hcb := HBd.out c (List.mem_of_getElem? hx)
            have HX : Hd _ := ⟨hx⟩
            have HOwn6 : Hd _ := ⟨hown6⟩
            obtain ⟨acc, hacc⟩ : ∃ acc, acc = ((sm.take i).map fun c => if up = true then c - 32 else c) := ⟨_, rfl⟩
            have hal : acc.length ≤ 2 := by rw [hacc]; simp; omega
            have HAc : Hd _ := ⟨hacc⟩
            rw [← hacc] at hown6
            clear hcl hx hacc
            cases up with
            | false =>
              go_wp2_with (at_builtin; go_loud (refine wp_appendLit (F := fun k => w3.heap.size ≤ k) (eI .i64) w3.heap.size rfl (.tmp 48) (.tmp 50) 34 3 _ 8 rfl Tryz.underlying34 info_int rfl (by decide) (.slice A6 n6 c6) acc [c] [[.int .i64 c]] _ 1 rfl rfl rfl rfl rfl hown6 ?qhr ?qnew hz6 ?ql (by decide) ?_))
              case qhr => intro k y cs hy hc; cases k with
                | zero => simp at hy hc; subst hy; subst hc; rfl
                | succ k => simp at hy
              case qnew => intro k hk; omega
              case ql => (try simp); omega
              intro A7 n7 c7 w7 hown7 hup7 hat7
              go_wp2
              go_roundg (gk - 1)
              case measure => omega
              case rel =>
                go_light
                refine ⟨A7, n7, c7, i + 1, rfl, by go_num, by omega, by omega, ?_, hup6.trans hup7 (fun _ _ h => h) (fun k hk e => by have := (hown6.lt k e.symm).1; omega)⟩
                rw [VIn.succ HX.out, ← HAc.out]; exact hown7
            | true =>
              go_wp2_with (at_builtin; go_loud (refine wp_appendLit (F := fun k => w3.heap.size ≤ k) (eI .i64) w3.heap.size rfl (.tmp 48) (.tmp 50) 34 3 _ 8 rfl Tryz.underlying34 info_int rfl (by decide) (.slice A6 n6 c6) acc [c - 32] [[.int .i64 (c - 32)]] _ 1 rfl rfl rfl rfl rfl hown6 ?qhr ?qnew hz6 ?ql (by decide) ?_))
              case qhr => intro k y cs hy hc; cases k with
                | zero => simp at hy hc; subst hy; subst hc; rfl
                | succ k => simp at hy
              case qnew => intro k hk; omega
              case ql => (try simp); omega
              intro A7 n7 c7 w7 hown7 hup7 hat7
              go_wp2
              go_roundg (gk - 1)
              case measure => omega
              case rel =>
                go_light
                refine ⟨A7, n7, c7, i + 1, rfl, by go_num, by omega, by omega, ?_, hup6.trans hup7 (fun _ _ h => h) (fun k hk e => by have := (hown6.lt k e.symm).1; omega)⟩
                have a := HAc.out
                simp only [eq_self_iff_true, if_true] at a ⊢
                rw [VIn.succ HX.out, ← a]; exact hown7
          · have hlti1 : decide (i < sm.length) = false := by simpa using hlti
            have h1 : sm.take i = sm := List.take_of_length_le (by omega)
            rw [h1] at hown6
            have hin : (sm.map fun c => if up = true then c - 32 else c) = vniIn j := by
              rw [vniIn, ← HLw.out, HSme.out]
              congr 1
              funext c
              rw [HUp.out]
              by_cases h74 : 74 ≤ j <;> simp [h74]
            rw [hin] at hown6
            have HOwn6 : Hd _ := ⟨hown6⟩
            have huw : Upd No wo wr := HW3.out.trans hup6 (fun _ _ h => h) (fun _ _ h => h)
            have e6 := huw.cell e2 (fun h => h)
            have hm6 := HMap.out.upd huw (fun h => h)
            obtain ⟨D, hD, hf⟩ := hm6
            have HF : Hd _ := ⟨hf⟩
            have hIM : Hd (Go.Maps.IsMap D) := ⟨by obtain ⟨es, clock, _, _, _, rfl⟩ := hD; exact ⟨_, rfl⟩⟩
            have hwf : (Lit.int .i64 ps).wf = true := List.all_eq_true.1 allV_wf _ (List.mem_of_getElem? HP.out)
            have HWf : Hd _ := ⟨hwf⟩
            have HUW : Hd _ := ⟨huw⟩
            have HHD : Hd _ := ⟨hD⟩
            have hzw := huw.size
            clear h1 hin hown6 huw hf hwf hD e2
            go_wp2_with (at_mapUpdate; go_loud (refine wpList_mapUpdate_own _ rfl (.tmp 53) (.tmp 57) (.const (.bool true)) 173 rfl 3 4 (Go.Maps.int_keyed Tryz.uint64) Tryz.mapIB (plainElem Tryz.prog 4) wA.heap.size j D rfl HHD.out (by unfold maxLen; omega) _ _ _ rfl rfl (Go.Maps.keyOf_int_mk Tryz.uint64 HWf.out) (.lit (.bool true)) [] (plainElem_bool Tryz.ubool true) ?_))
            intro w5 o5 g5
            have u5 : Upd (fun k => k = wA.heap.size) wr w5 := (Upd.ofGrown g5).mono (fun i _ h => by injection h)
            have hm5 : MapB w5 wA.heap.size (j + 1) (vniTaken (j + 1)) := by
              have := MapB.put HF.out hIM.out o5
              rwa [show (fun x => decide (x = ps) || vniTaken j x) = vniTaken (j + 1) from funext (vniTaken_succ HP.out)] at this
            have HM5 : Hd _ := ⟨hm5⟩
            have hF3' : ¬ b3 = wA.heap.size := by have := hF3.2; omega
            have e7 := u5.cell e6 hF3'
            have HU5 : Hd _ := ⟨u5⟩
            have hz5 := u5.size
            have hb3n5 : ¬ b3 = w5.heap.size := by omega
            clear o5 g5 hm5 u5 e6
            go_wp2_with (at_builtin; go_loud (refine wp_appendLit (F := fun k => wA.heap.size ≤ k ∧ k ≠ wA.heap.size) eRule w.heap.size rfl (.tmp 58) (.tmp 66) 49 115 _ 48 rfl Tryz.underlying49 info_Rule rfl (by decide) (.slice A1 n1 c1) ((List.range j).map vniLet) [(vniIn j, [ps])] [[.slice A6 n6 c6, .slice (some ⟨w5.heap.size, 0, none⟩) 1 1]] _ 1 rfl (by show Value.slice (some ⟨w5.heap.size + 1, 0, none⟩) 1 1 = _; simp) rfl rfl rfl ?qo ?qhr ?qnew ?qb ?ql (by decide) ?_))
            case qo => exact ((HOwn.out.upd HUW.out (fun _ _ h => h)).upd HU5.out (fun k hk e => hk.2 e)).alloc _
            case qhr =>
              intro k y cs hy hc
              cases k with
              | zero =>
                simp at hy hc; subst hy; subst hc
                refine eRule_mk ?_ ?_
                · refine (((HOwn6.out.rd).upd HU5.out (fun k hk e => ?_)).upd (S := No) ((Upd.refl _ _).alloc _) (fun _ _ h => h)).mono (fun k hk => ⟨⟨?_, ?_⟩, fun e => ?_⟩)
                  · omega
                  · omega
                  · omega
                  · have := (HOwn.out.lt k e.symm).2; omega
                · exact Rd.one .i64 ps w5 _ ⟨⟨by omega, by omega⟩, fun e => by have := (HOwn.out.lt _ e.symm).2; omega⟩
              | succ k => simp at hy
            case qnew => intro k hk; simp at hk; omega
            case qb => simp; omega
            case ql => simp; omega
            intro A8 n8 c8 w8 hown8 hup8 hat8
            go_wp2
            go_roundg (go0 - 1)
            case measure => omega
            case rel =>
              go_light
              refine ⟨A8, n8, c8, j + 1, rfl, by go_num, by omega, by omega, ?_, ?_, ?_⟩
              · rw [List.range_succ, List.map_append, List.map_cons, List.map_nil]
                rw [show vniLet j = (vniIn j, [ps]) by rw [vniLet, List.getD_eq_getElem?_getD, HP.out]; rfl]
                exact hown8
              · exact (HM5.out.upd (S := No) ((Upd.refl _ _).alloc _) (fun h => h)).upd hup8 (fun e => (HOwn.out.1 _ e.symm).2 rfl)
              · refine (((hup.trans HUW.out (T := No) (fun _ _ h => h) (fun _ _ h => h)).trans HU5.out (T := No) (fun _ _ h => h) (fun k hk e => by omega)).alloc _).trans hup8 (fun _ _ h => h) (fun k hk e => ?_)
                have := HOwn.out.1 k e.symm; omega
    · have hlt1 : decide ((j : Int) < 148) = false := by simp; omega
      obtain rfl : j = 148 := by omega
      clear hlt hgj hj
      go_wp2_with fail
      go_loopg [1, 69] 128 (VRel2 w wA wA.heap.size)
      case atStart => exact ⟨A1, n1, c1, 0, rfl, rfl, rfl, by omega, by simpa [vniB, vniA] using HOwn.out, HMap.out, hup⟩
      case round =>
        clear hup HMap HOwn
        obtain ⟨A1, n1, c1, j, rfl, rfl, hgj, hj, hown, hmap, hup⟩ := hrel
        have hzr := hup.size
        have hBr := hmap.lt
        by_cases hlt : j < 128
        · have hlt1 : decide ((j : Int) < 128) = true := by simp; omega
          have hwf : (Lit.int .i64 (j : Int)).wf = true := List.all_eq_true.1 (show (List.range 128).all (fun (j : Nat) => (Lit.int .i64 (j : Int)).wf) = true by kernel_rfl) j (List.mem_range.2 hlt)
          have hlk := hmap.look hwf
          obtain ⟨tk, htk⟩ : ∃ tk, vniTaken 148 j = tk := ⟨_, rfl⟩
          rw [htk] at hlk
          have HTk : Hd _ := ⟨htk⟩
          have HMap : Hd _ := ⟨hmap⟩
          have hbl := vniB_len j
          obtain ⟨acc, hacc⟩ : ∃ acc, acc = vniA ++ vniB j := ⟨_, rfl⟩
          have hal : acc.length ≤ 300 := by rw [hacc, List.length_append, vniA, List.length_map, List.length_range]; omega
          have HAc : Hd _ := ⟨hacc⟩
          rw [← hacc] at hown
          clear htk hwf hmap hacc
          cases tk with
          | true =>
            go_wp2
            go_roundg (gk - 1)
            case measure => omega
            case rel =>
              go_light
              exact ⟨A1, n1, c1, j + 1, rfl, by go_num, by omega, by omega, by rw [vniB_succ, HTk.out, if_pos rfl, List.append_nil, ← HAc.out]; exact hown, HMap.out, hup⟩
          | false =>
            have RN : ∀ x y : Int, eRule.rep (fun k => k = wr.heap.size ∨ k = wr.heap.size + 1) ((wr.alloc (.cells #[.int .i64 x] 3)).alloc (.cells #[.int .i64 y] 3)) ([x], [y]) [.slice (some ⟨wr.heap.size, 0, none⟩) 1 1, .slice (some ⟨wr.heap.size + 1, 0, none⟩) 1 1] := fun x y => rule_new wr [x] [y] ⟨by simp, by simp⟩
            go_wp2_with (at_builtin; go_loud (refine wp_appendLit (F := fun k => wA.heap.size ≤ k ∧ k ≠ wA.heap.size) eRule w.heap.size rfl (.tmp 76) (.tmp 82) 49 115 _ 48 rfl Tryz.underlying49 info_Rule rfl (by decide) (.slice A1 n1 c1) acc [([(j : Int)], [(j : Int)])] [[.slice (some ⟨wr.heap.size, 0, none⟩) 1 1, .slice (some ⟨wr.heap.size + 1, 0, none⟩) 1 1]] _ 1 rfl (by show Value.slice (some ⟨wr.heap.size + 1 + 1, 0, none⟩) 1 1 = _; simp) rfl rfl rfl ?qo ?qhr ?qnew ?qb ?ql (by decide) ?_))
            case qo => exact (hown.alloc _).alloc _
            case qhr =>
              intro k y cs hy hc
              cases k with
              | zero =>
                simp at hy hc; subst hy; subst hc
                refine eRule.mono (fun k hk => ⟨⟨by omega, by omega⟩, fun e => ?_⟩) (RN _ _)
                have := (hown.lt k e.symm).2; omega
              | succ k => simp at hy
            case qnew => intro k hk; simp at *; omega
            case qb => simp at *; omega
            case ql => simp; omega
            intro A3 n3 c3 w7 hown7 hup7 hat7
            go_wp2
            go_roundg (gk - 1)
            case measure => omega
            case rel =>
              go_light
              refine ⟨A3, n3, c3, j + 1, rfl, by go_num, by omega, by omega, by rw [vniB_succ, HTk.out, if_neg (fun e => Bool.noConfusion e), ← List.append_assoc, ← HAc.out]; exact hown7, ?_, ?_⟩
              · exact ((HMap.out.upd (S := No) ((Upd.refl _ _).alloc _) (fun h => h)).upd (S := No) ((Upd.refl _ _).alloc _) (fun h => h)).upd hup7 (fun e => (hown.1 _ e.symm).2 rfl)
              · refine ((hup.alloc _).alloc _).trans hup7 (fun _ _ h => h) (fun k hk e => ?_)
                have := hown.1 k e.symm; omega
        · have hlt1 : decide ((j : Int) < 128) = false := by simp; omega
          obtain rfl : j = 128 := by omega
          go_wp2
          go_ret
          go_light
          exact ⟨A1, n1, c1, rfl, hown.mono (fun k hk => by omega), HUA.out.trans hup (fun _ _ h => h) (fun _ _ h => h)⟩
end Go.Proofs.YtebgjabalnffdaaGreatDoor
