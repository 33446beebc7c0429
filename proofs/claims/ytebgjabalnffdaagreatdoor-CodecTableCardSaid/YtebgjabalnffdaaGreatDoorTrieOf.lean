/- trie.Of: the trie of rules that are right. -/
import Derived.Test.YtebgjabalnffdaaGreatDoorTrieP2
import Derived.Deep.RegionLaw
set_option linter.unusedVariables false
set_option linter.unusedSimpArgs false
set_option maxRecDepth 100000
namespace Go.Proofs.YtebgjabalnffdaaGreatDoor
open Go.RowKit

set_option maxHeartbeats 4000000 in
theorem trie_Of {F : Nat → Prop} {w : World} {v : Value} {rs : List Rule} (hr : Rd eRule F w v rs) (hl : rs.length ≤ 512) (hpos : 0 < rs.length) (hok : ∀ k, k < rs.length → chkAt rs k = true) (hok2 : ∀ r ∈ rs, r.1.length ≤ 8 ∧ r.2.length ≤ 8) :
    Calls Tryz.prog 90 #[v] w fun e w' => ∃ tb, e = .returned (.tuple #[.pointer (some ⟨tb, 0, none⟩), .int .i64 0]) ∧ IsTrie w' tb (fun k => w.heap.size ≤ k) (trieN rs) (rs.map (·.2)) ∧ Upd No w w' := by
  obtain ⟨A, c, rfl⟩ := hr.form
  have HCheck : Hd _ := ⟨rule_Check hr hl hok⟩
  by_cases h0 : rs.length = 0
  · omega
  · obtain ⟨b, off, _, _, rfl, _, hbw, _⟩ := hr.at_ (k := 0) (by omega)
    clear hok
    go_enter Tryz.func90, Tryz.ntmps90
    go_wp2_with (go_at_call 127; refine HCheck.out.mono ?_; rintro e w1 ⟨rfl, hup1⟩)
    have hup2 : Upd No w ((w1.alloc (.cells #[.int .i64 0, .int .i64 0, .int .i64 0, .int .i64 (-1)] 213)).alloc (.cells #[.slice (some ⟨w1.heap.size, 0, none⟩) 1 1, .slice none 0 0] 216)) := (hup1.alloc _).alloc _
    have hmid : TMid w.heap.size ((w1.alloc (.cells #[.int .i64 0, .int .i64 0, .int .i64 0, .int .i64 (-1)] 213)).alloc (.cells #[.slice (some ⟨w1.heap.size, 0, none⟩) 1 1, .slice none 0 0] 216)) (w1.heap.size + 1) (.slice (some ⟨w1.heap.size, 0, none⟩) 1 1) (.slice none 0 0) [⟨0, 0, 0, -1⟩] [] := by
      have := hup1.size
      refine ⟨by simp [go_sem], by simp [go_sem], by simp [go_sem], by simp [go_sem], ?_, Own.nil _ _ _ _ _, by omega, by simp [Value.ownBlock]⟩
      exact (Own.lit (E := eNd) (e := 213) (F := Any) (base := w.heap.size) w1 [(⟨0, 0, 0, -1⟩ : Nd)] [[.int .i64 0, .int .i64 0, .int .i64 0, .int .i64 (-1)]] rfl (by simp) this trivial (fun k x cs hx hc => by
        cases k with
        | zero => simp at hx hc; subst hx; subst hc; rfl
        | succ k => simp at hx)).alloc _
    have hpos : ¬ (w1.heap.size + 1) < w.heap.size := by have := hup1.size; omega
    obtain ⟨W0, hW0⟩ : ∃ W0 : World, W0 = ((w1.alloc (.cells #[.int .i64 0, .int .i64 0, .int .i64 0, .int .i64 (-1)] 213)).alloc (.cells #[.slice (some ⟨w1.heap.size, 0, none⟩) 1 1, .slice none 0 0] 216)) := ⟨_, rfl⟩
    rw [← hW0] at hup2 hmid ⊢
    obtain ⟨tb, htb⟩ : ∃ tb, tb = w1.heap.size + 1 := ⟨_, rfl⟩
    rw [← htb] at hmid ⊢
    clear hW0 hup1 hpos htb
    go_loopg [28] rs.length (fun g i wr => ∃ (k : Nat) (vn vr : Value), k ≤ rs.length ∧ g + k = rs.length ∧ i = .int .i64 k ∧ TMid w.heap.size wr tb vn vr (trieN (rs.take k)) ((rs.take k).map (·.2)) ∧ Upd No w wr)
    case atStart => exact ⟨0, _, _, Nat.zero_le _, rfl, rfl, hmid, hup2⟩
    case round =>
      obtain ⟨k, vn, vr, hk, hgk, rfl, hmid, hup⟩ := hrel
      by_cases hlt : k < rs.length
      · obtain ⟨x, cs, hxk, hrep, hcell, _, hbs⟩ := hr.at' hlt
        obtain ⟨ci, co, rfl, hi, ho⟩ := eRule_of hrep
        have hc0 := hup.cell (hcell 0 _ rfl) (fun h => h)
        have hc1 := hup.cell (hcell 1 _ rfl) (fun h => h)
        simp only [pair_sz, row_sz, Nat.add_zero, Nat.reduceAdd] at hc0 hc1
        obtain ⟨Ai, ni, rfl⟩ := hi.form
        obtain ⟨Ao, no, rfl⟩ := ho.form
        have HX : Hd (rs[k]? = some x) := ⟨hxk⟩
        have hxm := List.mem_of_getElem? hxk
        obtain ⟨h80, h81⟩ := hok2 x hxm
        clear hxk hcell
        obtain ⟨ns, hns⟩ : ∃ ns, ns = trieN (rs.take k) := ⟨_, rfl⟩
        obtain ⟨outs, houts⟩ : ∃ outs, outs = (rs.take k).map (·.2) := ⟨_, rfl⟩
        have HN : Hd (ns = trieN (rs.take k)) := ⟨hns⟩
        have HOU : Hd (outs = (rs.take k).map (·.2)) := ⟨houts⟩
        rw [← hns, ← houts] at hmid
        have hinv := trieN_inv (rs.take k) (fun r hr => (hok2 r (List.mem_of_mem_take hr)).1)
        rw [← hns] at hinv
        have hol : outs.length ≤ 512 := by rw [houts]; simp; omega
        clear hns houts
        obtain ⟨t0, t1, f0, f1, hon, hor, hB, hne⟩ := hmid
        obtain ⟨An, nn, cn, rfl, hnn⟩ := hon.form3
        obtain ⟨Ar, nr, cr, rfl, hnr⟩ := hor.form3
        have HNN : Hd (ns.length = nn) := ⟨hnn⟩
        have HNR : Hd (_ = nr) := ⟨hnr⟩
        clear hnn hnr
        have htb : tb < wr.heap.size := World.block_lt_of_cell? wr ⟨tb, 0, none⟩ t0
        have htb1 : tb < wr.heap.size + 1 := by omega
        have htb2 : tb < wr.heap.size + 1 + 1 := by omega
        have hfar : ∀ k, wr.heap.size ≤ k → w.heap.size ≤ k ∧ k ≠ tb ∧ some k ≠ Value.ownBlock (.slice An nn cn) ∧ some k ≠ Value.ownBlock (.slice Ar nr cr) := fun k hk =>
          ⟨Nat.le_trans hup.size hk, by omega, fun e => by have := (hon.lt k e.symm).2; omega, fun e => by have := (hor.lt k e.symm).2; omega⟩
        have HFAR : Hd _ := ⟨hfar⟩
        clear hfar
        go_upto_region 9 with fail
        go_cut [] (fun wx => ∃ (A6 : Option Addr) (n6 c6 : Nat), TMid w.heap.size wx tb (.slice An nn cn) (.slice A6 n6 c6) ns (outs ++ [x.2]) ∧ Upd No w wx ∧ wx.cell? ⟨wr.heap.size, 0, none⟩ = some (.slice Ai x.1.length ni) ∧ wr.heap.size < wx.heap.size)
        case first =>
          go_region_law (first
            | (refine step_wanted rfl ?_; refine step_appendRow (F := fun k => wr.heap.size + 1 ≤ k) (eI .i64) F 0 _ (.const (.slice none 0 0)) (.tmp 39) 34 3 (.int .i64 0) 8 rfl Tryz.underlying34 info_int rfl (by decide) (.slice none 0 0) (.slice Ao x.2.length no) [] x.2 (by rfl) (by rfl) (Own.nil _ _ _ _ _) (ho.upd ((hup.alloc _).drew) (fun _ _ h => h)) (fun _ _ h => h) (fun k hk => by simpa using hk) (Nat.zero_le _) (by simp; omega) (by decide) ?_; intro A5 n5 c5 w5 hown5 hup5 _ _; obtain ⟨hc5, hf5⟩ := hup5.both (B := wr.heap.size + 1) (by simp) (fun b _ h => by simp [Value.ownBlock] at h); have hz5 : wr.heap.size + 1 ≤ w5.heap.size := (by have := hup5.size; simpa using this); have htb5 : tb < w5.heap.size := by omega)
            | (refine step_wanted rfl ?_; refine step_appendLit (F := fun k => w.heap.size ≤ k ∧ k ≠ tb ∧ some k ≠ Value.ownBlock (.slice An nn cn)) eRule w.heap.size _ (.tmp 37) (.tmp 42) 49 115 _ 48 rfl Tryz.underlying49 info_Rule rfl (by decide) (.slice Ar nr cr) (outs.map fun o => (([], o) : Rule)) [([], x.2)] [[.slice none 0 0, .slice A5 n5 c5]] _ 1 (by rfl) (by rfl) rfl rfl rfl (of_hor hor hup5) (of_new hown5 HFAR.out) (fun k hk => by have := HFAR.out k (by omega); exact ⟨this.1, this.2.1, this.2.2.1⟩) (by have := hup.size; simp; omega) (by have := HNR.out; simp at this; simp; omega) (by decide) ?_; intro A6 n6 c6 w6 hown6 hup6 hat6; have t16 : w6.cell? ⟨tb, 1, none⟩ = some (.slice Ar nr cr) := hup6.cell (by rw [hc5 _ _ htb1]; simp [go_sem, *]) (fun h => (hor.1 tb h.symm).2.1 rfl); have f16 : w6.frozen? ⟨tb, 1, none⟩ = false := (hup6.frozen (p := ⟨tb, 1, none⟩) (by simp; omega) (fun h => (hor.1 tb h.symm).2.1 rfl)).trans (by rw [hf5 _ _ htb1]; simp [go_sem, *])))
          all_goals
            go_wp2_with fail
            go_meet
            go_light
            exact of_meet HFAR.out hup hB t0 t1 f0 f1 hon hne hor hup5 hup6 hown6
        case rest =>
          obtain ⟨A6, n6, c6, hmid, hup6, hp0, hz6⟩ := hcut
          clear t0 t1 f0 f1 hon hor hne hc0 hc1 htb htb1 htb2 hup
          obtain ⟨wo, rfl⟩ : ∃ wo : World, wo = wr := ⟨_, rfl⟩
          obtain ⟨g0, rfl⟩ : ∃ g0 : Nat, g0 = gk := ⟨_, rfl⟩
          have HO : Hd _ := ⟨ho⟩
          clear ho
          go_wp2
          go_loopg [9, 49] x.1.length (fun g a i wq => ∃ (j a0 : Nat) (vn : Value) (nsj : List Nd), j ≤ x.1.length ∧ g + j = x.1.length ∧ a = .int .i64 a0 ∧ i = .int .i64 j ∧ TMid w.heap.size wq tb vn (.slice A6 n6 c6) nsj (outs ++ [x.2]) ∧
            (nsj, a0) = (x.1.take j).foldl insU (ns, 0) ∧ Upd No w wq)
          case atStart => exact ⟨0, 0, _, ns, Nat.zero_le _, rfl, rfl, rfl, hmid, rfl, hup6⟩
          case round =>
            obtain ⟨j, a0, vn, nsj, hj, hgj, rfl, rfl, hm, heq, hupq⟩ := hrel
            have hinvj := insN_inv hinv.1 (x.1.take j)
            unfold insN at hinvj
            rw [← heq] at hinvj
            simp only at hinvj
            have hjl : (x.1.take j).length ≤ 8 := by simp; omega
            have hsm : nsj.length ≤ 100000 := by have := hinv.2; simp at this; omega
            have HM : Hd _ := ⟨hm⟩
            have HEQ : Hd _ := ⟨heq⟩
            have HJ : Hd _ := ⟨hinvj⟩
            have ha0 := hinvj.2.1
            have hT := hm.isTrie hinvj.1 hsm
            clear heq hinvj
            by_cases hlt2 : j < x.1.length
            · obtain ⟨bi, oi, rfl, _, _, hci⟩ := (hi.upd hupq (fun _ _ h => h)).int_cell (by omega)
              have hcj := hci j hlt2
              clear hci
              obtain ⟨u, hu⟩ : ∃ u, u = rdI x.1 j := ⟨_, rfl⟩
              have HU : Hd (u = rdI x.1 j) := ⟨hu⟩
              rw [← hu] at hcj
              clear hu
              obtain ⟨s, hs⟩ : ∃ s, s = stepT nsj a0 u := ⟨_, rfl⟩
              have HS : Hd (s = stepT nsj a0 u) := ⟨hs⟩
              have HStep : Hd _ := ⟨trie_Step hT a0 u ha0⟩
              rw [← hs] at HStep
              clear hs hT hm
              by_cases hz : 0 < s
              · have hz1 : decide (0 < s) = true := by simpa using hz
                go_wp2_with (go_at_call 128; refine HStep.out.mono ?_; rintro e w' ⟨rfl, rfl⟩)
                go_roundg (gk - 1)
                case measure => omega
                case rel =>
                  go_light
                  refine ⟨j + 1, s, vn, nsj, by omega, by omega, rfl, by go_num, HM.out, ?_, hupq⟩
                  rw [foldl_take_succ hlt2 HEQ.out, ← HU.out, insU]
                  simp only
                  rw [← HS.out, if_pos hz]
              · have hz1 : decide (0 < s) = false := by simpa using hz
                obtain ⟨t0, t1, f0, f1, hon, hor, _, hne⟩ := HM.out
                obtain ⟨gn, cn', rfl, hgn, hfn⟩ := hon.block (by omega)
                have htb : tb < wr.heap.size := World.block_lt_of_cell? wr ⟨tb, 0, none⟩ t0
                have htb1 : tb < wr.heap.size + 1 := by omega
                obtain ⟨bn, on, he, hnc⟩ := hon.rd.nd_cell (by omega)
                simp only [Option.some.injEq, Addr.mk.injEq] at he
                obtain ⟨rfl, rfl, _⟩ := he
                obtain ⟨_, hk1, _, _⟩ := hnc a0 ha0
                rw [Nat.zero_add] at hk1
                have hgl : gn < wr.heap.size := World.block_lt_of_cell? wr _ hk1
                clear hnc
                go_upto_region 16 with (go_at_call 128; refine HStep.out.mono ?_; rintro e w' ⟨rfl, rfl⟩)
                go_cut [] (fun wx => ∃ (An' : Option Addr) (nn' cn' : Nat), TMid w.heap.size wx tb (.slice An' nn' cn') (.slice A6 n6 c6) (nsj ++ [⟨u, 0, (nd nsj a0).kid, -1⟩]) (outs ++ [x.2]) ∧ Upd No w wx)
                case first =>
                  go_region_law (first
                    | (refine step_wanted rfl ?_; refine step_appendLit (F := Any) eNd w.heap.size _ (.tmp 71) (.tmp 82) 214 213 _ 32 rfl Tryz.underlying214 info_node rfl (by decide) (.slice (some ⟨gn, 0, none⟩) nsj.length cn') nsj [⟨u, 0, (nd nsj a0).kid, -1⟩] [[.int .i64 u, .int .i64 0, .int .i64 (nd nsj a0).kid, .int .i64 (-1)]] _ 1 (by rfl) (by rfl) rfl rfl rfl (hon.upd (S := No) (Upd.refl _ _).drew (fun _ _ h => h)) ?_ (fun k hk => trivial) ?_ (by simp; omega) (by decide) ?_; (intro k y cs hy hc; cases k with | zero => (simp at hy hc; subst hy; subst hc; rfl) | succ k => simp at hy); (have := hupq.size; simpa using this); intro A7 n7 c7 w7 hown7 hup7 hat7; have t17 : w7.cell? ⟨tb, 0, none⟩ = some (.slice (some ⟨gn, 0, none⟩) nsj.length cn') := hup7.cell (by simp [go_sem, *]) hne; have f17 : w7.frozen? ⟨tb, 0, none⟩ = false := (hup7.frozen (p := ⟨tb, 0, none⟩) (by simp; omega) hne).trans (by simp [go_sem, *])))
                  all_goals
                    go_wp2_with fail
                    go_meet
                    go_light
                    exact ⟨_, _, _, (of_meet2 HM.out hup7 hat7 hown7).1, (of_meet2 HM.out hup7 hat7 hown7).2 w (Nat.le_refl _) hupq⟩
                case rest =>
                  obtain ⟨An', nn', cn2, hm2, hup2⟩ := hcut
                  have HM2 : Hd _ := ⟨hm2⟩
                  clear t0 t1 f0 f1 hon hor hne hk1 hgl htb htb1
                  obtain ⟨t0, t1, f0, f1, hon, hor, _, hne⟩ := hm2
                  obtain ⟨g2, c2, he2, hg2, hf2⟩ := hon.block (by simp)
                  simp only [Value.slice.injEq] at he2
                  obtain ⟨rfl, rfl, rfl⟩ := he2
                  obtain ⟨bn, on, he, hnc⟩ := hon.rd.nd_cell (by simp)
                  simp only [Option.some.injEq, Addr.mk.injEq] at he
                  obtain ⟨rfl, rfl, _⟩ := he
                  obtain ⟨_, hk1, _, _⟩ := hnc a0 (by simp; omega)
                  rw [Nat.zero_add] at hk1
                  have ha1 : a0 < nsj.length + 1 := by omega
                  have ha2 : (a0 : Int) < (nsj.length : Int) + 1 := by omega
                  have hf3 := hf2 (a0 * 4 + 1)
                  clear hnc hon hor hf2
                  go_wp2
                  go_roundg (gk - 1)
                  case measure => omega
                  case rel =>
                    go_light
                    have hx : (nsj ++ [(⟨u, 0, (nd nsj a0).kid, -1⟩ : Nd)])[a0]? = some (nd nsj a0) := by rw [List.getElem?_append_left ha0]; exact nd_at ha0
                    have hs := of_store HM2.out a0 (nd nsj a0) ⟨(nd nsj a0).unit, nsj.length, (nd nsj a0).bro, (nd nsj a0).rule⟩ hx 1 (by omega) (.int .i64 nsj.length) rfl
                    refine ⟨j + 1, nsj.length, _, _, by omega, by omega, rfl, by go_num, hs.1, ?_, hs.2 w (Nat.le_refl _) hup2⟩
                    rw [foldl_take_succ hlt2 HEQ.out, ← HU.out, insU]
                    simp only
                    rw [← HS.out, if_neg hz]
            · obtain ⟨t0, t1, f0, f1, hon, hor, _, hne⟩ := HM.out
              obtain ⟨gn, cn', rfl, hgn, hfn⟩ := hon.block (by omega)
              obtain ⟨bn, on, he, hnc⟩ := hon.rd.nd_cell (by omega)
              simp only [Option.some.injEq, Addr.mk.injEq] at he
              obtain ⟨rfl, rfl, _⟩ := he
              obtain ⟨_, _, _, hk1⟩ := hnc a0 ha0
              rw [Nat.zero_add] at hk1
              have hf3 := hfn (a0 * 4 + 3)
              clear hnc hon hor hfn hm hT
              go_wp2
              go_roundg (g0 - 1)
              case measure => omega
              case rel =>
                go_light
                have hs := of_store HM.out a0 (nd nsj a0) ⟨(nd nsj a0).unit, (nd nsj a0).kid, (nd nsj a0).bro, k⟩ (nd_at ha0) 3 (by omega) (.int .i64 k) rfl
                refine ⟨k + 1, .slice (some ⟨gn, 0, none⟩) nsj.length cn', .slice A6 n6 c6, by omega, by omega, by go_num, ?_, hs.2 w (Nat.le_refl _) hupq⟩
                have e1 : x.1.take j = x.1 := List.take_of_length_le (by omega)
                have heq := HEQ.out
                rw [e1] at heq
                have e2 : trieN (rs.take (k + 1)) = nsj.set a0 ⟨(nd nsj a0).unit, (nd nsj a0).kid, (nd nsj a0).bro, k⟩ := by
                  rw [List.take_add_one, HX.out, Option.toList_some, trieN_snoc, ← HN.out, insR, insN, ← heq]
                  simp [Nat.min_eq_left hk]
                have e3 : (rs.take (k + 1)).map (·.2) = outs ++ [x.2] := by
                  rw [List.take_add_one, HX.out, Option.toList_some, List.map_append, ← HOU.out]; rfl
                rw [e2, e3]
                exact hs.1
      · go_wp2
        go_ret2
        go_light
        have e1 : rs.take k = rs := List.take_of_length_le (by omega)
        rw [e1] at hmid
        have hi := trieN_inv rs (fun r hr => (hok2 r hr).1)
        exact ⟨tb, rfl, hmid.done hi.1 (by omega), hup⟩
end Go.Proofs.YtebgjabalnffdaaGreatDoor
