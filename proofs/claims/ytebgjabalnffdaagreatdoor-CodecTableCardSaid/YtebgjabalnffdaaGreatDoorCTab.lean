/- CodecTable: the walk. -/
import Derived.Test.YtebgjabalnffdaaGreatDoorLawR
set_option linter.unusedVariables false
set_option linter.unusedSimpArgs false
set_option maxRecDepth 100000
namespace Go.Proofs.YtebgjabalnffdaaGreatDoor
open Go.RowKit

theorem u3 {a b c : World} (h : Upd No a b) (k : Upd No b c) : Upd No a c := h.trans k (fun _ _ h => h) (fun _ _ h => h)
def CTabPost (w : World) (e : Ending) (w' : World) : Prop := e = .returned (.bool true) ∧ Upd No w w'
theorem Rd.ints {F : Nat → Prop} (w : World) (xs : List Int) (hl : xs.length ≤ 1000) (hF : F w.heap.size) : Rd (eI .i64) F (w.alloc (.cells (xs.map (Value.int .i64)).toArray 3)) (.slice (some ⟨w.heap.size, 0, none⟩) xs.length xs.length) xs := by
  have := (Own.lit (E := eI .i64) (e := 3) (F := F) (base := 0) w xs (xs.map fun x => [Value.int .i64 x]) (by simp) (by omega) (Nat.zero_le _) hF (fun k x cs hx hc => by
    simp only [List.getElem?_map, hx, Option.map_some, Option.some.injEq] at hc
    exact hc.symm)).rd
  have e : (xs.map fun x => [Value.int .i64 x]).flatten = xs.map (Value.int .i64) := by
    clear this hl
    induction xs with
    | nil => rfl
    | cons x xs ih => simp [ih]
  rwa [e] at this
theorem ctab_none0 (n u : Int) (h0 : 0 ≤ n) (h1 : n ≤ 255) (hn : n % 8 = 0) (w : World) : Calls Tryz.prog 7 #[.int .u8 n, .int .i64 u] w (CTabPost w) := by
  go_enter Tryz.func7, Tryz.ntmps7
  go_wp2_with (first
    | (go_at_call 15; refine (law_awake _).mono ?_; rintro e w1 ⟨rfl, u1⟩)
    | (go_at_call 17; refine (law_names' _).mono ?_; rintro e w2 ⟨rfl, hnm, u2⟩; have hc := hnm 0 nmUtf rfl; clear hnm))
  refine (codec_Table_none rules_utf _).mono ?_
  rintro e w3 ⟨rfl, rfl⟩
  go_wp2_with fail
  refine (codec_Table_none rules_x _).mono ?_
  rintro e w3 ⟨rfl, rfl⟩
  go_wp2
  go_ret
  exact ⟨rfl, u3 u1 u2⟩
theorem ctab_none7 (n u : Int) (h0 : 0 ≤ n) (h1 : n ≤ 255) (hn : n % 8 = 7) (w : World) : Calls Tryz.prog 7 #[.int .u8 n, .int .i64 u] w (CTabPost w) := by
  go_enter Tryz.func7, Tryz.ntmps7
  go_wp2_with (first
    | (go_at_call 15; refine (law_awake _).mono ?_; rintro e w1 ⟨rfl, u1⟩)
    | (go_at_call 17; refine (law_names' _).mono ?_; rintro e w2 ⟨rfl, hnm, u2⟩; have hc := hnm 7 nmIscii rfl; clear hnm))
  refine (codec_Table_none rules_iscii _).mono ?_
  rintro e w3 ⟨rfl, rfl⟩
  go_wp2_with fail
  refine (codec_Table_none rules_x _).mono ?_
  rintro e w3 ⟨rfl, rfl⟩
  go_wp2
  go_ret
  exact ⟨rfl, u3 u1 u2⟩
set_option maxHeartbeats 4000000 in
theorem ctab_has (n u : Int) (h0 : 0 ≤ n) (h1 : n ≤ 255) (k : Nat) (hk : n % 8 = k) (hk2 : 1 ≤ k ∧ k ≤ 6) {nm : ByteArray} {rs : List Rule} (hnm : nms[k]? = some nm)
    (hR : ∀ W, Calls Tryz.prog 27 #[.int .i64 k] W (NewRules W rs)) (hT : ∀ W, Calls Tryz.prog 26 #[.string nm] W (NewTable W rs)) (hok : TabOk rs) (w : World) :
    Calls Tryz.prog 7 #[.int .u8 n, .int .i64 u] w (CTabPost w) := by
  have HR : Hd _ := ⟨hR⟩
  have HT : Hd _ := ⟨hT⟩
  have HOK : Hd _ := ⟨hok⟩
  have HNm : Hd _ := ⟨hnm⟩
  clear hR hT hok hnm
  have hk0 : ((k : Int) == 0) = false := by simp; omega
  have hk7 : ((k : Int) == 7) = false := by simp; omega
  go_enter Tryz.func7, Tryz.ntmps7
  go_wp2_with (first
    | (go_at_call 15; refine (law_awake _).mono ?_; rintro e w1 ⟨rfl, u1⟩)
    | (go_at_call 17; refine (law_names' _).mono ?_; rintro e w2 ⟨rfl, hnm, u2⟩; have hc := hnm k nm HNm.out; clear hnm)
    | (go_at_call 26; go_loud (refine (HT.out _).mono ?_; rintro e w3 ⟨tb, rfl, ht, hu3⟩))
    | (go_at_call 27; go_loud (refine (HR.out _).mono ?_; rintro e w4 ⟨A4, n4, c4, rfl, hown4, hu4⟩)))
  have HT4 : Hd _ := ⟨ht.upd hu4 (fun _ _ h => h)⟩
  have hr4 : Rd eRule Any w4 (.slice A4 n4 c4) rs := hown4.rd.mono (fun _ _ => trivial)
  have HR4 : Hd _ := ⟨hr4⟩
  have HU4 : Hd (Upd No w w4) := ⟨u3 (u3 (u3 u1 u2) hu3) hu4⟩
  clear ht hown4 hr4 u1 u2 hu3 hu4 hc
  refine (table_Longest HT4.out).mono ?_
  rintro e w5 ⟨rfl, u5⟩
  have HU5 : Hd _ := ⟨u5⟩
  obtain ⟨l1, hl1⟩ : ∃ l, longR rs = l := ⟨_, rfl⟩
  obtain ⟨l2, hl2⟩ : ∃ l, longR (turnR rs) = l := ⟨_, rfl⟩
  rw [hl1, hl2]
  have HL1 : Hd _ := ⟨hl1⟩
  have HL2 : Hd _ := ⟨hl2⟩
  clear u5 hl1 hl2
  go_wp2_with fail
  obtain ⟨w6, hw6⟩ : ∃ w6 : World, w6 = w5.alloc (.cells #[.int .i64 u, .int .i64 n, .int .i64 (128 + n / 2)] 3) := ⟨_, rfl⟩
  have hx : Rd (eI .i64) Any w6 (.slice (some ⟨w5.heap.size, 0, none⟩) 3 3) [u, n, 128 + n / 2] := by rw [hw6]; exact Rd.ints w5 [u, n, 128 + n / 2] (by simp) trivial
  have hu6 : Upd No w4 w6 := by rw [hw6]; exact HU5.out.alloc _
  have HX : Hd _ := ⟨hx⟩
  have HU6 : Hd _ := ⟨hu6⟩
  rw [← hw6]
  clear hw6 hx hu6
  refine (rule_Longest (HR4.out.upd HU6.out (fun _ _ h => h))).mono ?_
  rintro e w7 ⟨rfl, u7⟩
  rw [HL1.out]
  have HU7 : Hd (Upd No w4 w7) := ⟨u3 HU6.out u7⟩
  have HX7 : Hd _ := ⟨HX.out.upd u7 (fun _ _ h => h)⟩
  clear u7
  go_wp2_with fail
  refine (rule_Turn (HR4.out.upd HU7.out (fun _ _ h => h)) HOK.out.tok.read.len (fun r hr => ⟨(HOK.out.tok.read.sides r hr).1.2, (HOK.out.tok.read.sides r hr).2.2⟩)).mono ?_
  rintro e w8 ⟨A8, n8, c8, rfl, hown8, u8⟩
  have HO8 : Hd _ := ⟨hown8.rd⟩
  have HU8 : Hd (Upd No w4 w8) := ⟨u3 HU7.out u8⟩
  have HX8 : Hd _ := ⟨HX7.out.upd u8 (fun _ _ h => h)⟩
  clear hown8 u8
  go_wp2_with fail
  refine (rule_Longest HO8.out).mono ?_
  rintro e w9 ⟨rfl, u9⟩
  rw [HL2.out]
  have HU9 : Hd (Upd No w4 w9) := ⟨u3 HU8.out u9⟩
  have HX9 : Hd _ := ⟨HX8.out.upd u9 (fun _ _ h => h)⟩
  clear u9
  go_wp2_with fail
  refine (table_Decode (HT4.out.upd HU9.out (fun _ _ h => h)) HOK.out.side8 HX9.out (by simp)).mono ?_
  rintro e wa ⟨Aa, na, ca, rfl, howna, ua⟩
  have HOa : Hd _ := ⟨howna.rd⟩
  have HUa : Hd (Upd No w4 wa) := ⟨u3 HU9.out ua⟩
  have HXa : Hd _ := ⟨HX9.out.upd ua (fun _ _ h => h)⟩
  clear howna ua
  go_wp2_with fail
  refine (law_All (HR4.out.upd HUa.out (fun _ _ h => h)) HXa.out HOK.out.rs (by have := HOK.out.tok.read.len; omega) (by simp)).mono ?_
  rintro e wb ⟨Ab, nb, cb, rfl, hownb, ub⟩
  have HOb : Hd _ := ⟨hownb.rd⟩
  have HOa' : Hd _ := ⟨HOa.out.upd ub (fun _ _ h => h)⟩
  have HUb : Hd (Upd No w4 wb) := ⟨u3 HUa.out ub⟩
  clear hownb ub
  go_wp2_with fail
  refine (law_Same HOa'.out HOb.out).mono ?_
  rintro e wc ⟨rfl, hdc⟩
  simp only [decide_true]
  go_wp2
  go_ret
  go_light
  exact ⟨rfl, u3 HU4.out (u3 HUb.out hdc.upd)⟩
theorem ctab_all (n u : Int) (h0 : 0 ≤ n) (h1 : n ≤ 255) (w : World) : Calls Tryz.prog 7 #[.int .u8 n, .int .i64 u] w (CTabPost w) := by
  have h : n % 8 = 0 ∨ n % 8 = 1 ∨ n % 8 = 2 ∨ n % 8 = 3 ∨ n % 8 = 4 ∨ n % 8 = 5 ∨ n % 8 = 6 ∨ n % 8 = 7 := by omega
  rcases h with h | h | h | h | h | h | h | h
  · exact ctab_none0 n u h0 h1 h w
  · exact ctab_has n u h0 h1 1 h (by omega) rfl lawRules_1 table_Ascii asc_ok w
  · exact ctab_has n u h0 h1 2 h (by omega) rfl lawRules_2 table_Viscii vis_ok w
  · exact ctab_has n u h0 h1 3 h (by omega) rfl lawRules_3 table_Tcvn tcv_ok w
  · exact ctab_has n u h0 h1 4 h (by omega) rfl lawRules_4 table_Vni vni_ok w
  · exact ctab_has n u h0 h1 5 h (by omega) rfl lawRules_5 table_Tis thai_ok w
  · exact ctab_has n u h0 h1 6 h (by omega) rfl lawRules_6 table_Tscii tam_ok w
  · exact ctab_none7 n u h0 h1 h w
end Go.Proofs.YtebgjabalnffdaaGreatDoor
