/- codec.Table, Decode, Encode at the names that have tables. Printed by wip/tools/codt.py. -/
import Derived.Test.YtebgjabalnffdaaGreatDoorTok
import Derived.Test.YtebgjabalnffdaaGreatDoorName
import Derived.Test.YtebgjabalnffdaaGreatDoorEncM
import Derived.Lib.SliceRun
set_option linter.unusedVariables false
set_option linter.unusedSimpArgs false
set_option maxRecDepth 100000
namespace Go.Proofs.YtebgjabalnffdaaGreatDoor
open Go.RowKit

theorem rules_vni (w : World) : Calls Tryz.prog 59 #[.string nmVni] w (NewRules w vniRules) := by
  have hn : nmVni.toList = [118, 110, 105] := by kernel_rfl
  go_enter Tryz.func59, Tryz.ntmps59
  go_wp2_with (go_at_call 63; refine (vni_Rules _).mono ?_; rintro e w1 ⟨A1, n1, c1, rfl, hown, hu⟩)
  go_ret
  exact ⟨A1, n1, c1, rfl, hown, hu⟩
def NewTable (w : World) (rs : List Rule) (e : Ending) (w' : World) : Prop := ∃ tb, e = .returned (.pointer (some ⟨tb, 0, none⟩)) ∧ IsTable w' tb (fun k => w.heap.size ≤ k) rs ∧ Upd No w w'
theorem codec_Table {nm : ByteArray} {rs : List Rule} (hR : ∀ W, Calls Tryz.prog 59 #[.string nm] W (NewRules W rs)) (hok : TOk rs) (w : World) : Calls Tryz.prog 26 #[.string nm] w (NewTable w rs) := by
  have HR : Hd _ := ⟨hR⟩
  have HOK : Hd _ := ⟨hok⟩
  clear hR hok
  have heq := fun (W : World) (a : Option Addr) (n c : Nat) => Lib.run_eql_slice_nil (P := Tryz.prog) W 49 115 a n c 0 0 Tryz.underlying49
  go_enter Tryz.func26, Tryz.ntmps26
  go_wp2_with fail
  refine (HR.out _).mono ?_
  rintro e w1 ⟨A1, n1, c1, rfl, hown, hu⟩
  obtain ⟨g, c', he, _⟩ := hown.block HOK.out.read.pos
  injection he with he1 he2 he3
  subst he1
  clear hown
  go_wp2_with fail
  refine (HR.out _).mono ?_
  rintro e w2 ⟨A2, n2, c2, rfl, hown2, hu2⟩
  go_wp2_with (go_at_call 60; go_loud (refine (table_Of hown2.rd HOK.out).mono ?_; rintro e w3 ⟨tb, rfl, ht, hu3⟩))
  go_ret
  go_light
  have u2 := hu.trans hu2 (T := No) (fun _ _ h => h) (fun _ _ h => h)
  exact ⟨tb, rfl, ht.mono (fun k hk => Nat.le_trans u2.size hk), u2.trans hu3 (fun _ _ h => h) (fun _ _ h => h)⟩
theorem codec_Table_none {nm : ByteArray} (hR : ∀ W, Calls Tryz.prog 59 #[.string nm] W fun e w' => e = .returned (.slice none 0 0) ∧ W = w') (w : World) : Calls Tryz.prog 26 #[.string nm] w fun e w' => e = .returned (.pointer none) ∧ w = w' := by
  have HR : Hd _ := ⟨hR⟩
  clear hR
  have heq := fun (W : World) (a : Option Addr) (n c : Nat) => Lib.run_eql_slice_nil (P := Tryz.prog) W 49 115 a n c 0 0 Tryz.underlying49
  go_enter Tryz.func26, Tryz.ntmps26
  go_wp2_with (go_at_call 59; refine (HR.out _).mono ?_; rintro e w1 ⟨rfl, rfl⟩)
  go_ret
  exact ⟨rfl, rfl⟩
theorem ascii_of {nm : ByteArray} (h : nm.data.toList.all (fun b => decide (b.toNat < 128)) = true) : ∀ (j : Nat) (b : UInt8), nm.data.toList[j]? = some b → b.toNat < 128 := by
  intro j b hb
  have := List.all_eq_true.1 h b (List.mem_of_getElem? hb)
  simpa using this
theorem Below.upd' {w w' : World} (h : Below w.heap.size w w') : Upd No w w' := Upd.ofBelow h
/-- A name as it is written, known to be small letters. -/
theorem name_ascii {nm lw : ByteArray} (hs : nm.size ≤ 1000000) (ha : nm.data.toList.all (fun b => decide (b.toNat < 128)) = true) (hl : (⟨(Lib.toLowerA nm.data.toList).toArray⟩ : ByteArray) = lw) (hls : lw.size ≤ 1000000) (w : World) :
    Calls Tryz.prog 37 #[.string nm] w fun e w' => e = .returned (.tuple #[.string (nameB lw.data.toList), .int .i64 (nameF lw.data.toList).2]) ∧ Upd No w w' :=
  codec_Name w nm lw hls ((Tryz.strings_ToLower_ascii nm w (by omega) (ascii_of ha)).mono fun e w' ⟨h1, h2⟩ => ⟨by rw [h1, hl], Upd.ofBelow h2⟩)
theorem name_known {nm : ByteArray} (hs : nm.size ≤ 1000000) (ha : nm.data.toList.all (fun b => decide (b.toNat < 128)) = true) (hl : (⟨(Lib.toLowerA nm.data.toList).toArray⟩ : ByteArray) = nm) (h1 : nameB nm.data.toList = nm) (h2 : (nameF nm.data.toList).2 = 0) (w : World) :
    Calls Tryz.prog 37 #[.string nm] w fun e w' => e = .returned (.tuple #[.string nm, .int .i64 0]) ∧ Upd No w w' := by
  have := name_ascii hs ha hl hs w
  rwa [h1, h2] at this
theorem IsTable.bound {w : World} {t : Nat} {F : Nat → Prop} {rs : List Rule} (h : IsTable w t F rs) : IsTable w t (fun k => F k ∧ k < w.heap.size) rs := by
  obtain ⟨tr, tw, h0, h1, h2, h3, h4, h5, h6⟩ := h.mem
  exact ⟨tr, tw, h0, h1, h2, h3, IsTrie.bound h4, IsTrie.bound h5, h6, World.block_lt_of_cell? w ⟨t, 0, none⟩ h0⟩
def TabDec (w : World) (rs : List Rule) (e : Ending) (w' : World) : Prop := ∃ d m F, e = .returned (.tuple #[.iface 150 (.pointer (some ⟨d, 0, none⟩)), .int .i64 0]) ∧ decInv d m F rs ([], 0) (fun k => k = m) w' ∧ w.heap.size ≤ m ∧ w.heap.size ≤ d ∧ d < w'.heap.size ∧ (∀ k, F k → w.heap.size ≤ k ∧ k < w'.heap.size ∧ k ≠ m) ∧ Upd No w w'
def TabEnc (w : World) (rs : List Rule) (e : Ending) (w' : World) : Prop := ∃ b m tb F, e = .returned (.tuple #[.iface 106 (.pointer (some ⟨b, 0, none⟩)), .int .i64 0]) ∧ EncInv b m tb F rs ([], 0, []) (fun k => k = b ∨ k = m) F w' ∧ w.heap.size ≤ m ∧ w.heap.size ≤ b ∧ (∀ k, F k → w.heap.size ≤ k) ∧ Upd No w w'
theorem name_Viscii (w : World) : Calls Tryz.prog 37 #[.string nmViscii] w fun e w' => e = .returned (.tuple #[.string nmViscii, .int .i64 0]) ∧ Upd No w w' := name_known (by decide) (by decide) (by kernel_rfl) (by kernel_rfl) (by kernel_rfl) w
theorem name_Tcvn (w : World) : Calls Tryz.prog 37 #[.string nmTcvn] w fun e w' => e = .returned (.tuple #[.string nmTcvn, .int .i64 0]) ∧ Upd No w w' := name_known (by decide) (by decide) (by kernel_rfl) (by kernel_rfl) (by kernel_rfl) w
theorem name_Vni (w : World) : Calls Tryz.prog 37 #[.string nmVni] w fun e w' => e = .returned (.tuple #[.string nmVni, .int .i64 0]) ∧ Upd No w w' := name_known (by decide) (by decide) (by kernel_rfl) (by kernel_rfl) (by kernel_rfl) w
theorem name_Tis (w : World) : Calls Tryz.prog 37 #[.string nmTis] w fun e w' => e = .returned (.tuple #[.string nmTis, .int .i64 0]) ∧ Upd No w w' := name_known (by decide) (by decide) (by kernel_rfl) (by kernel_rfl) (by kernel_rfl) w
theorem name_Tscii (w : World) : Calls Tryz.prog 37 #[.string nmTscii] w fun e w' => e = .returned (.tuple #[.string nmTscii, .int .i64 0]) ∧ Upd No w w' := name_known (by decide) (by decide) (by kernel_rfl) (by kernel_rfl) (by kernel_rfl) w
theorem name_Ascii (w : World) : Calls Tryz.prog 37 #[.string nmAscii] w fun e w' => e = .returned (.tuple #[.string nmAscii, .int .i64 0]) ∧ Upd No w w' := name_known (by decide) (by decide) (by kernel_rfl) (by kernel_rfl) (by kernel_rfl) w
theorem name_Utf (w : World) : Calls Tryz.prog 37 #[.string nmUtf] w fun e w' => e = .returned (.tuple #[.string nmUtf, .int .i64 0]) ∧ Upd No w w' := name_known (by decide) (by decide) (by kernel_rfl) (by kernel_rfl) (by kernel_rfl) w
theorem name_Iscii (w : World) : Calls Tryz.prog 37 #[.string nmIscii] w fun e w' => e = .returned (.tuple #[.string nmIscii, .int .i64 0]) ∧ Upd No w w' := name_known (by decide) (by decide) (by kernel_rfl) (by kernel_rfl) (by kernel_rfl) w
theorem rules_Viscii' (w : World) : Calls Tryz.prog 59 #[.string nmViscii] w (NewRules w visLit) := by rw [← vis_lit]; exact rules_viscii w
theorem table_Viscii (w : World) : Calls Tryz.prog 26 #[.string nmViscii] w (NewTable w visLit) := codec_Table rules_Viscii' vis_ok.tok w
theorem dec_Viscii (w : World) : Calls Tryz.prog 16 #[.string nmViscii] w (TabDec w visLit) := by
  have hn : nmViscii.toList = [118, 105, 115, 99, 105, 105] := by kernel_rfl
  go_enter Tryz.func16, Tryz.ntmps16
  go_wp2_with (first
    | (go_at_call 37; go_loud (refine (name_Viscii _).mono ?_; rintro e w1 ⟨rfl, u1⟩))
    | (go_at_call 26; go_loud (refine (table_Viscii _).mono ?_; rintro e w2 ⟨tb, rfl, ht, u2⟩; have ht2 : IsTable w2 tb (fun k => w1.heap.size ≤ k ∧ k < w2.heap.size) visLit := IsTable.bound ht))
    | (go_at_call 52; go_loud (refine (machine_Decode ht2 (fun k hk => hk.2)).mono ?_; rintro e w3 ⟨d, m, rfl, hd, hm, hdz, u3⟩)))
  go_ret2
  go_light
  have a1 := u1.size; have a2 := u2.size; have a3 := u3.size
  have hdl : d < w3.heap.size := World.block_lt_of_cell? w3 ⟨d, 0, none⟩ hd.1
  exact ⟨d, m, _, rfl, hd, by omega, by omega, hdl, fun k hk => ⟨by omega, by omega, by omega⟩, (u1.trans u2 (T := No) (fun _ _ h => h) (fun _ _ h => h)).trans u3 (fun _ _ h => h) (fun _ _ h => h)⟩
theorem enc_Viscii (w : World) : Calls Tryz.prog 23 #[.string nmViscii] w (TabEnc w visLit) := by
  have hn : nmViscii.toList = [118, 105, 115, 99, 105, 105] := by kernel_rfl
  go_enter Tryz.func23, Tryz.ntmps23
  go_wp2_with (first
    | (go_at_call 37; go_loud (refine (name_Viscii _).mono ?_; rintro e w1 ⟨rfl, u1⟩))
    | (go_at_call 26; go_loud (refine (table_Viscii _).mono ?_; rintro e w2 ⟨tb, rfl, ht, u2⟩; have ht2 : IsTable w2 tb (fun k => w1.heap.size ≤ k ∧ k < w2.heap.size) visLit := IsTable.bound ht))
    | (go_at_call 58; go_loud (refine (machine_Encode ht2 (fun k hk => hk.2)).mono ?_; rintro e w3 ⟨b, m, rfl, hd, hm, hb, u3⟩)))
  go_ret2
  go_light
  have a1 := u1.size; have a2 := u2.size
  exact ⟨b, m, tb, _, rfl, hd, by omega, by omega, fun k hk => by omega, (u1.trans u2 (T := No) (fun _ _ h => h) (fun _ _ h => h)).trans u3 (fun _ _ h => h) (fun _ _ h => h)⟩
theorem rules_Tcvn' (w : World) : Calls Tryz.prog 59 #[.string nmTcvn] w (NewRules w tcvLit) := by rw [← tcv_lit]; exact rules_tcvn w
theorem table_Tcvn (w : World) : Calls Tryz.prog 26 #[.string nmTcvn] w (NewTable w tcvLit) := codec_Table rules_Tcvn' tcv_ok.tok w
theorem dec_Tcvn (w : World) : Calls Tryz.prog 16 #[.string nmTcvn] w (TabDec w tcvLit) := by
  have hn : nmTcvn.toList = [116, 99, 118, 110, 51] := by kernel_rfl
  go_enter Tryz.func16, Tryz.ntmps16
  go_wp2_with (first
    | (go_at_call 37; go_loud (refine (name_Tcvn _).mono ?_; rintro e w1 ⟨rfl, u1⟩))
    | (go_at_call 26; go_loud (refine (table_Tcvn _).mono ?_; rintro e w2 ⟨tb, rfl, ht, u2⟩; have ht2 : IsTable w2 tb (fun k => w1.heap.size ≤ k ∧ k < w2.heap.size) tcvLit := IsTable.bound ht))
    | (go_at_call 52; go_loud (refine (machine_Decode ht2 (fun k hk => hk.2)).mono ?_; rintro e w3 ⟨d, m, rfl, hd, hm, hdz, u3⟩)))
  go_ret2
  go_light
  have a1 := u1.size; have a2 := u2.size; have a3 := u3.size
  have hdl : d < w3.heap.size := World.block_lt_of_cell? w3 ⟨d, 0, none⟩ hd.1
  exact ⟨d, m, _, rfl, hd, by omega, by omega, hdl, fun k hk => ⟨by omega, by omega, by omega⟩, (u1.trans u2 (T := No) (fun _ _ h => h) (fun _ _ h => h)).trans u3 (fun _ _ h => h) (fun _ _ h => h)⟩
theorem enc_Tcvn (w : World) : Calls Tryz.prog 23 #[.string nmTcvn] w (TabEnc w tcvLit) := by
  have hn : nmTcvn.toList = [116, 99, 118, 110, 51] := by kernel_rfl
  go_enter Tryz.func23, Tryz.ntmps23
  go_wp2_with (first
    | (go_at_call 37; go_loud (refine (name_Tcvn _).mono ?_; rintro e w1 ⟨rfl, u1⟩))
    | (go_at_call 26; go_loud (refine (table_Tcvn _).mono ?_; rintro e w2 ⟨tb, rfl, ht, u2⟩; have ht2 : IsTable w2 tb (fun k => w1.heap.size ≤ k ∧ k < w2.heap.size) tcvLit := IsTable.bound ht))
    | (go_at_call 58; go_loud (refine (machine_Encode ht2 (fun k hk => hk.2)).mono ?_; rintro e w3 ⟨b, m, rfl, hd, hm, hb, u3⟩)))
  go_ret2
  go_light
  have a1 := u1.size; have a2 := u2.size
  exact ⟨b, m, tb, _, rfl, hd, by omega, by omega, fun k hk => by omega, (u1.trans u2 (T := No) (fun _ _ h => h) (fun _ _ h => h)).trans u3 (fun _ _ h => h) (fun _ _ h => h)⟩
theorem rules_Vni' (w : World) : Calls Tryz.prog 59 #[.string nmVni] w (NewRules w vniLit) := by rw [← vni_lit]; exact rules_vni w
theorem table_Vni (w : World) : Calls Tryz.prog 26 #[.string nmVni] w (NewTable w vniLit) := codec_Table rules_Vni' vni_ok.tok w
theorem dec_Vni (w : World) : Calls Tryz.prog 16 #[.string nmVni] w (TabDec w vniLit) := by
  have hn : nmVni.toList = [118, 110, 105] := by kernel_rfl
  go_enter Tryz.func16, Tryz.ntmps16
  go_wp2_with (first
    | (go_at_call 37; go_loud (refine (name_Vni _).mono ?_; rintro e w1 ⟨rfl, u1⟩))
    | (go_at_call 26; go_loud (refine (table_Vni _).mono ?_; rintro e w2 ⟨tb, rfl, ht, u2⟩; have ht2 : IsTable w2 tb (fun k => w1.heap.size ≤ k ∧ k < w2.heap.size) vniLit := IsTable.bound ht))
    | (go_at_call 52; go_loud (refine (machine_Decode ht2 (fun k hk => hk.2)).mono ?_; rintro e w3 ⟨d, m, rfl, hd, hm, hdz, u3⟩)))
  go_ret2
  go_light
  have a1 := u1.size; have a2 := u2.size; have a3 := u3.size
  have hdl : d < w3.heap.size := World.block_lt_of_cell? w3 ⟨d, 0, none⟩ hd.1
  exact ⟨d, m, _, rfl, hd, by omega, by omega, hdl, fun k hk => ⟨by omega, by omega, by omega⟩, (u1.trans u2 (T := No) (fun _ _ h => h) (fun _ _ h => h)).trans u3 (fun _ _ h => h) (fun _ _ h => h)⟩
theorem enc_Vni (w : World) : Calls Tryz.prog 23 #[.string nmVni] w (TabEnc w vniLit) := by
  have hn : nmVni.toList = [118, 110, 105] := by kernel_rfl
  go_enter Tryz.func23, Tryz.ntmps23
  go_wp2_with (first
    | (go_at_call 37; go_loud (refine (name_Vni _).mono ?_; rintro e w1 ⟨rfl, u1⟩))
    | (go_at_call 26; go_loud (refine (table_Vni _).mono ?_; rintro e w2 ⟨tb, rfl, ht, u2⟩; have ht2 : IsTable w2 tb (fun k => w1.heap.size ≤ k ∧ k < w2.heap.size) vniLit := IsTable.bound ht))
    | (go_at_call 58; go_loud (refine (machine_Encode ht2 (fun k hk => hk.2)).mono ?_; rintro e w3 ⟨b, m, rfl, hd, hm, hb, u3⟩)))
  go_ret2
  go_light
  have a1 := u1.size; have a2 := u2.size
  exact ⟨b, m, tb, _, rfl, hd, by omega, by omega, fun k hk => by omega, (u1.trans u2 (T := No) (fun _ _ h => h) (fun _ _ h => h)).trans u3 (fun _ _ h => h) (fun _ _ h => h)⟩
theorem rules_Tis' (w : World) : Calls Tryz.prog 59 #[.string nmTis] w (NewRules w thaiLit) := by rw [← thai_lit]; exact rules_tis w
theorem table_Tis (w : World) : Calls Tryz.prog 26 #[.string nmTis] w (NewTable w thaiLit) := codec_Table rules_Tis' thai_ok.tok w
theorem dec_Tis (w : World) : Calls Tryz.prog 16 #[.string nmTis] w (TabDec w thaiLit) := by
  have hn : nmTis.toList = [116, 105, 115, 45, 54, 50, 48] := by kernel_rfl
  go_enter Tryz.func16, Tryz.ntmps16
  go_wp2_with (first
    | (go_at_call 37; go_loud (refine (name_Tis _).mono ?_; rintro e w1 ⟨rfl, u1⟩))
    | (go_at_call 26; go_loud (refine (table_Tis _).mono ?_; rintro e w2 ⟨tb, rfl, ht, u2⟩; have ht2 : IsTable w2 tb (fun k => w1.heap.size ≤ k ∧ k < w2.heap.size) thaiLit := IsTable.bound ht))
    | (go_at_call 52; go_loud (refine (machine_Decode ht2 (fun k hk => hk.2)).mono ?_; rintro e w3 ⟨d, m, rfl, hd, hm, hdz, u3⟩)))
  go_ret2
  go_light
  have a1 := u1.size; have a2 := u2.size; have a3 := u3.size
  have hdl : d < w3.heap.size := World.block_lt_of_cell? w3 ⟨d, 0, none⟩ hd.1
  exact ⟨d, m, _, rfl, hd, by omega, by omega, hdl, fun k hk => ⟨by omega, by omega, by omega⟩, (u1.trans u2 (T := No) (fun _ _ h => h) (fun _ _ h => h)).trans u3 (fun _ _ h => h) (fun _ _ h => h)⟩
theorem enc_Tis (w : World) : Calls Tryz.prog 23 #[.string nmTis] w (TabEnc w thaiLit) := by
  have hn : nmTis.toList = [116, 105, 115, 45, 54, 50, 48] := by kernel_rfl
  go_enter Tryz.func23, Tryz.ntmps23
  go_wp2_with (first
    | (go_at_call 37; go_loud (refine (name_Tis _).mono ?_; rintro e w1 ⟨rfl, u1⟩))
    | (go_at_call 26; go_loud (refine (table_Tis _).mono ?_; rintro e w2 ⟨tb, rfl, ht, u2⟩; have ht2 : IsTable w2 tb (fun k => w1.heap.size ≤ k ∧ k < w2.heap.size) thaiLit := IsTable.bound ht))
    | (go_at_call 58; go_loud (refine (machine_Encode ht2 (fun k hk => hk.2)).mono ?_; rintro e w3 ⟨b, m, rfl, hd, hm, hb, u3⟩)))
  go_ret2
  go_light
  have a1 := u1.size; have a2 := u2.size
  exact ⟨b, m, tb, _, rfl, hd, by omega, by omega, fun k hk => by omega, (u1.trans u2 (T := No) (fun _ _ h => h) (fun _ _ h => h)).trans u3 (fun _ _ h => h) (fun _ _ h => h)⟩
theorem rules_Tscii' (w : World) : Calls Tryz.prog 59 #[.string nmTscii] w (NewRules w tamLit) := by rw [← tam_lit]; exact rules_tscii w
theorem table_Tscii (w : World) : Calls Tryz.prog 26 #[.string nmTscii] w (NewTable w tamLit) := codec_Table rules_Tscii' tam_ok.tok w
theorem dec_Tscii (w : World) : Calls Tryz.prog 16 #[.string nmTscii] w (TabDec w tamLit) := by
  have hn : nmTscii.toList = [116, 115, 99, 105, 105] := by kernel_rfl
  go_enter Tryz.func16, Tryz.ntmps16
  go_wp2_with (first
    | (go_at_call 37; go_loud (refine (name_Tscii _).mono ?_; rintro e w1 ⟨rfl, u1⟩))
    | (go_at_call 26; go_loud (refine (table_Tscii _).mono ?_; rintro e w2 ⟨tb, rfl, ht, u2⟩; have ht2 : IsTable w2 tb (fun k => w1.heap.size ≤ k ∧ k < w2.heap.size) tamLit := IsTable.bound ht))
    | (go_at_call 52; go_loud (refine (machine_Decode ht2 (fun k hk => hk.2)).mono ?_; rintro e w3 ⟨d, m, rfl, hd, hm, hdz, u3⟩)))
  go_ret2
  go_light
  have a1 := u1.size; have a2 := u2.size; have a3 := u3.size
  have hdl : d < w3.heap.size := World.block_lt_of_cell? w3 ⟨d, 0, none⟩ hd.1
  exact ⟨d, m, _, rfl, hd, by omega, by omega, hdl, fun k hk => ⟨by omega, by omega, by omega⟩, (u1.trans u2 (T := No) (fun _ _ h => h) (fun _ _ h => h)).trans u3 (fun _ _ h => h) (fun _ _ h => h)⟩
theorem enc_Tscii (w : World) : Calls Tryz.prog 23 #[.string nmTscii] w (TabEnc w tamLit) := by
  have hn : nmTscii.toList = [116, 115, 99, 105, 105] := by kernel_rfl
  go_enter Tryz.func23, Tryz.ntmps23
  go_wp2_with (first
    | (go_at_call 37; go_loud (refine (name_Tscii _).mono ?_; rintro e w1 ⟨rfl, u1⟩))
    | (go_at_call 26; go_loud (refine (table_Tscii _).mono ?_; rintro e w2 ⟨tb, rfl, ht, u2⟩; have ht2 : IsTable w2 tb (fun k => w1.heap.size ≤ k ∧ k < w2.heap.size) tamLit := IsTable.bound ht))
    | (go_at_call 58; go_loud (refine (machine_Encode ht2 (fun k hk => hk.2)).mono ?_; rintro e w3 ⟨b, m, rfl, hd, hm, hb, u3⟩)))
  go_ret2
  go_light
  have a1 := u1.size; have a2 := u2.size
  exact ⟨b, m, tb, _, rfl, hd, by omega, by omega, fun k hk => by omega, (u1.trans u2 (T := No) (fun _ _ h => h) (fun _ _ h => h)).trans u3 (fun _ _ h => h) (fun _ _ h => h)⟩
theorem rules_Ascii' (w : World) : Calls Tryz.prog 59 #[.string nmAscii] w (NewRules w ascLit) := by rw [← asc_lit]; exact rules_ascii w
theorem table_Ascii (w : World) : Calls Tryz.prog 26 #[.string nmAscii] w (NewTable w ascLit) := codec_Table rules_Ascii' asc_ok.tok w
theorem dec_Ascii (w : World) : Calls Tryz.prog 16 #[.string nmAscii] w (TabDec w ascLit) := by
  have hn : nmAscii.toList = [97, 115, 99, 105, 105] := by kernel_rfl
  go_enter Tryz.func16, Tryz.ntmps16
  go_wp2_with (first
    | (go_at_call 37; go_loud (refine (name_Ascii _).mono ?_; rintro e w1 ⟨rfl, u1⟩))
    | (go_at_call 26; go_loud (refine (table_Ascii _).mono ?_; rintro e w2 ⟨tb, rfl, ht, u2⟩; have ht2 : IsTable w2 tb (fun k => w1.heap.size ≤ k ∧ k < w2.heap.size) ascLit := IsTable.bound ht))
    | (go_at_call 52; go_loud (refine (machine_Decode ht2 (fun k hk => hk.2)).mono ?_; rintro e w3 ⟨d, m, rfl, hd, hm, hdz, u3⟩)))
  go_ret2
  go_light
  have a1 := u1.size; have a2 := u2.size; have a3 := u3.size
  have hdl : d < w3.heap.size := World.block_lt_of_cell? w3 ⟨d, 0, none⟩ hd.1
  exact ⟨d, m, _, rfl, hd, by omega, by omega, hdl, fun k hk => ⟨by omega, by omega, by omega⟩, (u1.trans u2 (T := No) (fun _ _ h => h) (fun _ _ h => h)).trans u3 (fun _ _ h => h) (fun _ _ h => h)⟩
theorem enc_Ascii (w : World) : Calls Tryz.prog 23 #[.string nmAscii] w (TabEnc w ascLit) := by
  have hn : nmAscii.toList = [97, 115, 99, 105, 105] := by kernel_rfl
  go_enter Tryz.func23, Tryz.ntmps23
  go_wp2_with (first
    | (go_at_call 37; go_loud (refine (name_Ascii _).mono ?_; rintro e w1 ⟨rfl, u1⟩))
    | (go_at_call 26; go_loud (refine (table_Ascii _).mono ?_; rintro e w2 ⟨tb, rfl, ht, u2⟩; have ht2 : IsTable w2 tb (fun k => w1.heap.size ≤ k ∧ k < w2.heap.size) ascLit := IsTable.bound ht))
    | (go_at_call 58; go_loud (refine (machine_Encode ht2 (fun k hk => hk.2)).mono ?_; rintro e w3 ⟨b, m, rfl, hd, hm, hb, u3⟩)))
  go_ret2
  go_light
  have a1 := u1.size; have a2 := u2.size
  exact ⟨b, m, tb, _, rfl, hd, by omega, by omega, fun k hk => by omega, (u1.trans u2 (T := No) (fun _ _ h => h) (fun _ _ h => h)).trans u3 (fun _ _ h => h) (fun _ _ h => h)⟩
end Go.Proofs.YtebgjabalnffdaaGreatDoor
