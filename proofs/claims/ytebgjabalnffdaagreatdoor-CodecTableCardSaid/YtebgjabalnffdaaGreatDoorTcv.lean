/- tcvn.rows. -/
import Derived.Test.YtebgjabalnffdaaGreatDoorVisP
set_option linter.unusedVariables false
set_option linter.unusedSimpArgs false
set_option maxRecDepth 100000
namespace Go.Proofs.YtebgjabalnffdaaGreatDoor
open Go.RowKit

abbrev e2 : Enc (Int × Int) := (eI .i64).pair (eI .i64)
def tcvL : List (Int × Int) := [(161, 258), (162, 194), (163, 202), (164, 212), (165, 416), (166, 431), (167, 272), (168, 259), (169, 226), (170, 234), (171, 244), (172, 417), (173, 432), (174, 273), (181, 224), (182, 7843), (183, 227), (184, 225), (185, 7841), (187, 7857), (188, 7859), (189, 7861), (190, 7855), (198, 7863), (199, 7847), (200, 7849), (201, 7851), (202, 7845), (203, 7853), (204, 232), (206, 7867), (207, 7869), (208, 233), (209, 7865), (210, 7873), (211, 7875), (212, 7877), (213, 7871), (214, 7879), (215, 236), (216, 7881), (220, 297), (221, 237), (222, 7883), (223, 242), (225, 7887), (226, 245), (227, 243), (228, 7885), (229, 7891), (230, 7893), (231, 7895), (232, 7889), (233, 7897), (234, 7901), (235, 7903), (236, 7905), (237, 7899), (238, 7907), (239, 249), (241, 7911), (242, 361), (243, 250), (244, 7909), (245, 7915), (246, 7917), (247, 7919), (248, 7913), (249, 7921), (250, 7923), (251, 7927), (252, 7929), (253, 253), (254, 7925)]
def tcvC : Array Value := (tcvL.flatMap fun p => [Value.int .i64 p.1, Value.int .i64 p.2]).toArray
set_option maxHeartbeats 4000000 in
theorem tcvn_rows (w : World) : Calls Tryz.prog 94 #[] w fun e w' => e = .returned (.slice (some ⟨w.heap.size, 0, none⟩) 74 74) ∧ w' = w.alloc (.cells tcvC 167) := by
  go_enter Tryz.func94, Tryz.ntmps94
  go_upto_region 0 with fail
  refine wp_region_lit ?_
  refine wp_value (v := .slice none 0 0) (w' := w) rfl (by kernel_rfl) ?_
  go_upto_region 1 with fail
  refine wp_region_lit ?_
  refine wp_value (v := .agg #[.int .i64 161, .int .i64 258]) (w' := w) rfl (by kernel_rfl) ?_
  refine wp_value (v := .agg #[.int .i64 162, .int .i64 194]) (w' := w) rfl (by kernel_rfl) ?_
  refine wp_value (v := .agg #[.int .i64 163, .int .i64 202]) (w' := w) rfl (by kernel_rfl) ?_
  refine wp_value (v := .agg #[.int .i64 164, .int .i64 212]) (w' := w) rfl (by kernel_rfl) ?_
  refine wp_value (v := .agg #[.int .i64 165, .int .i64 416]) (w' := w) rfl (by kernel_rfl) ?_
  refine wp_value (v := .agg #[.int .i64 166, .int .i64 431]) (w' := w) rfl (by kernel_rfl) ?_
  refine wp_value (v := .agg #[.int .i64 167, .int .i64 272]) (w' := w) rfl (by kernel_rfl) ?_
  refine wp_value (v := .agg #[.int .i64 168, .int .i64 259]) (w' := w) rfl (by kernel_rfl) ?_
  refine wp_value (v := .agg #[.int .i64 169, .int .i64 226]) (w' := w) rfl (by kernel_rfl) ?_
  refine wp_value (v := .agg #[.int .i64 170, .int .i64 234]) (w' := w) rfl (by kernel_rfl) ?_
  refine wp_value (v := .agg #[.int .i64 171, .int .i64 244]) (w' := w) rfl (by kernel_rfl) ?_
  refine wp_value (v := .agg #[.int .i64 172, .int .i64 417]) (w' := w) rfl (by kernel_rfl) ?_
  refine wp_value (v := .agg #[.int .i64 173, .int .i64 432]) (w' := w) rfl (by kernel_rfl) ?_
  refine wp_value (v := .agg #[.int .i64 174, .int .i64 273]) (w' := w) rfl (by kernel_rfl) ?_
  refine wp_value (v := .agg #[.int .i64 181, .int .i64 224]) (w' := w) rfl (by kernel_rfl) ?_
  refine wp_value (v := .agg #[.int .i64 182, .int .i64 7843]) (w' := w) rfl (by kernel_rfl) ?_
  refine wp_value (v := .agg #[.int .i64 183, .int .i64 227]) (w' := w) rfl (by kernel_rfl) ?_
  refine wp_value (v := .agg #[.int .i64 184, .int .i64 225]) (w' := w) rfl (by kernel_rfl) ?_
  refine wp_value (v := .agg #[.int .i64 185, .int .i64 7841]) (w' := w) rfl (by kernel_rfl) ?_
  refine wp_value (v := .agg #[.int .i64 187, .int .i64 7857]) (w' := w) rfl (by kernel_rfl) ?_
  refine wp_value (v := .agg #[.int .i64 188, .int .i64 7859]) (w' := w) rfl (by kernel_rfl) ?_
  refine wp_value (v := .agg #[.int .i64 189, .int .i64 7861]) (w' := w) rfl (by kernel_rfl) ?_
  refine wp_value (v := .agg #[.int .i64 190, .int .i64 7855]) (w' := w) rfl (by kernel_rfl) ?_
  refine wp_value (v := .agg #[.int .i64 198, .int .i64 7863]) (w' := w) rfl (by kernel_rfl) ?_
  refine wp_value (v := .agg #[.int .i64 199, .int .i64 7847]) (w' := w) rfl (by kernel_rfl) ?_
  refine wp_value (v := .agg #[.int .i64 200, .int .i64 7849]) (w' := w) rfl (by kernel_rfl) ?_
  refine wp_value (v := .agg #[.int .i64 201, .int .i64 7851]) (w' := w) rfl (by kernel_rfl) ?_
  refine wp_value (v := .agg #[.int .i64 202, .int .i64 7845]) (w' := w) rfl (by kernel_rfl) ?_
  refine wp_value (v := .agg #[.int .i64 203, .int .i64 7853]) (w' := w) rfl (by kernel_rfl) ?_
  refine wp_value (v := .agg #[.int .i64 204, .int .i64 232]) (w' := w) rfl (by kernel_rfl) ?_
  refine wp_value (v := .agg #[.int .i64 206, .int .i64 7867]) (w' := w) rfl (by kernel_rfl) ?_
  refine wp_value (v := .agg #[.int .i64 207, .int .i64 7869]) (w' := w) rfl (by kernel_rfl) ?_
  refine wp_value (v := .agg #[.int .i64 208, .int .i64 233]) (w' := w) rfl (by kernel_rfl) ?_
  refine wp_value (v := .agg #[.int .i64 209, .int .i64 7865]) (w' := w) rfl (by kernel_rfl) ?_
  refine wp_value (v := .agg #[.int .i64 210, .int .i64 7873]) (w' := w) rfl (by kernel_rfl) ?_
  refine wp_value (v := .agg #[.int .i64 211, .int .i64 7875]) (w' := w) rfl (by kernel_rfl) ?_
  refine wp_value (v := .agg #[.int .i64 212, .int .i64 7877]) (w' := w) rfl (by kernel_rfl) ?_
  refine wp_value (v := .agg #[.int .i64 213, .int .i64 7871]) (w' := w) rfl (by kernel_rfl) ?_
  refine wp_value (v := .agg #[.int .i64 214, .int .i64 7879]) (w' := w) rfl (by kernel_rfl) ?_
  refine wp_value (v := .agg #[.int .i64 215, .int .i64 236]) (w' := w) rfl (by kernel_rfl) ?_
  refine wp_value (v := .agg #[.int .i64 216, .int .i64 7881]) (w' := w) rfl (by kernel_rfl) ?_
  refine wp_value (v := .agg #[.int .i64 220, .int .i64 297]) (w' := w) rfl (by kernel_rfl) ?_
  refine wp_value (v := .agg #[.int .i64 221, .int .i64 237]) (w' := w) rfl (by kernel_rfl) ?_
  refine wp_value (v := .agg #[.int .i64 222, .int .i64 7883]) (w' := w) rfl (by kernel_rfl) ?_
  refine wp_value (v := .agg #[.int .i64 223, .int .i64 242]) (w' := w) rfl (by kernel_rfl) ?_
  refine wp_value (v := .agg #[.int .i64 225, .int .i64 7887]) (w' := w) rfl (by kernel_rfl) ?_
  refine wp_value (v := .agg #[.int .i64 226, .int .i64 245]) (w' := w) rfl (by kernel_rfl) ?_
  refine wp_value (v := .agg #[.int .i64 227, .int .i64 243]) (w' := w) rfl (by kernel_rfl) ?_
  refine wp_value (v := .agg #[.int .i64 228, .int .i64 7885]) (w' := w) rfl (by kernel_rfl) ?_
  refine wp_value (v := .agg #[.int .i64 229, .int .i64 7891]) (w' := w) rfl (by kernel_rfl) ?_
  refine wp_value (v := .agg #[.int .i64 230, .int .i64 7893]) (w' := w) rfl (by kernel_rfl) ?_
  refine wp_value (v := .agg #[.int .i64 231, .int .i64 7895]) (w' := w) rfl (by kernel_rfl) ?_
  refine wp_value (v := .agg #[.int .i64 232, .int .i64 7889]) (w' := w) rfl (by kernel_rfl) ?_
  refine wp_value (v := .agg #[.int .i64 233, .int .i64 7897]) (w' := w) rfl (by kernel_rfl) ?_
  refine wp_value (v := .agg #[.int .i64 234, .int .i64 7901]) (w' := w) rfl (by kernel_rfl) ?_
  refine wp_value (v := .agg #[.int .i64 235, .int .i64 7903]) (w' := w) rfl (by kernel_rfl) ?_
  refine wp_value (v := .agg #[.int .i64 236, .int .i64 7905]) (w' := w) rfl (by kernel_rfl) ?_
  refine wp_value (v := .agg #[.int .i64 237, .int .i64 7899]) (w' := w) rfl (by kernel_rfl) ?_
  refine wp_value (v := .agg #[.int .i64 238, .int .i64 7907]) (w' := w) rfl (by kernel_rfl) ?_
  refine wp_value (v := .agg #[.int .i64 239, .int .i64 249]) (w' := w) rfl (by kernel_rfl) ?_
  refine wp_value (v := .agg #[.int .i64 241, .int .i64 7911]) (w' := w) rfl (by kernel_rfl) ?_
  refine wp_value (v := .agg #[.int .i64 242, .int .i64 361]) (w' := w) rfl (by kernel_rfl) ?_
  refine wp_value (v := .agg #[.int .i64 243, .int .i64 250]) (w' := w) rfl (by kernel_rfl) ?_
  refine wp_value (v := .agg #[.int .i64 244, .int .i64 7909]) (w' := w) rfl (by kernel_rfl) ?_
  refine wp_value (v := .agg #[.int .i64 245, .int .i64 7915]) (w' := w) rfl (by kernel_rfl) ?_
  refine wp_value (v := .agg #[.int .i64 246, .int .i64 7917]) (w' := w) rfl (by kernel_rfl) ?_
  refine wp_value (v := .agg #[.int .i64 247, .int .i64 7919]) (w' := w) rfl (by kernel_rfl) ?_
  refine wp_value (v := .agg #[.int .i64 248, .int .i64 7913]) (w' := w) rfl (by kernel_rfl) ?_
  refine wp_value (v := .agg #[.int .i64 249, .int .i64 7921]) (w' := w) rfl (by kernel_rfl) ?_
  refine wp_value (v := .agg #[.int .i64 250, .int .i64 7923]) (w' := w) rfl (by kernel_rfl) ?_
  refine wp_value (v := .agg #[.int .i64 251, .int .i64 7927]) (w' := w) rfl (by kernel_rfl) ?_
  refine wp_value (v := .agg #[.int .i64 252, .int .i64 7929]) (w' := w) rfl (by kernel_rfl) ?_
  refine wp_value (v := .agg #[.int .i64 253, .int .i64 253]) (w' := w) rfl (by kernel_rfl) ?_
  refine wp_value (v := .agg #[.int .i64 254, .int .i64 7925]) (w' := w) rfl (by kernel_rfl) ?_
  refine wp_value (v := .slice (some ⟨w.heap.size, 0, none⟩) 74 74) (w' := w.alloc (.cells tcvC 167)) rfl (by kernel_rfl) ?_
  refine wp_value (v := .slice (some ⟨w.heap.size, 0, none⟩) 74 74) (w' := w.alloc (.cells tcvC 167)) rfl (by kernel_rfl) ?_
  go_upto_region 100 with fail
  exact bodyPost_ret (v := .slice (some ⟨w.heap.size, 0, none⟩) 74 74) (by kernel_rfl) (by kernel_rfl) ⟨rfl, rfl⟩

theorem e2_mk {F : Nat → Prop} {w : World} {x : Int × Int} : e2.rep F w x [.int .i64 x.1, .int .i64 x.2] := ⟨[.int .i64 x.1], [.int .i64 x.2], rfl, rfl, rfl⟩
theorem e2_of {F : Nat → Prop} {w : World} {x : Int × Int} {cs : List Value} (h : e2.rep F w x cs) : cs = [.int .i64 x.1, .int .i64 x.2] := by
  obtain ⟨_, _, rfl, rfl, rfl⟩ := h; rfl
theorem Own.lit2 (w : World) (xs : List (Int × Int)) (t : TypeId) (hl : xs.length ≤ 1000000) : Own e2 t (fun k => w.heap.size ≤ k) w.heap.size (w.alloc (.cells (xs.flatMap fun p => [Value.int .i64 p.1, Value.int .i64 p.2]).toArray t)) (.slice (some ⟨w.heap.size, 0, none⟩) xs.length xs.length) xs := by
  exact Own.lit (E := e2) (e := t) (F := fun k => w.heap.size ≤ k) (base := w.heap.size) w xs (xs.map fun p => [Value.int .i64 p.1, Value.int .i64 p.2]) (by simp) (by omega) (Nat.le_refl _) (Nat.le_refl _) (fun k x cs hx hc => by
    simp only [List.getElem?_map, hx, Option.map_some, Option.some.injEq] at hc
    subst hc; exact e2_mk)
end Go.Proofs.YtebgjabalnffdaaGreatDoor
