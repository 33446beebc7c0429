/- codec.Names, alias, Name. -/
import Derived.Test.YtebgjabalnffdaaGreatDoorVniR
import Derived.Test.YtebgjabalnffdaaGreatDoorShelf
import Derived.Maps.StringElems
set_option linter.unusedVariables false
set_option linter.unusedSimpArgs false
set_option maxRecDepth 100000
namespace Go.Proofs.YtebgjabalnffdaaGreatDoor
open Go.RowKit

def nms : List ByteArray := [nmUtf, nmAscii, nmViscii, nmTcvn, nmVni, nmTis, nmTscii, nmIscii]
def namesC : Array Value := (nms.map Value.string).toArray
theorem codec_Names (w : World) : Calls Tryz.prog 50 #[] w fun e w' => e = .returned (.slice (some ⟨w.heap.size, 0, none⟩) 8 8) ∧ w' = w.alloc (.cells namesC 9) := by
  go_enter Tryz.func50, Tryz.ntmps50
  go_wp2
  go_ret
  exact ⟨rfl, rfl⟩

theorem Tryz.mapSS : Tryz.prog.underlying 192 = some (.map 9 9) := by kernel_rfl
theorem Tryz.ustr : Tryz.prog.underlying 9 = some .string := by kernel_rfl
theorem Tryz.zeroStr (w : World) : (zeroValue 9).run Tryz.prog w = .ok (.string ⟨#[]⟩) w := by kernel_rfl

def MapS (w : World) (B n : Nat) (f : List UInt8 → List UInt8) : Prop :=
  ∃ D : DataW Unit, w.ownsMap Tryz.prog 9 (plainElem Tryz.prog 9) B n D ∧ Go.Maps.IsMap D ∧ ∀ l : List UInt8, D.atKey (.string l) (.lit (.string [])) = .lit (.string (f l))
theorem MapS.made (w : World) : MapS (w.alloc (.map #[] 0)) w.heap.size 0 (fun _ => []) := ⟨_, World.ownsMap_made _ _ _ _, ⟨_, rfl⟩, fun _ => rfl⟩
theorem MapS.put {w : World} {B n : Nat} {f : List UInt8 → List UInt8} (h : MapS w B n f) (hn : n < 1000) (k v : ByteArray) (hk : k.size ≤ 1000) (hv : v.size ≤ 1000) :
    ∃ w', (Instr.mapUpdate 192 (.map (some B)) (.string k) (.string v)).run Tryz.prog w = .ok () w' ∧ MapS w' B (n + 1) (fun l => if l = k.data.toList then v.data.toList else f l) ∧ Upd (fun i => i = B) w w' := by
  obtain ⟨D, ho, hD, hf⟩ := h
  obtain ⟨w', hr, ho', hg⟩ := ho.update (Go.Maps.string_keyed Tryz.ustr) Tryz.mapSS (by unfold maxLen; omega) (Go.WideMaps.keyOf_string_mk Tryz.ustr (s := k) (by unfold maxLen; omega)) (plainElem_string Tryz.ustr (s := v) (by unfold maxLen; omega))
  refine ⟨w', hr, ⟨_, ho', by obtain ⟨es, rfl⟩ := hD; exact ⟨_, rfl⟩, fun l => ?_⟩, (Upd.ofGrown hg).mono (fun i _ h => by injection h)⟩
  by_cases e : l = k.data.toList
  · subst e; rw [Go.Maps.atKey_put_same hD (by simp [WideAt.IsKeyLit])]; simp
  · rw [Go.Maps.atKey_put_other (by simpa using e), hf l]; simp [e]
theorem MapS.look {w : World} {B n : Nat} {f : List UInt8 → List UInt8} (h : MapS w B n f) (s : ByteArray) (hs : s.size ≤ 1000000) :
    (Instr.lookup 192 (.map (some B)) (.string s) false).run Tryz.prog w = .ok (.string ⟨(f s.data.toList).toArray⟩) w := by
  obtain ⟨D, ho, hD, hf⟩ := h
  obtain ⟨v, ps, hrun, hv⟩ := ho.lookup (Go.Maps.string_keyed Tryz.ustr) Tryz.mapSS (Tryz.zeroStr w) (plainElem_string Tryz.ustr (s := ⟨#[]⟩) (by simp [ByteArray.size])) (Go.WideMaps.keyOf_string_mk Tryz.ustr (s := s) (by unfold maxLen; omega))
  have hh := hf s.data.toList
  rw [show (⟨#[]⟩ : ByteArray).data.toList = [] from rfl, hh] at hv
  obtain ⟨s', rfl, hz, _⟩ := plainElem_string_inv Tryz.ustr hv
  simp only [Prod.mk.injEq, DataW.lit.injEq, Lit.string.injEq] at hz
  rw [hrun, hz.1]
def aliasF (l : List UInt8) : List UInt8 :=
  if l = [105, 115, 99, 105, 105, 45, 57, 49] then [105, 115, 99, 105, 105] else
  if l = [105, 115, 111, 45, 56, 56, 53, 57, 45, 49, 49] then [116, 105, 115, 45, 54, 50, 48] else
  if l = [116, 105, 115, 54, 50, 48] then [116, 105, 115, 45, 54, 50, 48] else
  if l = [118, 110, 105, 45, 119, 105, 110] then [118, 110, 105] else
  if l = [97, 98, 99] then [116, 99, 118, 110, 51] else
  if l = [116, 99, 118, 110] then [116, 99, 118, 110, 51] else
  if l = [118, 105, 115, 99, 105, 105, 49, 46, 49, 45, 49] then [118, 105, 115, 99, 105, 105] else
  if l = [117, 115, 45, 97, 115, 99, 105, 105] then [97, 115, 99, 105, 105] else
  if l = [117, 116, 102, 56] then [117, 116, 102, 45, 56] else []
set_option maxHeartbeats 4000000 in
theorem codec_alias (w : World) (s : ByteArray) (hs : s.size ≤ 1000000) : Calls Tryz.prog 73 #[.string s] w fun e w' => e = .returned (.string ⟨(aliasF s.data.toList).toArray⟩) ∧ Upd No w w' := by
  have hmm := @run_makeMap Tryz.prog
  obtain ⟨w1, r1, m1, u1⟩ := (MapS.made w).put (by omega) ⟨#[117, 116, 102, 56]⟩ ⟨#[117, 116, 102, 45, 56]⟩ (by decide) (by decide)
  obtain ⟨w2, r2, m2, u2⟩ := m1.put (by omega) ⟨#[117, 115, 45, 97, 115, 99, 105, 105]⟩ ⟨#[97, 115, 99, 105, 105]⟩ (by decide) (by decide)
  obtain ⟨w3, r3, m3, u3⟩ := m2.put (by omega) ⟨#[118, 105, 115, 99, 105, 105, 49, 46, 49, 45, 49]⟩ ⟨#[118, 105, 115, 99, 105, 105]⟩ (by decide) (by decide)
  obtain ⟨w4, r4, m4, u4⟩ := m3.put (by omega) ⟨#[116, 99, 118, 110]⟩ ⟨#[116, 99, 118, 110, 51]⟩ (by decide) (by decide)
  obtain ⟨w5, r5, m5, u5⟩ := m4.put (by omega) ⟨#[97, 98, 99]⟩ ⟨#[116, 99, 118, 110, 51]⟩ (by decide) (by decide)
  obtain ⟨w6, r6, m6, u6⟩ := m5.put (by omega) ⟨#[118, 110, 105, 45, 119, 105, 110]⟩ ⟨#[118, 110, 105]⟩ (by decide) (by decide)
  obtain ⟨w7, r7, m7, u7⟩ := m6.put (by omega) ⟨#[116, 105, 115, 54, 50, 48]⟩ ⟨#[116, 105, 115, 45, 54, 50, 48]⟩ (by decide) (by decide)
  obtain ⟨w8, r8, m8, u8⟩ := m7.put (by omega) ⟨#[105, 115, 111, 45, 56, 56, 53, 57, 45, 49, 49]⟩ ⟨#[116, 105, 115, 45, 54, 50, 48]⟩ (by decide) (by decide)
  obtain ⟨w9, r9, m9, u9⟩ := m8.put (by omega) ⟨#[105, 115, 99, 105, 105, 45, 57, 49]⟩ ⟨#[105, 115, 99, 105, 105]⟩ (by decide) (by decide)
  have hl := m9.look s hs
  replace hl : (Instr.lookup 192 (.map (some w.heap.size)) (.string s) false).run Tryz.prog w9 = .ok (.string ⟨(aliasF s.data.toList).toArray⟩) w9 := hl
  have HU : Hd (Upd No w w9) := ⟨by
    have st : Upd No w (w.alloc (.map #[] 0)) := (Upd.refl _ _).alloc _
    have f : ∀ {a b : World}, Upd No w a → Upd (fun i => i = w.heap.size) a b → Upd No w b := fun h k => h.trans k (fun _ _ h => h) (fun i hi h => by subst h; exact Nat.lt_irrefl _ hi)
    exact f (f (f (f (f (f (f (f (f st u1) u2) u3) u4) u5) u6) u7) u8) u9⟩
  obtain ⟨o, ho⟩ : ∃ o : ByteArray, o = ⟨(aliasF s.data.toList).toArray⟩ := ⟨_, rfl⟩
  rw [← ho] at hl ⊢
  clear m1 m2 m3 m4 m5 m6 m7 m8 m9 u1 u2 u3 u4 u5 u6 u7 u8 u9 ho hs
  go_enter Tryz.func73, Tryz.ntmps73
  go_wp2
  go_ret
  exact ⟨rfl, HU.out⟩

/-- What a name that was made small means. -/
def nameF (l : List UInt8) : List UInt8 × Int := if l ∈ nms.map (·.data.toList) then (l, 0) else if aliasF l = [] then ([], 6) else (aliasF l, 0)
def nameB (l : List UInt8) : ByteArray := ⟨(nameF l).1.toArray⟩
theorem codec_Name (w : World) (s lw : ByteArray) (hl : lw.size ≤ 1000000) (hT : Calls Tryz.prog 71 #[.string s] w fun e w' => e = .returned (.string lw) ∧ Upd No w w') :
    Calls Tryz.prog 37 #[.string s] w fun e w' => e = .returned (.tuple #[.string (nameB lw.data.toList), .int .i64 (nameF lw.data.toList).2]) ∧ Upd No w w' := by
  have HT : Hd _ := ⟨hT⟩
  have hc : ∀ (W : World), ∀ j, j < nms.length → (W.alloc (.cells namesC 9)).cell? ⟨W.heap.size, 0 + j, none⟩ = some (.string (nms.getD j ByteArray.empty)) := by
    intro W j hj
    have : namesC[j]? = some (.string (nms.getD j ByteArray.empty)) := by
      match j, hj with
      | 0, _ | 1, _ | 2, _ | 3, _ | 4, _ | 5, _ | 6, _ | 7, _ => rfl
    simp only [World.cell?, heap_alloc_new, Nat.zero_add]
    exact this
  have HC : Hd (∀ (W : World), Calls Tryz.prog 72 #[.slice (some ⟨W.heap.size, 0, none⟩) 8 8, .string lw] (W.alloc (.cells namesC 9)) fun e w' => e = .returned (.bool (Lib.containsS nms lw)) ∧ w' = W.alloc (.cells namesC 9)) :=
    ⟨fun W => Tryz.slices_Contains_string W.heap.size 0 8 8 nms lw _ (by decide) (by decide) (hc W)⟩
  have HAl : Hd (∀ W, Calls Tryz.prog 73 #[.string lw] W fun e w' => e = .returned (.string ⟨(aliasF lw.data.toList).toArray⟩) ∧ Upd No W w') := ⟨fun W => codec_alias W lw hl⟩
  obtain ⟨b, hb⟩ : ∃ b, Lib.containsS nms lw = b := ⟨_, rfl⟩
  have hbm : b = true ↔ lw.data.toList ∈ nms.map (·.data.toList) := by
    rw [← hb, Lib.containsS_iff, List.mem_map]
    exact ⟨fun h => ⟨lw, h, rfl⟩, fun ⟨x, hx, e⟩ => by rw [← Go.WideShapes.bytes_inj e]; exact hx⟩
  rw [hb] at HC
  have HB : Hd _ := ⟨hbm⟩
  obtain ⟨sa, hsa⟩ : ∃ sa : ByteArray, (⟨(aliasF lw.data.toList).toArray⟩ : ByteArray) = sa := ⟨_, rfl⟩
  rw [hsa] at HAl
  have HSa : Hd _ := ⟨hsa⟩
  clear hT hc hb hbm hsa hl
  cases b with
  | true =>
    go_enter Tryz.func37, Tryz.ntmps37
    go_wp2_with (first
      | (go_at_call 71; go_loud (refine HT.out.mono ?_; rintro e w1 ⟨rfl, u1⟩))
      | (go_at_call 50; go_loud (refine (codec_Names _).mono ?_; rintro e w2 ⟨rfl, rfl⟩))
      | (go_at_call 72; go_loud (refine (HC.out _).mono ?_; rintro e w3 ⟨rfl, rfl⟩)))
    go_ret2
    go_light
    have e : nameF lw.data.toList = (lw.data.toList, 0) := by rw [nameF, if_pos (HB.out.1 trivial)]
    rw [nameB, e]
    exact ⟨rfl, u1.alloc _⟩
  | false =>
    have hne : ¬ lw.data.toList ∈ nms.map (·.data.toList) := fun h => by have := HB.out.2 h; simp at this
    by_cases hA : aliasF lw.data.toList = []
    · have hs0 : sa = ⟨#[]⟩ := by rw [← HSa.out, hA]
      subst hs0
      have HE : Hd (nameF lw.data.toList = ([], 6)) := ⟨by rw [nameF, if_neg hne, if_pos hA]⟩
      clear hne hA
      go_enter Tryz.func37, Tryz.ntmps37
      go_wp2_with (first
        | (go_at_call 71; go_loud (refine HT.out.mono ?_; rintro e w1 ⟨rfl, u1⟩))
        | (go_at_call 50; go_loud (refine (codec_Names _).mono ?_; rintro e w2 ⟨rfl, rfl⟩))
        | (go_at_call 72; go_loud (refine (HC.out _).mono ?_; rintro e w3 ⟨rfl, rfl⟩))
        | (go_at_call 73; go_loud (refine (HAl.out _).mono ?_; rintro e w4 ⟨rfl, u4⟩)))
      go_ret2
      go_light
      rw [nameB, HE.out]
      exact ⟨rfl, (u1.alloc _).trans u4 (fun _ _ h => h) (fun _ _ h => h)⟩
    · have hs0 : sa.data.toList = aliasF lw.data.toList := by rw [← HSa.out]
      have HE : Hd (nameF lw.data.toList = (aliasF lw.data.toList, 0)) := ⟨by rw [nameF, if_neg hne, if_neg hA]⟩
      have hne1 : sa.toList.isEmpty = false := by rw [ByteArray.toList_eq, hs0]; cases h : aliasF lw.data.toList with | nil => exact (hA h).elim | cons a b => rfl
      have HS0 : Hd _ := ⟨hs0⟩
      clear hne hA hs0
      go_enter Tryz.func37, Tryz.ntmps37
      go_wp2_with (first
        | (go_at_call 71; go_loud (refine HT.out.mono ?_; rintro e w1 ⟨rfl, u1⟩))
        | (go_at_call 50; go_loud (refine (codec_Names _).mono ?_; rintro e w2 ⟨rfl, rfl⟩))
        | (go_at_call 72; go_loud (refine (HC.out _).mono ?_; rintro e w3 ⟨rfl, rfl⟩))
        | (go_at_call 73; go_loud (refine (HAl.out _).mono ?_; rintro e w4 ⟨rfl, u4⟩)))
      go_ret2
      go_light
      rw [nameB, HE.out, ← HS0.out]
      exact ⟨rfl, (u1.alloc _).trans u4 (fun _ _ h => h) (fun _ _ h => h)⟩
end Go.Proofs.YtebgjabalnffdaaGreatDoor
