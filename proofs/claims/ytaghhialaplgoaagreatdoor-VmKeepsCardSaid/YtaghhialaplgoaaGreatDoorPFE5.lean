/-
  Joined: E3, E4, E5.
-/
import Derived.Test.YtaghhialaplgoaaGreatDoorPFE2
set_option linter.unusedVariables false
set_option linter.unusedSimpArgs false
/-
  Maps from words to words.
-/
namespace Go.HL
open Go.RowKit

variable {P : Program} {H : HHeap}

def mapUU (m : List (Nat × Nat)) : List (Value × Value) := m.map fun p => (U p.1, U p.2)

theorem mapUU_plain {kt : TypeId} (hk : P.underlying kt = some (.int .u64)) (m : List (Nat × Nat)) : (mapUU m).all (fun e => plainKey P kt e.1) = true := by
  rw [List.all_eq_true]; intro e he
  obtain ⟨p, _, rfl⟩ := List.mem_map.1 he
  simp [plainKey, hk]
theorem keyEq_u (w k : Nat) : keyEq (U w) (U k) = decide (w = k) := by
  show ((w : Int) == (k : Int)) = decide (w = k)
  by_cases h : w = k
  · simp [h]
  · have : (w : Int) ≠ k := by omega
    simp [h, this]
theorem hfind_cons (w k : Nat) (v : Value) (es : List (Value × Value)) : hfind (U w) ((U k, v) :: es) = if w = k then some (0, v) else (hfind (U w) es).map fun r => (r.1 + 1, r.2) := by
  rw [hfind, keyEq_u]; by_cases h : w = k <;> simp [h]
theorem hfind_some : ∀ (m : List (Nat × Nat)) (w v : Nat), m.lookup w = some v → ∃ j, hfind (U w) (mapUU m) = some (j, U v)
  | [], w, v, h => by simp at h
  | (k, x) :: m, w, v, h => by
    simp only [mapUU, List.map_cons]
    rw [List.lookup_cons] at h
    by_cases hk : w = k
    · subst hk; simp only [beq_self_eq_true] at h
      cases h; exact ⟨0, by rw [hfind_cons, if_pos rfl]⟩
    · have h1 : (w == k) = false := by simp [hk]
      rw [h1] at h; simp only at h
      obtain ⟨j, hj⟩ := hfind_some m w v h
      refine ⟨j + 1, ?_⟩
      unfold mapUU at hj
      rw [hfind_cons, if_neg hk, hj]; rfl
theorem hfind_none : ∀ (m : List (Nat × Nat)) (w : Nat), m.lookup w = none → hfind (U w) (mapUU m) = none
  | [], w, h => rfl
  | (k, x) :: m, w, h => by
    simp only [mapUU, List.map_cons]
    rw [List.lookup_cons] at h
    by_cases hk : w = k
    · subst hk; simp at h
    · have h1 : (w == k) = false := by simp [hk]
      rw [h1] at h; simp only at h
      have := hfind_none m w h
      unfold mapUU at this
      rw [hfind_cons, if_neg hk, this]; rfl

theorem x_lookup_some {t kt et : TypeId} (hu : P.underlying t = some (.map kt et)) (hk : P.underlying kt = some (.int .u64)) {b : Nat} {m : List (Nat × Nat)} (hg : H.get b = some (.map (mapUU m))) {w v : Nat} (hl : m.lookup w = some v) :
    hlookup P H t (.map (some b)) (.int .u64 (w : Int)) true = some (.tuple #[.int .u64 (v : Int), .bool true]) := by
  obtain ⟨j, hj⟩ := hfind_some m w v hl
  unfold hlookup
  simp only [hu, hentries, hg, Option.bind_some]
  rw [if_pos ⟨by simp [plainKey, hk], mapUU_plain hk m⟩, hj]; rfl
theorem x_lookup_none {t kt et : TypeId} (hu : P.underlying t = some (.map kt et)) (hk : P.underlying kt = some (.int .u64)) {z : Value} (hz : hzero P et = some z) {b : Nat} {m : List (Nat × Nat)} (hg : H.get b = some (.map (mapUU m))) {w : Nat} (hl : m.lookup w = none) :
    hlookup P H t (.map (some b)) (.int .u64 (w : Int)) true = some (.tuple #[z, .bool false]) := by
  unfold hlookup
  simp only [hu, hentries, hg, Option.bind_some]
  rw [if_pos ⟨by simp [plainKey, hk], mapUU_plain hk m⟩, hfind_none m w hl]
  simp [hz]
theorem x_update_new {t kt et : TypeId} (hu : P.underlying t = some (.map kt et)) (hk : P.underlying kt = some (.int .u64)) {b : Nat} {m : List (Nat × Nat)} (hg : H.get b = some (.map (mapUU m))) {w : Nat} (hl : m.lookup w = none) (v : Nat) :
    hmapUpdate P H t (.map (some b)) (.int .u64 (w : Int)) (.int .u64 (v : Int)) = some (H.set b (.map (mapUU (m ++ [(w, v)])))) := by
  unfold hmapUpdate
  simp only [hu, hg]
  rw [if_pos ⟨by simp [plainKey, hk], mapUU_plain hk m⟩, hfind_none m w hl]
  simp [mapUU]
theorem apo_grow1 (b len m : Nat) (vs cs : List Value) (h : 0 < m) (hl : cs.length = len) :
    apo H 1 b 0 (some 2) len len m vs (some (.cells cs true)) = some (.slice (some ⟨H.next, 0, some 2⟩) (len + m) (len + m), (H.kill b).push (.cells (cs ++ vs) true)) :=
  apo_grow 1 b len m vs cs (by omega) h (by omega)
end Go.HL
/-
  The walking equations as one set.
-/
namespace Go.HL
open Go.RowKit
attribute [go_sem] HW_skip HW_region HW_draw HW_seq HW_cond HW_block HW_exit HW_ret HW_loop HThen_normal HThen_ret HThen_exit HBlock_normal HBlock_ret HBlock_exit_same HBlock_exit_ne HRow_nil HRow_cons HNext_apply HDo_apply HLater_apply HGo_some HWant_true HWant_false HCallee_some HCallee_none HIf_true HIf_false HTest_bool HEnd_normal HEnd_ret HRes_one HRes_nil HRes_more hwanted_none e_wanted eguard_true eguard_false eguard_undef edst_some hret_some hdone_some hb1_some hb2_some hb3_some hb4_some hcons_some hpcons_some hev_tmp hev_int hev_bool hev_string hev_nilptr hev_nilslice hev_nilmap hev_nilfunc hev_niliface hev_func flook_nil flook_cons hevs_nil e_evs_cons hparts_nil e_parts_cons hopt_none hintv_int hopt_some epick_true epick_false epick_pos epick_neg e_pick hnil_ptr hnil_func e_nilCheck iixA_int e_indexAddr iix_int e_index eext_tuple e_extract emk_int e_makeSlice hop_makeMap efunc_eq e_makeFunc eiface_eq e_makeInterface e_builtin hop_call e_move e_assign hop_alloc e_box e_build e_buildSlice e_load e_store e_binOp e_unOp e_convert hcv_int hcv_string e_slice efld e_fieldAddr efieldv e_field elook e_lookup e_mapUpdate e_insert hcallee_move hcallee_assign hcallee_alloc hcallee_box hcallee_build hcallee_buildSlice hcallee_load hcallee_store hcallee_binOp hcallee_unOp hcallee_convert hcallee_slice hcallee_fieldAddr hcallee_field hcallee_lookup hcallee_mapUpdate hcallee_insert hcallee_pick hcallee_nilCheck hcallee_indexAddr hcallee_index hcallee_extract hcallee_makeSlice hcallee_makeMap hcallee_makeFunc hcallee_makeInterface hcallee_builtin hcallee_call e_len hbuiltin_append hbuiltin_copy e_min e_max hresults_nil e_results_tmp e_results_cell hput_hfr hput_none hfr_get hfr_size Option.some.injEq Prod.mk.injEq List.getElem?_toArray List.getElem?_cons_zero List.getElem?_cons_succ List.getElem?_nil List.toList_toArray Bool.false_eq_true if_true if_false beq_self_eq_true decide_true decide_false List.cons_append List.nil_append true_and and_true beq_true beq_false Bool.not_true Bool.not_false hbin_shl hbin_shr b_add b_sub b_mul b_eql b_neq b_lss b_leq b_gtr b_geq b_quo b_rem b_and b_or u_neg u_not hint_quo hint_rem hint_and7 hint_and255 hint_or3 hint_or8 hshl3 hshl3i hshl8i hshr3 hshr8 wrap_i wrap_u HIf_pos HIf_neg HWant_pos HWant_neg HWant_not_pos HWant_not_neg HIf_not_pos HIf_not_neg HStay_top HStay_true HStay_false HSame_eq HKept_nil HKept_cons HGo1_some HQNext_eq HQLate_true HQLate_false HQRead_eq HQDo_eq HENext_eq HEDo_eq HSQ_some HSE_some HD_done HD_op HD_eff HD_stop reads ne_eq not_true_eq_false not_false_eq_true Nat.zero_add Nat.add_zero Nat.mul_one Int.toNat_natCast Int.toNat_add Nat.sub_zero Int.zero_add Int.add_zero Int.sub_zero List.set_cons_zero List.set_cons_succ eq_self anc_eq List.getD_cons_zero List.getD_cons_succ Nat.testBit get_push_ne get_push_eq get_set_ne get_set_eq get_kill_ne nx_push nx_set nx_kill
end Go.HL
/-
  Slices that are built whole.
-/
namespace Go.HL
variable {P : Program} {H : HHeap}
/-- What is said of lengths, by short names. -/
theorem qa {α : Type} (a : α) (l : List α) : (a :: l).length = l.length + 1 := by simp
theorem qb {α : Type} : ([] : List α).length = 0 := by simp
theorem qc {α : Type} (l : List α) (i : Nat) (a : α) : (l.set i a).length = l.length := by simp
theorem qd {α β : Type} (f : α → β) (l : List α) : (l.map f).length = l.length := by simp
theorem qe {α : Type} (n : Nat) (a : α) : (List.replicate n a).length = n := by simp
theorem qf {α : Type} (l k : List α) : (l ++ k).length = l.length + k.length := by simp
theorem qg {α : Type} (i : Nat) (l : List α) : (l.take i).length = min i l.length := by simp
theorem qh {α : Type} (i : Nat) (l : List α) : (l.drop i).length = l.length - i := by simp
theorem qi (n : Nat) : ((n : Nat) : Int).toNat = n := by simp
theorem qj (a : Int) (h : 0 ≤ a) : ((a.toNat : Nat) : Int) = a := by omega
/-- All of these at once. -/
theorem qz : (∀ {α : Type} (a : α) (l : List α), (a :: l).length = l.length + 1) ∧ (∀ {α : Type}, ([] : List α).length = 0) ∧ (∀ {α : Type} (l : List α) (i : Nat) (a : α), (l.set i a).length = l.length) ∧ (∀ {α β : Type} (f : α → β) (l : List α), (l.map f).length = l.length) ∧
    (∀ {α : Type} (n : Nat) (a : α), (List.replicate n a).length = n) ∧ (∀ {α : Type} (l k : List α), (l ++ k).length = l.length + k.length) ∧ (∀ {α : Type} (i : Nat) (l : List α), (l.take i).length = min i l.length) ∧ (∀ {α : Type} (i : Nat) (l : List α), (l.drop i).length = l.length - i) ∧
    (∀ n : Nat, ((n : Nat) : Int).toNat = n) ∧ (∀ a : Int, 0 ≤ a → ((a.toNat : Nat) : Int) = a) ∧ (∀ (H : HHeap) (b : Nat) (o : HObj), (H.set b o).next = H.next) ∧ (∀ (H : HHeap) (o : HObj), (H.push o).next = H.next + 1) ∧ (∀ (H : HHeap) (b : Nat), (H.kill b).next = H.next) :=
  ⟨qa, qb, qc, qd, qe, qf, qg, qh, qi, qj, fun H => nx_set, fun H => nx_push, fun H => nx_kill⟩
attribute [go_sem] reduceCtorEq Nat.reduceAdd Nat.reduceSub Nat.reduceMul Nat.reduceLT Nat.reduceLeDiff Nat.reduceEqDiff Nat.reduceBEq Nat.reduceBNe Int.reduceBEq Int.reduceEq Int.reduceLT Int.reduceLE Int.reduceAdd Int.reduceSub Int.reduceToNat Nat.reduceShiftRight Nat.reduceAnd
attribute [go_sem ↓] reduceIte
end Go.HL
