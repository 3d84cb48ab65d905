/-
  Joined: C8, C9.
-/
import Derived.Test.YtaghhialaplgoaaGreatDoorPFC7
set_option linter.unusedVariables false
set_option linter.unusedSimpArgs false
/-
  Walks: rows that grow and shrink.
-/
namespace Go.HL
open Go.RowKit Go.Proofs
set_option maxHeartbeats 4000000
set_option maxRecDepth 100000
set_option linter.unusedSimpArgs false
set_option linter.unusedVariables false

theorem sumR_eq (T : Things) {a b : List Nat} (ha : a.Nodup) (hb : b.Nodup) (h : ∀ i, i ∈ a ↔ i ∈ b) : sumR T a = sumR T b := by
  have hp : a.Perm b := (List.perm_ext_iff_of_nodup ha hb).2 h
  unfold sumR; exact (hp.map (roomI T)).sum_nat

/-- A row of words to which more come, and of which some go, at its end. -/
def TodoAt (H : HHeap) (v : Value) (l : List Nat) : Prop :=
  (l = [] ∧ v = .slice none 0 0) ∨ (∃ b, l = [] ∧ v = .slice (some ⟨b, 0, none⟩) 0 0 ∧ b < H.next ∧ H.get b = some (.cells [] true)) ∨
    (∃ b cap cs, v = .slice (some ⟨b, 0, some 2⟩) l.length cap ∧ b < H.next ∧ H.get b = some (.cells cs true) ∧ cs.length = cap ∧ l.length ≤ cap ∧ 0 < cap ∧ cs.take l.length = l.map U)
theorem TodoAt.frame {H H' : HHeap} {v : Value} {l : List Nat} (h : TodoAt H v l) (hn : H.next ≤ H'.next) (f : ∀ b ∈ vblk v, H'.get b = H.get b) : TodoAt H' v l := by
  rcases h with h | ⟨b, h1, rfl, h3, h4⟩ | ⟨b, cap, cs, rfl, h2, h3, h4, h5, h6, h7⟩
  · exact .inl h
  · exact .inr (.inl ⟨b, h1, rfl, by omega, by rw [f b (by simp [vblk])]; exact h4⟩)
  · exact .inr (.inr ⟨b, cap, cs, rfl, by omega, by rw [f b (by simp [vblk])]; exact h3, h4, h5, h6, h7⟩)
theorem TodoAt.lt {H : HHeap} {v : Value} {l : List Nat} (h : TodoAt H v l) : ∀ b ∈ vblk v, b < H.next := by
  rcases h with ⟨_, rfl⟩ | ⟨b, h1, rfl, h3, h4⟩ | ⟨b, cap, cs, rfl, h2, h3, h4, h5, h6, h7⟩
  · simp [vblk]
  · intro c hc; simp [vblk] at hc; omega
  · intro c hc; simp [vblk] at hc; omega
theorem append_row (H : HHeap) (v : Value) (l ws : List Nat) (hv : TodoAt H v l) (hl : l.length + ws.length ≤ 1073741824) :
    ∃ v' H', apd H 1 8 v (ws.map U, ws.length) = some (v', H') ∧ TodoAt H' v' (l ++ ws) ∧ H.next ≤ H'.next ∧ (∀ b, b < H.next → b ∉ vblk v → H'.get b = H.get b) ∧ (∀ b ∈ vblk v', b ∈ vblk v ∨ H.next ≤ b) := by
  by_cases h0 : ws.length = 0
  · rw [List.length_eq_zero_iff] at h0; subst h0
    refine ⟨v, H, ?_, by simpa using hv, Nat.le_refl _, fun _ _ _ => rfl, fun _ h => .inl h⟩
    rcases hv with ⟨rfl, rfl⟩ | ⟨b, h1, rfl, h3, h4⟩ | ⟨b, cap, cs, rfl, h2, h3, h4, h5, h6, h7⟩ <;> exact apd_zero _ _ _ _ _ _
  · have fresh : ∀ (L : List Value), L = (l ++ ws).map U → ∀ H0 : HHeap, H0.next = H.next → TodoAt (H0.push (.cells L true)) (.slice (some ⟨H.next, 0, some 2⟩) (l.length + ws.length) (l.length + ws.length)) (l ++ ws) := by
      intro L hL H0 hn
      refine .inr (.inr ⟨H.next, l.length + ws.length, L, by simp, by simp (disch := first | omega | (simp only [nx_push, nx_set, nx_kill]; done) | (simp only [nx_push, nx_set, nx_kill]; omega)) only [get_push_ne, get_push_eq, get_set_ne, get_set_eq, get_kill_ne, nx_push, nx_set, nx_kill]; omega, by simp (disch := first | omega | (simp only [nx_push, nx_set, nx_kill]; done) | (simp only [nx_push, nx_set, nx_kill]; omega)) only [get_push_ne, get_push_eq, get_set_ne, get_set_eq, get_kill_ne, nx_push, nx_set, nx_kill], by simp [hL], by simp, by omega, ?_⟩)
      rw [hL, List.take_of_length_le (by simp)]
    rcases hv with ⟨rfl, rfl⟩ | ⟨b, rfl, rfl, h3, h4⟩ | ⟨b, cap, cs, rfl, h2, h3, h4, h5, h6, h7⟩
    · refine ⟨.slice (some ⟨H.next, 0, some 2⟩) ws.length ws.length, H.push (.cells (ws.map U) true), ?_, ?_, by simp (disch := first | omega | (simp only [nx_push, nx_set, nx_kill]; done) | (simp only [nx_push, nx_set, nx_kill]; omega)) only [get_push_ne, get_push_eq, get_set_ne, get_set_eq, get_kill_ne, nx_push, nx_set, nx_kill]; omega, fun b hb _ => by simp (disch := first | omega | (simp only [nx_push, nx_set, nx_kill]; done) | (simp only [nx_push, nx_set, nx_kill]; omega)) only [get_push_ne, get_push_eq, get_set_ne, get_set_eq, get_kill_ne, nx_push, nx_set, nx_kill], fun b hb => by simp [vblk] at hb; right; omega⟩
      · rw [apd_nil _ _ _ _ (by omega) (by simp at hl; omega) (by simp at hl; omega)]
      · have := fresh (ws.map U) (by simp) H rfl; simpa using this
    · refine ⟨.slice (some ⟨H.next, 0, some 2⟩) ws.length ws.length, H.push (.cells (ws.map U) true), ?_, ?_, by simp (disch := first | omega | (simp only [nx_push, nx_set, nx_kill]; done) | (simp only [nx_push, nx_set, nx_kill]; omega)) only [get_push_ne, get_push_eq, get_set_ne, get_set_eq, get_kill_ne, nx_push, nx_set, nx_kill]; omega, fun c hb _ => by simp (disch := first | omega | (simp only [nx_push, nx_set, nx_kill]; done) | (simp only [nx_push, nx_set, nx_kill]; omega)) only [get_push_ne, get_push_eq, get_set_ne, get_set_eq, get_kill_ne, nx_push, nx_set, nx_kill], fun c hb => by simp [vblk] at hb; right; omega⟩
      · rw [apd_some _ _ _ _ _ _ _ _ _ (by omega) (by simp at hl; omega) (by simp at hl; omega), h4]
        unfold apo; simp only
        rw [if_neg (by omega), if_pos (by simp)]
        simp
      · have := fresh (ws.map U) (by simp) H rfl; simpa using this
    · by_cases hc : l.length + ws.length ≤ cap
      · refine ⟨.slice (some ⟨b, 0, some 2⟩) (l.length + ws.length) cap, H.set b (.cells (splice cs l.length (ws.map U)) true), ?_, ?_, by simp (disch := first | omega | (simp only [nx_push, nx_set, nx_kill]; done) | (simp only [nx_push, nx_set, nx_kill]; omega)) only [get_push_ne, get_push_eq, get_set_ne, get_set_eq, get_kill_ne, nx_push, nx_set, nx_kill]; omega, fun c hb hn => ?_, fun c hb => .inl (by simpa [vblk] using hb)⟩
        · rw [apd_some _ _ _ _ _ _ _ _ _ (by omega) (by omega) (by omega), h3]
          unfold apo; simp only
          rw [if_pos hc, if_pos ⟨trivial, by omega, by simp⟩]
          simp
        · refine .inr (.inr ⟨b, cap, splice cs l.length (ws.map U), by simp, by simp (disch := first | omega | (simp only [nx_push, nx_set, nx_kill]; done) | (simp only [nx_push, nx_set, nx_kill]; omega)) only [get_push_ne, get_push_eq, get_set_ne, get_set_eq, get_kill_ne, nx_push, nx_set, nx_kill]; omega, by simp (disch := first | omega | (simp only [nx_push, nx_set, nx_kill]; done) | (simp only [nx_push, nx_set, nx_kill]; omega)) only [get_push_ne, get_push_eq, get_set_ne, get_set_eq, get_kill_ne, nx_push, nx_set, nx_kill], by rw [splice_length]; exact h4, by simpa using hc, h6, ?_⟩)
          have e : cs = cs.take l.length ++ (cs.drop l.length).take ws.length ++ (cs.drop l.length).drop ws.length := by
            rw [List.append_assoc, List.take_append_drop, List.take_append_drop]
          have hp : (cs.take l.length).length = l.length := by simp; omega
          have := splice_mid (ws.map U) ((cs.drop l.length).take ws.length) ((cs.drop l.length).drop ws.length) (by simp; omega) (cs.take l.length)
          rw [← e, hp] at this
          rw [this, h7, ← List.map_append, List.take_append_of_le_length (by simp), List.take_of_length_le (by simp)]
        · have : c ≠ b := fun e => hn (by simp [vblk, e])
          simp (disch := first | omega | (simp only [nx_push, nx_set, nx_kill]; done) | (simp only [nx_push, nx_set, nx_kill]; omega)) only [get_push_ne, get_push_eq, get_set_ne, get_set_eq, get_kill_ne, nx_push, nx_set, nx_kill]
      · refine ⟨.slice (some ⟨H.next, 0, some 2⟩) (l.length + ws.length) (l.length + ws.length), (H.kill b).push (.cells (l.map U ++ ws.map U) true), ?_, ?_, by simp (disch := first | omega | (simp only [nx_push, nx_set, nx_kill]; done) | (simp only [nx_push, nx_set, nx_kill]; omega)) only [get_push_ne, get_push_eq, get_set_ne, get_set_eq, get_kill_ne, nx_push, nx_set, nx_kill]; omega, fun c hb hn => ?_, fun c hb => by simp [vblk] at hb; right; omega⟩
        · rw [apd_some _ _ _ _ _ _ _ _ _ (by omega) (by omega) (by omega), h3]
          unfold apo; simp only
          rw [if_neg hc, if_pos (show 0 + l.length * 1 ≤ cs.length ∨ l.length = 0 by omega), if_pos (by simp)]
          simp [h7]
        · exact fresh _ (by simp) _ (by simp (disch := first | omega | (simp only [nx_push, nx_set, nx_kill]; done) | (simp only [nx_push, nx_set, nx_kill]; omega)) only [get_push_ne, get_push_eq, get_set_ne, get_set_eq, get_kill_ne, nx_push, nx_set, nx_kill])
        · have : c ≠ b := fun e => hn (by simp [vblk, e])
          simp (disch := first | omega | (simp only [nx_push, nx_set, nx_kill]; done) | (simp only [nx_push, nx_set, nx_kill]; omega)) only [get_push_ne, get_push_eq, get_set_ne, get_set_eq, get_kill_ne, nx_push, nx_set, nx_kill]
end Go.HL
/-
  Walks: how much is reached.
-/
namespace Go.HL
open Go.RowKit Go.Proofs
set_option maxHeartbeats 4000000
set_option maxRecDepth 100000
set_option linter.unusedSimpArgs false
set_option linter.unusedVariables false

def map1 (ks : List Nat) : List (Value × Value) := ks.map fun k => (U k, I 1)
theorem map1_find : ∀ (ks : List Nat) (w : Nat), (w ∈ ks → ∃ j, hfind (U w) (map1 ks) = some (j, I 1)) ∧ (w ∉ ks → hfind (U w) (map1 ks) = none)
  | [], w => ⟨by simp, fun _ => rfl⟩
  | k :: ks, w => by
    obtain ⟨h1, h2⟩ := map1_find ks w
    unfold map1 at h1 h2 ⊢
    rw [List.map_cons, hfind_cons]
    by_cases hk : w = k
    · subst hk
      exact ⟨fun _ => ⟨0, by simp⟩, fun h => absurd List.mem_cons_self h⟩
    · refine ⟨fun h => ?_, fun h => ?_⟩
      · obtain ⟨j, hj⟩ := h1 ((List.mem_cons.1 h).resolve_left hk)
        exact ⟨j + 1, by rw [if_neg hk, hj]; rfl⟩
      · rw [if_neg hk, h2 (fun hm => h (List.mem_cons_of_mem _ hm))]; rfl
theorem map1_plain (ks : List Nat) : (map1 ks).all (fun e => plainKey Tryz.prog 30 e.1) = true := by
  rw [List.all_eq_true]; intro e he
  obtain ⟨p, _, rfl⟩ := List.mem_map.1 he
  simp [plainKey, Tryz.underlying30]
theorem hz3 : hzero Tryz.prog 3 = some (I 0) := by kernel_rfl
theorem lk73_yes {H : HHeap} {b : Nat} {ks : List Nat} (hg : H.get b = some (.map (map1 ks))) {w : Nat} (h : w ∈ ks) : hlookup Tryz.prog H 110 (.map (some b)) (.int .u64 (w : Int)) false = some (.int .i64 1) := by
  obtain ⟨j, hj⟩ := (map1_find ks w).1 h
  unfold hlookup
  simp only [Tryz.underlying110, hentries, hg, Option.bind_some]
  rw [if_pos ⟨by simp [plainKey, Tryz.underlying30], map1_plain ks⟩, hj]; rfl
theorem lk73_no {H : HHeap} {b : Nat} {ks : List Nat} (hg : H.get b = some (.map (map1 ks))) {w : Nat} (h : w ∉ ks) : hlookup Tryz.prog H 110 (.map (some b)) (.int .u64 (w : Int)) false = some (.int .i64 0) := by
  unfold hlookup
  simp only [Tryz.underlying110, hentries, hg, Option.bind_some]
  rw [if_pos ⟨by simp [plainKey, Tryz.underlying30], map1_plain ks⟩, (map1_find ks w).2 h, hz3]; rfl
theorem mu73 {H : HHeap} {b : Nat} {ks : List Nat} (hg : H.get b = some (.map (map1 ks))) {w : Nat} (h : w ∉ ks) : hmapUpdate Tryz.prog H 110 (.map (some b)) (.int .u64 (w : Int)) (.int .i64 1) = some (H.set b (.map (map1 (ks ++ [w])))) := by
  unfold hmapUpdate
  simp only [Tryz.underlying110, hg]
  rw [if_pos ⟨by simp [plainKey, Tryz.underlying30], map1_plain ks⟩, (map1_find ks w).2 h]
  simp [map1]

/-- What holds at the head of a round. -/
structure ReachI (T : Things) (roots sn todo : List Nat) : Prop where
  nodup : sn.Nodup
  lt : ∀ i ∈ sn, i < T.length
  sound : ∀ i ∈ sn, Reached T roots i
  tsound : ∀ w ∈ todo, ∀ i, findI T w = some i → Reached T roots i
  root : ∀ w ∈ roots, ∀ i, findI T w = some i → i ∈ sn ∨ w ∈ todo
  clos : ∀ j ∈ sn, ∀ w ∈ wordsI T j, ∀ i, findI T w = some i → i ∈ sn ∨ w ∈ todo
theorem ReachI.start (T : Things) (roots : List Nat) : ReachI T roots [] roots :=
  ⟨List.nodup_nil, by simp, by simp, fun w hw i hi => .root w i hw hi, fun w hw i hi => .inr hw, by simp⟩
theorem ReachI.finish {T : Things} {roots sn : List Nat} (h : ReachI T roots sn []) : sumR T sn = sumR T (bfs T roots) := by
  refine sumR_eq T h.nodup (bfs_nodup T roots) (fun i => ?_)
  rw [bfs_mem]
  refine ⟨h.sound i, fun hr => ?_⟩
  induction hr with
  | root w i hw hi => rcases h.root w hw i hi with h1 | h1
                      · exact h1
                      · simp at h1
  | next j w i _ hw hi ih => rcases h.clos j ih w hw i hi with h1 | h1
                             · exact h1
                             · simp at h1
theorem ReachI.skip {T : Things} {roots sn todo : List Nat} {w : Nat} (h : ReachI T roots sn (todo ++ [w])) (hw : ∀ i, findI T w = some i → i ∈ sn) : ReachI T roots sn todo := by
  refine ⟨h.nodup, h.lt, h.sound, fun u hu => h.tsound u (by simp [hu]), fun u hu i hi => ?_, fun j hj u hu i hi => ?_⟩
  · rcases h.root u hu i hi with h1 | h1
    · exact .inl h1
    · rcases List.mem_append.1 h1 with h1 | h1
      · exact .inr h1
      · rw [List.mem_singleton.1 h1] at hi; exact .inl (hw i hi)
  · rcases h.clos j hj u hu i hi with h1 | h1
    · exact .inl h1
    · rcases List.mem_append.1 h1 with h1 | h1
      · exact .inr h1
      · rw [List.mem_singleton.1 h1] at hi; exact .inl (hw i hi)
theorem ReachI.more {T : Things} {roots sn todo : List Nat} {w i : Nat} (h : ReachI T roots sn (todo ++ [w])) (hw : findI T w = some i) (hi : i ∉ sn) : ReachI T roots (sn ++ [i]) (todo ++ wordsI T i) := by
  have hr : Reached T roots i := h.tsound w (by simp) i hw
  refine ⟨List.nodup_append.2 ⟨h.nodup, by simp, fun a ha b hb => by simp at hb; subst hb; exact fun e => hi (by rw [← e]; exact ha)⟩, fun x hx => ?_, fun x hx => ?_, fun u hu j hj => ?_, fun u hu j hj => ?_, fun k hk u hu j hj => ?_⟩
  · rcases List.mem_append.1 hx with hx | hx
    · exact h.lt x hx
    · rw [List.mem_singleton.1 hx]; exact findI_lt hw
  · rcases List.mem_append.1 hx with hx | hx
    · exact h.sound x hx
    · rw [List.mem_singleton.1 hx]; exact hr
  · rcases List.mem_append.1 hu with hu | hu
    · exact h.tsound u (by simp [hu]) j hj
    · exact .next i u j hr hu hj
  · rcases h.root u hu j hj with h1 | h1
    · exact .inl (by simp [h1])
    · rcases List.mem_append.1 h1 with h1 | h1
      · exact .inr (by simp [h1])
      · rw [List.mem_singleton.1 h1, hw] at hj; cases hj; exact .inl (by simp)
  · rcases List.mem_append.1 hk with hk | hk
    · rcases h.clos k hk u hu j hj with h1 | h1
      · exact .inl (by simp [h1])
      · rcases List.mem_append.1 h1 with h1 | h1
        · exact .inr (by simp [h1])
        · rw [List.mem_singleton.1 h1, hw] at hj; cases hj; exact .inl (by simp)
    · rw [List.mem_singleton.1 hk] at hu; exact .inr (by simp [hu])

theorem RowAt.source {H H' : HHeap} {s : Value} {l : List Nat} (h : RowAt H s (l.map U)) (f : ∀ b, b < H.next → H'.get b = H.get b) : hsource H' 1 s = some (l.map U, l.length) := by
  obtain ⟨a, c, rfl, h⟩ := h
  rcases h with ⟨h, hc⟩ | ⟨b, o, k, cs, rw', rfl, h2, h3, h4⟩
  · have : l = [] := by simpa using h
    subst this
    cases a with
    | none => rw [hc rfl]; rfl
    | some a => rfl
  · by_cases h0 : l.length = 0
    · have : l = [] := List.length_eq_zero_iff.1 h0
      subst this; rfl
    · have hle : o + (l.map U).length * 1 ≤ cs.length := by
        have := h4 (l.length - 1) (U (l.getD (l.length - 1) 0)) (by rw [List.getElem?_map, List.getElem?_eq_getElem (by omega)]; simp [List.getD, show l.length - 1 < l.length by omega])
        have := (List.getElem?_eq_some_iff.1 this).1
        simp; omega
      rw [hsource_slice, f b h2, h3, hsrc_cells _ _ _ _ _ (by simp; omega) hle]
      simp only [Option.some.injEq, Prod.mk.injEq]
      refine ⟨?_, by simp⟩
      apply List.ext_getElem?
      intro i
      rw [List.getElem?_take]
      split
      · rename_i hi
        rw [List.getElem?_drop]
        have hi' : i < (l.map U).length := by simpa using hi
        rw [List.getElem?_eq_getElem hi']
        exact h4 i _ (List.getElem?_eq_getElem hi')
      · rename_i hi
        exact (List.getElem?_eq_none (by simpa using hi)).symm

theorem slg_hi (b len cap : Nat) (i : Int) (h : 0 ≤ i) (h' : i ≤ cap) (hc : 0 < cap) : slg b 0 1 2 len cap none (some (.int .i64 i)) none = some (.slice (some ⟨b, 0, some 2⟩) i.toNat cap) := by
  unfold slg
  rw [if_neg (by simp), hbound_none, Option.bind_some, hbound_int _ _ _ _ h h', Option.bind_some, hbound_none, Option.bind_some]
  simp [show cap ≠ 0 by omega]
def keysO (T : Things) (sn : List Nat) : List Nat := sn.map fun i => wordAt (placeOf T i)
theorem keysO_mem {T : Things} {sn : List Nat} (hlt : ∀ i ∈ sn, i < T.length) (w : Nat) : w ∈ keysO T sn ↔ ∃ i ∈ sn, findI T w = some i := by
  unfold keysO
  rw [List.mem_map]
  constructor
  · rintro ⟨i, hi, rfl⟩; exact ⟨i, hi, word_findI (hlt i hi)⟩
  · rintro ⟨i, hi, h⟩; exact ⟨i, hi, (findI_word h).1.symm⟩

theorem move_Reach (H : HHeap) (g gw gh size : Nat) (T : Things) (hA : AtA H g gw gh size T) (hAlt : g < H.next ∧ gw < H.next ∧ gh < H.next) (s : Value) (roots : List Nat) (hs : RowAt H s (roots.map U)) (hrw : ∀ w ∈ roots, w < 18446744073709551616) (hrl : roots.length ≤ 1000000)
    (R : Value → HHeap → Prop)
    (hR : ∀ H', (∀ b, b < H.next → H'.get b = H.get b) → H.next ≤ H'.next → R (I (sumR T (bfs T roots))) H') : HCalls Tryz.prog 30 [ptr g 0, s] H R := by
  have hbig := hA.big
  have hroom := hA.room
  have hTl := length_le_used T
  obtain ⟨a1, a2, a3⟩ := hAlt
  have hsr := hs.source (H' := H.push (.map [])) (fun b hb => by simp (disch := first | omega | (simp only [nx_push, nx_set, nx_kill]; done) | (simp only [nx_push, nx_set, nx_kill]; omega)) only [get_push_ne, get_push_eq, get_set_ne, get_set_eq, get_kill_ne, nx_push, nx_set, nx_kill])
  obtain ⟨v0, H0, q1, q2, q3, q4, q5⟩ := append_row (H.push (.map [])) (.slice none 0 0) [] roots (.inl ⟨rfl, rfl⟩) (by simp; omega)
  obtain ⟨sa, sc, rfl, hsv⟩ := hs
  refine HCalls.of_hw Tryz.func30 rfl _ Tryz.ntmps30 _ (by rw [Tryz.results30]) ?_
  rw [hframe0_eq _ _ (by simp)]
  simp only [List.zipIdx_cons, List.zipIdx_nil, List.map_cons, List.map_nil, Nat.reduceAdd]
  simp (disch := first | omega | (show allOne _ = true; simp [allOne, Value.oneCell', S]) | (simp only [qz]; first | done | omega)) only [go_sem, hsr, q1]
  have n1 : H.next + 1 ≤ H0.next := by simpa using q3
  refine Hwp.loop (fun n fr H' => ∃ sn todo v, n = (T.length - sn.length) * 256 + todo.length ∧ ReachI T roots sn todo ∧ TodoAt H' v todo ∧ H'.get H.next = some (.map (map1 (keysO T sn))) ∧ (∀ b, b < H.next → H'.get b = H.get b) ∧ H.next < H'.next ∧
     (∀ b ∈ vblk v, H.next < b) ∧ (∀ w ∈ todo, w < 18446744073709551616) ∧ todo.length ≤ roots.length + sumR T sn ∧ FLe (hfr 50 [(7, v), (6, I (sumR T sn)), (5, .map (some H.next)), (0, ptr g 0)]) fr) (T.length * 256 + roots.length) ?_ ?_
  · refine ⟨[], roots, v0, by simp, ReachI.start T roots, by simpa using q2, ?_, ?_, by omega, ?_, hrw, by simp [sumR], fle_of (by simp [flook, sumR])⟩
    · rw [q4 _ (by simp) (by simp [vblk])]; simp (disch := first | omega | (simp only [nx_push, nx_set, nx_kill]; done) | (simp only [nx_push, nx_set, nx_kill]; omega)) only [get_push_ne, get_push_eq, get_set_ne, get_set_eq, get_kill_ne, nx_push, nx_set, nx_kill]; rfl
    · intro b hb
      rw [q4 _ (by simp; omega) (by simp [vblk])]; simp (disch := first | omega | (simp only [nx_push, nx_set, nx_kill]; done) | (simp only [nx_push, nx_set, nx_kill]; omega)) only [get_push_ne, get_push_eq, get_set_ne, get_set_eq, get_kill_ne, nx_push, nx_set, nx_kill]
    · intro b hb
      rcases q5 b hb with hh | hh
      · simp [vblk] at hh
      · simp at hh; omega
  · rintro n fr H' ⟨sn, todo, v, rfl, hI, hT, hm, hk, hn, hvn, hw64, htl, hle⟩
    refine Hwp.weaken hle (HW.sound _ _ _ _ ?_)
    have hsu := sumR_le T sn hI.nodup hI.lt
    have hsl := nodup_le sn hI.nodup hI.lt
    have fin : todo = [] → R (I (sumR T sn)) H' := by
      rintro rfl
      rw [hI.finish]
      exact hR H' hk (by omega)
    rcases hT with ⟨rfl, rfl⟩ | ⟨b, rfl, rfl, hb1, hb2⟩ | ⟨b, cap, cs, rfl, hb1, hb2, hb3, hb4, hb5, hb6⟩
    · simp (disch := first | omega | (show allOne _ = true; simp [allOne, Value.oneCell', S]) | (simp only [qz]; first | done | omega)) only [go_sem]
      exact fin rfl
    · simp (disch := first | omega | (show allOne _ = true; simp [allOne, Value.oneCell', S]) | (simp only [qz]; first | done | omega)) only [go_sem]
      exact fin rfl
    · rcases List.eq_nil_or_concat todo with htd | ⟨td, w, htd⟩
      · subst htd
        simp (disch := first | omega | (show allOne _ = true; simp [allOne, Value.oneCell', S]) | (simp only [qz]; first | done | omega)) only [go_sem, List.length_nil]
        exact fin rfl
      · rw [List.concat_eq_append] at htd
        subst htd
        have htn : (td ++ [w]).length = td.length + 1 := by simp
        have hlast : cs[td.length]? = some (U w) := by
          have : (cs.take (td ++ [w]).length)[td.length]? = some (U w) := by rw [hb6]; simp
          rw [List.getElem?_take, if_pos (by omega)] at this
          exact this
        have hww := hw64 w (by simp)
        have hcap64 : (td ++ [w]).length ≤ 2000000 := by omega
        have htd' : TodoAt H' (.slice (some ⟨b, 0, some 2⟩) td.length cap) td := by
          refine .inr (.inr ⟨b, cap, cs, rfl, hb1, hb2, hb3, by omega, hb5, ?_⟩)
          have : (cs.take (td ++ [w]).length).take td.length = ((td ++ [w]).map U).take td.length := by rw [hb6]
          rw [List.take_take, Nat.min_eq_left (by omega)] at this
          rw [this]; simp
        have hbn := hvn b (by simp [vblk])
        have hb7 : td.length + 1 ≤ cap := by omega
        have htl2 : td.length + 1 ≤ roots.length + sumR T sn := by omega
        rw [htn] at *
        have hd1 : ((td.length + 1 : Nat) : Int) - 1 = (td.length : Int) := by omega
        by_cases hseen : w ∈ keysO T sn
        · simp (disch := first | omega | (show allOne _ = true; simp [allOne, Value.oneCell', S]) | (simp only [qz]; first | done | omega)) only [go_sem, ixa_ok, ldc_cells, hb2, hlast, slg_hi, hd1, lk73_yes hm hseen]
          obtain ⟨i, hi1, hi2⟩ := (keysO_mem hI.lt w).1 hseen
          refine ⟨_, ?_, sn, td, _, rfl, hI.skip (fun j hj => by rw [hi2] at hj; cases hj; exact hi1), htd', hm, hk, hn, by simpa [vblk] using hbn, fun u hu => hw64 u (by simp [hu]), by omega, fle_of (by simp [flook])⟩
          omega
        · have hA2 : AtA H' g gw gh size T := hA.frame (by rintro b (rfl | rfl | rfl) <;> exact hk _ (by omega))
          simp (disch := first | omega | (show allOne _ = true; simp [allOne, Value.oneCell', S]) | (simp only [qz]; first | done | omega)) only [go_sem, ixa_ok, ldc_cells, hb2, hlast, slg_hi, hd1, lk73_no hm hseen]
          refine arena_Kind _ _ _ _ _ _ hA2 w hww _ ?_
          cases hf : findT T w with
          | none =>
            have hk0 : kindN T w = 0 := by unfold kindN; rw [hf]
            rw [hk0]
            simp (disch := first | omega | (show allOne _ = true; simp [allOne, Value.oneCell', S]) | (simp only [qz]; first | done | omega)) only [go_sem]
            refine ⟨_, ?_, sn, td, _, rfl, hI.skip (fun j hj => by rw [findI_none hf] at hj; cases hj), htd', hm, hk, hn, by simpa [vblk] using hbn, fun u hu => hw64 u (by simp [hu]), by omega, fle_of (by simp [flook])⟩
            omega
          | some t =>
            obtain ⟨i, hi, hti⟩ := findI_some hf
            have hin : i ∉ sn := fun h => hseen ((keysO_mem hI.lt w).2 ⟨i, h, hi⟩)
            have hok := hA.ok t (List.mem_of_getElem? hti)
            have kl := hok.len
            have kk := hok.k1
            have hk1 : kindN T w = t.kind := by unfold kindN; rw [hf]
            have hl1 : lenN T w = t.l.length := by unfold lenN; rw [hf]
            have hws : wordsN T w = t.l := by unfold wordsN; rw [hf]
            have hwi : wordsI T i = t.l := by unfold wordsI; rw [hti]
            have hri : roomI T i = 1 + t.l.length := by unfold roomI; rw [hti]; rfl
            have hI2 := hI.more hi hin
            have hsu2 := sumR_le T _ hI2.nodup hI2.lt
            rw [sumR_append, sumR_one, hri] at hsu2
            have hsl2 := nodup_le _ hI2.nodup hI2.lt
            rw [List.length_append, List.length_singleton] at hsl2
            rw [hk1]
            simp (disch := first | omega | (show allOne _ = true; simp [allOne, Value.oneCell', S]) | (simp only [qz]; first | done | omega)) only [go_sem, mu73 hm hseen]
            have hA3 : AtA (H'.set H.next (.map (map1 (keysO T sn ++ [w])))) g gw gh size T := hA2.frame (by rintro b (rfl | rfl | rfl) <;> simp (disch := first | omega | (simp only [nx_push, nx_set, nx_kill]; done) | (simp only [nx_push, nx_set, nx_kill]; omega)) only [get_push_ne, get_push_eq, get_set_ne, get_set_eq, get_kill_ne, nx_push, nx_set, nx_kill])
            refine arena_Len _ _ _ _ _ _ hA3 w hww _ ?_
            rw [hl1]
            simp (disch := first | omega | (show allOne _ = true; simp [allOne, Value.oneCell', S]) | (simp only [qz]; first | done | omega)) only [go_sem]
            refine move_words _ _ _ _ _ _ hA3 ⟨by simp (disch := first | omega | (simp only [nx_push, nx_set, nx_kill]; done) | (simp only [nx_push, nx_set, nx_kill]; omega)) only [get_push_ne, get_push_eq, get_set_ne, get_set_eq, get_kill_ne, nx_push, nx_set, nx_kill]; omega, by simp (disch := first | omega | (simp only [nx_push, nx_set, nx_kill]; done) | (simp only [nx_push, nx_set, nx_kill]; omega)) only [get_push_ne, get_push_eq, get_set_ne, get_set_eq, get_kill_ne, nx_push, nx_set, nx_kill]; omega, by simp (disch := first | omega | (simp only [nx_push, nx_set, nx_kill]; done) | (simp only [nx_push, nx_set, nx_kill]; omega)) only [get_push_ne, get_push_eq, get_set_ne, get_set_eq, get_kill_ne, nx_push, nx_set, nx_kill]; omega⟩ w hww _ ?_
            rw [hl1, hws]
            have htd3 : TodoAt ((H'.set H.next (.map (map1 (keysO T sn ++ [w])))).push (.cells (t.l.map U) true)) (.slice (some ⟨b, 0, some 2⟩) td.length cap) td := by
              refine htd'.frame (by simp (disch := first | omega | (simp only [nx_push, nx_set, nx_kill]; done) | (simp only [nx_push, nx_set, nx_kill]; omega)) only [get_push_ne, get_push_eq, get_set_ne, get_set_eq, get_kill_ne, nx_push, nx_set, nx_kill]; omega) (fun c hc => ?_)
              have hcb : c = b := by simpa [vblk] using hc
              subst hcb
              simp (disch := first | omega | (simp only [nx_push, nx_set, nx_kill]; done) | (simp only [nx_push, nx_set, nx_kill]; omega)) only [get_push_ne, get_push_eq, get_set_ne, get_set_eq, get_kill_ne, nx_push, nx_set, nx_kill]
            obtain ⟨v3, H3, r1, r2, r3, r4, r5⟩ := append_row _ _ td t.l htd3 (by omega)
            have hsrc3 : hsource ((H'.set H.next (.map (map1 (keysO T sn ++ [w])))).push (.cells (t.l.map U) true)) 1 (.slice (some ⟨H'.next, 0, none⟩) t.l.length t.l.length) = some (t.l.map U, t.l.length) := by
              rw [hsource_slice]
              by_cases h0 : t.l.length = 0
              · rw [h0, hsrc_zero]; rw [List.length_eq_zero_iff.1 h0]; rfl
              · simp (disch := first | omega | (simp only [nx_push, nx_set, nx_kill]; done) | (simp only [nx_push, nx_set, nx_kill]; omega)) only [get_push_ne, get_push_eq, get_set_ne, get_set_eq, get_kill_ne, nx_push, nx_set, nx_kill]
                rw [hsrc_cells _ _ _ _ _ (by omega) (by simp), List.drop_zero, List.take_of_length_le (by simp)]
            simp (disch := first | omega | (show allOne _ = true; simp [allOne, Value.oneCell', S]) | (simp only [qz]; first | done | omega)) only [go_sem, hsrc3, r1]
            have hkw : keysO T (sn ++ [i]) = keysO T sn ++ [w] := by
              unfold keysO; rw [List.map_append, List.map_cons, List.map_nil, ← (findI_word hi).1]
            have hsum : sumR T (sn ++ [i]) = sumR T sn + (1 + t.l.length) := by rw [sumR_append, sumR_one, hri]
            rw [nx_push, nx_set] at r3 r5
            have r4' : ∀ c, c < H'.next → c ≠ b → c ≠ H.next → H3.get c = H'.get c := by
              intro c h1 h2 h3
              rw [r4 c (by rw [nx_push, nx_set]; omega) (by simpa [vblk] using h2)]
              simp (disch := first | omega | (simp only [nx_push, nx_set, nx_kill]; done) | (simp only [nx_push, nx_set, nx_kill]; omega)) only [get_push_ne, get_push_eq, get_set_ne, get_set_eq, get_kill_ne, nx_push, nx_set, nx_kill]
            rw [hwi] at hI2
            refine ⟨_, ?_, sn ++ [i], td ++ t.l, v3, rfl, hI2, r2, ?_, ?_, by omega, ?_, ?_, ?_, fle_of ?_⟩
            · rw [List.length_append, List.length_singleton, List.length_append]; omega
            · rw [hkw, r4 _ (by rw [nx_push, nx_set]; omega) (by simp [vblk]; omega)]; simp (disch := first | omega | (simp only [nx_push, nx_set, nx_kill]; done) | (simp only [nx_push, nx_set, nx_kill]; omega)) only [get_push_ne, get_push_eq, get_set_ne, get_set_eq, get_kill_ne, nx_push, nx_set, nx_kill]
            · intro c hc
              rw [r4' c (by omega) (by omega) (by omega)]; exact hk c hc
            · intro c hc
              rcases r5 c hc with hh | hh
              · have : c = b := by simpa [vblk] using hh
                omega
              · omega
            · intro u hu
              rcases List.mem_append.1 hu with hu | hu
              · exact hw64 u (by simp [hu])
              · exact hok.words u hu
            · rw [List.length_append, hsum]; omega
            · rw [hsum]; simp [flook]
end Go.HL
