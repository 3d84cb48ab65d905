/-
  Joined: U10, U12.
-/
import Derived.Test.YtaghhialaplgoaaGreatDoorPFM11
import Derived.Test.YtaghhialaplgoaaGreatDoorPFT
set_option linter.unusedVariables false
set_option linter.unusedSimpArgs false
/-
  What a strings.Builder is made of, by hand: operations that the high level has no word for, met one by one.
-/
namespace Go.HL
open Go.RowKit
set_option linter.unusedSimpArgs false
set_option linter.unusedVariables false
set_option maxRecDepth 100000

variable {P : Program}

theorem meet_toUns {fr : HFrame} {H : HHeap} {o : Oper} {s d : TypeId} {x : Operand} {b off m : Nat} {e : TypeId} (ho : o.op = .convert s d x) (hc : toUns P s d = true) (hx : hev fr x = some (.pointer (some ⟨b, off, none⟩))) (ht : H.get (b + 1) = some (.tag e m b)) (hm : off < m) :
    HMeet P fr H o (.pointer (some ⟨b, off, none⟩)) H := by
  intro D B μ w a hR hf
  have hx := hev_rel hf hx
  obtain ⟨g, hg, hsh⟩ := uns_place hR ht hm hx
  unfold toUns at hc
  split at hc
  · rename_i t hs hd
    split at hc
    · rename_i j hj
      have := Lib.run_to_unsafe (P := P) (w := w) (src := s) (dst := d) ⟨g, off, none⟩ hs hd hj (by simpa using hc) hsh hm
      exact ⟨μ, w, _, Step.refl hR, hx, .inl (by simp [execOp, ho, hg, this])⟩
    · cases hc
  · cases hc
theorem meet_fromUns {fr : HFrame} {H : HHeap} {o : Oper} {s d u : TypeId} {x : Operand} {b off m : Nat} {e : TypeId} (ho : o.op = .convert s d x) (hc : fromUns P s d = some u) (hx : hev fr x = some (.pointer (some ⟨b, off, none⟩))) (ht : H.get (b + 1) = some (.tag e m b)) (hm : off < m) (hl : liesAt P P.depth e (m / P.cellsOf e) off u 1 = true) :
    HMeet P fr H o (.pointer (some ⟨b, off, none⟩)) H := by
  intro D B μ w a hR hf
  have hx := hev_rel hf hx
  obtain ⟨g, hg, hsh⟩ := uns_place hR ht hm hx
  unfold fromUns at hc
  split at hc
  · rename_i u' hs hd
    split at hc
    · cases hc
      rename_i hi
      obtain ⟨j, hj⟩ := Option.isSome_iff_exists.1 hi
      have := Lib.run_from_unsafe (P := P) (w := w) (src := s) (dst := d) ⟨g, off, none⟩ hs hd hj hsh hl
      exact ⟨μ, w, _, Step.refl hR, hx, .inl (by simp [execOp, ho, hg, this])⟩
    · cases hc
  · cases hc
theorem meet_noEsc {fr : HFrame} {H : HHeap} {o : Oper} {g : FuncId} {x : Operand} {ts : Array TypeId} {v : Value} (ho : o.op = .call ⟨.value (.func g), ⟨[x]⟩, ts⟩) (hg : isNoEsc P g = true) (hx : hev fr x = some v) : HMeet P fr H o v H := by
  intro D B μ w a hR hf
  have hx := hev_rel hf hx
  unfold isNoEsc at hg
  split at hg
  · rename_i fn hfn
    rw [Bool.and_eq_true, Bool.and_eq_true] at hg
    obtain ⟨g1, g2, g3⟩ := hg
    have g2 : fn.origin = "" := by simpa using g2
    have g3 : fn.name = noescName := by simpa using g3
    have := ext_run hfn g1 (no_next g3 g2 next_noesc next0) (find_row g3 gen_noesc typed_noesc row_noesc) (by rw [g3]; rfl) #[a.eval x] w (a.eval x) (Lib.run_noEscape w _)
    have e1 : a.eval (.func g) = .func (.func g) #[] #[] := rfl
    exact ⟨μ, w, _, Step.refl hR, hx, .inl (by simp [execOp, ho, resolve, invoke, e1, Deferred.ofValue, this])⟩
  · cases hg
theorem meet_ptrSame {fr : HFrame} {H : HHeap} {o : Oper} {t u : TypeId} {x y : Operand} {b off : Nat} (ho : o.op = .binOp .neq t x y u) (ht : ptrPlain P t = true) (hx : hev fr x = some (.pointer (some ⟨b, off, none⟩))) (hy : hev fr y = some (.pointer (some ⟨b, off, none⟩))) :
    HMeet P fr H o (.bool false) H := by
  intro D B μ w a hR hf
  have r1 := hev_rel hf hx
  have r2 := hev_rel hf hy
  obtain ⟨ad, q1, q2⟩ : ∃ ad, a.eval x = .pointer (some ad) ∧ a.eval y = .pointer (some ad) := by
    generalize a.eval x = z1 at r1
    generalize a.eval y = z2 at r2
    cases r1 with
    | ptr _ _ p hp => cases r2 with
      | ptr _ _ q hq => rw [hp] at hq; cases hq; exact ⟨_, rfl, rfl⟩
  unfold ptrPlain at ht
  split at ht
  · rename_i e hu
    obtain ⟨j, hj⟩ := Option.isSome_iff_exists.1 ht
    have hrun := Lib.run_neq_ptr_same (P := P) w ad hu hj
    have hg := eqGuard_ok (P := P) .neq t x y (.pointer (some ad)) (.pointer (some ad)) (.inl (by simp)) w
    exact ⟨μ, w, _, Step.refl hR, .bool _, .inl (by simp [execOp, ho, q1, q2, hg, hrun])⟩
  · cases ht
theorem meet_boxT {fr : HFrame} {H : HHeap} {o : Oper} {t : TypeId} {x : Operand} {v : Value} (ho : o.op = .box t x) (hx : hev fr x = some v) (ha : allOne v.cells.toList = true) :
    HMeet P fr H o (.pointer (some ⟨H.next, 0, none⟩)) ((H.push (.cells v.cells.toList true)).push (.tag t v.cells.toList.length H.next)) := by
  intro D B μ w a hR hf
  have hx := hev_rel hf hx
  obtain ⟨μ', s1, s2⟩ := new_typed hR v.cells.toList (a.eval x).cells t hx.cells (List.all_eq_true.1 ha)
  exact ⟨μ', _, _, s1, s2, .inl (by simp [execOp, ho, Instr.box, newVar, newRow])⟩
theorem meet_apT0 {fr : HFrame} {H : HHeap} {o : Oper} {st xt : TypeId} {s x : Operand} {u : TypeId} {e : Elem} {xv : Value} {vs : List Value} {m : Nat} (ho : o.op = .call ⟨.builtin .append, ⟨[s, x]⟩, ⟨[st, xt]⟩⟩) (hu : P.underlying st = some (.slice u)) (hxs : isStr P xt = true) (he : helem P u = some e)
    (hs : hev fr s = some (.slice none 0 0)) (hx : hev fr x = some xv) (hsrc : hsource H e.size xv = some (vs, m)) (hm : m ≠ 0) (hb1 : m * e.bytes ≤ 1099511627776) (hb2 : m ≤ 1099511627776) :
    HMeet P fr H o (.slice (some ⟨H.next, 0, some (2 * e.size)⟩) m m) ((H.push (.cells vs true)).push (.tag u 0 H.next)) := by
  intro D B μ w a hR hf
  have rs := hev_rel hf hs
  have rx := hev_rel hf hx
  have e1 : a.eval s = .slice none 0 0 := by generalize a.eval s = z at rs; cases rs; rfl
  obtain ⟨μ', w', v', r1, r2, r3⟩ := sim_appendT0 (P := P) (ty := o.type) hR hu hxs he hsrc rx hm hb1 hb2
  exact ⟨μ', w', v', r2, r3, .inl (by simp [execOp, ho, resolve, invoke, builtin, e1, r1])⟩
theorem meet_apT1 {fr : HFrame} {H : HHeap} {o : Oper} {st xt : TypeId} {s x : Operand} {u : TypeId} {e : Elem} {xv : Value} {vs cs : List Value} {m b len cap tn : Nat} (ho : o.op = .call ⟨.builtin .append, ⟨[s, x]⟩, ⟨[st, xt]⟩⟩) (hu : P.underlying st = some (.slice u)) (hxs : isStr P xt = true) (he : helem P u = some e)
    (hs : hev fr s = some (.slice (some ⟨b, 0, some (2 * e.size)⟩) len cap)) (hx : hev fr x = some xv) (hsrc : hsource H e.size xv = some (vs, m)) (hm : m ≠ 0) (hb1 : (len + m) * e.bytes ≤ 1099511627776) (hb2 : len + m ≤ 1099511627776)
    (hb : H.get b = some (.cells cs true)) (ht : H.get (b + 1) = some (.tag u tn b)) (hfit : len * e.size ≤ cs.length) (hcap : cap < len + m) :
    HMeet P fr H o (.slice (some ⟨H.next, 0, some (2 * e.size)⟩) (len + m) (len + m)) (((H.kill b).push (.cells (cs.take (len * e.size) ++ vs) true)).push (.tag u 0 H.next)) := by
  intro D B μ w a hR hf
  have rs := hev_rel hf hs
  have rx := hev_rel hf hx
  obtain ⟨μ', w', v', r1, r2, r3⟩ := sim_appendT1 (P := P) (ty := o.type) hR hu hxs he hsrc rx hm hb1 hb2 hb ht hfit hcap rs
  exact ⟨μ', w', v', r2, r3, .inl (by simp [execOp, ho, resolve, invoke, builtin, r1])⟩
end Go.HL
/-
  Walks: what a strings.Builder in a writer does with a text.
-/
namespace Go.HL
open Go.RowKit Go.Proofs
set_option maxHeartbeats 4000000
set_option maxRecDepth 100000
set_option linter.unusedSimpArgs false
set_option linter.unusedVariables false
/-- The bytes of a text. -/
def bytesV (s : List UInt8) : List Value := s.map fun b => Value.int .u8 (b.toNat : Int)
theorem bytesV_len (s : List UInt8) : (bytesV s).length = s.length := by unfold bytesV; simp
theorem bytesV_append (s t : List UInt8) : bytesV (s ++ t) = bytesV s ++ bytesV t := by unfold bytesV; simp
theorem hsource_S (H : HHeap) (t : List UInt8) : hsource H 1 (S t) = some (bytesV t, t.length) := by
  unfold hsource S
  simp [s_size, bytesV]
/-- A writer with a text: its block, which is the builder's, too. -/
structure BAt (H : HHeap) (b : Nat) (gv nv : Value) (s : List UInt8) : Prop where
  tag : H.get (b + 1) = some (.tag 86 4 b)
  at' : ∃ addr sv, H.get b = some (.cells [addr, sv, gv, nv] true) ∧ ((s = [] ∧ sv = .slice none 0 0 ∧ (addr = .pointer none ∨ addr = ptr b 0)) ∨
    (s ≠ [] ∧ addr = ptr b 0 ∧ ∃ c, b + 2 ≤ c ∧ sv = .slice (some ⟨c, 0, some 2⟩) s.length s.length ∧ H.get c = some (.cells (bytesV s) true) ∧ H.get (c + 1) = some (.tag 5 0 c)))
/-- What is older than a block is as it was. -/
structure Past (b : Nat) (H H' : HHeap) : Prop where
  next : H.next ≤ H'.next
  get : ∀ x, x < b → H'.get x = H.get x
theorem Past.refl (b : Nat) (H : HHeap) : Past b H H := ⟨Nat.le_refl _, fun _ _ => rfl⟩
theorem Past.trans {b : Nat} {H H' H'' : HHeap} (h : Past b H H') (h' : Past b H' H'') : Past b H H'' := ⟨Nat.le_trans h.next h'.next, fun x hx => by rw [h'.get x hx, h.get x hx]⟩
theorem Past.set {b c : Nat} {H : HHeap} {o : HObj} (h : b ≤ c) : Past b H (H.set c o) := ⟨by rw [HHeap.set_next]; omega, fun x hx => get_set_ne _ _ _ (by omega)⟩
theorem noEscOk : isNoEsc Tryz.prog 115 = true := by kernel_rfl
theorem unsOk1 : toUns Tryz.prog 81 191 = true := by kernel_rfl
theorem unsOk2 : fromUns Tryz.prog 191 81 = some 84 := by kernel_rfl
theorem liesOk : liesAt Tryz.prog Tryz.prog.depth 86 (4 / Tryz.prog.cellsOf 86) 0 84 1 = true := by kernel_rfl
theorem ptrOk : ptrPlain Tryz.prog 81 = true := by kernel_rfl
theorem isStr9 : isStr Tryz.prog 9 = true := by kernel_rfl
/-- The builder knows where it is. -/
theorem wr_copyCheck {H : HHeap} {b : Nat} {addr sv gv nv : Value} (ht : H.get (b + 1) = some (.tag 86 4 b)) (hg : H.get b = some (.cells [addr, sv, gv, nv] true)) (ha : addr = .pointer none ∨ addr = ptr b 0) (R : Value → HHeap → Prop)
    (hR : R (.tuple #[]) (H.set b (.cells [ptr b 0, sv, gv, nv] true))) (hR' : addr = ptr b 0 → R (.tuple #[]) H) : HCalls Tryz.prog 105 [ptr b 0] H R := by
  refine HCalls.of_hwp Tryz.func105 rfl _ Tryz.ntmps105 _ (by rw [Tryz.results105]) ?_
  rw [hframe0_eq _ _ (by simp)]
  simp only [List.zipIdx_cons, List.zipIdx_nil, List.map_cons, List.map_nil, Nat.reduceAdd]
  rcases ha with rfl | rfl
  · clear hR'
    refine Hwp.cut (hfr 20 [(0, ptr b 0), (6, .bool true)]) H (by simp (disch := first | omega | (show allOne _ = true; simp [allOne, Value.oneCell', S]) | (simp only [qz]; first | done | omega)) only [go_sem, hg, ldc_cells]; first | exact fle_of (by simp [flook]) | exact ⟨rfl, fle_of (by simp [flook])⟩ | exact ⟨rfl, rfl, fle_of (by simp [flook])⟩) ?_
    refine Hwp.cond (b := true) (by simp (disch := first | omega | (show allOne _ = true; simp [allOne, Value.oneCell', S]) | (simp only [qz]; first | done | omega)) only [go_sem]) (fun _ => ?_) (fun h => by cases h)
    refine Hwp.rows ?_
    refine HRows.val (v := ptr b 0) (H' := H) (by simp (disch := first | omega | (show allOne _ = true; simp [allOne, Value.oneCell', S]) | (simp only [qz]; first | done | omega)) only [go_sem]) ?_
    rw [hput_hfr _ _ _ _ (by omega)]
    refine HRows.val (v := ptr b 0) (H' := H) (by simp (disch := first | omega | (show allOne _ = true; simp [allOne, Value.oneCell', S]) | (simp only [qz]; first | done | omega)) only [go_sem]) ?_
    rw [hput_hfr _ _ _ _ (by omega)]
    refine HRows.meet (meet_toUns (b := b) (off := 0) rfl unsOk1 (by simp (disch := first | omega | (show allOne _ = true; simp [allOne, Value.oneCell', S]) | (simp only [qz]; first | done | omega)) only [go_sem]) ht (by omega)) ?_
    rw [hput_hfr _ _ _ _ (by omega)]
    refine HRows.meet (meet_noEsc (v := ptr b 0) rfl noEscOk (by simp (disch := first | omega | (show allOne _ = true; simp [allOne, Value.oneCell', S]) | (simp only [qz]; first | done | omega)) only [go_sem])) ?_
    rw [hput_hfr _ _ _ _ (by omega)]
    refine HRows.meet (meet_fromUns (b := b) (off := 0) rfl unsOk2 (by simp (disch := first | omega | (show allOne _ = true; simp [allOne, Value.oneCell', S]) | (simp only [qz]; first | done | omega)) only [go_sem]) ht (by omega) liesOk) ?_
    rw [hput_hfr _ _ _ _ (by omega)]
    refine HRows.val (v := ptr b 0) (H' := H) (by simp (disch := first | omega | (show allOne _ = true; simp [allOne, Value.oneCell', S]) | (simp only [qz]; first | done | omega)) only [go_sem]) ?_
    rw [hput_hfr _ _ _ _ (by omega)]
    refine HRows.val (v := ptr b 0) (H' := H) (by simp (disch := first | omega | (show allOne _ = true; simp [allOne, Value.oneCell', S]) | (simp only [qz]; first | done | omega)) only [go_sem]) ?_
    rw [hput_hfr _ _ _ _ (by omega)]
    refine HRows.val (v := undef) (H' := H.set b (.cells [ptr b 0, sv, gv, nv] true)) (by simp (disch := first | omega | (show allOne _ = true; simp [allOne, Value.oneCell', S]) | (simp only [qz]; first | done | omega)) only [go_sem, hg, stc_cells]) ?_
    exact hR
  · clear hR
    refine Hwp.cut (hfr 20 [(0, ptr b 0), (6, .bool false)]) H (by simp (disch := first | omega | (show allOne _ = true; simp [allOne, Value.oneCell', S]) | (simp only [qz]; first | done | omega)) only [go_sem, hg, ldc_cells]; first | exact fle_of (by simp [flook]) | exact ⟨rfl, fle_of (by simp [flook])⟩ | exact ⟨rfl, rfl, fle_of (by simp [flook])⟩) ?_
    refine Hwp.cond (b := false) (by simp (disch := first | omega | (show allOne _ = true; simp [allOne, Value.oneCell', S]) | (simp only [qz]; first | done | omega)) only [go_sem]) (fun h => by cases h) (fun _ => ?_)
    refine Hwp.seq (Hwp.rows ?_)
    refine HRows.val (v := ptr b 0) (H' := H) (by simp (disch := first | omega | (show allOne _ = true; simp [allOne, Value.oneCell', S]) | (simp only [qz]; first | done | omega)) only [go_sem]) ?_
    rw [hput_hfr _ _ _ _ (by omega)]
    refine HRows.val (v := ptr b 0) (H' := H) (by simp (disch := first | omega | (show allOne _ = true; simp [allOne, Value.oneCell', S]) | (simp only [qz]; first | done | omega)) only [go_sem]) ?_
    rw [hput_hfr _ _ _ _ (by omega)]
    refine HRows.val (v := ptr b 0) (H' := H) (by simp (disch := first | omega | (show allOne _ = true; simp [allOne, Value.oneCell', S]) | (simp only [qz]; first | done | omega)) only [go_sem]) ?_
    rw [hput_hfr _ _ _ _ (by omega)]
    refine HRows.val (v := ptr b 0) (H' := H) (by simp (disch := first | omega | (show allOne _ = true; simp [allOne, Value.oneCell', S]) | (simp only [qz]; first | done | omega)) only [go_sem, hg, ldc_cells]) ?_
    rw [hput_hfr _ _ _ _ (by omega)]
    refine HRows.val (v := ptr b 0) (H' := H) (by simp (disch := first | omega | (show allOne _ = true; simp [allOne, Value.oneCell', S]) | (simp only [qz]; first | done | omega)) only [go_sem]) ?_
    rw [hput_hfr _ _ _ _ (by omega)]
    refine HRows.meet (meet_ptrSame (b := b) (off := 0) rfl ptrOk (by simp (disch := first | omega | (show allOne _ = true; simp [allOne, Value.oneCell', S]) | (simp only [qz]; first | done | omega)) only [go_sem]) (by simp (disch := first | omega | (show allOne _ = true; simp [allOne, Value.oneCell', S]) | (simp only [qz]; first | done | omega)) only [go_sem])) ?_
    rw [hput_hfr _ _ _ _ (by omega)]
    show HThen _ _ .normal _ _
    rw [HThen_normal]
    refine HW.sound _ _ _ _ ?_
    simp (disch := first | omega | (show allOne _ = true; simp [allOne, Value.oneCell', S]) | (simp only [qz]; first | done | omega)) only [go_sem]
    exact hR' rfl
theorem wr_copy {H : HHeap} {b : Nat} {addr sv gv nv : Value} (ht : H.get (b + 1) = some (.tag 86 4 b)) (hg : H.get b = some (.cells [addr, sv, gv, nv] true)) (ha : addr = .pointer none ∨ addr = ptr b 0) (R : Value → HHeap → Prop)
    (hR : ∀ H1, H1.next = H.next → H1.get b = some (.cells [ptr b 0, sv, gv, nv] true) → (∀ x, x ≠ b → H1.get x = H.get x) → R (.tuple #[]) H1) : HCalls Tryz.prog 105 [ptr b 0] H R :=
  wr_copyCheck ht hg ha R (hR _ (HHeap.set_next _ _ _) (by rw [get_set_same]) fun x hx => get_set_ne _ _ _ hx) fun e => hR H rfl (by rw [← e]; exact hg) fun _ _ => rfl
/-- A text is written. -/
theorem wr_WriteString {H : HHeap} {b : Nat} {gv nv : Value} {s t : List UInt8} (hB : BAt H b gv nv s) (hok : H.Ok) (ht0 : t ≠ []) (hl : s.length + t.length ≤ 1000000) (R : Value → HHeap → Prop)
    (hR : ∀ H', BAt H' b gv nv (s ++ t) → Past b H H' → R (.tuple #[I (t.length : Nat), .nilIface]) H') : HCalls Tryz.prog 94 [ptr b 0, S t] H R := by
  obtain ⟨htag, addr, sv, hg, hs⟩ := hB
  have htl : 0 < t.length := List.length_pos_iff.2 ht0
  have hbn : b + 1 < H.next := hok _ _ htag
  have ha : addr = .pointer none ∨ addr = ptr b 0 := by rcases hs with ⟨_, _, h⟩ | ⟨_, h, _⟩; exact h; exact .inr h
  refine HCalls.of_hwp Tryz.func94 rfl _ Tryz.ntmps94 _ (by rw [Tryz.results94]) ?_
  rw [hframe0_eq _ _ (by simp)]
  simp only [List.zipIdx_cons, List.zipIdx_nil, List.map_cons, List.map_nil, Nat.reduceAdd]
  refine Hwp.cut (hfr 19 [(0, ptr b 0), (1, S t)]) H (by simp (disch := first | omega | (show allOne _ = true; simp [allOne, Value.oneCell', S]) | (simp only [qz]; first | done | omega)) only [go_sem]; first | exact fle_of (by simp [flook]) | exact ⟨rfl, fle_of (by simp [flook])⟩ | exact ⟨rfl, rfl, fle_of (by simp [flook])⟩) ?_
  refine Hwp.seq (HW.sound _ _ _ _ ?_)
  simp (disch := first | omega | (show allOne _ = true; simp [allOne, Value.oneCell', S]) | (simp only [qz]; first | done | omega)) only [go_sem]
  refine wr_copy htag hg ha _ ?_
  intro H1 hn hg1 ho
  have hend : ∀ c H2, b + 2 ≤ c → H2.get b = some (.cells [ptr b 0, sv, gv, nv] true) → H2.get (b + 1) = some (.tag 86 4 b) → H2.get c = some (.cells (bytesV (s ++ t)) true) → H2.get (c + 1) = some (.tag 5 0 c) → Past b H H2 →
      Past b H (H2.set b (.cells [ptr b 0, .slice (some ⟨c, 0, some 2⟩) (s.length + t.length) (s.length + t.length), gv, nv] true)) ∧ BAt (H2.set b (.cells [ptr b 0, .slice (some ⟨c, 0, some 2⟩) (s.length + t.length) (s.length + t.length), gv, nv] true)) b gv nv (s ++ t) := by
    intro c H2 hc q1 q2 q3 q4 q5
    refine ⟨q5.trans (Past.set (Nat.le_refl _)), by rw [get_set_ne _ _ _ (by omega)]; exact q2, _, _, by rw [get_set_same], .inr ⟨by simp [ht0], rfl, c, hc, by rw [List.length_append], by rw [get_set_ne _ _ _ (by omega)]; exact q3, by rw [get_set_ne _ _ _ (by omega)]; exact q4⟩⟩
  have htag1 : H1.get (b + 1) = some (.tag 86 4 b) := by rw [ho _ (by omega)]; exact htag
  simp (disch := first | omega | (show allOne _ = true; simp [allOne, Value.oneCell', S]) | (simp only [qz]; first | done | omega)) only [go_sem]
  refine Hwp.seq (Hwp.rows ?_)
  refine HRows.val (v := ptr b 0) (H' := H1) (by simp (disch := first | omega | (show allOne _ = true; simp [allOne, Value.oneCell', S]) | (simp only [qz]; first | done | omega)) only [go_sem]) ?_
  rw [hput_hfr _ _ _ _ (by omega)]
  refine HRows.val (v := ptr b 0) (H' := H1) (by simp (disch := first | omega | (show allOne _ = true; simp [allOne, Value.oneCell', S]) | (simp only [qz]; first | done | omega)) only [go_sem]) ?_
  rw [hput_hfr _ _ _ _ (by omega)]
  refine HRows.val (v := ptr b 0) (H' := H1) (by simp (disch := first | omega | (show allOne _ = true; simp [allOne, Value.oneCell', S]) | (simp only [qz]; first | done | omega)) only [go_sem]) ?_
  rw [hput_hfr _ _ _ _ (by omega)]
  refine HRows.val (v := ptr b 1) (H' := H1) (by simp (disch := first | omega | (show allOne _ = true; simp [allOne, Value.oneCell', S]) | (simp only [qz]; first | done | omega)) only [go_sem]) ?_
  rw [hput_hfr _ _ _ _ (by omega)]
  refine HRows.val (v := sv) (H' := H1) (by simp (disch := first | omega | (show allOne _ = true; simp [allOne, Value.oneCell', S]) | (simp only [qz]; first | done | omega)) only [go_sem, hg1, ldc_cells]) ?_
  rw [hput_hfr _ _ _ _ (by omega)]
  refine HRows.val (v := S t) (H' := H1) (by simp (disch := first | omega | (show allOne _ = true; simp [allOne, Value.oneCell', S]) | (simp only [qz]; first | done | omega)) only [go_sem]) ?_
  rw [hput_hfr _ _ _ _ (by omega)]
  rcases hs with ⟨rfl, rfl, _⟩ | ⟨hs0, _, c, hc, rfl, hgc, htc⟩
  · refine HRows.meet (meet_apT0 (u := 5) (e := ⟨[.int .u8 0], 1, 1⟩) (vs := bytesV t) (m := t.length) rfl (by kernel_rfl) isStr9 (by kernel_rfl) (by simp (disch := first | omega | (show allOne _ = true; simp [allOne, Value.oneCell', S]) | (simp only [qz]; first | done | omega)) only [go_sem]) (by simp (disch := first | omega | (show allOne _ = true; simp [allOne, Value.oneCell', S]) | (simp only [qz]; first | done | omega)) only [go_sem]) (hsource_S _ _) (by omega) (by show t.length * 1 ≤ _; omega) (by omega)) ?_
    rw [hput_hfr _ _ _ _ (by omega)]
    have hx1 := HHeap.push_next H1 (.cells (bytesV t) true)
    have hx2 := HHeap.push_next (H1.push (.cells (bytesV t) true)) (.tag 5 0 H1.next)
    obtain ⟨K, hK⟩ : ∃ K, K = (H1.push (.cells (bytesV t) true)).push (.tag 5 0 H1.next) := ⟨_, rfl⟩
    have hg0 : ∀ x, x < H1.next → K.get x = H1.get x := fun x hx => by rw [hK, get_push_ne _ _ (by omega), get_push_ne _ _ (by omega)]
    have e1 : K.get b = some (.cells [ptr b 0, .slice none 0 0, gv, nv] true) := by rw [hg0 _ (by omega), hg1]
    have e2 : K.get (b + 1) = some (.tag 86 4 b) := by rw [hg0 _ (by omega), htag1]
    have e3 : K.get H1.next = some (.cells (bytesV ([] ++ t)) true) := by rw [hK, get_push_ne _ _ (by omega), get_push_same]; rfl
    have e4 : K.get (H1.next + 1) = some (.tag 5 0 H1.next) := by rw [hK, ← hx1, get_push_same]
    have e5 : Past b H K := ⟨by rw [hK]; omega, fun x hx => by rw [hg0 _ (by omega), ho _ (by omega)]⟩
    rw [← hK]
    clear hK
    have h0 : ([] : List UInt8).length = 0 := rfl
    rw [h0] at hend
    refine HRows.val (v := ptr b 0) (H' := K) (by simp (disch := first | omega | (show allOne _ = true; simp [allOne, Value.oneCell', S]) | (simp only [qz]; first | done | omega)) only [go_sem]) ?_
    rw [hput_hfr _ _ _ _ (by omega)]
    refine HRows.val (v := ptr b 1) (H' := K) (by simp (disch := first | omega | (show allOne _ = true; simp [allOne, Value.oneCell', S]) | (simp only [qz]; first | done | omega)) only [go_sem]) ?_
    rw [hput_hfr _ _ _ _ (by omega)]
    refine HRows.val (v := undef) (H' := K.set b (.cells [ptr b 0, .slice (some ⟨H1.next, 0, some 2⟩) (0 + t.length) (0 + t.length), gv, nv] true)) (by simp (disch := first | omega | (show allOne _ = true; simp [allOne, Value.oneCell', S]) | (simp only [qz]; first | done | omega)) only [go_sem, e1, stc_cells, Nat.zero_add]) ?_
    show HThen _ _ .normal _ _
    rw [HThen_normal]
    refine HW.sound _ _ _ _ ?_
    obtain ⟨q1, q2⟩ := hend H1.next K (by omega) e1 e2 e3 e4 e5
    have := hR _ q2 q1
    simp only [Nat.zero_add] at this
    simp (disch := first | omega | (show allOne _ = true; simp [allOne, Value.oneCell', S]) | (simp only [qz]; first | done | omega)) only [go_sem]
    exact this
  · refine HRows.meet (meet_apT1 (u := 5) (e := ⟨[.int .u8 0], 1, 1⟩) (vs := bytesV t) (m := t.length) (cs := bytesV s) (b := c) (len := s.length) (cap := s.length) (tn := 0) rfl (by kernel_rfl) isStr9 (by kernel_rfl) (by simp (disch := first | omega | (show allOne _ = true; simp [allOne, Value.oneCell', S]) | (simp only [qz]; first | done | omega)) only [go_sem]) (by simp (disch := first | omega | (show allOne _ = true; simp [allOne, Value.oneCell', S]) | (simp only [qz]; first | done | omega)) only [go_sem]) (hsource_S _ _) (by omega) (by show (s.length + t.length) * 1 ≤ _; omega) (by omega) (by rw [ho _ (by omega)]; exact hgc) (by rw [ho _ (by omega)]; exact htc) (by rw [bytesV_len]; show s.length * 1 ≤ _; omega) (by omega)) ?_
    rw [hput_hfr _ _ _ _ (by omega)]
    have hcn : c + 1 < H.next := hok _ _ htc
    have hx1 := HHeap.push_next (H1.kill c) (.cells (bytesV (s ++ t)) true)
    have hx0 := HHeap.kill_next H1 c
    have hcs : (bytesV s).take (s.length * 1) ++ bytesV t = bytesV (s ++ t) := by rw [bytesV_append, List.take_of_length_le (by rw [bytesV_len]; omega)]
    obtain ⟨K, hK⟩ : ∃ K, K = ((H1.kill c).push (.cells (bytesV (s ++ t)) true)).push (.tag 5 0 H1.next) := ⟨_, rfl⟩
    have hx2 := HHeap.push_next ((H1.kill c).push (.cells (bytesV (s ++ t)) true)) (.tag 5 0 H1.next)
    have hg0 : ∀ x, x < H1.next → x ≠ c → K.get x = H1.get x := fun x hx hc => by rw [hK, get_push_ne _ _ (by omega), get_push_ne _ _ (by omega), get_kill_ne _ _ hc]
    have e1 : K.get b = some (.cells [ptr b 0, .slice (some ⟨c, 0, some 2⟩) s.length s.length, gv, nv] true) := by rw [hg0 _ (by omega) (by omega), hg1]
    have e2 : K.get (b + 1) = some (.tag 86 4 b) := by rw [hg0 _ (by omega) (by omega), htag1]
    have e3 : K.get H1.next = some (.cells (bytesV (s ++ t)) true) := by rw [hK, get_push_ne _ _ (by omega), ← hx0, get_push_same]
    have e4 : K.get (H1.next + 1) = some (.tag 5 0 H1.next) := by rw [hK, ← hx0, ← hx1, get_push_same]
    have e5 : Past b H K := ⟨by rw [hK]; omega, fun x hx => by rw [hg0 _ (by omega) (by omega), ho _ (by omega)]⟩
    rw [show (⟨[.int .u8 0], 1, 1⟩ : Elem).size = 1 from rfl, hcs, ← hK]
    clear hK
    refine HRows.val (v := ptr b 0) (H' := K) (by simp (disch := first | omega | (show allOne _ = true; simp [allOne, Value.oneCell', S]) | (simp only [qz]; first | done | omega)) only [go_sem]) ?_
    rw [hput_hfr _ _ _ _ (by omega)]
    refine HRows.val (v := ptr b 1) (H' := K) (by simp (disch := first | omega | (show allOne _ = true; simp [allOne, Value.oneCell', S]) | (simp only [qz]; first | done | omega)) only [go_sem]) ?_
    rw [hput_hfr _ _ _ _ (by omega)]
    refine HRows.val (v := undef) (H' := K.set b (.cells [ptr b 0, .slice (some ⟨H1.next, 0, some 2⟩) (s.length + t.length) (s.length + t.length), gv, nv] true)) (by simp (disch := first | omega | (show allOne _ = true; simp [allOne, Value.oneCell', S]) | (simp only [qz]; first | done | omega)) only [go_sem, e1, stc_cells]) ?_
    show HThen _ _ .normal _ _
    rw [HThen_normal]
    refine HW.sound _ _ _ _ ?_
    obtain ⟨q1, q2⟩ := hend H1.next K (by omega) e1 e2 e3 e4 e5
    have := hR _ q2 q1
    simp (disch := first | omega | (show allOne _ = true; simp [allOne, Value.oneCell', S]) | (simp only [qz]; first | done | omega)) only [go_sem]
    exact this
end Go.HL
