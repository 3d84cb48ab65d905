/-
  A high level over the model, part 11: the rule for a row whose order is drawn.
-/
import Derived.Test.YtaghhialaplgoaaGreatDoorPFH10
set_option linter.unusedVariables false
set_option linter.unusedSimpArgs false
namespace Go.HL
set_option linter.unusedSimpArgs false
set_option linter.unusedVariables false
open Go.RowKit

variable {P : Program} {D : List Deferred}

/-- Which operations must be ahead of each, by their places, as bits. -/
def ancMasks (ops : Array Oper) : List Nat :=
  ops.toList.foldl (fun acc o => acc ++ [o.after.toList.foldl (fun m e => if Region.binds .any e ∧ e.on < acc.length then m ||| 2 ^ e.on ||| acc.getD e.on 0 else m) 0]) []

def anc (ms : List Nat) (i k : Nat) : Bool := (ms.getD k 0).testBit i

/-- Each bit comes of an edge. -/
def ancOk (ops : Array Oper) (ms : List Nat) : Bool :=
  (List.range ops.size).all fun k => (List.range ops.size).all fun i => !anc ms i k ||
    (match ops[k]? with | some o => o.after.toList.any fun e => Region.binds .any e && decide (e.on < k) && (e.on == i || anc ms i e.on) | none => false)

/-- Two operations that share a slot are in one order. -/
def pairOk (ops : Array Oper) (ms : List Nat) (i k : Nat) : Bool :=
  match ops[i]?, ops[k]? with
  | some oi, some ok => Oper.apart ops oi ok || anc ms i k || anc ms k i
  | _, _ => false

def pairsOk (ops : Array Oper) (ms : List Nat) : Bool :=
  (List.range ops.size).all fun i => (List.range ops.size).all fun k => i == k || pairOk ops ms i k

/-- How a row is walked: what is quiet as soon as it may be; of what writes, each that may be next. -/
inductive WT where
  | done
  | op (i : Nat) (t : WT)
  | eff (i : Nat) (t other : WT)
  | stop

/-- May an operation be next? -/
def nextOk (ops : Array Oper) (walked : List Nat) (i : Nat) : Bool :=
  !walked.contains i && match ops[i]? with
    | some o => o.after.toList.all fun e => !Region.binds .any e || walked.contains e.on
    | none => false

def isQuiet (ops : Array Oper) (i : Nat) : Bool :=
  match ops[i]? with
  | some o => quiet o.op
  | none => false

/-- The operations that are next of an alternative. -/
def WT.alts : WT → List Nat
  | .eff i _ other => i :: other.alts
  | _ => []

/-- A way of walking that leaves nothing out. (whole: it isn't the tail of an alternative.) -/
def wtOk (ops : Array Oper) : Bool → List Nat → WT → Bool
  | whole, walked, .done => whole && (List.range ops.size).all fun i => walked.contains i
  | whole, walked, .op i t => whole && nextOk ops walked i && isQuiet ops i && wtOk ops true (walked ++ [i]) t
  | whole, walked, .eff i t other => nextOk ops walked i && !isQuiet ops i && wtOk ops true (walked ++ [i]) t && wtOk ops false walked other &&
      (!whole || (List.range ops.size).all fun k => !nextOk ops walked k || (i :: other.alts).contains k)
  | whole, _, .stop => !whole

def orderOk (ops : Array Oper) (ms : List Nat) (t : WT) : Bool := ancOk ops ms && pairsOk ops ms && wtOk ops true [] t

/-- What was read, and may be read later. -/
structure Late where
  idx : Nat
  o : Oper
  fr : HFrame
  v : Value

def LateOk (P : Program) (ms : List Nat) (k : Nat) (H : HHeap) : List Late → Prop
  | [] => True
  | l :: ls => (anc ms l.idx k = true ∨ hop P l.fr H l.o.op = some (l.v, H)) ∧ LateOk P ms k H ls

theorem LateOk.mem {ms : List Nat} {k : Nat} {H : HHeap} {l : Late} : ∀ (ls : List Late), LateOk P ms k H ls → l ∈ ls → anc ms l.idx k = true ∨ hop P l.fr H l.o.op = some (l.v, H) := by
  intro ls
  induction ls with
  | nil => intro _ h; simp at h
  | cons x ls ih =>
    intro h hm
    rcases List.mem_cons.1 hm with rfl | hm
    · exact h.1
    · exact ih h.2 hm

/-- One operation that is quiet. -/
def HStepQ (P : Program) (ops : Array Oper) (i : Nat) (late : List Late) (fr : HFrame) (H : HHeap) (next : List Late → HFrame → HHeap → Prop) : Prop :=
  match ops[i]? with
  | none => False
  | some o =>
    match hwanted ops fr o with
    | some false => next late (hput fr o.dst undef) H
    | some true =>
      (match hop P fr H o.op with
       | some (v, _) => next (if reads o.op then ⟨i, o, fr, v⟩ :: late else late) (hput fr o.dst v) H
       | none => False)
    | none => False

/-- One that is not. -/
def HStepE (P : Program) (ops : Array Oper) (ms : List Nat) (i : Nat) (late : List Late) (fr : HFrame) (H : HHeap) (next : List Late → HFrame → HHeap → Prop) : Prop :=
  match ops[i]? with
  | none => False
  | some o =>
    match hwanted ops fr o with
    | some false => next late (hput fr o.dst undef) H
    | some true =>
      (match hcallee P fr o.op with
       | some (f, args) => HCalls P f args H fun v H' => LateOk P ms i H' late ∧ next late (hput fr o.dst v) H'
       | none =>
         match hop P fr H o.op with
         | some (v, H') => LateOk P ms i H' late ∧ next late (hput fr o.dst v) H'
         | none => False)
    | none => False

/-- A row, walked so. -/
def HDraw (P : Program) (ops : Array Oper) (ms : List Nat) (K : HFrame → HHeap → Prop) : WT → List Late → HFrame → HHeap → Prop
  | .done, _, fr, H => K fr H
  | .op i t, late, fr, H => HStepQ P ops i late fr H (HDraw P ops ms K t)
  | .eff i t other, late, fr, H => HStepE P ops ms i late fr H (HDraw P ops ms K t) ∧ HDraw P ops ms K other late fr H
  | .stop, _, _, _ => True

/-- What has been walked: the operation, the frame ahead of it, whether it was wanted, its value. -/
structure Ent where
  idx : Nat
  o : Oper
  fr : HFrame
  on : Bool
  v : Value

/-- The frame behind those of a row that are there. -/
def runS (S : Nat → Bool) : List Ent → HFrame → HFrame
  | [], fr => fr
  | t :: T, fr => runS S T (if S t.idx then hput fr t.o.dst t.v else fr)

theorem hput_size (fr : HFrame) (d : Option Tmp) (v : Value) : (hput fr d v).size = fr.size := by
  cases d with
  | none => rfl
  | some d => simp only [hput]; split <;> rfl

theorem runS_append (S : Nat → Bool) : ∀ (T U : List Ent) (fr : HFrame), runS S (T ++ U) fr = runS S U (runS S T fr)
  | [], _, _ => rfl
  | t :: T, U, fr => runS_append S T U _

theorem hput_other {fr : HFrame} {d : Option Tmp} {v : Value} {t : Nat} (h : d ≠ some t) : (hput fr d v).get t = fr.get t := by
  cases d with
  | none => rfl
  | some d =>
    simp only [hput]
    split
    · simp only; rw [if_neg]; intro e; exact h (by rw [e])
    · rfl

theorem hput_same {fr fr' : HFrame} {t : Nat} {v : Value} (h : fr.get t = fr'.get t) (hs : fr.size = fr'.size) : (hput fr (some t) v).get t = (hput fr' (some t) v).get t := by
  simp only [hput, hs]
  split
  · simp
  · exact h

theorem hput_comm {fr : HFrame} {d u : Nat} {v x : Value} (h : u ≠ d) : hput (hput fr (some d) v) (some u) x = hput (hput fr (some u) x) (some d) v := by
  simp only [hput]
  by_cases hd : d < fr.size <;> by_cases hu : u < fr.size <;> simp only [hd, hu, if_true, if_false]
  congr 1
  funext t
  by_cases h1 : t = d
  · subst h1; simp [Ne.symm h]
  · simp [h1]

/-- Two rows' frames agree at a slot that none of the operations, of which they speak differently, writes. -/
theorem runS_agree {S S' : Nat → Bool} {t : Nat} : ∀ (T : List Ent) (fr fr' : HFrame), fr.get t = fr'.get t → fr.size = fr'.size → (∀ x ∈ T, x.o.dst = some t → S x.idx = S' x.idx) → (runS S T fr).get t = (runS S' T fr').get t
  | [], _, _, h, _, _ => h
  | x :: T, fr, fr', h, hl, hs => by
    rw [runS, runS]
    refine runS_agree T _ _ ?_ ?_ (fun y hy => hs y (by simp [hy]))
    · by_cases hd : x.o.dst = some t
      · rw [hs x (by simp) hd]
        split
        · rw [hd]; exact hput_same h hl
        · exact h
      · split <;> split <;> simp [hput_other hd, h]
    · split <;> split <;> simp [hput_size, hl]

theorem runS_all {S : Nat → Bool} : ∀ (T : List Ent) (fr : HFrame), (∀ x ∈ T, S x.idx = true) → runS S T fr = runS (fun _ => true) T fr
  | [], _, _ => rfl
  | x :: T, fr, h => by rw [runS, runS, h x (by simp), runS_all T _ (fun y hy => h y (by simp [hy]))]

theorem runS_none {S : Nat → Bool} : ∀ (T : List Ent) (fr : HFrame), (∀ x ∈ T, S x.idx = false) → runS S T fr = fr
  | [], _, _ => rfl
  | x :: T, fr, h => by rw [runS, h x (by simp)]; exact runS_none T _ (fun y hy => h y (by simp [hy]))

theorem runS_congr {S S' : Nat → Bool} : ∀ (T : List Ent) (fr : HFrame), (∀ x ∈ T, S x.idx = S' x.idx) → runS S T fr = runS S' T fr
  | [], _, _ => rfl
  | x :: T, fr, h => by rw [runS, runS, h x (by simp), runS_congr T _ (fun y hy => h y (by simp [hy]))]

/-- A write that nothing behind it writes over may come last. -/
theorem runS_last {S : Nat → Bool} {d : Option Tmp} {v : Value} : ∀ (T : List Ent) (fr : HFrame), (∀ x ∈ T, S x.idx = true → ∀ t, d = some t → x.o.dst ≠ some t) → runS S T (hput fr d v) = hput (runS S T fr) d v
  | [], _, _ => rfl
  | x :: T, fr, h => by
    rw [runS, runS]
    by_cases hx : S x.idx = true
    · rw [if_pos hx, if_pos hx]
      have hc : hput (hput fr d v) x.o.dst x.v = hput (hput fr x.o.dst x.v) d v := by
        cases d with
        | none => rfl
        | some t =>
          cases hxd : x.o.dst with
          | none => rfl
          | some u =>
            have : u ≠ t := fun e => h x (by simp) hx t rfl (by rw [hxd, e])
            exact hput_comm this
      rw [hc]
      exact runS_last T _ (fun y hy => h y (by simp [hy]))
    · rw [if_neg hx, if_neg hx]
      exact runS_last T _ (fun y hy => h y (by simp [hy]))

/-- What an operation looks at, by frames. -/
theorem looks_congr {ops : Array Oper} {o : Oper} {fr fr' : HFrame} (h : ∀ t, t ∈ o.looksAt ops → fr.get t = fr'.get t) :
    (∀ x ∈ o.op.operands, hev fr x = hev fr' x) ∧ hwanted ops fr o = hwanted ops fr' o := by
  constructor
  · intro x hx
    cases x with
    | tmp t =>
      simp only [hev]
      refine h t ?_
      simp only [Oper.looksAt, List.mem_append, List.mem_filterMap]
      exact .inl ⟨.tmp t, by simpa using hx, rfl⟩
    | _ => rfl
  · unfold hwanted
    cases hg : o.guard with
    | none => rfl
    | some g =>
      obtain ⟨j, want⟩ := g
      simp only
      cases hd : (ops[j]?).bind (·.dst) with
      | none => rfl
      | some d =>
        have : fr.get d = fr'.get d := h d (by simp [Oper.looksAt, hg, hd])
        simp only [Option.bind_some, this]

section static
variable {ops : Array Oper} {ms : List Nat} {c : List Nat}

/-- What is closed under the edges holds what must be ahead. -/
theorem anc_closed (h : ancOk ops ms = true) (S : Nat → Prop) (hS : ∀ k o, S k → ops[k]? = some o → ∀ e ∈ o.after.toList, Region.binds .any e = true → S e.on) :
    ∀ (k i : Nat), k < ops.size → i < ops.size → anc ms i k = true → (∀ o, ops[k]? = some o → ∀ e ∈ o.after.toList, Region.binds .any e = true → S e.on) → S i := by
  intro k
  induction k using Nat.strongRecOn with
  | _ k ih =>
    intro i hk hi ha hedge
    unfold ancOk at h
    rw [List.all_eq_true] at h
    have h1 := h k (by simpa using hk)
    rw [List.all_eq_true] at h1
    have h2 := h1 i (by simpa using hi)
    rw [ha] at h2
    simp only [Bool.not_true, Bool.false_or] at h2
    split at h2
    · rename_i o ho
      rw [List.any_eq_true] at h2
      obtain ⟨e, he, h2⟩ := h2
      simp only [Bool.and_eq_true, Bool.or_eq_true, decide_eq_true_eq, beq_iff_eq] at h2
      obtain ⟨⟨hb, hlt⟩, h3⟩ := h2
      have hSe := hedge o ho e he hb
      rcases h3 with h3 | h3
      · rw [← h3]; exact hSe
      · exact ih e.on hlt i (by omega) hi h3 (fun o' ho' => hS e.on o' hSe ho')
    · cases h2

theorem pairOk_spec (h : pairsOk ops ms = true) {i k : Nat} {oi ok : Oper} (hne : i ≠ k) (hi : ops[i]? = some oi) (hk : ops[k]? = some ok) : Oper.apart ops oi ok = true ∨ anc ms i k = true ∨ anc ms k i = true := by
  unfold pairsOk at h
  rw [List.all_eq_true] at h
  have h1 := h i (by simpa using (Array.getElem?_eq_some_iff.1 hi).1)
  rw [List.all_eq_true] at h1
  have h2 := h1 k (by simpa using (Array.getElem?_eq_some_iff.1 hk).1)
  simp only [Bool.or_eq_true, beq_iff_eq, hne, false_or, pairOk, hi, hk] at h2
  rcases h2 with (h2 | h2) | h2
  · exact .inl h2
  · exact .inr (.inl h2)
  · exact .inr (.inr h2)

theorem nextOk_spec {walked : List Nat} {i : Nat} (h : nextOk ops walked i = true) : i ∉ walked ∧ ∃ o, ops[i]? = some o ∧ ∀ e ∈ o.after.toList, Region.binds .any e = true → e.on ∈ walked := by
  unfold nextOk at h
  simp only [Bool.and_eq_true, Bool.not_eq_true', List.contains_eq_mem, decide_eq_false_iff_not] at h
  refine ⟨h.1, ?_⟩
  split at h
  · rename_i o ho
    refine ⟨o, ho, fun e he hb => ?_⟩
    have := List.all_eq_true.1 h.2 e he
    simpa [hb] using this
  · cases h.2

theorem nextOk_of {walked : List Nat} {i : Nat} {o : Oper} (hn : i ∉ walked) (ho : ops[i]? = some o) (h : ∀ e ∈ o.after.toList, Region.binds .any e = true → e.on ∈ walked) : nextOk ops walked i = true := by
  unfold nextOk
  simp only [ho, Bool.and_eq_true, Bool.not_eq_true', List.contains_eq_mem, decide_eq_false_iff_not]
  refine ⟨hn, List.all_eq_true.2 fun e he => ?_⟩
  cases hb : Region.binds .any e with
  | false => rfl
  | true => simpa using h e he hb
end static

/-- What is known of what was walked. -/
structure EntOk (P : Program) (ops : Array Oper) (fr0 : HFrame) (T1 : List Ent) (t : Ent) : Prop where
  op : ops[t.idx]? = some t.o
  fr : t.fr = runS (fun _ => true) T1 fr0
  wanted : hwanted ops t.fr t.o = some t.on
  off : t.on = false → t.v = undef

/-- How it stands within a drawn row: what is listed, what was walked, what is left to be walked. -/
structure Inv (P : Program) (ops : Array Oper) (ms : List Nat) (K : HFrame → HHeap → Prop) (D : List Deferred) (B : Nat) (μ0 : Mu) (H0 : HHeap) (w0 : World) (fr0 : HFrame)
    (S : Nat → Bool) (T : List Ent) (tree : WT) (late : List Late) (H : HHeap) (μ : Mu) (w : World) (a : Act) : Prop where
  ok : wtOk ops true (T.map (·.idx)) tree = true
  walk : HDraw P ops ms K tree late (runS (fun _ => true) T fr0) H
  head : ∀ i t, tree ≠ .op i t
  inT : ∀ i, S i = true → i ∈ T.map (·.idx)
  closed : ∀ k o, S k = true → ops[k]? = some o → ∀ e ∈ o.after.toList, Region.binds .any e = true → S e.on = true
  nodup : (T.map (·.idx)).Nodup
  ents : ∀ T1 t T2, T = T1 ++ t :: T2 → EntOk P ops fr0 T1 t ∧ (∀ e ∈ t.o.after.toList, Region.binds .any e = true → e.on ∈ T1.map (·.idx)) ∧
    (S t.idx = false → quiet t.o.op = true ∧ (t.on = true → hop P t.fr H t.o.op = some (t.v, H) ∧ (reads t.o.op = true → (⟨t.idx, t.o, t.fr, t.v⟩ : Late) ∈ late)))
  frame : FRel D μ (runS S T fr0) a
  step : Step B μ0 H0 w0 μ H w

/-- All that is quiet is walked at once. -/
theorem advance {ops : Array Oper} {ms : List Nat} {K : HFrame → HHeap → Prop} {H : HHeap} : ∀ (tree : WT) (walked : List Nat) (late : List Late) (fr : HFrame), walked.Nodup → wtOk ops true walked tree = true → HDraw P ops ms K tree late fr H →
    ∃ (T : List Ent) (tree' : WT) (late' : List Late), wtOk ops true (walked ++ T.map (·.idx)) tree' = true ∧ HDraw P ops ms K tree' late' (runS (fun _ => true) T fr) H ∧ (∀ i t, tree' ≠ .op i t) ∧
      (∀ l ∈ late, l ∈ late') ∧ (walked ++ T.map (·.idx)).Nodup ∧ ∀ T1 t T2, T = T1 ++ t :: T2 → EntOk P ops fr T1 t ∧ (∀ e ∈ t.o.after.toList, Region.binds .any e = true → e.on ∈ walked ++ T1.map (·.idx)) ∧ quiet t.o.op = true ∧
        (t.on = true → hop P t.fr H t.o.op = some (t.v, H) ∧ (reads t.o.op = true → (⟨t.idx, t.o, t.fr, t.v⟩ : Late) ∈ late')) := by
  intro tree
  induction tree with
  | op i t ih =>
    intro walked late fr hnd hok h
    simp only [wtOk, Bool.and_eq_true, Bool.true_and] at hok
    obtain ⟨⟨hnext, hq⟩, hok⟩ := hok
    obtain ⟨hni, o, ho, hedge⟩ := nextOk_spec hnext
    have hq' : quiet o.op = true := by simpa [isQuiet, ho] using hq
    have hnd' : (walked ++ [i]).Nodup := List.nodup_append.2 ⟨hnd, by simp, fun a ha b hb => by simp at hb; subst hb; exact fun e => hni (by rw [← e]; exact ha)⟩
    simp only [HDraw, HStepQ, ho] at h
    have cont : ∀ (on : Bool) (v : Value) (late1 : List Late), hwanted ops fr o = some on → (on = false → v = undef) → (∀ l ∈ late, l ∈ late1) → (on = true → hop P fr H o.op = some (v, H) ∧ (reads o.op = true → (⟨i, o, fr, v⟩ : Late) ∈ late1)) →
        HDraw P ops ms K t late1 (hput fr o.dst v) H →
        ∃ (T : List Ent) (tree' : WT) (late' : List Late), wtOk ops true (walked ++ T.map (·.idx)) tree' = true ∧ HDraw P ops ms K tree' late' (runS (fun _ => true) T fr) H ∧ (∀ i t, tree' ≠ .op i t) ∧
          (∀ l ∈ late, l ∈ late') ∧ (walked ++ T.map (·.idx)).Nodup ∧ ∀ T1 t T2, T = T1 ++ t :: T2 → EntOk P ops fr T1 t ∧ (∀ e ∈ t.o.after.toList, Region.binds .any e = true → e.on ∈ walked ++ T1.map (·.idx)) ∧ quiet t.o.op = true ∧
            (t.on = true → hop P t.fr H t.o.op = some (t.v, H) ∧ (reads t.o.op = true → (⟨t.idx, t.o, t.fr, t.v⟩ : Late) ∈ late')) := by
      intro on v late1 hw hoff hsub hon hd
      obtain ⟨T, tree', late', e1, e2, e3, e4, e6, e5⟩ := ih (walked ++ [i]) late1 _ hnd' hok hd
      refine ⟨⟨i, o, fr, on, v⟩ :: T, tree', late', by simpa using e1, e2, e3, fun l hl => e4 l (hsub l hl), by simpa using e6, ?_⟩
      intro T1 u T2 hT
      cases T1 with
      | nil =>
        simp only [List.nil_append, List.cons.injEq] at hT
        obtain ⟨rfl, rfl⟩ := hT
        exact ⟨⟨ho, rfl, hw, hoff⟩, by simpa using hedge, hq', fun h => ⟨(hon h).1, fun hr => e4 _ ((hon h).2 hr)⟩⟩
      | cons x T1 =>
        simp only [List.cons_append, List.cons.injEq] at hT
        obtain ⟨rfl, rfl⟩ := hT
        obtain ⟨k1, k4, k2, k3⟩ := e5 T1 u T2 rfl
        exact ⟨⟨k1.op, k1.fr, k1.wanted, k1.off⟩, by simpa using k4, k2, k3⟩
    split at h
    · rename_i hw
      exact cont false undef late hw (fun _ => rfl) (fun _ h => h) (by simp) h
    · rename_i hw
      split at h
      · rename_i v H1 hv
        have := quiet_same hq' hv
        subst this
        refine cont true v _ hw (by simp) ?_ (fun _ => ⟨hv, ?_⟩) h
        · intro l hl; split
          · exact List.mem_cons_of_mem _ hl
          · exact hl
        · intro hr; rw [if_pos hr]; exact List.mem_cons_self
      · exact h.elim
    · exact h.elim
  | _ =>
    intro walked late fr hnd hok h
    exact ⟨[], _, late, by simpa using hok, h, by simp, fun _ h => h, by simpa using hnd, by simp⟩

section main
variable {ops : Array Oper} {ms : List Nat} {K : HFrame → HHeap → Prop} {B : Nat} {μ0 : Mu} {H0 : HHeap} {w0 : World} {fr0 : HFrame}

theorem apart_looks {x y : Oper} {s : Nat} (h : x.dst = some s) (hl : s ∈ y.looksAt ops) : Oper.apart ops x y = false := by
  cases hh : Oper.apart ops x y with
  | false => rfl
  | true => exact absurd hl ((Oper.apart_spec hh).1 s h)
theorem apart_looks' {x y : Oper} {s : Nat} (h : y.dst = some s) (hl : s ∈ x.looksAt ops) : Oper.apart ops x y = false := by
  cases hh : Oper.apart ops x y with
  | false => rfl
  | true => exact absurd hl ((Oper.apart_spec hh).2.2 s h)
theorem apart_dst {x y : Oper} {s : Nat} (h : x.dst = some s) (hl : y.dst = some s) : Oper.apart ops x y = false := by
  cases hh : Oper.apart ops x y with
  | false => rfl
  | true => exact absurd hl ((Oper.apart_spec hh).2.1 s h)

/-- Of the alternatives each can be had. -/
theorem alt_mem {walked : List Nat} {fr : HFrame} {H : HHeap} {late : List Late} {i : Nat} : ∀ (tree : WT) (b : Bool), wtOk ops b walked tree = true → HDraw P ops ms K tree late fr H → i ∈ tree.alts →
    ∃ t, wtOk ops true (walked ++ [i]) t = true ∧ isQuiet ops i = false ∧ HStepE P ops ms i late fr H (HDraw P ops ms K t) := by
  intro tree
  induction tree with
  | eff j t other _ ih =>
    intro b hok h hi
    simp only [wtOk, Bool.and_eq_true, Bool.not_eq_true'] at hok
    obtain ⟨⟨⟨⟨h1, h2⟩, h3⟩, h4⟩, _⟩ := hok
    simp only [WT.alts, List.mem_cons] at hi
    rcases hi with rfl | hi
    · exact ⟨t, h3, h2, h.1⟩
    · exact ih false h4 h.2 hi
  | _ => intro b hok h hi; simp [WT.alts] at hi

/-- Something that is ready is done. -/
theorem Inv.go (hanc : ancOk ops ms = true) (hpairs : pairsOk ops ms = true) {S : Nat → Bool} {T : List Ent} {tree : WT} {late : List Late} {H : HHeap} {μ : Mu} {w : World} {a : Act} (h : Inv P ops ms K D B μ0 H0 w0 fr0 S T tree late H μ w a)
    {i : Nat} {o : Oper} (hi : S i = false) (ho : ops[i]? = some o) (hedge : ∀ e ∈ o.after.toList, Region.binds .any e = true → S e.on = true) {Qr : Exit → Act → World → Prop} {next : Act → World → Prop}
    (hnext : ∀ T' tree' late' H' μ' w' a', Inv P ops ms K D B μ0 H0 w0 fr0 (fun k => S k || k == i) T' tree' late' H' μ' w' a' → next a' w') :
    if Region.wanted o (yielded ops a.tmps) then o.wp P a w next Qr else next (a.put o.dst undef) w := by
  have hin : i < ops.size := (Array.getElem?_eq_some_iff.1 ho).1
  have ancS : ∀ j, j < ops.size → anc ms j i = true → S j = true := fun j hj ha =>
    anc_closed hanc (fun k => S k = true) (fun k o' hk ho' e he hb => h.closed k o' hk ho' e he hb) i j hin hj ha (fun o' ho' e he hb => by rw [ho] at ho'; cases ho'; exact hedge e he hb)
  have ancIn : ∀ k j, k < ops.size → j < ops.size → S k = true → anc ms j k = true → S j = true := fun k j hk hj hS ha =>
    anc_closed hanc (fun k => S k = true) (fun k o' hk ho' e he hb => h.closed k o' hk ho' e he hb) k j hk hj ha (fun o' ho' e he hb => h.closed k o' hS ho' e he hb)
  have Tlt : ∀ x ∈ T, x.idx < ops.size ∧ ops[x.idx]? = some x.o := fun x hx => by
    obtain ⟨T1, T2, hT⟩ := List.append_of_mem hx
    have := (h.ents T1 x T2 hT).1.op
    exact ⟨(Array.getElem?_eq_some_iff.1 this).1, this⟩
  -- what must be ahead of something that was walked was walked ahead of it
  have ancT : ∀ T1 t T2, T = T1 ++ t :: T2 → ∀ j, j < ops.size → anc ms j t.idx = true → j ∈ T1.map (·.idx) := by
    intro T1 t T2 hT j hj ha
    obtain ⟨hE, hed, _⟩ := h.ents T1 t T2 hT
    refine anc_closed hanc (fun k => k ∈ T1.map (·.idx)) ?_ t.idx j (Array.getElem?_eq_some_iff.1 hE.op).1 hj ha (fun o' ho' e he hb => ?_)
    · intro k o' hk ho' e he hb
      obtain ⟨x, hx, rfl⟩ := List.mem_map.1 hk
      obtain ⟨U1, U2, hU⟩ := List.append_of_mem hx
      have hT' : T = U1 ++ x :: (U2 ++ t :: T2) := by rw [hT, hU]; simp
      obtain ⟨hE', hed', _⟩ := h.ents U1 x _ hT'
      have : o' = x.o := by have := hE'.op; rw [ho'] at this; exact (Option.some.inj this)
      subst this
      have := hed' e he hb
      rw [hU]; simp at this ⊢; exact .inl this
    · have : o' = t.o := by have := hE.op; rw [ho'] at this; exact (Option.some.inj this)
      subst this; exact hed e he hb
  have hclosed' : ∀ k o', (S k || k == i) = true → ops[k]? = some o' → ∀ e ∈ o'.after.toList, Region.binds .any e = true → (S e.on || e.on == i) = true := by
    intro k o' hk ho' e he hb
    simp only [Bool.or_eq_true, beq_iff_eq] at hk ⊢
    rcases hk with hk | rfl
    · exact .inl (h.closed k o' hk ho' e he hb)
    · rw [ho] at ho'; cases ho'; exact .inl (hedge e he hb)
  by_cases hiT : i ∈ T.map (·.idx)
  · -- something quiet that was walked already
    obtain ⟨t, ht, hti⟩ := List.mem_map.1 hiT
    obtain ⟨T1, T2, hT⟩ := List.append_of_mem ht
    obtain ⟨hE, hEd, hU⟩ := h.ents T1 t T2 hT
    have hto : t.o = o := by have := hE.op; rw [hti, ho] at this; exact (Option.some.inj this).symm
    subst hti
    obtain ⟨hq, hhop⟩ := hU hi
    have hnd := h.nodup
    rw [hT] at hnd
    simp only [List.map_append, List.map_cons] at hnd
    have hne1 : ∀ x ∈ T1, x.idx ≠ t.idx := fun x hx e => (List.nodup_append.1 hnd).2.2 x.idx (List.mem_map.2 ⟨x, hx, rfl⟩) t.idx (by simp) e
    have hne2 : ∀ x ∈ T2, x.idx ≠ t.idx := fun x hx e => by
      have := (List.nodup_append.1 hnd).2.1
      rw [List.nodup_cons] at this
      exact this.1 (by rw [← e]; exact List.mem_map.2 ⟨x, hx, rfl⟩)
    have hx1 : ∀ x ∈ T1, x ∈ T := fun x hx => by rw [hT]; simp [hx]
    have hx2 : ∀ x ∈ T2, x ∈ T := fun x hx => by rw [hT]; simp [hx]
    -- conflicts with what was walked ahead, or behind
    have conf1 : ∀ x ∈ T1, Oper.apart ops x.o t.o = false → S x.idx = true := fun x hx hap => by
      have hxo := Tlt x (hx1 x hx)
      rcases pairOk_spec hpairs (hne1 x hx) hxo.2 hE.op with hh | hh | hh
      · rw [hap] at hh; cases hh
      · exact ancS _ hxo.1 hh
      · exfalso
        obtain ⟨U1, U2, hU⟩ := List.append_of_mem hx
        have := ancT U1 x (U2 ++ t :: T2) (by rw [hT, hU]; simp) t.idx hin hh
        obtain ⟨y, hy, hye⟩ := List.mem_map.1 this
        exact hne1 y (by rw [hU]; simp [hy]) hye
    have conf2 : ∀ x ∈ T2, Oper.apart ops t.o x.o = false → S x.idx = false := fun x hx hap => by
      have hxo := Tlt x (hx2 x hx)
      rcases pairOk_spec hpairs (fun e => hne2 x hx e.symm) hE.op hxo.2 with hh | hh | hh
      · rw [hap] at hh; cases hh
      · cases hS : S x.idx with
        | false => rfl
        | true => rw [ancIn x.idx t.idx hxo.1 hin hS hh] at hi; cases hi
      · exfalso
        have := ancT T1 t T2 hT x.idx hxo.1 hh
        exact (List.nodup_append.1 hnd).2.2 x.idx this x.idx (by simp; exact .inr ⟨x, hx, rfl⟩) rfl
    have agree : ∀ s, s ∈ t.o.looksAt ops → (runS S T fr0).get s = t.fr.get s := by
      intro s hs
      rw [hE.fr, hT, runS_append]
      have e1 : (runS S T1 fr0).get s = (runS (fun _ => true) T1 fr0).get s := runS_agree T1 _ _ rfl rfl (fun x hx hd => conf1 x hx (apart_looks hd hs))
      rw [← e1]
      have e2 := runS_agree (S := S) (S' := fun _ => false) (t := s) (t :: T2) (runS S T1 fr0) (runS S T1 fr0) rfl rfl (fun x hx hd => by
        rcases List.mem_cons.1 hx with rfl | hx
        · exact hi
        · exact conf2 x hx (apart_looks' hd hs))
      rw [e2, runS_none _ _ (fun _ _ => rfl)]
    obtain ⟨c1, c2⟩ := looks_congr (ops := ops) agree
    have hrun : runS (fun k => S k || k == t.idx) T fr0 = hput (runS S T fr0) t.o.dst t.v := by
      rw [hT, runS_append, runS_append, runS, runS]
      simp only [hi, beq_self_eq_true, Bool.or_true, if_true, Bool.false_eq_true, if_false]
      rw [runS_congr (S := fun k => S k || k == t.idx) (S' := S) T1 fr0 (fun x hx => by simp [hne1 x hx]), runS_congr (S := fun k => S k || k == t.idx) (S' := S) T2 _ (fun x hx => by simp [hne2 x hx])]
      refine runS_last T2 _ (fun x hx hS s hd hxd => ?_)
      rw [conf2 x hx (apart_dst hd hxd)] at hS; cases hS
    have fin : ∀ μ' w' v', Step B μ H w μ' H w' → VRel μ' t.v v' → next (a.put o.dst v') w' := by
      intro μ' w' v' s hv
      refine hnext T tree late H μ' w' _ ⟨h.ok, h.walk, h.head, ?_, hclosed', h.nodup, ?_, ?_, h.step.trans s⟩
      · intro k hk
        simp only [Bool.or_eq_true, beq_iff_eq] at hk
        rcases hk with hk | rfl
        · exact h.inT k hk
        · exact hiT
      · intro U1 u U2 hU
        obtain ⟨k1, k3, k2⟩ := h.ents U1 u U2 hU
        refine ⟨k1, k3, fun hf => k2 ?_⟩
        simp only [Bool.or_eq_false_iff] at hf; exact hf.1
      · rw [hrun, ← hto]
        exact (h.frame.mono s.sub).put _ hv
    have hw : hwanted ops (runS S T fr0) o = some t.on := by rw [← hto, c2]; exact hE.wanted
    rw [wanted_of h.frame hw]
    cases hon : t.on with
    | false =>
      simp only [Bool.false_eq_true, if_false]
      have hv := hE.off hon
      exact fin μ w undef (Step.refl h.step.rel) (by rw [hv]; exact .of_flat rfl)
    | true =>
      simp only [if_true]
      refine oper_wp h.step.rel h.frame (.inl ⟨t.v, H, ?_, fin⟩)
      rw [← hto, hop_congr c1]; exact (hhop hon).1
  · -- what is next to be walked
    have hnx : nextOk ops (T.map (·.idx)) i = true := nextOk_of hiT ho (fun e he hb => h.inT _ (hedge e he hb))
    have hialt : i ∈ tree.alts := by
      have hok := h.ok
      cases htr : tree with
      | done =>
        rw [htr] at hok
        simp only [wtOk, Bool.true_and, List.all_eq_true, List.contains_eq_mem, decide_eq_true_eq] at hok
        exact absurd (hok i (by simpa using hin)) hiT
      | op j t => exact absurd htr (h.head j t)
      | eff j t other =>
        rw [htr] at hok
        simp only [wtOk, Bool.and_eq_true, Bool.not_true, Bool.false_or, List.all_eq_true] at hok
        have := hok.2 i (by simpa using hin)
        rw [hnx] at this
        simpa [WT.alts] using this
      | stop => rw [htr] at hok; simp [wtOk] at hok
    obtain ⟨t, htok, hqn, hstep⟩ := alt_mem tree true h.ok h.walk hialt
    have hq : quiet o.op = false := by simpa [isQuiet, ho] using hqn
    have hneT : ∀ x ∈ T, x.idx ≠ i := fun x hx e => hiT (by rw [← e]; exact List.mem_map.2 ⟨x, hx, rfl⟩)
    have agree : ∀ s, s ∈ o.looksAt ops → (runS S T fr0).get s = (runS (fun _ => true) T fr0).get s := by
      intro s hs
      refine runS_agree T _ _ rfl rfl (fun x hx hd => ?_)
      have hxo := Tlt x hx
      rcases pairOk_spec hpairs (hneT x hx) hxo.2 ho with hap | hap | hap
      · rw [apart_looks hd hs] at hap; cases hap
      · exact ancS _ hxo.1 hap
      · exfalso
        obtain ⟨U1, U2, hU⟩ := List.append_of_mem hx
        have := ancT U1 x U2 hU i hin hap
        obtain ⟨y, hy, hye⟩ := List.mem_map.1 this
        exact hneT y (by rw [hU]; simp [hy]) hye
    obtain ⟨c1, c2⟩ := looks_congr (ops := ops) agree
    have hndi : (T.map (·.idx) ++ [i]).Nodup := List.nodup_append.2 ⟨h.nodup, by simp, fun x hx y hy => by simp at hy; subst hy; exact fun e => hiT (by rw [← e]; exact hx)⟩
    -- behind it: all that is quiet is walked
    have fin : ∀ (on : Bool) (v : Value) (H' : HHeap), hwanted ops (runS (fun _ => true) T fr0) o = some on → (on = false → v = undef) → (H' = H ∨ LateOk P ms i H' late) → HDraw P ops ms K t late (hput (runS (fun _ => true) T fr0) o.dst v) H' →
        ∀ μ' w' v', Step B μ H w μ' H' w' → VRel μ' v v' → next (a.put o.dst v') w' := by
      intro on v H' hw hoff hlate hd μ' w' v' s hv
      obtain ⟨U, tree', late', e1, e2, e3, e4, e6, e5⟩ := advance t (T.map (·.idx) ++ [i]) late _ hndi htok hd
      have hmap : (T ++ ⟨i, o, runS (fun _ => true) T fr0, on, v⟩ :: U).map (·.idx) = T.map (·.idx) ++ [i] ++ U.map (·.idx) := by simp
      have hUne : ∀ x ∈ U, (S x.idx || x.idx == i) = false := by
        intro x hx
        have hd2 := List.nodup_append.1 e6
        have hxm : x.idx ∈ U.map (·.idx) := List.mem_map.2 ⟨x, hx, rfl⟩
        have hxi : x.idx ≠ i := fun e => hd2.2.2 i (by simp) x.idx hxm e.symm
        have hxT : S x.idx = false := by
          cases hS : S x.idx with
          | false => rfl
          | true => exact absurd rfl (hd2.2.2 x.idx (by simp; exact .inl (by simpa using h.inT _ hS)) x.idx hxm)
        simp [hxi, hxT]
      refine hnext (T ++ ⟨i, o, runS (fun _ => true) T fr0, on, v⟩ :: U) tree' late' H' μ' w' _ ⟨by rw [hmap]; exact e1, ?_, e3, ?_, hclosed', by rw [hmap]; exact e6, ?_, ?_, h.step.trans s⟩
      · rw [runS_append]; exact e2
      · intro k hk
        simp only [Bool.or_eq_true, beq_iff_eq] at hk
        rcases hk with hk | rfl
        · have := h.inT k hk; simp at this ⊢; exact .inl this
        · simp
      · intro U1 u U2 hU
        rcases List.append_eq_append_iff.1 hU with ⟨as, hU1, hU2⟩ | ⟨bs, hT1, hU2⟩
        · cases as with
          | nil =>
            simp only [List.nil_append, List.cons.injEq] at hU2
            obtain ⟨rfl, rfl⟩ := hU2
            simp only [List.append_nil] at hU1
            subst hU1
            exact ⟨⟨ho, rfl, hw, hoff⟩, fun e he hb => h.inT _ (hedge e he hb), fun hf => by simp at hf⟩
          | cons x as =>
            simp only [List.cons_append, List.cons.injEq] at hU2
            obtain ⟨rfl, hU2⟩ := hU2
            obtain ⟨k1, k4, k2, k3⟩ := e5 as u U2 hU2
            refine ⟨⟨k1.op, ?_, k1.wanted, k1.off⟩, fun e he hb => ?_, fun _ => ⟨k2, k3⟩⟩
            · rw [hU1, runS_append]; exact k1.fr
            · have := k4 e he hb; rw [hU1]; simp at this ⊢
              rcases this with h1 | h1 | h1
              · exact .inl h1
              · exact .inr (.inl h1)
              · exact .inr (.inr h1)
        · cases bs with
          | nil =>
            simp only [List.nil_append, List.cons.injEq] at hU2
            obtain ⟨rfl, rfl⟩ := hU2
            simp only [List.append_nil] at hT1
            subst hT1
            exact ⟨⟨ho, rfl, hw, hoff⟩, fun e he hb => h.inT _ (hedge e he hb), fun hf => by simp at hf⟩
          | cons x bs =>
            simp only [List.cons_append, List.cons.injEq] at hU2
            obtain ⟨rfl, hU2⟩ := hU2
            obtain ⟨k1, k4, k2⟩ := h.ents U1 u bs hT1
            refine ⟨k1, k4, fun hf => ?_⟩
            simp only [Bool.or_eq_false_iff] at hf
            obtain ⟨q1, q2⟩ := k2 hf.1
            refine ⟨q1, fun hon => ?_⟩
            obtain ⟨q3, q4⟩ := q2 hon
            refine ⟨?_, fun hrd => e4 _ (q4 hrd)⟩
            rcases hlate with rfl | hlate
            · exact q3
            · by_cases hrd : reads u.o.op = true
              · rcases LateOk.mem late hlate (q4 hrd) with hh | hh
                · have hxo := Tlt u (by rw [hT1]; simp)
                  rw [ancS _ hxo.1 hh] at hf; simp at hf
                · exact hh
              · exact quiet_anywhere q1 (by simpa using hrd) q3 H'
      · have hrun : runS (fun k => S k || k == i) (T ++ ⟨i, o, runS (fun _ => true) T fr0, on, v⟩ :: U) fr0 = hput (runS S T fr0) o.dst v := by
          rw [runS_append, runS]
          simp only [beq_self_eq_true, Bool.or_true, if_true]
          rw [runS_none U _ hUne, runS_congr (S := fun k => S k || k == i) (S' := S) T fr0 (fun x hx => by simp [hneT x hx])]
        rw [hrun]
        exact (h.frame.mono s.sub).put _ hv
    simp only [HStepE, ho] at hstep
    split at hstep
    · rename_i hw
      rw [wanted_of h.frame (c2.trans hw)]
      simp only [Bool.false_eq_true, if_false]
      exact fin false undef H hw (fun _ => rfl) (.inl rfl) hstep μ w undef (Step.refl h.step.rel) (.of_flat rfl)
    · rename_i hw
      rw [wanted_of h.frame (c2.trans hw)]
      simp only [if_true]
      split at hstep
      · rename_i f args hcal
        refine oper_wp h.step.rel h.frame (.inr ⟨f, args, _, by rw [hcallee_congr c1]; exact hcal, hstep, ?_⟩)
        rintro v H' μ' w' v' ⟨r1, r2⟩ s hv
        exact fin true v H' hw (by simp) (.inr r1) r2 μ' w' v' s hv
      · split at hstep
        · rename_i v H' hv
          exact oper_wp h.step.rel h.frame (.inl ⟨v, H', by rw [hop_congr c1]; exact hv, fin true v H' hw (by simp) (.inr hstep.1) hstep.2⟩)
        · exact hstep.elim
    · exact hstep.elim

end main
end Go.HL
