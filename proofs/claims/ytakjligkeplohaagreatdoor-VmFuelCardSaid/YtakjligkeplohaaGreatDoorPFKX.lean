/-
  A way to run code on given data inside the kernel: some operations that the high level has no word for.
-/
import Derived.Test.YtakjligkeplohaaGreatDoorPFK5
import Derived.KernelRfl
import Derived.Laws.BytesString
set_option linter.unusedVariables false
set_option linter.unusedSimpArgs false
namespace Go.HL
open Go.RowKit
set_option linter.unusedSimpArgs false
set_option linter.unusedVariables false
set_option maxRecDepth 100000

variable {P : Program}

/-- The model's operation meets this, wherever it is done. -/
def HMeet (P : Program) (fr : HFrame) (H : HHeap) (o : Oper) (v : Value) (H' : HHeap) : Prop :=
  ∀ D B μ w a, Rel B μ H w → FRel D μ fr a → OpMeets P B μ H w ((execOp a.eval o).run P w) v H'
theorem HMeet.of_hop {fr : HFrame} {H H' : HHeap} {o : Oper} {v : Value} (h : hop P fr H o.op = some (v, H')) : HMeet P fr H o v H' :=
  fun D B μ w a hR hf => sim_hop hR hf h

def MeetOk (P : Program) (sz : Nat) (o : Oper) (g : KOp) : Prop :=
  ∀ fr n h k, g fr n h k ≠ .bad → ∃ v n' h', HMeet P (absF sz fr) (absH n h) o v (absH n' h') ∧ g fr n h k = k v n' h'

/-- cap of a row that is nil, or whose spare places are known. -/
noncomputable def kcapV (v : Value) (k : Value → KX) : KX :=
  match v with
  | .slice none 0 0 => k (.int .i64 (.ofNat 0))
  | .slice (some ⟨_, _, none⟩) _ c => k (.int .i64 (.ofNat c))
  | _ => .bad
def isSl (P : Program) (t : TypeId) : Bool := match P.underlying t with | some (.slice _) => true | _ => false
noncomputable def kCap (P : Program) (t : TypeId) (x : Operand) : KOp := Bool.rec kbadOp (fun fr n h k => kev x fr fun v => kcapV v fun v => k v n h) (isSl P t)
theorem kCap_ok (sz : Nat) (o : Oper) (t : TypeId) (x : Operand) (ho : o.op = .call ⟨.builtin .cap, ⟨[x]⟩, ⟨[t]⟩⟩) : MeetOk P sz o (kCap P t x) := by
  unfold kCap
  cases ht : isSl P t with
  | false => exact fun fr n h k hk => absurd rfl hk
  | true =>
    obtain ⟨e, he⟩ : ∃ e, P.underlying t = some (.slice e) := by
      unfold isSl at ht
      split at ht
      · exact ⟨_, ‹_›⟩
      · cases ht
    intro fr n h k hk
    have hk : (kev x fr fun v => kcapV v fun v => k v n h) ≠ .bad := hk
    show ∃ v n' h', _ ∧ (kev x fr fun v => kcapV v fun v => k v n h) = _
    obtain ⟨v, h1, h2⟩ := kev_ok (sz := sz) _ hk
    rw [h2] at hk ⊢
    have key : ∀ c : Nat, (∀ μ v', VRel μ v v' → ∃ a l, v' = .slice a l c) → HMeet P (absF sz fr) (absH n h) o (.int .i64 (.ofNat c)) (absH n h) := by
      intro c hc D B μ w a hR hf
      obtain ⟨ad, l, hv⟩ := hc μ _ (hev_rel hf h1)
      exact ⟨μ, w, _, Step.refl hR, .int _ _, .inl (by simp [execOp, ho, resolve, invoke, builtin, Builtin.cap_, hv, run_underlying he, goInt])⟩
    unfold kcapV at hk ⊢
    split at hk
    · exact ⟨_, n, h, key 0 (fun μ v' hv => by cases hv; exact ⟨_, _, rfl⟩), rfl⟩
    · rename_i b o' l c
      refine ⟨_, n, h, key c (fun μ v' hv => ?_), rfl⟩
      cases hv with
      | slice _ _ _ _ p hp hl => exact ⟨_, _, rfl⟩
      | void _ _ a => exact ⟨_, _, rfl⟩
    · exact absurd rfl hk

/-- Functions without a body that the model does by itself. -/
theorem no_next {fn : Func} {n : String} (h : fn.name = n) (h0 : fn.origin = "") (h1 : (Extern.allNextRows.lookup n).isNone = true) (h2 : (Extern.allNextRows.lookup "").isNone = true) : Extern.findNext fn = none := by
  unfold Extern.findNext
  rw [h, h0]
  simp only [Option.isNone_iff_eq_none] at h1 h2
  simp [h1, h2]
theorem find_row {fn : Func} {n : String} {e : Array Value → Sem Value} (h : fn.name = n) (h1 : (Extern.allGenericRows.lookup n).isNone = true) (h2 : (Extern.allTypedRows.lookup n).isNone = true) (h3 : Extern.allRows.lookup n = some e) : Extern.find fn = some e := by
  unfold Extern.find
  rw [h]
  simp only [Option.isNone_iff_eq_none] at h1 h2
  simp [h1, h2, h3]
def countName : String := "internal/bytealg.CountString"
def indexName : String := "internal/bytealg.IndexByteString"
theorem next0 : (Extern.allNextRows.lookup "").isNone = true := by kernel_rfl
theorem next_count : (Extern.allNextRows.lookup countName).isNone = true := by kernel_rfl
theorem next_index : (Extern.allNextRows.lookup indexName).isNone = true := by kernel_rfl
theorem gen_count : (Extern.allGenericRows.lookup countName).isNone = true := by kernel_rfl
theorem gen_index : (Extern.allGenericRows.lookup indexName).isNone = true := by kernel_rfl
theorem typed_count : (Extern.allTypedRows.lookup countName).isNone = true := by kernel_rfl
theorem typed_index : (Extern.allTypedRows.lookup indexName).isNone = true := by kernel_rfl
theorem row_count : Extern.allRows.lookup countName = some Extern.BytealgCount.count := by kernel_rfl
theorem row_index : Extern.allRows.lookup indexName = some Extern.BytealgIndexByte.indexByte := by kernel_rfl

/-- Which one: 1 counts, 2 looks for a byte. -/
def extKind (P : Program) (g : FuncId) : Nat :=
  match P.funcs[g]? with
  | some fn => if fn.body.isNone ∧ fn.origin = "" then (if fn.name = countName then 1 else if fn.name = indexName then 2 else 0) else 0
  | none => 0
theorem ext_run {fn : Func} {g : FuncId} {e : Array Value → Sem Value} (hf : P.funcs[g]? = some fn) (hb : fn.body.isNone = true) (hn : Extern.findNext fn = none) (he : Extern.find fn = some e) (hname : (fn.name == "runtime.NumGoroutine") = false) (args : Array Value) (w : World) (v : Value) (hv : (e args).run P w = .ok v w) :
    (callFunc g args).run P w = .ok (.value v) w := by
  unfold callFunc
  simp only [Sem.run_bind, program, Sem.run, Result.andThen_ok, hf, hname, Bool.false_eq_true, if_false, hb, if_true, mark, hn, he, Sem.run_pure, hv]
def countOf (s : ByteArray) (c : Int) : Int := s.foldl (fun n x => if x == c.toNat.toUInt8 then n + 1 else n) ((0 : Nat) : Int)
def indexOf (s : ByteArray) (c : Int) : Option Nat := (List.range s.size).find? fun i => s[i]! == c.toNat.toUInt8
theorem run_count (s : ByteArray) (c : Int) (w : World) : (Extern.BytealgCount.count #[.string s, .int .u8 c]).run P w = .ok (.int .i64 (countOf s c)) w := by
  rfl
theorem run_index (s : ByteArray) (c : Int) (w : World) : (Extern.BytealgIndexByte.indexByte #[.string s, .int .u8 c]).run P w = .ok (match indexOf s c with | some i => .int .i64 (.ofNat i) | none => .int .i64 (.negSucc 0)) w := by
  have e : Extern.BytealgIndexByte.indexByte #[.string s, .int .u8 c] = (match indexOf s c with | some i => pure (goInt i) | none => pure (goInt (-1))) := by rfl
  rw [e]
  cases indexOf s c <;> rfl
noncomputable def kExtV (kind : Nat) (vs : List Value) (k : Value → KX) : KX :=
  match kind, vs with
  | 1, [.string s, .int .u8 c] => forceInt (countOf s c) fun z => k (.int .i64 z)
  | 2, [.string s, .int .u8 c] => Option.rec (k (.int .i64 (.negSucc 0))) (fun i => forceNat i fun i => k (.int .i64 (.ofNat i))) (indexOf s c)
  | _, _ => .bad
theorem extKind_spec {g : FuncId} {m : Nat} (h : extKind P g = m) (hm : m ≠ 0) : ∃ fn e, P.funcs[g]? = some fn ∧ fn.body.isNone = true ∧ Extern.findNext fn = none ∧ Extern.find fn = some e ∧ (fn.name == "runtime.NumGoroutine") = false ∧
    (m = 1 → e = Extern.BytealgCount.count) ∧ (m = 2 → e = Extern.BytealgIndexByte.indexByte) := by
  unfold extKind at h
  split at h
  · rename_i fn hf
    split at h
    · rename_i hc
      split at h
      · rename_i hn
        subst h
        exact ⟨fn, _, hf, hc.1, no_next hn hc.2 next_count next0, find_row hn gen_count typed_count row_count, by rw [hn]; rfl, fun _ => rfl, fun h => absurd h (by decide)⟩
      · split at h
        · rename_i hn
          subst h
          exact ⟨fn, _, hf, hc.1, no_next hn hc.2 next_index next0, find_row hn gen_index typed_index row_index, by rw [hn]; rfl, fun h => absurd h (by decide), fun _ => rfl⟩
        · exact absurd h.symm hm
    · exact absurd h.symm hm
  · exact absurd h.symm hm
noncomputable def kExt (kind : Nat) (args : List Operand) : KOp := fun fr n h k => kevs args fr fun vs => kExtV kind vs fun v => k v n h
theorem kExt_ok (sz : Nat) (o : Oper) (g : FuncId) (args : Array Operand) (ts : Array TypeId) (ho : o.op = .call ⟨.value (.func g), args, ts⟩) : MeetOk P sz o (kExt (extKind P g) args.toList) := by
  intro fr n h k hk
  unfold kExt at hk ⊢
  obtain ⟨vs, h1, h2⟩ := kevs_ok (sz := sz) _ _ hk
  rw [h2] at hk ⊢
  have key : ∀ (m : Nat) (v : Value) (s : ByteArray) (c : Int), extKind P g = m → m ≠ 0 → vs = [.string s, .int .u8 c] → flat1 v = true →
      (∀ e : Array Value → Sem Value, ((m = 1 → e = Extern.BytealgCount.count) ∧ (m = 2 → e = Extern.BytealgIndexByte.indexByte)) → ∀ w, (e #[.string s, .int .u8 c]).run P w = .ok v w) → HMeet P (absF sz fr) (absH n h) o v (absH n h) := by
    intro m v s c hm hm0 hvs hfl hrun D B μ w a hR hf
    obtain ⟨fn, e, e1, e2, e3, e4, e5, e6⟩ := extKind_spec hm hm0
    have hargs := hevs_rel hf _ _ h1
    rw [hvs] at hargs
    have ha : args.map a.eval = #[.string s, .int .u8 c] := by
      apply Array.ext'
      have : (args.toList.map a.eval) = [.string s, .int .u8 c] := hargs.flat1_eq (by rfl)
      simpa using this
    refine ⟨μ, w, v, Step.refl hR, .of_flat1 hfl, .inl ?_⟩
    have := ext_run e1 e2 e3 e4 e5 #[.string s, .int .u8 c] w v (hrun e e6 w)
    simp [execOp, ho, resolve, invoke, Act.eval, Deferred.ofValue, ha, this]
  unfold kExtV at hk ⊢
  split at hk
  · rename_i s c hm
    rw [forceInt_eq]
    refine ⟨_, n, h, key 1 _ s c hm (by simp) rfl rfl (fun e he w => ?_), rfl⟩
    rw [he.1 rfl]; exact run_count s c w
  · rename_i s c hm
    cases hi : indexOf s c with
    | none =>
      refine ⟨_, n, h, key 2 (.int .i64 (.negSucc 0)) s c hm (by simp) rfl rfl (fun e he w => ?_), rfl⟩
      rw [he.2 rfl, run_index, hi]
    | some i =>
      simp only [forceNat_eq]
      refine ⟨_, n, h, key 2 (.int .i64 (.ofNat i)) s c hm (by simp) rfl rfl (fun e he w => ?_), rfl⟩
      rw [he.2 rfl, run_index, hi]
  · exact absurd rfl hk

/-- append of so many zeros to nothing. -/
theorem append_make {w : World} {st xt ty u : TypeId} {e : Elem} {kk k : IntKind} (hu : P.underlying st = some (.slice u)) (hd : P.underlying xt = some (.int kk)) (he : helem P u = some e) (hs : 0 < e.size) (m : Nat) (h0 : 0 < m) (hb : m * e.bytes ≤ 1099511627776) (hm : m ≤ 1099511627776) :
    (Builtin.append_ #[st, xt] ty #[.slice none 0 0, .int k m]).run P w = .ok (.slice (some ⟨w.heap.size, 0, none⟩) m (grownCap w m 0 u)) (w.drew.alloc (.cells (Builtin.zeroCells e.zero.toArray m ++ Builtin.zeroCells e.zero.toArray (grownCap w m 0 u - m)) u)) := by
  obtain ⟨i, z, hi, hz, hze, hsz, hby, hf, hzl⟩ := helem_spec he
  have hza : z.cells = e.zero.toArray := by rw [← hze]
  have h63 : ¬ (9223372036854775807 < (m : Int)) := by omega
  have h48 : ¬ (281474976710656 < Builtin.nextslicecap m 0 * e.bytes) := by
    have := growslice_fits (need := m) (old := 0) (bytes := e.bytes) (by omega) (by omega); omega
  have wl := wrap_small (c := (m : Int)) (by omega) (by omega)
  have hneg : ¬ ((m : Int) < 0) := by omega
  have hbi : ¬ (281474976710656 < (m : Int) * (e.bytes : Int)) := by
    have : ((m * e.bytes : Nat) : Int) = (m : Int) * (e.bytes : Int) := by simp
    rw [← this]; omega
  have hms : ¬ (m = 0 ∨ e.size = 0) := by omega
  have hm0 : ¬ m ≤ 0 := by omega
  simp [Builtin.append_, run_underlying hu, run_underlying hd, sizeOf, typeInfo, hi, hsz, zeroValue, hz, h63, h48, hby, Question.forced, newRow, grownCap, hza, asInt, asIntOf, wl, hneg, hbi, hms, hm0, Builtin.firstCells]
  rw [if_neg (by omega), if_neg (by have := Nat.mul_pos h0 hs; omega)]
theorem zeroCells_list (zs : List Value) (n : Nat) (hpos : 0 < zs.length) : (Builtin.zeroCells zs.toArray n).toList = hzeros zs (n * zs.length) := by
  have := zeros_eq zs (n * zs.length) hpos
  unfold Builtin.zeroCells
  simpa using this
noncomputable def kApMake (e : Elem) (s x : Operand) : KOp := fun fr n h k => kev s fr fun s => kev x fr fun x => kapMake e s x n h k
where
  kapMake (e : Elem) (s x : Value) (n : Nat) (h : Tr HObj) (k : Value → Nat → Tr HObj → KX) : KX :=
    match s, x with
    | .slice none 0 0, .int _ (.ofNat m) => Bool.rec .bad (Bool.rec .bad (Bool.rec .bad (klist (hzeros e.zero (m * e.size)) fun cs => kapNew e cs m n h k) (Nat.ble m 1099511627776)) (Nat.ble (m * e.bytes) 1099511627776)) (Nat.ble 1 m)
    | _, _ => .bad
def apElem (P : Program) (st xt : TypeId) : Option Elem :=
  match P.underlying st, P.underlying xt with
  | some (.slice u), some (.int _) => helemPos P u
  | _, _ => none
noncomputable def kAppMake (P : Program) (st xt : TypeId) (s x : Operand) : KOp := match apElem P st xt with | some e => kApMake e s x | none => kbadOp
theorem kAppMake_ok (sz : Nat) (o : Oper) (st xt : TypeId) (s x : Operand) (ho : o.op = .call ⟨.builtin .append, ⟨[s, x]⟩, ⟨[st, xt]⟩⟩) : MeetOk P sz o (kAppMake P st xt s x) := by
  unfold kAppMake
  split
  · rename_i e he
    unfold apElem at he
    split at he
    · rename_i u kk hu hd
      unfold helemPos at he
      split at he
      · rename_i e' hel
        split at he <;> cases he
        rename_i hpos
        intro fr n h k hk
        unfold kApMake at hk ⊢
        obtain ⟨a, h1, h2⟩ := kev_ok (sz := sz) _ hk
        rw [h2] at hk ⊢
        obtain ⟨b, h3, h4⟩ := kev_ok (sz := sz) _ hk
        rw [h4] at hk ⊢
        unfold kApMake.kapMake at hk ⊢
        split at hk
        · rename_i ik m
          cases c1 : Nat.ble 1 m with
          | false => rw [c1] at hk; exact absurd rfl hk
          | true =>
            cases c2 : Nat.ble (m * e.bytes) 1099511627776 with
            | false => rw [c1, c2] at hk; exact absurd rfl hk
            | true =>
              cases c3 : Nat.ble m 1099511627776 with
              | false => rw [c1, c2, c3] at hk; exact absurd rfl hk
              | true =>
                rw [c1, c2, c3] at hk
                simp only [klist_eq] at hk ⊢
                obtain ⟨n', h', h5, h6⟩ := kapNew_ok hk
                refine ⟨_, n', h', ?_, h6⟩
                have d1 := Nat.le_of_ble_eq_true c1
                have d2 := Nat.le_of_ble_eq_true c2
                have d3 := Nat.le_of_ble_eq_true c3
                intro D B μ w ac hR hf
                have r1 := hev_rel hf h1
                have r2 := hev_rel hf h3
                have e1 : ac.eval s = .slice none 0 0 := by generalize ac.eval s = z at r1; cases r1; rfl
                have e2 : ac.eval x = .int ik (.ofNat m) := by generalize ac.eval x = z at r2; cases r2; rfl
                obtain ⟨i, z, hi, hz, hze, hsz, hby, hfl, hzl⟩ := helem_spec hel
                have hpz : 0 < e.zero.length := by omega
                have hflat := hzeros_flat hfl (m * e.size) hpz
                have hge := grownCap_ge w m 0 u
                have st' := hR.drew.allocCells (hzeros e.zero (m * e.size)) (Builtin.zeroCells e.zero.toArray m ++ Builtin.zeroCells e.zero.toArray (grownCap w m 0 u - m)) u
                  (by
                    rw [Array.toList_append, zeroCells_list _ _ hpz, hzl, List.take_left]
                    exact .of_flat1 hflat) (allFlat_one hflat)
                refine ⟨_, _, .slice (some ⟨w.heap.size, 0, none⟩) m (grownCap w m 0 u), by rw [← h5]; exact (Step.drew hR).trans st', ?_, .inl ?_⟩
                · refine .grown _ _ _ _ _ _ ⟨w.drew.heap.size, 0, (Builtin.zeroCells e.zero.toArray m ++ Builtin.zeroCells e.zero.toArray (grownCap w m 0 u - m)).size⟩ (by show (Mu.add μ n _) n = some _; simp [Mu.add]) (Nat.le_refl _) hge ?_
                  simp only [Array.size_append, size_zeroCells, List.size_toArray, hzl]
                  rw [← Nat.add_mul, show m + (grownCap w m 0 u - m) = grownCap w m 0 u by omega]; omega
                · have := append_make (P := P) (w := w) (ty := o.type) (k := ik) hu hd hel hpos m d1 d2 d3
                  have e2' : ac.eval x = .int ik (m : Int) := e2
                  simp [execOp, ho, resolve, invoke, builtin, e1, e2', this]
        · exact absurd rfl hk
      · cases he
    · cases he
  · exact fun fr n h k hk => absurd rfl hk

noncomputable def kbyteV (v : Value) (k : Nat → KX) : KX := match v with | .int .u8 (.ofNat z) => k z | _ => .bad
noncomputable def kbyteVs (l : List Value) (k : List Nat → KX) : KX := List.rec (motive := fun _ => (List Nat → KX) → KX) (fun k => k []) (fun v _ ih k => kbyteV v fun z => ih fun r => k (z :: r)) l k
theorem kbyteVs_ok : ∀ (l : List Value) (k : List Nat → KX), kbyteVs l k ≠ .bad → ∃ zs, l = zs.map (fun z => Value.int .u8 (.ofNat z)) ∧ kbyteVs l k = k zs
  | [], k, hk => ⟨[], rfl, rfl⟩
  | v :: l, k, hk => by
    have e : kbyteVs (v :: l) k = kbyteV v fun z => kbyteVs l fun r => k (z :: r) := rfl
    rw [e] at hk ⊢
    unfold kbyteV at hk ⊢
    split at hk
    · rename_i z
      obtain ⟨zs, h1, h2⟩ := kbyteVs_ok l _ hk
      exact ⟨z :: zs, by rw [h1]; rfl, h2⟩
    · exact absurd rfl hk
noncomputable def kb2s (v : Value) (h : Tr HObj) (k : Value → KX) : KX :=
  match v with
  | .slice none 0 0 => k (.string ⟨⟨[]⟩⟩)
  | .slice (some ⟨b, o, _⟩) n _ => Bool.rec .bad (kcells b h fun cs _ => ktake n (kdrop o cs) fun l => kbyteVs l fun zs => kbyteRow (zs.map UInt8.ofNat) fun r => k (.string ⟨⟨r⟩⟩)) (Nat.ble 1 n)
  | _ => .bad
noncomputable def kB2S (x : Operand) : KOp := fun fr n h k => kev x fr fun v => kb2s v h fun v => k v n h
theorem foldl_bytes : ∀ (zs : List Nat) (s : ByteArray), (zs.map (fun z => (Int.ofNat z))).foldl (fun (r : ByteArray) (n : Int) => r.push (UInt8.ofNat n.toNat)) s = ⟨⟨s.data.toList ++ zs.map UInt8.ofNat⟩⟩
  | [], s => by obtain ⟨⟨l⟩⟩ := s; simp
  | z :: zs, s => by
    simp only [List.map_cons, List.foldl_cons]
    rw [foldl_bytes zs]
    obtain ⟨⟨l⟩⟩ := s
    simp [ByteArray.push]
theorem kB2S_ok (sz : Nat) (o : Oper) (s d : TypeId) (x : Operand) (ho : o.op = .convert s d x) (hb : bytesStr P s d = true) : MeetOk P sz o (kB2S x) := by
  obtain ⟨e, hs, hd, he⟩ := bytesStr_spec hb
  intro fr n h k hk
  unfold kB2S at hk ⊢
  obtain ⟨v, h1, h2⟩ := kev_ok (sz := sz) _ hk
  rw [h2] at hk ⊢
  unfold kb2s at hk ⊢
  split at hk
  · refine ⟨_, n, h, ?_, rfl⟩
    intro D B μ w a hR hf
    have r := hev_rel hf h1
    have e1 : a.eval x = .slice none 0 0 := by generalize a.eval x = z at r; cases r; rfl
    refine ⟨μ, w, _, Step.refl hR, .string _, .inl ?_⟩
    simp [execOp, ho, e1, run_convert_bytes_string w s d e _ _ _ hs he hd, Conv.bytesToString]
    rfl
  · rename_i b o' sp m c
    cases hm : Nat.ble 1 m with
    | false => rw [hm] at hk; exact absurd rfl hk
    | true =>
      rw [hm] at hk
      have hm1 := Nat.le_of_ble_eq_true hm
      simp only at hk ⊢
      obtain ⟨hp, cs, rw', h3, h4⟩ := kcells_ok (n := n) _ hk
      rw [h4] at hk ⊢
      obtain ⟨h5, h6⟩ := ktake_ok _ _ _ hk
      rw [h6] at hk ⊢
      rw [kdrop_eq] at hk h5 ⊢
      rw [List.length_drop] at h5
      obtain ⟨zs, h7, h8⟩ := kbyteVs_ok _ _ hk
      rw [h8, kbyteRow_eq]
      refine ⟨_, n, h, ?_, rfl⟩
      intro D B μ w a hR hf
      have r := hev_rel hf h1
      have hx : ∃ p c', μ b = some p ∧ a.eval x = .slice (some ⟨p.g, p.d + o', none⟩) m c' := by
        generalize a.eval x = z at r
        cases r with
        | slice _ _ _ _ p hp hl => exact ⟨p, _, hp, rfl⟩
        | grown _ _ _ _ _ _ p hp _ _ _ => exact ⟨p, _, hp, rfl⟩
        | hole => omega
        | void => omega
      obtain ⟨p, c', hp', hx⟩ := hx
      obtain ⟨vs', g1, g2, g3⟩ := hR.cellsAt h3 hp' o' m (by omega)
      rw [h7] at g1
      have g4 : vs' = zs.map (fun z => Value.int .u8 (.ofNat z)) := g1.flat1_eq (by rw [List.all_eq_true]; intro v hv; obtain ⟨z, _, rfl⟩ := List.mem_map.1 hv; rfl)
      have hload := run_loadCells_list (P := P) w ⟨p.g, p.d + o', none⟩ vs' g3
      rw [g2] at hload
      have hrun := run_bytesToString (P := P) w ⟨p.g, p.d + o', none⟩ m c' (zs.map (fun z => Int.ofNat z)) (by rw [hload, g4]; simp)
      refine ⟨μ, w, _, Step.refl hR, .string _, .inl ?_⟩
      simp only [execOp, ho, hx, Sem.run_bind, run_convert_bytes_string w s d e _ _ _ hs he hd, hrun, Result.andThen_ok, Sem.run_pure]
      rw [foldl_bytes]
      rfl
  · exact absurd rfl hk
end Go.HL
