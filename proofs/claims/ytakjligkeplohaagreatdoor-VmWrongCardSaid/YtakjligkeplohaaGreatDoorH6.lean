/-
  A high level over the model, part 6: what is made, appends, copies.
-/
import Derived.Test.YtakjligkeplohaaGreatDoorH5
namespace Go.HL
open Go.RowKit

variable {P : Program} {B : Nat} {μ : Mu} {H : HHeap} {w : World}

/-- What is known of a type: its zero's cells, how many cells and bytes a value has. -/
structure Elem where
  zero : List Value
  size : Nat
  bytes : Nat

def helem (P : Program) (t : TypeId) : Option Elem :=
  match P.info? t with
  | some i => match i.zero with
    | some z => if z.cells.toList.all flat1 ∧ z.cells.size = i.size then some ⟨z.cells.toList, i.size, i.bytes⟩ else none
    | none => none
  | none => none

theorem helem_spec {t : TypeId} {e : Elem} (h : helem P t = some e) : ∃ i z, P.info? t = some i ∧ i.zero = some z ∧ z.cells.toList = e.zero ∧ i.size = e.size ∧ i.bytes = e.bytes ∧ e.zero.all flat1 = true ∧ e.zero.length = e.size := by
  unfold helem at h
  split at h
  · rename_i i hi
    split at h
    · rename_i z hz
      split at h <;> cases h
      rename_i hc
      exact ⟨i, z, hi, hz, rfl, rfl, rfl, hc.1, by simpa using hc.2⟩
    · cases h
  · cases h

theorem flat1_one {v : Value} (h : flat1 v = true) : v.oneCell' = true := by
  cases v <;> simp [flat1] at h <;> rfl

theorem allFlat_one {vs : List Value} (h : vs.all flat1 = true) : ∀ v ∈ vs, v.oneCell' = true := fun v hv => flat1_one (List.all_eq_true.1 h v hv)

def halloc (P : Program) (H : HHeap) (t : TypeId) : Option (Value × HHeap) :=
  (helem P t).map fun e => (.pointer (some ⟨H.next, 0, none⟩), H.push (.cells e.zero true))

theorem sim_newVar (h : Rel B μ H w) (t : TypeId) {x x' : Value} (hx : VRels μ x.cells.toList x'.cells.toList) (h1 : ∀ v ∈ x.cells.toList, v.oneCell' = true) :
    ∃ μ' w' a, (newVar t x').run P w = .ok a w' ∧ Step B μ H w μ' (H.push (.cells x.cells.toList true)) w' ∧ VRel μ' (.pointer (some ⟨H.next, 0, none⟩)) (.pointer (some a)) := by
  have h2 := h.allocCells x.cells.toList x'.cells t (by rw [← hx.length, List.take_length]; exact hx) h1
  refine ⟨_, _, ⟨w.heap.size, 0, none⟩, ?_, h2, ?_⟩
  · simp [newVar, newRow]
  · exact .ptr _ _ ⟨w.heap.size, 0, x'.cells.size⟩ (by simp [Mu.add])

theorem sim_alloc (h : Rel B μ H w) {t : TypeId} {v : Value} {H' : HHeap} (hl : halloc P H t = some (v, H')) :
    ∃ μ' w' v', (Instr.alloc t true (.tuple #[])).run P w = .ok v' w' ∧ Step B μ H w μ' H' w' ∧ VRel μ' v v' := by
  simp only [halloc, Option.map_eq_some_iff] at hl
  obtain ⟨e, he, hl⟩ := hl
  cases hl
  obtain ⟨i, z, hi, hz, hze, _, _, hf, _⟩ := helem_spec he
  obtain ⟨μ', w', a, r1, r2, r5⟩ := sim_newVar (P := P) h t (x := z) (x' := z) (.of_flat1 (by rw [hze]; exact hf)) (by rw [hze]; exact allFlat_one hf)
  rw [hze] at r2
  exact ⟨μ', w', _, by simp [Instr.alloc, zeroValue, typeInfo, hi, hz, r1], r2, r5⟩

def hbox (H : HHeap) (x : Value) : Option (Value × HHeap) :=
  if allOne x.cells.toList then some (.pointer (some ⟨H.next, 0, none⟩), H.push (.cells x.cells.toList true)) else none

theorem sim_box (h : Rel B μ H w) (t : TypeId) {x x' v : Value} {H' : HHeap} (hl : hbox H x = some (v, H')) (hx : VRel μ x x') :
    ∃ μ' w' v', (Instr.box t x').run P w = .ok v' w' ∧ Step B μ H w μ' H' w' ∧ VRel μ' v v' := by
  unfold hbox at hl
  split at hl <;> cases hl
  rename_i h1
  obtain ⟨μ', w', a, r1, r2, r5⟩ := sim_newVar (P := P) h t hx.cells (List.all_eq_true.1 h1)
  exact ⟨μ', w', _, by simp [Instr.box, r1], r2, r5⟩

/-- Parts laid into cells. -/
def hfill (place : Nat → Option (Nat × Nat)) (cells : List Value) : List (Nat × Value) → Option (List Value)
  | [] => some cells
  | (i, v) :: rest =>
    match place i with
    | none => none
    | some (off, size) => if v.cells.size = size ∧ off + size ≤ cells.length then hfill place (splice cells off v.cells.toList) rest else none

theorem foldl_splice : ∀ (vs : List Value) (k off : Nat) (cs : Array Value), ((vs.zipIdx k).foldl (fun cs (c, j) => cs.setIfInBounds (off + j) c) cs).toList = splice cs.toList (off + k) vs
  | [], _, _, _ => rfl
  | v :: vs, k, off, cs => by
    simp only [List.zipIdx_cons, List.foldl_cons, splice]
    rw [foldl_splice vs (k + 1) off]
    simp [Nat.add_assoc]

theorem splice_rels {vs vs' : List Value} (hv : VRels μ vs vs') : ∀ {cs cs' : List Value} (o : Nat), VRels μ cs cs' → VRels μ (splice cs o vs) (splice cs' o vs') := by
  induction vs generalizing vs' with
  | nil => intro cs cs' o h; cases hv; exact h
  | cons v vs ih =>
    intro cs cs' o h
    cases hv with
    | cons _ v' _ vs' h1 h2 => exact ih h2 _ (h.set o h1)

inductive PRels (μ : Mu) : List (Nat × Value) → List (Nat × Value) → Prop where
  | nil : PRels μ [] []
  | cons (i : Nat) (v v' : Value) (ps ps' : List (Nat × Value)) (h : VRel μ v v') (hs : PRels μ ps ps') : PRels μ ((i, v) :: ps) ((i, v') :: ps')

theorem fill_rel {place : Nat → Option (Nat × Nat)} : ∀ {ps ps' : List (Nat × Value)} {cs out : List Value} {cs' : Array Value}, PRels μ ps ps' → VRels μ cs cs'.toList → hfill place cs ps = some out →
    ∃ out', Instr.fill place cs' ps' = some out' ∧ VRels μ out out'.toList
  | _, _, cs, out, cs', .nil, h, e => by simp [hfill] at e; subst e; exact ⟨cs', by simp [Instr.fill], h⟩
  | _, _, cs, out, cs', .cons i v v' ps ps' hv hs, h, e => by
    simp only [hfill] at e
    split at e
    · cases e
    · rename_i off size hp
      split at e
      · rename_i hc
        have hcl := hv.cells.length
        have hl := h.length
        simp at hcl hl
        have key : ((v'.cells.zipIdx.foldl (fun cs (c, j) => cs.setIfInBounds (off + j) c) cs')).toList = splice cs'.toList off v'.cells.toList := by
          rw [← Array.foldl_toList, Array.toList_zipIdx, foldl_splice]; simp
        obtain ⟨out', h1, h2⟩ := fill_rel (cs' := (v'.cells.zipIdx.foldl (fun cs (c, j) => cs.setIfInBounds (off + j) c) cs')) hs (by rw [key]; exact splice_rels hv.cells off h) e
        refine ⟨out', ?_, h2⟩
        simp only [Instr.fill, hp]
        rw [if_neg (by simp; omega)]
        exact h1
      · cases e

def hplaces (P : Program) (fs : List Field) : Option (List (Nat × Nat)) :=
  match fs with
  | [] => some []
  | f :: fs => (hsize P f.type).bind fun n => (hplaces P fs).map fun r => (f.offset, n) :: r

theorem run_places : ∀ (fs : List Field) {r : List (Nat × Nat)}, hplaces P fs = some r → (fs.mapM (m := Sem) fun f => do pure (f.offset, ← sizeOf f.type)).run P w = .ok r w
  | [], r, h => by simp [hplaces] at h; subst h; rfl
  | f :: fs, r, h => by
    simp only [hplaces, Option.bind_eq_some_iff, Option.map_eq_some_iff] at h
    obtain ⟨n, hn, r', hr', h⟩ := h
    subst h
    have ih := run_places fs hr'
    simp only [List.mapM_cons, Sem.run_bind, run_sizeOf hn, Result.andThen_ok, Sem.run_pure, ih]

def hbuild (P : Program) (t : TypeId) (ps : List (Nat × Value)) : Option Value :=
  (helem P t).bind fun e =>
  match P.underlying t with
  | some (.struct fs) => (hplaces P fs.toList).bind fun r => (hfill (fun i => r[i]?) e.zero ps).map fun cs => .agg cs.toArray
  | some (.array _ u) => (hsize P u).bind fun n => (hfill (fun i => some (i * n, n)) e.zero ps).map fun cs => .agg cs.toArray
  | _ => none

theorem sim_build {t : TypeId} {ps ps' : List (Nat × Value)} {v : Value} (hl : hbuild P t ps = some v) (hp : PRels μ ps ps') :
    ∃ v', (Instr.build t ps'.toArray).run P w = .ok v' w ∧ VRel μ v v' := by
  simp only [hbuild, Option.bind_eq_some_iff] at hl
  obtain ⟨e, he, hl⟩ := hl
  obtain ⟨i, z, hi, hz, hze, _, _, hf, _⟩ := helem_spec he
  have hzr : VRels μ e.zero z.cells.toList := by rw [hze]; exact .of_flat1 hf
  split at hl
  · rename_i fs ht
    simp only [Option.bind_eq_some_iff, Option.map_eq_some_iff] at hl
    obtain ⟨r, hr, cs, hcs, hl⟩ := hl
    subst hl
    obtain ⟨out', h1, h2⟩ := fill_rel hp hzr hcs
    refine ⟨.agg out', ?_, by have := VRel.agg cs out'.toList h2; simpa using this⟩
    have hrun : (fs.mapM (m := Sem) fun f => do pure (f.offset, ← sizeOf f.type)).run P w = .ok r.toArray w := by
      have := run_places (P := P) (w := w) fs.toList hr
      rw [Array.mapM_eq_mapM_toList, Sem.run_map, this]; rfl
    simp only [Instr.build, Sem.run_bind, zeroValue, typeInfo, run_program, hi, hz, Result.andThen_ok, Sem.run_pure, run_underlying ht, hrun]
    have h1' : Instr.fill (fun x => r.toArray[x]?) z.cells ps' = some out' := by simpa using h1
    simp only [h1', Sem.run_pure]
  · rename_i l u ht
    simp only [Option.bind_eq_some_iff, Option.map_eq_some_iff] at hl
    obtain ⟨n, hn, cs, hcs, hl⟩ := hl
    subst hl
    obtain ⟨out', h1, h2⟩ := fill_rel hp hzr hcs
    refine ⟨.agg out', ?_, by have := VRel.agg cs out'.toList h2; simpa using this⟩
    simp [Instr.build, zeroValue, typeInfo, hi, hz, run_underlying ht, run_sizeOf hn, h1]
  · cases hl

/-- So many zeros. -/
def hzeros (zs : List Value) (n : Nat) : List Value :=
  match zs with
  | [z] => List.replicate n z
  | zs => (List.range n).map fun i => zs.getD (i % zs.length) undef

theorem zeros_eq (zs : List Value) (n : Nat) (hpos : 0 < zs.length) : (Array.map (fun x => zs.toArray[x % zs.toArray.size]!) (Array.range n)).toList = hzeros zs n := by
  unfold hzeros
  split
  · rename_i z
    simp only [Array.toList_map, Array.toList_range]
    apply List.ext_getElem
    · simp
    · intro i h1 h2
      simp [Nat.mod_one]
  · simp only [Array.toList_map, Array.toList_range]
    apply List.map_congr_left
    intro i _
    have : i % zs.length < zs.length := Nat.mod_lt _ hpos
    simp [this, List.getD]

theorem hzeros_flat {zs : List Value} (h : zs.all flat1 = true) (n : Nat) (hpos : 0 < zs.length) : (hzeros zs n).all flat1 = true := by
  unfold hzeros
  split
  · rename_i z
    simp at h
    rw [List.all_eq_true]; intro x hx
    rw [List.mem_replicate] at hx
    rw [hx.2]; exact h
  · rw [List.all_eq_true]; intro x hx
    obtain ⟨i, _, rfl⟩ := List.mem_map.1 hx
    have hlt : i % zs.length < zs.length := Nat.mod_lt _ hpos
    simp [List.getD, hlt]
    exact List.all_eq_true.1 h _ (List.getElem_mem hlt)

theorem hzeros_length (zs : List Value) (n : Nat) : (hzeros zs n).length = n := by
  unfold hzeros; split <;> simp

def hmakeSlice (P : Program) (H : HHeap) (t : TypeId) (l c : Value) : Option (Value × HHeap) :=
  match P.underlying t, l, c with
  | some (.slice u), .int _ l, .int _ c => (helem P u).bind fun e =>
    if 0 < e.size ∧ 0 ≤ l ∧ l ≤ c ∧ c * e.bytes ≤ 1099511627776 ∧ c ≤ 1099511627776 then
      some (.slice (some ⟨H.next, 0, none⟩) l.toNat c.toNat, H.push (.cells (hzeros e.zero (c.toNat * e.size)) true))
    else none
  | _, _, _ => none

theorem wrap_small {c : Int} (h0 : 0 ≤ c) (h1 : c ≤ 1099511627776) : IntKind.i64.wrap c = c := by
  rw [IntKind.wrap_i64]; omega

theorem sim_makeSlice (h : Rel B μ H w) {t : TypeId} {l c v : Value} {H' : HHeap} (hl : hmakeSlice P H t l c = some (v, H')) :
    ∃ μ' w' v', (Instr.makeSlice t l c).run P w = .ok v' w' ∧ Step B μ H w μ' H' w' ∧ VRel μ' v v' := by
  unfold hmakeSlice at hl
  split at hl
  · rename_i u k l k' c ht
    simp only [Option.bind_eq_some_iff] at hl
    obtain ⟨e, he, hl⟩ := hl
    split at hl <;> cases hl
    rename_i hc
    obtain ⟨hs, h0, hlc, hb, hc1⟩ := hc
    obtain ⟨i, z, hi, hz, hze, hsz, hby, hf, hzl⟩ := helem_spec he
    have wl := wrap_small h0 (by omega : l ≤ 1099511627776)
    have wc := wrap_small (by omega : 0 ≤ c) hc1
    have hpos : 0 < e.zero.length := by omega
    have hza : z.cells = e.zero.toArray := by rw [← hze]
    have hflat := hzeros_flat hf (c.toNat * e.size) hpos
    have hlenz := hzeros_length e.zero (c.toNat * e.size)
    have r2 := h.allocCells (hzeros e.zero (c.toNat * e.size)) (Array.map (fun x => e.zero.toArray[x % e.zero.toArray.size]!) (Array.range (c.toNat * e.size))) u
      (by rw [zeros_eq _ _ hpos, List.take_length]; exact .of_flat1 hflat) (allFlat_one hflat)
    refine ⟨_, _, .slice (some ⟨w.heap.size, 0, none⟩) l.toNat c.toNat, ?_, r2, ?_⟩
    · have t1 : ¬ (c < 0) := by omega
      have t2 : ¬ (281474976710656 < (e.bytes : Int) * c) := by rw [Int.mul_comm]; omega
      have t3 : ¬ (l < 0) := by omega
      have t4 : ¬ (c < l) := by omega
      have hr0 : Array.range 0 = #[] := rfl
      by_cases hz0 : c.toNat * e.size = 0
      · simp [Instr.makeSlice, run_underlying ht, asInt, asIntOf, typeInfo, hi, hby, hsz, wl, wc, t1, t2, t3, t4, sizeOf, newRow, hz0, hr0]
      · simp [Instr.makeSlice, run_underlying ht, asInt, asIntOf, typeInfo, hi, hby, hsz, wl, wc, t1, t2, t3, t4, sizeOf, newRow, hz0, zeroValue, hz, hza]
    · exact .slice _ _ _ _ ⟨w.heap.size, 0, (Array.map (fun x => e.zero.toArray[x % e.zero.toArray.size]!) (Array.range (c.toNat * e.size))).size⟩ (by simp [Mu.add]) (by omega)
  · cases hl

def hbuildSlice (P : Program) (H : HHeap) (t : TypeId) (len : Nat) (ps : List (Nat × Value)) : Option (Value × HHeap) :=
  match P.underlying t with
  | some (.slice u) => (helem P u).bind fun e =>
    if 0 < e.size ∧ len * e.size ≤ 16777216 then
      (hfill (fun i => some (i * e.size, e.size)) (hzeros e.zero (len * e.size)) ps).bind fun cs =>
        if allOne cs then some (.slice (some ⟨H.next, 0, none⟩) len len, H.push (.cells cs true)) else none
    else none
  | _ => none

theorem sim_buildSlice (h : Rel B μ H w) {t : TypeId} {len : Nat} {ps ps' : List (Nat × Value)} {v : Value} {H' : HHeap} (hl : hbuildSlice P H t len ps = some (v, H')) (hp : PRels μ ps ps') :
    ∃ μ' w' v', (Instr.buildSlice t len ps'.toArray).run P w = .ok v' w' ∧ Step B μ H w μ' H' w' ∧ VRel μ' v v' := by
  unfold hbuildSlice at hl
  split at hl
  · rename_i u ht
    simp only [Option.bind_eq_some_iff] at hl
    obtain ⟨e, he, hl⟩ := hl
    split at hl
    · rename_i hc
      obtain ⟨hs, hb⟩ := hc
      simp only [Option.bind_eq_some_iff] at hl
      obtain ⟨cs, hcs, hl⟩ := hl
      split at hl <;> cases hl
      rename_i h1
      obtain ⟨i, z, hi, hz, hze, hsz, hby, hf, hzl⟩ := helem_spec he
      have hpos : 0 < e.zero.length := by omega
      have hza : z.cells = e.zero.toArray := by rw [← hze]
      have hflat := hzeros_flat hf (len * e.size) hpos
      obtain ⟨out', f1, f2⟩ := fill_rel (cs' := Array.map (fun x => e.zero.toArray[x % e.zero.toArray.size]!) (Array.range (len * e.size))) hp (by rw [zeros_eq _ _ hpos]; exact .of_flat1 hflat) hcs
      have r2 := h.allocCells cs out' u (by rw [← f2.length, List.take_length]; exact f2) (List.all_eq_true.1 h1)
      refine ⟨_, _, .slice (some ⟨w.heap.size, 0, none⟩) len len, ?_, r2, .slice _ _ _ _ ⟨w.heap.size, 0, out'.size⟩ (by simp [Mu.add]) (Nat.le_refl _)⟩
      have hr0 : Array.range 0 = #[] := rfl
      by_cases hz0 : len * e.size = 0
      · have f1' : Instr.fill (fun i => some (i * e.size, e.size)) #[] ps' = some out' := by simpa [hz0, hr0] using f1
        simp [Instr.buildSlice, run_underlying ht, sizeOf, typeInfo, hi, hsz, hz0, newRow, hr0, f1']
      · simp [Instr.buildSlice, run_underlying ht, sizeOf, typeInfo, hi, hsz, hz0, newRow, zeroValue, hz, hza, show ¬ (16777216 < len * e.size) by omega] at f1 ⊢
        simp [f1]
    · cases hl
  · cases hl

end Go.HL
