/-
  The final row of a law: from what its body comes to over all heaps to the given statement's form.
-/
import Derived.Test.YtoflnkdngcdejaaGreatDoorPOB1
import Derived.ProofKit
import Derived.Below
import Derived.ChangeSame
import Derived.Deep.DeepHandedRow
import Derived.Lay
set_option linter.unusedVariables false
set_option linter.unusedSimpArgs false
namespace Go.HL
open Go.RowKit Go.Proofs.YtoflnkdngcdejaaGreatDoor Go.ChangeShapes Go.WideShapes Go.ChangeAt
set_option linter.unusedVariables false
set_option maxRecDepth 10000
set_option linter.unusedSimpArgs false

theorem rel_empty (w : World) (ht : TabsOk w.heap.size w) : Rel w.heap.size (fun _ => none) ⟨0, fun _ => none⟩ w := ⟨Nat.le_refl _, by simp, by simp, by simp, by simp, by simp, ht, by simp, by simp⟩

/-- An argument. -/
def harg1 (P : Program) (L : Nat) (H : HHeap) (t : TypeId) (v : Value) : Prop :=
  ∃ n hs, HArg P L H n t hs ∧ (match P.underlying t with | some (.struct _) => v = .agg hs.toArray | _ => hs = [v])
def HArgs (P : Program) (L : Nat) (H : HHeap) : List TypeId → List Value → Prop
  | [], [] => True
  | t :: ts, v :: vs => harg1 P L H t v ∧ HArgs P L H ts vs
  | _, _ => False

theorem harg1.mono {P : Program} {L : Nat} {H H' : HHeap} (h : ∀ b o, H.get b = some o → H'.get b = some o) {t : TypeId} {v : Value} (k : harg1 P L H t v) : harg1 P L H' t v := by
  obtain ⟨n, hs, k1, k2⟩ := k
  exact ⟨n, hs, HArg.mono h _ _ _ k1, k2⟩
theorem HArgs.mono {P : Program} {L : Nat} {H H' : HHeap} (h : ∀ b o, H.get b = some o → H'.get b = some o) : ∀ {ts : List TypeId} {vs : List Value}, HArgs P L H ts vs → HArgs P L H' ts vs
  | [], [], _ => trivial
  | _ :: _, _ :: _, k => ⟨k.1.mono h, HArgs.mono h k.2⟩
  | [], _ :: _, k => k.elim
  | _ :: _, [], k => k.elim

section
variable {Hd : Type} {enc : TypeId × Value → Hd} {P : Program} {w : World} {L : Nat}

theorem open_one {T : TypeId → Prop} (K : Kids P T) {t : TypeId} {v : Value} {d : DataW Hd} {p : List MemPlace} {m base : Nat} (hT : T t) (hm : plainT P m t = true) (hok : Value.okWide P w .any base t v)
    (h : DataW.Trod enc P w 0 (fun _ => true) true t v d p) (hbk : L = maxLen ∨ bulk d ≤ L) (μ : Mu) (H : HHeap) (hR : Rel w.heap.size μ H w) : ∃ μ' H' hv, Grow w μ H μ' H' ∧ VRel μ' hv v ∧ harg1 P L H' t hv := by
  obtain ⟨n, hn⟩ := h
  obtain ⟨μ', H', hs, g, hr, ha, _⟩ := opens_trod K n m t _ _ hT hm hn hbk μ H hR
  cases m with
  | zero => simp [plainT] at hm
  | succ m =>
  have hcell : (∀ fs, P.underlying t ≠ some (.struct fs)) → v.cells = #[v] → ∃ μ' H' hv, Grow w μ H μ' H' ∧ VRel μ' hv v ∧ harg1 P L H' t hv := by
    intro hns hc
    rw [hc] at hr
    cases hr with
    | cons hv _ _ _ h1 h2 =>
      cases h2
      refine ⟨μ', H', hv, g, h1, n, [hv], ha, ?_⟩
      split
      · exact absurd ‹_› (hns _)
      · rfl
  unfold plainT at hm
  split at hm
  · rename_i e
    refine hcell (fun fs => by rw [e]; simp) ?_
    unfold Value.okWide Cell.okWide Cell.ok at hok
    rw [e] at hok
    cases v with
    | agg cs => exact absurd hok (by simp)
    | _ => rfl
  · rename_i k e
    refine hcell (fun fs => by rw [e]; simp) ?_
    unfold Value.okWide Cell.okWide Cell.ok at hok
    rw [e] at hok
    cases v with
    | agg cs => exact absurd hok (by simp)
    | _ => rfl
  · rename_i e
    refine hcell (fun fs => by rw [e]; simp) ?_
    unfold Value.okWide Cell.okWide Cell.ok at hok
    rw [e] at hok
    cases v with
    | agg cs => exact absurd hok (by simp)
    | _ => rfl
  · rename_i e' e
    refine hcell (fun fs => by rw [e]; simp) ?_
    unfold Value.okWide Cell.okWide Cell.ok at hok
    rw [e] at hok
    cases v with
    | agg cs => exact absurd hok (by simp)
    | _ => rfl
  · rename_i fs e
    unfold Value.okWide at hok
    rw [e] at hok
    obtain ⟨cs, rfl, _⟩ := hok
    refine ⟨μ', H', .agg hs.toArray, g, ?_, n, hs, ha, by rw [e]⟩
    have := VRel.agg hs cs.toList hr
    simpa using this
  · cases hm

theorem open_all {T : TypeId → Prop} (K : Kids P T) {m base : Nat} : ∀ (ts : List TypeId) (vs : List Value) (ds : List (DataW Hd)) (p : List MemPlace), (∀ t ∈ ts, T t ∧ plainT P m t = true) →
    (∀ (j : Nat) t v, ts[j]? = some t → vs[j]? = some v → Value.okWide P w .any base t v) → DataW.TrodAll enc P w 0 (fun _ => true) true ts vs ds p → (L = maxLen ∨ Rows.uptoBulkAll ds ≤ L) →
    ∀ μ H, Rel w.heap.size μ H w → ∃ μ' H' hvs, Grow w μ H μ' H' ∧ VRels μ' hvs vs ∧ HArgs P L H' ts hvs
  | [], [], _, _, _, _, _, _, μ, H, hR => ⟨μ, H, [], ⟨Sub.refl μ, hR, fun _ _ e => e⟩, .nil, trivial⟩
  | t :: ts, v :: vs, d :: ds, p, hT, hok, h, hbk, μ, H, hR => by
    obtain ⟨p1, p2, h1, h2, _⟩ := h
    obtain ⟨μ1, H1, hv, g1, r1, a1⟩ := open_one K (hT t (by simp)).1 (hT t (by simp)).2 (hok 0 t v rfl rfl) h1 (hbk.imp id fun h => Nat.le_trans (bulk_le (List.mem_cons_self ..)) h) μ H hR
    obtain ⟨μ2, H2, hvs, g2, r2, a2⟩ := open_all K ts vs ds p2 (fun u hu => hT u (by simp [hu])) (fun j u x e e' => hok (j + 1) u x (by simpa using e) (by simpa using e')) h2 (hbk.imp id fun h => by simp only [Rows.uptoBulkAll] at h; omega) μ1 H1 g1.rel
    exact ⟨μ2, H2, hv :: hvs, g1.trans g2, .cons _ _ _ _ (r1.mono g2.sub) r2, a1.mono g2.keep, a2⟩
  | [], _ :: _, _, _, _, _, h, _, _, _, _ => by cases h
  | _ :: _, [], _, _, _, _, h, _, _, _, _ => by cases h
  | _ :: _, _ :: _, [], _, _, _, h, _, _, _, _ => by cases h

theorem carry_all {w' : World} {spare : Nat → Bool} {held : Bool} : ∀ {ts : List TypeId} {vs : List Value} {ds : List (DataW Hd)} {ps : List MemPlace},
    DataW.TrodAll enc P w 0 spare held ts vs ds ps → (∀ p ∈ ps, w.sameAt w' p) → DataW.TrodAll enc P w' 0 spare held ts vs ds ps
  | [], [], [], _, h, _ => h
  | _ :: _, _ :: _, _ :: _, _, ⟨p, q, ⟨n, h1⟩, h2, e⟩, hs =>
    ⟨p, q, ⟨n, DataW.trod_carry n _ _ _ h1 (fun x hx => hs x (by rw [e]; exact List.mem_append_left _ hx))⟩, carry_all h2 (fun x hx => hs x (by rw [e]; exact List.mem_append_right _ hx)), e⟩
end


/-- THE WITNESS: a world in which the listed variables are laid, and arguments of bulk at most the bound. -/
theorem witness_upto {Hd : Type} {enc : TypeId × Value → Hd} {C : Checked} {os : Os} {f : FuncId} {fn : Func} {s : OpenSpec} {conds : List PathCond} {laid : List (String × DataW Unit)} (args : Array Value)
    (hsh : ((World.laidAll C.prog os laid).forCall (fun _ _ => 0) ⟨#[], args, []⟩).Shaped C.prog)
    (hok : Input.okWideB C.prog ((World.laidAll C.prog os laid).forCall (fun _ _ => 0) ⟨#[], args, []⟩) f ⟨#[], args, []⟩ = true)
    (hrow : s.preRow enc C.prog fn conds false laid ((World.laidAll C.prog os laid).forCall (fun _ _ => 0) ⟨#[], args, []⟩).memory args) :
    ∃ (w : World) (tape : Tape) (i : Input), w.os = os ∧ (w.forCall tape i).Shaped C.prog ∧ i.vars = [] ∧ Input.okWide C.prog (w.forCall tape i) .any w.heap.size f i ∧
      s.preRow enc C.prog fn conds false laid (w.forCall tape i).memory i.args ∧ ({} : Assume).holds C.prog (lone (Frame.enter C.prog f i.args .normal) [] (w.forCall tape i)) :=
  ⟨World.laidAll C.prog os laid, fun _ _ => 0, ⟨#[], args, []⟩, World.laidAll_os _ _ _, hsh, (Input.okWide_of_okWideB (base := 0) hok).1, (Input.okWide_of_okWideB hok).2, hrow, by
    simp only [Assume.holds]
    exact ⟨by simp, by simp, fun _ => Modest.zero, by simp, by simp⟩⟩

/-- THE FINAL ROW: a law that answers true over every heap in which its arguments lie, where they are of bulk at most the bound; the listed variables are laid. -/
theorem returns_upto {Hd : Type} {enc : TypeId × Value → Hd} {C : Checked} {os : Os} {f : FuncId} {fn : Func} {s : ChangeSpec} {conds : List PathCond} {laid : List (String × DataW Unit)} {tb : TypeId} (F : Stop.Interp)
    (own : ownKnob C.prog.godebug = none) (started : os.Started) (noInit : C.prog.inits.idxOf? f = none) (hfn : C.prog.funcs[f]? = some fn)
    (witness : ∃ (w : World) (tape : Tape) (i : Input), w.os = os ∧ (w.forCall tape i).Shaped C.prog ∧ i.vars = [] ∧ Input.okWide C.prog (w.forCall tape i) .any w.heap.size f i ∧
      (Rows.OpenSpec.upto s).preRow enc C.prog fn conds false laid (w.forCall tape i).memory i.args ∧ ({} : Assume).holds C.prog (lone (Frame.enter C.prog f i.args .normal) [] (w.forCall tape i)))
    (hl : laidOutB C.prog = true) (hm : mapsRowed C.prog = true)
    (hz : ((List.range C.prog.types.size).all fun t => match C.prog.underlying t with | some (.slice e) => decide (0 < C.prog.cellsOf e) | _ => true) = true)
    (hp : (fn.params.toList.all fun t => decide (t < C.prog.types.size) && plainT C.prog 9 t) = true)
    (hr : fn.resultTypes = #[tb]) (hb : C.prog.underlying tb = some .bool) (hv : s.vars = [])
    (hs : ∀ ds : List (DataW Hd), ds.length = fn.params.toList.length → s.fn Hd ds = { results := [.lit (.bool true)], args := ds })
    (tabs : ∀ W : World, laidMetH C.prog laid W → W.ShapedOpen C.prog → TabsOk W.heap.size W)
    (law : ∀ H hargs, HArgs C.prog 1048576 H fn.params.toList hargs → HCalls C.prog f hargs H fun v _ => v = .bool true) :
    ReturnsInHanded {} C os f .any ((Rows.OpenSpec.upto s).preRow enc C.prog fn conds false laid) (((Rows.OpenSpec.upto s).at F).post enc C.prog fn false true false false) := by
  refine returnsInHanded_of_row (C := C) (s := Rows.OpenSpec.upto s) own started noInit hfn witness ?_
  intro W base args ds gs before hval hW0 hcnd hk _ hL hsh _
  have hW : DataW.Whole enc C.prog fn.params.toList s.vars false W args.toList ds gs before := hW0
  have hW' := hW
  obtain ⟨p, q, hA, hV, rfl, hfz, hnd⟩ := hW
  rw [hv] at hV
  obtain ⟨rfl, rfl⟩ := trodVars_none hV
  have hkb : Rows.uptoBulkAll ds ≤ 1048576 := by
    have := of_decide_eq_true (hk _ rfl)
    simpa only [List.append_nil] using this
  have hT : ∀ t ∈ fn.params.toList, t < C.prog.types.size ∧ plainT C.prog 9 t = true := by
    intro t ht
    have := List.all_eq_true.1 hp t ht
    simpa using this
  have K := kids_rows hl hm
  obtain ⟨μ, H, hargs, g, hrel, hha⟩ := open_all (enc := enc) K fn.params.toList args.toList ds p hT (fun j t v e e' => hval j t v (by simpa using e) (by simpa using e')) hA (.inr hkb) _ _ (rel_empty W (tabs W hL hsh))
  have hlen : ds.length = fn.params.toList.length := by
    have : ∀ (ts : List TypeId) (vs : List Value) (ds : List (DataW Hd)) (p : List MemPlace), DataW.TrodAll enc C.prog W 0 (fun _ => true) true ts vs ds p → ds.length = ts.length := by
      intro ts
      induction ts with
      | nil => intro vs ds p h; cases vs <;> cases ds <;> first | rfl | cases h
      | cons t ts ih =>
        intro vs ds p h
        cases vs with
        | nil => cases h
        | cons v vs => cases ds with
          | nil => cases h
          | cons d ds =>
            obtain ⟨_, _, _, h2, _⟩ := h
            simp [ih _ _ _ h2]
    exact this _ _ _ _ hA
  have := law H hargs hha W.heap.size μ W args.toList g.rel hrel
  rw [Array.toArray_toList] at this
  refine this.mono fun e W' ⟨μ', v, H', v', he, hvt, hvr, hst⟩ => ?_
  subst he; subst hvt
  cases hvr
  have hbel := hst.below g.rel
  have hlt := hA.lt
  have hargs' : DataW.TrodAll enc C.prog W' 0 (fun b => decide (b < W.heap.size)) true fn.params.toList args.toList ds p :=
    carry_all (hA.respare K (slices_full_of C.prog hz) (fun t ht => (hT t ht).1) (fun x hx => by simpa using hlt x hx)) (fun x hx => by
      have hx' := hlt x hx
      cases x with
      | cell b off => show W'.cell? _ = W.cell? _; unfold World.cell?; rw [hbel.block b hx']
      | map b => exact hbel.block b hx')
  have hspec : ((Rows.OpenSpec.upto s).at F).fn Hd ds = { results := [.lit (.bool true)], args := ds } := hs ds hlen
  have hvs : ((Rows.OpenSpec.upto s).at F).vars = [] := hv
  refine ⟨_, rfl, ds, [], p ++ [], [], p, [], hW', ?_, ?_, ?_, hbel.frame _, fun h => by cases h⟩
  · rw [List.append_nil, hspec, hr]
    exact trodAll_mk1 (shut_bool hb true)
  · rw [List.append_nil, hspec]; exact hargs'
  · rw [hvs, List.append_nil, hspec]; rfl
end Go.HL
