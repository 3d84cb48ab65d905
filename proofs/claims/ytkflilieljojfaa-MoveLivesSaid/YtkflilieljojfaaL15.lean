/-
  Joined: mvT.
-/
import Derived.Test.YtkflilieljojfaaL14
import Derived.Test.YtkflilieljojfaaProg
import Derived.KernelRfl
/-
  The instances of this program's types. Printed by wip/tools/mkT.py.
-/
namespace Go.HL
open Go.RowKit Go.Proofs
theorem el61 : helem Try.prog 61 = some ⟨[.int .i64 0, .slice none 0 0], 2, 32⟩ := by kernel_rfl
theorem al61 (H : HHeap) : halloc Try.prog H 61 = some (.pointer (some ⟨H.next, 0, none⟩), H.push (.cells [.int .i64 0, .slice none 0 0] true)) := x_alloc el61
theorem el72 : helem Try.prog 72 = some ⟨[.int .i64 0, .int .i64 0, .slice none 0 0], 3, 40⟩ := by kernel_rfl
theorem al72 (H : HHeap) : halloc Try.prog H 72 = some (.pointer (some ⟨H.next, 0, none⟩), H.push (.cells [.int .i64 0, .int .i64 0, .slice none 0 0] true)) := x_alloc el72
theorem isS23 : isStr Try.prog 23 = true := by kernel_rfl
theorem el42 : helem Try.prog 42 = some ⟨[.int .u64 0], 1, 8⟩ := by kernel_rfl
theorem ap23_23 (H : HHeap) (s x : Value) : happend Try.prog H 23 23 s x = hb1 (apd H 1 8 s) (hsource H 1 x) := x_append Try.underlying23 isS23 el42 (by decide) s x
theorem isS67 : isStr Try.prog 67 = true := by kernel_rfl
theorem ap67_67 (H : HHeap) (s x : Value) : happend Try.prog H 67 67 s x = hb1 (apd H 3 40 s) (hsource H 3 x) := x_append Try.underlying67 isS67 el72 (by decide) s x
theorem el65 : helem Try.prog 65 = some ⟨[.pointer none, .pointer none, .map none, .slice none 0 0], 4, 48⟩ := by kernel_rfl
theorem sz27 : hsize Try.prog 27 = some 1 := by kernel_rfl
theorem sz40 : hsize Try.prog 40 = some 1 := by kernel_rfl
theorem sz23 : hsize Try.prog 23 = some 1 := by kernel_rfl
theorem bd65_0_1_2 (x0 : Option Addr) (x1 : Option Addr) (x2 : Option Nat) : hbuild Try.prog 65 [(0, .pointer x0), (1, .pointer x1), (2, .map x2)] = some (.agg #[.pointer x0, .pointer x1, .map x2, .slice none 0 0]) := by simp only [hbuild, el65, Try.underlying65, Option.bind_some, hplaces, sz23, sz27, sz40, Option.map_some]; rfl
theorem el69 : helem Try.prog 69 = some ⟨[.int .i64 0, .int .i64 0, .slice none 0 0], 3, 40⟩ := by kernel_rfl
theorem sz3 : hsize Try.prog 3 = some 1 := by kernel_rfl
theorem sz67 : hsize Try.prog 67 = some 1 := by kernel_rfl
theorem bd69_0 (x0k : IntKind) (x0 : Int) : hbuild Try.prog 69 [(0, .int x0k x0)] = some (.agg #[.int x0k x0, .int .i64 0, .slice none 0 0]) := by simp only [hbuild, el69, Try.underlying69, Option.bind_some, hplaces, sz3, sz67, Option.map_some]; rfl
theorem bd72_0_1_2 (x0k : IntKind) (x0 : Int) (x1k : IntKind) (x1 : Int) (x2 : Option Addr) (x2l x2c : Nat) : hbuild Try.prog 72 [(0, .int x0k x0), (1, .int x1k x1), (2, .slice x2 x2l x2c)] = some (.agg #[.int x0k x0, .int x1k x1, .slice x2 x2l x2c]) := by simp only [hbuild, el72, Try.underlying72, Option.bind_some, hplaces, sz23, sz3, Option.map_some]; rfl
theorem el83 : helem Try.prog 83 = some ⟨[.slice none 0 0, .slice none 0 0, .int .i64 0], 3, 56⟩ := by kernel_rfl
theorem sz74 : hsize Try.prog 74 = some 1 := by kernel_rfl
theorem bd83_0_1 (x0 : Option Addr) (x0l x0c : Nat) (x1 : Option Addr) (x1l x1c : Nat) : hbuild Try.prog 83 [(0, .slice x0 x0l x0c), (1, .slice x1 x1l x1c)] = some (.agg #[.slice x0 x0l x0c, .slice x1 x1l x1c, .int .i64 0]) := by simp only [hbuild, el83, Try.underlying83, Option.bind_some, hplaces, sz23, sz3, sz74, Option.map_some]; rfl
theorem bs23_0_ (H : HHeap)  : hbuildSlice Try.prog H 23 0 [] = some (.slice (some ⟨H.next, 0, none⟩) 0 0, H.push (.cells [] true)) := by simp only [hbuildSlice, el42, Try.underlying23, Option.bind_some]; rfl
theorem bs23_1_0 (H : HHeap) (x0k : IntKind) (x0 : Int) : hbuildSlice Try.prog H 23 1 [(0, .int x0k x0)] = some (.slice (some ⟨H.next, 0, none⟩) 1 1, H.push (.cells [.int x0k x0] true)) := by simp only [hbuildSlice, el42, Try.underlying23, Option.bind_some]; rfl
theorem bs23_2_0_1 (H : HHeap) (x0k : IntKind) (x0 : Int) (x1k : IntKind) (x1 : Int) : hbuildSlice Try.prog H 23 2 [(0, .int x0k x0), (1, .int x1k x1)] = some (.slice (some ⟨H.next, 0, none⟩) 2 2, H.push (.cells [.int x0k x0, .int x1k x1] true)) := by simp only [hbuildSlice, el42, Try.underlying23, Option.bind_some]; rfl
theorem bs67_1_0 (H : HHeap) (x0_0 x0_1 x0_2 : Value) (h0 : allOne [x0_0, x0_1, x0_2] = true) : hbuildSlice Try.prog H 67 1 [(0, .agg #[x0_0, x0_1, x0_2])] = some (.slice (some ⟨H.next, 0, none⟩) 1 1, H.push (.cells [x0_0, x0_1, x0_2] true)) := by simp only [hbuildSlice, el72, Try.underlying67, Option.bind_some]; exact if_pos h0
theorem kd27 : kindOf Try.prog 27 = 2 := by kernel_rfl
theorem pe27 (a : Addr) : hbin Try.prog .eql 27 (.pointer (some a)) (.pointer none) = some (.bool false) := x_ptr_eq kd27 a
theorem pn27 (a : Addr) : hbin Try.prog .neq 27 (.pointer (some a)) (.pointer none) = some (.bool true) := x_ptr_ne kd27 a
theorem pez27 : hbin Try.prog .eql 27 (.pointer none) (.pointer none) = some (.bool true) := x_ptr_eq0 kd27
theorem pnz27 : hbin Try.prog .neq 27 (.pointer none) (.pointer none) = some (.bool false) := x_ptr_ne0 kd27
theorem kd4 : kindOf Try.prog 4 = 1 := by kernel_rfl
theorem be4 (a b : Bool) : hbin Try.prog .eql 4 (.bool a) (.bool b) = some (.bool (a == b)) := x_bool_eq kd4 a b
theorem bn4 (a b : Bool) : hbin Try.prog .neq 4 (.bool a) (.bool b) = some (.bool (!(a == b))) := x_bool_ne kd4 a b
theorem cv3_41 (k : IntKind) (n : Int) : hconvert Try.prog 3 41 (.int k n) = some (.int .u64 (IntKind.u64.wrap n)) := x_conv Try.underlying3 Try.underlying41 k n
theorem cv3_42 (k : IntKind) (n : Int) : hconvert Try.prog 3 42 (.int k n) = some (.int .u64 (IntKind.u64.wrap n)) := x_conv Try.underlying3 Try.underlying42 k n
theorem cv42_3 (k : IntKind) (n : Int) : hconvert Try.prog 42 3 (.int k n) = some (.int .i64 (IntKind.i64.wrap n)) := x_conv Try.underlying42 Try.underlying3 k n
theorem cv5_3 (k : IntKind) (n : Int) : hconvert Try.prog 5 3 (.int k n) = some (.int .i64 (IntKind.i64.wrap n)) := x_conv Try.underlying5 Try.underlying3 k n
theorem cp23 (H : HHeap) (b o : Nat) (s : Option Nat) (len cap : Nat) (x : Value) : hcopy Try.prog H 23 (.slice (some ⟨b, o, s⟩) len cap) x = hb1 (hcp H b o 1 len) (hsource H 1 x) := x_copy Try.underlying23 el42 b o s len cap x
theorem fa25_0 (b o : Nat) : hfieldAt Try.prog 25 (.pointer (some ⟨b, o, none⟩)) 0 = some (.pointer (some ⟨b, o + 0, none⟩)) := x_field Try.underlying25 rfl sz3 (by decide) 0 rfl b o
theorem sz22 : hsize Try.prog 22 = some 1 := by kernel_rfl
theorem fa25_1 (b o : Nat) : hfieldAt Try.prog 25 (.pointer (some ⟨b, o, none⟩)) 1 = some (.pointer (some ⟨b, o + 1, none⟩)) := x_field Try.underlying25 rfl sz22 (by decide) 1 rfl b o
theorem fa25_2 (b o : Nat) : hfieldAt Try.prog 25 (.pointer (some ⟨b, o, none⟩)) 2 = some (.pointer (some ⟨b, o + 2, none⟩)) := x_field Try.underlying25 rfl sz23 (by decide) 2 rfl b o
theorem fa61_0 (b o : Nat) : hfieldAt Try.prog 61 (.pointer (some ⟨b, o, none⟩)) 0 = some (.pointer (some ⟨b, o + 0, none⟩)) := x_field Try.underlying61 rfl sz3 (by decide) 0 rfl b o
theorem fa61_1 (b o : Nat) : hfieldAt Try.prog 61 (.pointer (some ⟨b, o, none⟩)) 1 = some (.pointer (some ⟨b, o + 1, none⟩)) := x_field Try.underlying61 rfl sz23 (by decide) 1 rfl b o
theorem fa65_0 (b o : Nat) : hfieldAt Try.prog 65 (.pointer (some ⟨b, o, none⟩)) 0 = some (.pointer (some ⟨b, o + 0, none⟩)) := x_field Try.underlying65 rfl sz27 (by decide) 0 rfl b o
theorem fa65_1 (b o : Nat) : hfieldAt Try.prog 65 (.pointer (some ⟨b, o, none⟩)) 1 = some (.pointer (some ⟨b, o + 1, none⟩)) := x_field Try.underlying65 rfl sz27 (by decide) 1 rfl b o
theorem fa65_2 (b o : Nat) : hfieldAt Try.prog 65 (.pointer (some ⟨b, o, none⟩)) 2 = some (.pointer (some ⟨b, o + 2, none⟩)) := x_field Try.underlying65 rfl sz40 (by decide) 2 rfl b o
theorem fa65_3 (b o : Nat) : hfieldAt Try.prog 65 (.pointer (some ⟨b, o, none⟩)) 3 = some (.pointer (some ⟨b, o + 3, none⟩)) := x_field Try.underlying65 rfl sz23 (by decide) 3 rfl b o
theorem fa69_0 (b o : Nat) : hfieldAt Try.prog 69 (.pointer (some ⟨b, o, none⟩)) 0 = some (.pointer (some ⟨b, o + 0, none⟩)) := x_field Try.underlying69 rfl sz3 (by decide) 0 rfl b o
theorem fa69_1 (b o : Nat) : hfieldAt Try.prog 69 (.pointer (some ⟨b, o, none⟩)) 1 = some (.pointer (some ⟨b, o + 1, none⟩)) := x_field Try.underlying69 rfl sz3 (by decide) 1 rfl b o
theorem fa69_2 (b o : Nat) : hfieldAt Try.prog 69 (.pointer (some ⟨b, o, none⟩)) 2 = some (.pointer (some ⟨b, o + 2, none⟩)) := x_field Try.underlying69 rfl sz67 (by decide) 2 rfl b o
theorem fa72_0 (b o : Nat) : hfieldAt Try.prog 72 (.pointer (some ⟨b, o, none⟩)) 0 = some (.pointer (some ⟨b, o + 0, none⟩)) := x_field Try.underlying72 rfl sz3 (by decide) 0 rfl b o
theorem fa72_1 (b o : Nat) : hfieldAt Try.prog 72 (.pointer (some ⟨b, o, none⟩)) 1 = some (.pointer (some ⟨b, o + 1, none⟩)) := x_field Try.underlying72 rfl sz3 (by decide) 1 rfl b o
theorem fa72_2 (b o : Nat) : hfieldAt Try.prog 72 (.pointer (some ⟨b, o, none⟩)) 2 = some (.pointer (some ⟨b, o + 2, none⟩)) := x_field Try.underlying72 rfl sz23 (by decide) 2 rfl b o
theorem fa83_0 (b o : Nat) : hfieldAt Try.prog 83 (.pointer (some ⟨b, o, none⟩)) 0 = some (.pointer (some ⟨b, o + 0, none⟩)) := x_field Try.underlying83 rfl sz23 (by decide) 0 rfl b o
theorem fa83_1 (b o : Nat) : hfieldAt Try.prog 83 (.pointer (some ⟨b, o, none⟩)) 1 = some (.pointer (some ⟨b, o + 1, none⟩)) := x_field Try.underlying83 rfl sz74 (by decide) 1 rfl b o
theorem fa83_2 (b o : Nat) : hfieldAt Try.prog 83 (.pointer (some ⟨b, o, none⟩)) 2 = some (.pointer (some ⟨b, o + 2, none⟩)) := x_field Try.underlying83 rfl sz3 (by decide) 2 rfl b o
theorem sz61 : hsize Try.prog 61 = some 2 := by kernel_rfl
theorem ix22 (b o len cap : Nat) (s : Option Nat) (k : IntKind) (i : Int) : hindexAt Try.prog 22 (.slice (some ⟨b, o, s⟩) len cap) (.int k i) = ixa b o 2 len i := x_index Try.underlying22 sz61 b o len cap s k i
theorem sz42 : hsize Try.prog 42 = some 1 := by kernel_rfl
theorem ix23 (b o len cap : Nat) (s : Option Nat) (k : IntKind) (i : Int) : hindexAt Try.prog 23 (.slice (some ⟨b, o, s⟩) len cap) (.int k i) = ixa b o 1 len i := x_index Try.underlying23 sz42 b o len cap s k i
theorem sz72 : hsize Try.prog 72 = some 3 := by kernel_rfl
theorem ix67 (b o len cap : Nat) (s : Option Nat) (k : IntKind) (i : Int) : hindexAt Try.prog 67 (.slice (some ⟨b, o, s⟩) len cap) (.int k i) = ixa b o 3 len i := x_index Try.underlying67 sz72 b o len cap s k i
theorem sz4 : hsize Try.prog 4 = some 1 := by kernel_rfl
theorem ix74 (b o len cap : Nat) (s : Option Nat) (k : IntKind) (i : Int) : hindexAt Try.prog 74 (.slice (some ⟨b, o, s⟩) len cap) (.int k i) = ixa b o 1 len i := x_index Try.underlying74 sz4 b o len cap s k i
theorem ln22 (H : HHeap) (a : Option Addr) (n c : Nat) : hlen Try.prog H 22 (.slice a n c) = some (.int .i64 n) := x_lenS Try.underlying22 a n c
theorem ln23 (H : HHeap) (a : Option Addr) (n c : Nat) : hlen Try.prog H 23 (.slice a n c) = some (.int .i64 n) := x_lenS Try.underlying23 a n c
theorem ln67 (H : HHeap) (a : Option Addr) (n c : Nat) : hlen Try.prog H 67 (.slice a n c) = some (.int .i64 n) := x_lenS Try.underlying67 a n c
theorem ag22 : hagg Try.prog 22 = some false := by kernel_rfl
theorem ld22 (H : HHeap) (b o : Nat) : hload Try.prog H 22 (.pointer (some ⟨b, o, none⟩)) = ldc (H.get b) o := x_load ag22 b o
theorem ag23 : hagg Try.prog 23 = some false := by kernel_rfl
theorem ld23 (H : HHeap) (b o : Nat) : hload Try.prog H 23 (.pointer (some ⟨b, o, none⟩)) = ldc (H.get b) o := x_load ag23 b o
theorem ag25 : hagg Try.prog 25 = some true := by kernel_rfl
theorem sz25 : hsize Try.prog 25 = some 3 := by kernel_rfl
theorem ld25 (H : HHeap) (b o : Nat) : hload Try.prog H 25 (.pointer (some ⟨b, o, none⟩)) = lda (H.get b) o 3 := x_loadN ag25 sz25 b o
theorem ag27 : hagg Try.prog 27 = some false := by kernel_rfl
theorem ld27 (H : HHeap) (b o : Nat) : hload Try.prog H 27 (.pointer (some ⟨b, o, none⟩)) = ldc (H.get b) o := x_load ag27 b o
theorem ag3 : hagg Try.prog 3 = some false := by kernel_rfl
theorem ld3 (H : HHeap) (b o : Nat) : hload Try.prog H 3 (.pointer (some ⟨b, o, none⟩)) = ldc (H.get b) o := x_load ag3 b o
theorem ag4 : hagg Try.prog 4 = some false := by kernel_rfl
theorem ld4 (H : HHeap) (b o : Nat) : hload Try.prog H 4 (.pointer (some ⟨b, o, none⟩)) = ldc (H.get b) o := x_load ag4 b o
theorem ag40 : hagg Try.prog 40 = some false := by kernel_rfl
theorem ld40 (H : HHeap) (b o : Nat) : hload Try.prog H 40 (.pointer (some ⟨b, o, none⟩)) = ldc (H.get b) o := x_load ag40 b o
theorem ag42 : hagg Try.prog 42 = some false := by kernel_rfl
theorem ld42 (H : HHeap) (b o : Nat) : hload Try.prog H 42 (.pointer (some ⟨b, o, none⟩)) = ldc (H.get b) o := x_load ag42 b o
theorem ag61 : hagg Try.prog 61 = some true := by kernel_rfl
theorem ld61 (H : HHeap) (b o : Nat) : hload Try.prog H 61 (.pointer (some ⟨b, o, none⟩)) = lda (H.get b) o 2 := x_loadN ag61 sz61 b o
theorem ag67 : hagg Try.prog 67 = some false := by kernel_rfl
theorem ld67 (H : HHeap) (b o : Nat) : hload Try.prog H 67 (.pointer (some ⟨b, o, none⟩)) = ldc (H.get b) o := x_load ag67 b o
theorem ag72 : hagg Try.prog 72 = some true := by kernel_rfl
theorem ld72 (H : HHeap) (b o : Nat) : hload Try.prog H 72 (.pointer (some ⟨b, o, none⟩)) = lda (H.get b) o 3 := x_loadN ag72 sz72 b o
theorem ag74 : hagg Try.prog 74 = some false := by kernel_rfl
theorem ld74 (H : HHeap) (b o : Nat) : hload Try.prog H 74 (.pointer (some ⟨b, o, none⟩)) = ldc (H.get b) o := x_load ag74 b o
theorem mk23 (H : HHeap) (k k' : IntKind) (l c : Int) : hmakeSlice Try.prog H 23 (.int k l) (.int k' c) = mks H (.int .u64 0) 8 l c := x_make Try.underlying23 el42 k k' l c
theorem el4 : helem Try.prog 4 = some ⟨[.bool false], 1, 1⟩ := by kernel_rfl
theorem mk74 (H : HHeap) (k k' : IntKind) (l c : Int) : hmakeSlice Try.prog H 74 (.int k l) (.int k' c) = mks H (.bool false) 1 l c := x_make Try.underlying74 el4 k k' l c
theorem sl23 (b o len cap : Nat) (lo hi mx : Option Value) : hslice Try.prog 23 (.slice (some ⟨b, o, none⟩) len cap) lo hi mx = slx b o 1 len cap lo hi mx := x_slice Try.underlying23 sz42 b o len cap lo hi mx
theorem slg23 (b o k len cap : Nat) (lo hi mx : Option Value) : hslice Try.prog 23 (.slice (some ⟨b, o, some k⟩) len cap) lo hi mx = slg b o 1 k len cap lo hi mx := x_sliceG Try.underlying23 sz42 b o k len cap lo hi mx
theorem sln23 (lo hi mx : Option Value) : hslice Try.prog 23 (.slice none 0 0) lo hi mx = sln lo hi mx := x_sliceN Try.underlying23 sz42 lo hi mx
theorem st23 (H : HHeap) (b o : Nat) (x : Option Addr) (xl xc : Nat) : hstore Try.prog H 23 (.pointer (some ⟨b, o, none⟩)) (.slice x xl xc) = stc H b (H.get b) o (.slice x xl xc) := x_store sz23 b o rfl
theorem st3 (H : HHeap) (b o : Nat) (xk : IntKind) (x : Int) : hstore Try.prog H 3 (.pointer (some ⟨b, o, none⟩)) (.int xk x) = stc H b (H.get b) o (.int xk x) := x_store sz3 b o rfl
theorem st4 (H : HHeap) (b o : Nat) (x : Bool) : hstore Try.prog H 4 (.pointer (some ⟨b, o, none⟩)) (.bool x) = stc H b (H.get b) o (.bool x) := x_store sz4 b o rfl
theorem st42 (H : HHeap) (b o : Nat) (xk : IntKind) (x : Int) : hstore Try.prog H 42 (.pointer (some ⟨b, o, none⟩)) (.int xk x) = stc H b (H.get b) o (.int xk x) := x_store sz42 b o rfl
theorem st61 (H : HHeap) (b o : Nat) (v0 v1 : Value) (h : allOne [v0, v1] = true) : hstore Try.prog H 61 (.pointer (some ⟨b, o, none⟩)) (.agg #[v0, v1]) = sta H b (H.get b) o [v0, v1] := x_storeN sz61 b o rfl h
theorem st67 (H : HHeap) (b o : Nat) (x : Option Addr) (xl xc : Nat) : hstore Try.prog H 67 (.pointer (some ⟨b, o, none⟩)) (.slice x xl xc) = stc H b (H.get b) o (.slice x xl xc) := x_store sz67 b o rfl
theorem st72 (H : HHeap) (b o : Nat) (v0 v1 v2 : Value) (h : allOne [v0, v1, v2] = true) : hstore Try.prog H 72 (.pointer (some ⟨b, o, none⟩)) (.agg #[v0, v1, v2]) = sta H b (H.get b) o [v0, v1, v2] := x_storeN sz72 b o rfl h
theorem wh3 (vs : List Value) : hwho Try.prog (some (.func (.func 3) #[] #[])) (some vs) = some (3, vs) := hwho_func0 3 vs (by kernel_rfl)
theorem wh4 (vs : List Value) : hwho Try.prog (some (.func (.func 4) #[] #[])) (some vs) = some (4, vs) := hwho_func0 4 vs (by kernel_rfl)
theorem wh5 (vs : List Value) : hwho Try.prog (some (.func (.func 5) #[] #[])) (some vs) = some (5, vs) := hwho_func0 5 vs (by kernel_rfl)
theorem wh6 (vs : List Value) : hwho Try.prog (some (.func (.func 6) #[] #[])) (some vs) = some (6, vs) := hwho_func0 6 vs (by kernel_rfl)
theorem wh7 (vs : List Value) : hwho Try.prog (some (.func (.func 7) #[] #[])) (some vs) = some (7, vs) := hwho_func0 7 vs (by kernel_rfl)
theorem wh8 (vs : List Value) : hwho Try.prog (some (.func (.func 8) #[] #[])) (some vs) = some (8, vs) := hwho_func0 8 vs (by kernel_rfl)
theorem wh9 (vs : List Value) : hwho Try.prog (some (.func (.func 9) #[] #[])) (some vs) = some (9, vs) := hwho_func0 9 vs (by kernel_rfl)
theorem wh10 (vs : List Value) : hwho Try.prog (some (.func (.func 10) #[] #[])) (some vs) = some (10, vs) := hwho_func0 10 vs (by kernel_rfl)
theorem wh11 (vs : List Value) : hwho Try.prog (some (.func (.func 11) #[] #[])) (some vs) = some (11, vs) := hwho_func0 11 vs (by kernel_rfl)
theorem wh12 (vs : List Value) : hwho Try.prog (some (.func (.func 12) #[] #[])) (some vs) = some (12, vs) := hwho_func0 12 vs (by kernel_rfl)
theorem wh13 (vs : List Value) : hwho Try.prog (some (.func (.func 13) #[] #[])) (some vs) = some (13, vs) := hwho_func0 13 vs (by kernel_rfl)
theorem wh14 (vs : List Value) : hwho Try.prog (some (.func (.func 14) #[] #[])) (some vs) = some (14, vs) := hwho_func0 14 vs (by kernel_rfl)
theorem wh15 (vs : List Value) : hwho Try.prog (some (.func (.func 15) #[] #[])) (some vs) = some (15, vs) := hwho_func0 15 vs (by kernel_rfl)
theorem wh16 (vs : List Value) : hwho Try.prog (some (.func (.func 16) #[] #[])) (some vs) = some (16, vs) := hwho_func0 16 vs (by kernel_rfl)
theorem wh17 (vs : List Value) : hwho Try.prog (some (.func (.func 17) #[] #[])) (some vs) = some (17, vs) := hwho_func0 17 vs (by kernel_rfl)
theorem wh18 (vs : List Value) : hwho Try.prog (some (.func (.func 18) #[] #[])) (some vs) = some (18, vs) := hwho_func0 18 vs (by kernel_rfl)
theorem wh19 (vs : List Value) : hwho Try.prog (some (.func (.func 19) #[] #[])) (some vs) = some (19, vs) := hwho_func0 19 vs (by kernel_rfl)
theorem wh20 (vs : List Value) : hwho Try.prog (some (.func (.func 20) #[] #[])) (some vs) = some (20, vs) := hwho_func0 20 vs (by kernel_rfl)
theorem wh21 (vs : List Value) : hwho Try.prog (some (.func (.func 21) #[] #[])) (some vs) = some (21, vs) := hwho_func0 21 vs (by kernel_rfl)
theorem wh22 (vs : List Value) : hwho Try.prog (some (.func (.func 22) #[] #[])) (some vs) = some (22, vs) := hwho_func0 22 vs (by kernel_rfl)
theorem wh23 (vs : List Value) : hwho Try.prog (some (.func (.func 23) #[] #[])) (some vs) = some (23, vs) := hwho_func0 23 vs (by kernel_rfl)
theorem wh24 (vs : List Value) : hwho Try.prog (some (.func (.func 24) #[] #[])) (some vs) = some (24, vs) := hwho_func0 24 vs (by kernel_rfl)
theorem wh25 (vs : List Value) : hwho Try.prog (some (.func (.func 25) #[] #[])) (some vs) = some (25, vs) := hwho_func0 25 vs (by kernel_rfl)
theorem wh26 (vs : List Value) : hwho Try.prog (some (.func (.func 26) #[] #[])) (some vs) = some (26, vs) := hwho_func0 26 vs (by kernel_rfl)
theorem wh27 (vs : List Value) : hwho Try.prog (some (.func (.func 27) #[] #[])) (some vs) = some (27, vs) := hwho_func0 27 vs (by kernel_rfl)
theorem wh28 (vs : List Value) : hwho Try.prog (some (.func (.func 28) #[] #[])) (some vs) = some (28, vs) := hwho_func0 28 vs (by kernel_rfl)
theorem wh29 (vs : List Value) : hwho Try.prog (some (.func (.func 29) #[] #[])) (some vs) = some (29, vs) := hwho_func0 29 vs (by kernel_rfl)
theorem wh30 (vs : List Value) : hwho Try.prog (some (.func (.func 30) #[] #[])) (some vs) = some (30, vs) := hwho_func0 30 vs (by kernel_rfl)
theorem wh31 (vs : List Value) : hwho Try.prog (some (.func (.func 31) #[] #[])) (some vs) = some (31, vs) := hwho_func0 31 vs (by kernel_rfl)
theorem wh32 (vs : List Value) : hwho Try.prog (some (.func (.func 32) #[] #[])) (some vs) = some (32, vs) := hwho_func0 32 vs (by kernel_rfl)
theorem wh33 (vs : List Value) : hwho Try.prog (some (.func (.func 33) #[] #[])) (some vs) = some (33, vs) := hwho_func0 33 vs (by kernel_rfl)
theorem wh34 (vs : List Value) : hwho Try.prog (some (.func (.func 34) #[] #[])) (some vs) = some (34, vs) := hwho_func0 34 vs (by kernel_rfl)
theorem wh35 (vs : List Value) : hwho Try.prog (some (.func (.func 35) #[] #[])) (some vs) = some (35, vs) := hwho_func0 35 vs (by kernel_rfl)
theorem wh36 (vs : List Value) : hwho Try.prog (some (.func (.func 36) #[] #[])) (some vs) = some (36, vs) := hwho_func0 36 vs (by kernel_rfl)
theorem wh37 (vs : List Value) : hwho Try.prog (some (.func (.func 37) #[] #[])) (some vs) = some (37, vs) := hwho_func0 37 vs (by kernel_rfl)
theorem wh38 (vs : List Value) : hwho Try.prog (some (.func (.func 38) #[] #[])) (some vs) = some (38, vs) := hwho_func0 38 vs (by kernel_rfl)
theorem mixed : Try.prog.follows .mixedOrders = true := by kernel_rfl
attribute [go_sem] al61 al72 ap23_23 ap67_67 bd65_0_1_2 bd69_0 bd72_0_1_2 bd83_0_1 bs23_0_ bs23_1_0 bs23_2_0_1 bs67_1_0 pe27 pn27 pez27 pnz27 be4 bn4 cv3_41 cv3_42 cv42_3 cv5_3 cp23 fa25_0 fa25_1 fa25_2 fa61_0 fa61_1 fa65_0 fa65_1 fa65_2 fa65_3 fa69_0 fa69_1 fa69_2 fa72_0 fa72_1 fa72_2 fa83_0 fa83_1 fa83_2 ix22 ix23 ix67 ix74 ln22 ln23 ln67 ld22 ld23 ld25 ld27 ld3 ld4 ld40 ld42 ld61 ld67 ld72 ld74 mk23 mk74 sl23 slg23 sln23 st23 st3 st4 st42 st61 st67 st72 wh3 wh4 wh5 wh6 wh7 wh8 wh9 wh10 wh11 wh12 wh13 wh14 wh15 wh16 wh17 wh18 wh19 wh20 wh21 wh22 wh23 wh24 wh25 wh26 wh27 wh28 wh29 wh30 wh31 wh32 wh33 wh34 wh35 wh36 wh37 wh38
end Go.HL
