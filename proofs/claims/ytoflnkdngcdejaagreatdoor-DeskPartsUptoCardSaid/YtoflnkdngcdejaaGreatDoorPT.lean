/-
  The instances of this program's types. Printed by wip/tools/mkT.py.
-/
import Derived.Test.YtoflnkdngcdejaaGreatDoorPG5
import Derived.Test.YtoflnkdngcdejaaGreatDoorProg
import Derived.KernelRfl
set_option linter.unusedVariables false
set_option linter.unusedSimpArgs false
namespace Go.HL
open Go.RowKit Go.Proofs
set_option maxRecDepth 100000
set_option maxHeartbeats 4000000
theorem el31 : helem Tryz.prog 31 = some ⟨[.int .i64 0, .int .i64 0, .int .i64 0, S []], 4, 40⟩ := by kernel_rfl
theorem al31 (H : HHeap) : halloc Tryz.prog H 31 = some (.pointer (some ⟨H.next, 0, none⟩), H.push (.cells [.int .i64 0, .int .i64 0, .int .i64 0, S []] true)) := x_alloc el31
theorem isS23 : isStr Tryz.prog 23 = true := by kernel_rfl
theorem el9 : helem Tryz.prog 9 = some ⟨[S []], 1, 16⟩ := by kernel_rfl
theorem ap23_23 (H : HHeap) (s x : Value) : happend Tryz.prog H 23 23 s x = hb1 (apd H 1 16 s) (hsource H 1 x) := x_append Tryz.underlying23 isS23 el9 (by decide) s x
theorem bs23_1_0 (H : HHeap) (x0 : List UInt8) : hbuildSlice Tryz.prog H 23 1 [(0, S x0)] = some (.slice (some ⟨H.next, 0, none⟩) 1 1, H.push (.cells [S x0] true)) := by simp only [hbuildSlice, el9, Tryz.underlying23, Option.bind_some]; rfl
theorem el3 : helem Tryz.prog 3 = some ⟨[.int .i64 0], 1, 8⟩ := by kernel_rfl
theorem bs38_1_0 (H : HHeap) (x0k : IntKind) (x0 : Int) : hbuildSlice Tryz.prog H 38 1 [(0, .int x0k x0)] = some (.slice (some ⟨H.next, 0, none⟩) 1 1, H.push (.cells [.int x0k x0] true)) := by simp only [hbuildSlice, el3, Tryz.underlying38, Option.bind_some]; rfl
theorem bs38_2_0_1 (H : HHeap) (x0k : IntKind) (x0 : Int) (x1k : IntKind) (x1 : Int) : hbuildSlice Tryz.prog H 38 2 [(0, .int x0k x0), (1, .int x1k x1)] = some (.slice (some ⟨H.next, 0, none⟩) 2 2, H.push (.cells [.int x0k x0, .int x1k x1] true)) := by simp only [hbuildSlice, el3, Tryz.underlying38, Option.bind_some]; rfl
theorem el5 : helem Tryz.prog 5 = some ⟨[.int .u8 0], 1, 1⟩ := by kernel_rfl
theorem bs42_1_0 (H : HHeap) (x0k : IntKind) (x0 : Int) : hbuildSlice Tryz.prog H 42 1 [(0, .int x0k x0)] = some (.slice (some ⟨H.next, 0, none⟩) 1 1, H.push (.cells [.int x0k x0] true)) := by simp only [hbuildSlice, el5, Tryz.underlying42, Option.bind_some]; rfl
theorem kd4 : kindOf Tryz.prog 4 = 1 := by kernel_rfl
theorem be4 (a b : Bool) : hbin Tryz.prog .eql 4 (.bool a) (.bool b) = some (.bool (a == b)) := x_bool_eq kd4 a b
theorem bn4 (a b : Bool) : hbin Tryz.prog .neq 4 (.bool a) (.bool b) = some (.bool (!(a == b))) := x_bool_ne kd4 a b
theorem cv3_68 (k : IntKind) (n : Int) : hconvert Tryz.prog 3 68 (.int k n) = some (.int .u64 (IntKind.u64.wrap n)) := x_conv Tryz.underlying3 Tryz.underlying68 k n
theorem cv68_5 (k : IntKind) (n : Int) : hconvert Tryz.prog 68 5 (.int k n) = some (.int .u8 (IntKind.u8.wrap n)) := x_conv Tryz.underlying68 Tryz.underlying5 k n
theorem sz3 : hsize Tryz.prog 3 = some 1 := by kernel_rfl
theorem fa31_0 (b o : Nat) : hfieldAt Tryz.prog 31 (.pointer (some ⟨b, o, none⟩)) 0 = some (.pointer (some ⟨b, o + 0, none⟩)) := x_field Tryz.underlying31 rfl sz3 (by decide) 0 rfl b o
theorem fa31_1 (b o : Nat) : hfieldAt Tryz.prog 31 (.pointer (some ⟨b, o, none⟩)) 1 = some (.pointer (some ⟨b, o + 1, none⟩)) := x_field Tryz.underlying31 rfl sz3 (by decide) 1 rfl b o
theorem fa31_2 (b o : Nat) : hfieldAt Tryz.prog 31 (.pointer (some ⟨b, o, none⟩)) 2 = some (.pointer (some ⟨b, o + 2, none⟩)) := x_field Tryz.underlying31 rfl sz3 (by decide) 2 rfl b o
theorem sz9 : hsize Tryz.prog 9 = some 1 := by kernel_rfl
theorem fa31_3 (b o : Nat) : hfieldAt Tryz.prog 31 (.pointer (some ⟨b, o, none⟩)) 3 = some (.pointer (some ⟨b, o + 3, none⟩)) := x_field Tryz.underlying31 rfl sz9 (by decide) 3 rfl b o
theorem sx9 (l : List UInt8) (k : IntKind) (i : Int) : hindex Tryz.prog 9 (S l) (.int k i) = six l i := s_index Tryz.underlying9 l k i
theorem sz31 : hsize Tryz.prog 31 = some 4 := by kernel_rfl
theorem ix22 (b o len cap : Nat) (s : Option Nat) (k : IntKind) (i : Int) : hindexAt Tryz.prog 22 (.slice (some ⟨b, o, s⟩) len cap) (.int k i) = ixa b o 4 len i := x_index Tryz.underlying22 sz31 b o len cap s k i
theorem ix23 (b o len cap : Nat) (s : Option Nat) (k : IntKind) (i : Int) : hindexAt Tryz.prog 23 (.slice (some ⟨b, o, s⟩) len cap) (.int k i) = ixa b o 1 len i := x_index Tryz.underlying23 sz9 b o len cap s k i
theorem ix38 (b o len cap : Nat) (s : Option Nat) (k : IntKind) (i : Int) : hindexAt Tryz.prog 38 (.slice (some ⟨b, o, s⟩) len cap) (.int k i) = ixa b o 1 len i := x_index Tryz.underlying38 sz3 b o len cap s k i
theorem ln22 (H : HHeap) (a : Option Addr) (n c : Nat) : hlen Tryz.prog H 22 (.slice a n c) = some (.int .i64 n) := x_lenS Tryz.underlying22 a n c
theorem ln23 (H : HHeap) (a : Option Addr) (n c : Nat) : hlen Tryz.prog H 23 (.slice a n c) = some (.int .i64 n) := x_lenS Tryz.underlying23 a n c
theorem ln38 (H : HHeap) (a : Option Addr) (n c : Nat) : hlen Tryz.prog H 38 (.slice a n c) = some (.int .i64 n) := x_lenS Tryz.underlying38 a n c
theorem ln9 (H : HHeap) (s : List UInt8) : hlen Tryz.prog H 9 (S s) = some (.int .i64 (s.length : Nat)) := s_len Tryz.underlying9 H s
theorem ag3 : hagg Tryz.prog 3 = some false := by kernel_rfl
theorem ld3 (H : HHeap) (b o : Nat) : hload Tryz.prog H 3 (.pointer (some ⟨b, o, none⟩)) = ldc (H.get b) o := x_load ag3 b o
theorem ag31 : hagg Tryz.prog 31 = some true := by kernel_rfl
theorem ld31 (H : HHeap) (b o : Nat) : hload Tryz.prog H 31 (.pointer (some ⟨b, o, none⟩)) = lda (H.get b) o 4 := x_loadN ag31 sz31 b o
theorem ag9 : hagg Tryz.prog 9 = some false := by kernel_rfl
theorem ld9 (H : HHeap) (b o : Nat) : hload Tryz.prog H 9 (.pointer (some ⟨b, o, none⟩)) = ldc (H.get b) o := x_load ag9 b o
theorem sl22 (b o len cap : Nat) (lo hi mx : Option Value) : hslice Tryz.prog 22 (.slice (some ⟨b, o, none⟩) len cap) lo hi mx = slx b o 4 len cap lo hi mx := x_slice Tryz.underlying22 sz31 b o len cap lo hi mx
theorem slg22 (b o k len cap : Nat) (lo hi mx : Option Value) : hslice Tryz.prog 22 (.slice (some ⟨b, o, some k⟩) len cap) lo hi mx = slg b o 4 k len cap lo hi mx := x_sliceG Tryz.underlying22 sz31 b o k len cap lo hi mx
theorem sln22 (lo hi mx : Option Value) : hslice Tryz.prog 22 (.slice none 0 0) lo hi mx = sln lo hi mx := x_sliceN Tryz.underlying22 sz31 lo hi mx
theorem ss9 (l : List UInt8) (lo hi : Option Value) : hslice Tryz.prog 9 (S l) lo hi none = ssl l lo hi := s_slice Tryz.underlying9 l lo hi
theorem st31 (H : HHeap) (b o : Nat) (v0 v1 v2 v3 : Value) (h : allOne [v0, v1, v2, v3] = true) : hstore Tryz.prog H 31 (.pointer (some ⟨b, o, none⟩)) (.agg #[v0, v1, v2, v3]) = sta H b (H.get b) o [v0, v1, v2, v3] := x_storeN sz31 b o rfl h
theorem st9 (H : HHeap) (b o : Nat) (x : List UInt8) : hstore Tryz.prog H 9 (.pointer (some ⟨b, o, none⟩)) (S x) = stc H b (H.get b) o (S x) := x_store sz9 b o rfl
theorem wh3 (vs : List Value) : hwho Tryz.prog (some (.func (.func 3) #[] #[])) (some vs) = some (3, vs) := hwho_func0 3 vs (by kernel_rfl)
theorem wh4 (vs : List Value) : hwho Tryz.prog (some (.func (.func 4) #[] #[])) (some vs) = some (4, vs) := hwho_func0 4 vs (by kernel_rfl)
theorem wh5 (vs : List Value) : hwho Tryz.prog (some (.func (.func 5) #[] #[])) (some vs) = some (5, vs) := hwho_func0 5 vs (by kernel_rfl)
theorem wh6 (vs : List Value) : hwho Tryz.prog (some (.func (.func 6) #[] #[])) (some vs) = some (6, vs) := hwho_func0 6 vs (by kernel_rfl)
theorem wh7 (vs : List Value) : hwho Tryz.prog (some (.func (.func 7) #[] #[])) (some vs) = some (7, vs) := hwho_func0 7 vs (by kernel_rfl)
theorem wh9 (vs : List Value) : hwho Tryz.prog (some (.func (.func 9) #[] #[])) (some vs) = some (9, vs) := hwho_func0 9 vs (by kernel_rfl)
theorem wh10 (vs : List Value) : hwho Tryz.prog (some (.func (.func 10) #[] #[])) (some vs) = some (10, vs) := hwho_func0 10 vs (by kernel_rfl)
theorem wh12 (vs : List Value) : hwho Tryz.prog (some (.func (.func 12) #[] #[])) (some vs) = some (12, vs) := hwho_func0 12 vs (by kernel_rfl)
theorem wh16 (vs : List Value) : hwho Tryz.prog (some (.func (.func 16) #[] #[])) (some vs) = some (16, vs) := hwho_func0 16 vs (by kernel_rfl)
theorem wh21 (vs : List Value) : hwho Tryz.prog (some (.func (.func 21) #[] #[])) (some vs) = some (21, vs) := hwho_func0 21 vs (by kernel_rfl)
theorem wh33 (vs : List Value) : hwho Tryz.prog (some (.func (.func 33) #[] #[])) (some vs) = some (33, vs) := hwho_func0 33 vs (by kernel_rfl)
theorem mixed : Tryz.prog.follows .mixedOrders = true := by kernel_rfl
attribute [go_sem] al31 ap23_23 bs23_1_0 bs38_1_0 bs38_2_0_1 bs42_1_0 be4 bn4 cv3_68 cv68_5 fa31_0 fa31_1 fa31_2 fa31_3 sx9 ix22 ix23 ix38 ln22 ln23 ln38 ln9 ld3 ld31 ld9 sl22 slg22 sln22 ss9 st31 st9 wh3 wh4 wh5 wh6 wh7 wh9 wh10 wh12 wh16 wh21 wh33
end Go.HL
