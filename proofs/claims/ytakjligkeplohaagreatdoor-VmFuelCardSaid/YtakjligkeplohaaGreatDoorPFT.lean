/-
  The instances of this program's types. Printed by wip/tools/mkT.py.
-/
import Derived.Test.YtakjligkeplohaaGreatDoorPFG6
import Derived.Test.YtakjligkeplohaaGreatDoorProg
import Derived.KernelRfl
set_option linter.unusedVariables false
set_option linter.unusedSimpArgs false
namespace Go.HL
open Go.RowKit Go.Proofs
set_option maxRecDepth 100000
set_option maxHeartbeats 4000000
theorem el54 : helem Tryz.prog 54 = some ⟨[.int .u8 0, .int .i64 0, .int .i64 0, .int .u64 0], 4, 32⟩ := by kernel_rfl
theorem al54 (H : HHeap) : halloc Tryz.prog H 54 = some (.pointer (some ⟨H.next, 0, none⟩), H.push (.cells [.int .u8 0, .int .i64 0, .int .i64 0, .int .u64 0] true)) := x_alloc el54
theorem el57 : helem Tryz.prog 57 = some ⟨[.int .i64 0, .slice none 0 0], 2, 32⟩ := by kernel_rfl
theorem al57 (H : HHeap) : halloc Tryz.prog H 57 = some (.pointer (some ⟨H.next, 0, none⟩), H.push (.cells [.int .i64 0, .slice none 0 0] true)) := x_alloc el57
theorem el75 : helem Tryz.prog 75 = some ⟨[.int .u64 0, .int .u64 0, .int .u64 0, .int .u64 0], 4, 32⟩ := by kernel_rfl
theorem al75 (H : HHeap) : halloc Tryz.prog H 75 = some (.pointer (some ⟨H.next, 0, none⟩), H.push (.cells [.int .u64 0, .int .u64 0, .int .u64 0, .int .u64 0] true)) := x_alloc el75
theorem isS25 : isStr Tryz.prog 25 = true := by kernel_rfl
theorem ap25_25 (H : HHeap) (s x : Value) : happend Tryz.prog H 25 25 s x = hb1 (apd H 2 32 s) (hsource H 2 x) := x_append Tryz.underlying25 isS25 el57 (by decide) s x
theorem isS45 : isStr Tryz.prog 45 = true := by kernel_rfl
theorem el35 : helem Tryz.prog 35 = some ⟨[.int .u64 0], 1, 8⟩ := by kernel_rfl
theorem ap45_45 (H : HHeap) (s x : Value) : happend Tryz.prog H 45 45 s x = hb1 (apd H 1 8 s) (hsource H 1 x) := x_append Tryz.underlying45 isS45 el35 (by decide) s x
theorem isS55 : isStr Tryz.prog 55 = true := by kernel_rfl
theorem ap55_55 (H : HHeap) (s x : Value) : happend Tryz.prog H 55 55 s x = hb1 (apd H 4 32 s) (hsource H 4 x) := x_append Tryz.underlying55 isS55 el54 (by decide) s x
theorem isS73 : isStr Tryz.prog 73 = true := by kernel_rfl
theorem el94 : helem Tryz.prog 94 = some ⟨[.int .u64 0, .bool false], 2, 16⟩ := by kernel_rfl
theorem ap73_73 (H : HHeap) (s x : Value) : happend Tryz.prog H 73 73 s x = hb1 (apd H 2 16 s) (hsource H 2 x) := x_append Tryz.underlying73 isS73 el94 (by decide) s x
theorem isS88 : isStr Tryz.prog 88 = true := by kernel_rfl
theorem el87 : helem Tryz.prog 87 = some ⟨[.pointer none], 1, 8⟩ := by kernel_rfl
theorem ap88_88 (H : HHeap) (s x : Value) : happend Tryz.prog H 88 88 s x = hb1 (apd H 1 8 s) (hsource H 1 x) := x_append Tryz.underlying88 isS88 el87 (by decide) s x
theorem el137 : helem Tryz.prog 137 = some ⟨[.slice none 0 0, .slice none 0 0, .int .i64 0], 3, 56⟩ := by kernel_rfl
theorem sz45 : hsize Tryz.prog 45 = some 1 := by kernel_rfl
theorem sz135 : hsize Tryz.prog 135 = some 1 := by kernel_rfl
theorem sz3 : hsize Tryz.prog 3 = some 1 := by kernel_rfl
theorem bd137_0_1 (x0 : Option Addr) (x0l x0c : Nat) (x1 : Option Addr) (x1l x1c : Nat) : hbuild Tryz.prog 137 [(0, .slice x0 x0l x0c), (1, .slice x1 x1l x1c)] = some (.agg #[.slice x0 x0l x0c, .slice x1 x1l x1c, .int .i64 0]) := by simp only [hbuild, el137, Tryz.underlying137, Option.bind_some, hplaces, sz135, sz3, sz45, Option.map_some]; rfl
theorem el217 : helem Tryz.prog 217 = some ⟨[.pointer none, .pointer none, .map none, .slice none 0 0], 4, 48⟩ := by kernel_rfl
theorem sz70 : hsize Tryz.prog 70 = some 1 := by kernel_rfl
theorem sz215 : hsize Tryz.prog 215 = some 1 := by kernel_rfl
theorem bd217_0_1_2 (x0 : Option Addr) (x1 : Option Addr) (x2 : Option Nat) : hbuild Tryz.prog 217 [(0, .pointer x0), (1, .pointer x1), (2, .map x2)] = some (.agg #[.pointer x0, .pointer x1, .map x2, .slice none 0 0]) := by simp only [hbuild, el217, Tryz.underlying217, Option.bind_some, hplaces, sz215, sz45, sz70, Option.map_some]; rfl
theorem sz55 : hsize Tryz.prog 55 = some 1 := by kernel_rfl
theorem bd57_0_1 (x0k : IntKind) (x0 : Int) (x1 : Option Addr) (x1l x1c : Nat) : hbuild Tryz.prog 57 [(0, .int x0k x0), (1, .slice x1 x1l x1c)] = some (.agg #[.int x0k x0, .slice x1 x1l x1c]) := by simp only [hbuild, el57, Tryz.underlying57, Option.bind_some, hplaces, sz3, sz55, Option.map_some]; rfl
theorem sz35 : hsize Tryz.prog 35 = some 1 := by kernel_rfl
theorem bd75_0_1_2_3 (x0k : IntKind) (x0 : Int) (x1k : IntKind) (x1 : Int) (x2k : IntKind) (x2 : Int) (x3k : IntKind) (x3 : Int) : hbuild Tryz.prog 75 [(0, .int x0k x0), (1, .int x1k x1), (2, .int x2k x2), (3, .int x3k x3)] = some (.agg #[.int x0k x0, .int x1k x1, .int x2k x2, .int x3k x3]) := by simp only [hbuild, el75, Tryz.underlying75, Option.bind_some, hplaces, sz35, Option.map_some]; rfl
theorem el78 : helem Tryz.prog 78 = some ⟨[.slice none 0 0, .pointer none, .slice none 0 0, .slice none 0 0, .int .i64 0, .int .i64 0, .int .i64 0, .int .u64 0, .int .u64 0, .int .u64 0, .int .u64 0, .int .i64 0, .int .i64 0, .slice none 0 0], 14, 176⟩ := by kernel_rfl
theorem sz25 : hsize Tryz.prog 25 = some 1 := by kernel_rfl
theorem sz73 : hsize Tryz.prog 73 = some 1 := by kernel_rfl
theorem sz75 : hsize Tryz.prog 75 = some 4 := by kernel_rfl
theorem sz31 : hsize Tryz.prog 31 = some 1 := by kernel_rfl
theorem bd78_1_2_7 (x1 : Option Addr) (x2 : Option Addr) (x2l x2c : Nat) (x7_0 x7_1 x7_2 x7_3 : Value) : hbuild Tryz.prog 78 [(1, .pointer x1), (2, .slice x2 x2l x2c), (7, .agg #[x7_0, x7_1, x7_2, x7_3])] = some (.agg #[.slice none 0 0, .pointer x1, .slice x2 x2l x2c, .slice none 0 0, .int .i64 0, .int .i64 0, .int .i64 0, x7_0, x7_1, x7_2, x7_3, .int .i64 0, .int .i64 0, .slice none 0 0]) := by simp only [hbuild, el78, Tryz.underlying78, Option.bind_some, hplaces, sz25, sz3, sz31, sz45, sz70, sz73, sz75, Option.map_some]; rfl
theorem sz4 : hsize Tryz.prog 4 = some 1 := by kernel_rfl
theorem bd94_  : hbuild Tryz.prog 94 [] = some (.agg #[.int .u64 0, .bool false]) := by simp only [hbuild, el94, Tryz.underlying94, Option.bind_some, hplaces, sz35, sz4, Option.map_some]; rfl
theorem bd94_0_1 (x0k : IntKind) (x0 : Int) (x1 : Bool) : hbuild Tryz.prog 94 [(0, .int x0k x0), (1, .bool x1)] = some (.agg #[.int x0k x0, .bool x1]) := by simp only [hbuild, el94, Tryz.underlying94, Option.bind_some, hplaces, sz35, sz4, Option.map_some]; rfl
theorem el45 : helem Tryz.prog 45 = some ⟨[.slice none 0 0], 1, 24⟩ := by kernel_rfl
theorem bs184_2_0_1 (H : HHeap) (x0 : Option Addr) (x0l x0c : Nat) (x1 : Option Addr) (x1l x1c : Nat) : hbuildSlice Tryz.prog H 184 2 [(0, .slice x0 x0l x0c), (1, .slice x1 x1l x1c)] = some (.slice (some ⟨H.next, 0, none⟩) 2 2, H.push (.cells [.slice x0 x0l x0c, .slice x1 x1l x1c] true)) := by simp only [hbuildSlice, el45, Tryz.underlying184, Option.bind_some]; rfl
theorem el73 : helem Tryz.prog 73 = some ⟨[.slice none 0 0], 1, 24⟩ := by kernel_rfl
theorem bs213_2_0_1 (H : HHeap) (x0 : Option Addr) (x0l x0c : Nat) (x1 : Option Addr) (x1l x1c : Nat) : hbuildSlice Tryz.prog H 213 2 [(0, .slice x0 x0l x0c), (1, .slice x1 x1l x1c)] = some (.slice (some ⟨H.next, 0, none⟩) 2 2, H.push (.cells [.slice x0 x0l x0c, .slice x1 x1l x1c] true)) := by simp only [hbuildSlice, el73, Tryz.underlying213, Option.bind_some]; rfl
theorem bs25_1_0 (H : HHeap) (x0_0 x0_1 : Value) (h0 : allOne [x0_0, x0_1] = true) : hbuildSlice Tryz.prog H 25 1 [(0, .agg #[x0_0, x0_1])] = some (.slice (some ⟨H.next, 0, none⟩) 1 1, H.push (.cells [x0_0, x0_1] true)) := by simp only [hbuildSlice, el57, Tryz.underlying25, Option.bind_some]; exact if_pos h0
theorem bs45_0_ (H : HHeap)  : hbuildSlice Tryz.prog H 45 0 [] = some (.slice (some ⟨H.next, 0, none⟩) 0 0, H.push (.cells [] true)) := by simp only [hbuildSlice, el35, Tryz.underlying45, Option.bind_some]; rfl
theorem bs45_1_0 (H : HHeap) (x0k : IntKind) (x0 : Int) : hbuildSlice Tryz.prog H 45 1 [(0, .int x0k x0)] = some (.slice (some ⟨H.next, 0, none⟩) 1 1, H.push (.cells [.int x0k x0] true)) := by simp only [hbuildSlice, el35, Tryz.underlying45, Option.bind_some]; rfl
theorem bs45_2_0_1 (H : HHeap) (x0k : IntKind) (x0 : Int) (x1k : IntKind) (x1 : Int) : hbuildSlice Tryz.prog H 45 2 [(0, .int x0k x0), (1, .int x1k x1)] = some (.slice (some ⟨H.next, 0, none⟩) 2 2, H.push (.cells [.int x0k x0, .int x1k x1] true)) := by simp only [hbuildSlice, el35, Tryz.underlying45, Option.bind_some]; rfl
theorem bs45_5_0_1_2_3_4 (H : HHeap) (x0k : IntKind) (x0 : Int) (x1k : IntKind) (x1 : Int) (x2k : IntKind) (x2 : Int) (x3k : IntKind) (x3 : Int) (x4k : IntKind) (x4 : Int) : hbuildSlice Tryz.prog H 45 5 [(0, .int x0k x0), (1, .int x1k x1), (2, .int x2k x2), (3, .int x3k x3), (4, .int x4k x4)] = some (.slice (some ⟨H.next, 0, none⟩) 5 5, H.push (.cells [.int x0k x0, .int x1k x1, .int x2k x2, .int x3k x3, .int x4k x4] true)) := by simp only [hbuildSlice, el35, Tryz.underlying45, Option.bind_some]; rfl
theorem bs73_1_0 (H : HHeap) (x0_0 x0_1 : Value) (h0 : allOne [x0_0, x0_1] = true) : hbuildSlice Tryz.prog H 73 1 [(0, .agg #[x0_0, x0_1])] = some (.slice (some ⟨H.next, 0, none⟩) 1 1, H.push (.cells [x0_0, x0_1] true)) := by simp only [hbuildSlice, el94, Tryz.underlying73, Option.bind_some]; exact if_pos h0
theorem bs88_1_0 (H : HHeap) (x0 : Option Addr) : hbuildSlice Tryz.prog H 88 1 [(0, .pointer x0)] = some (.slice (some ⟨H.next, 0, none⟩) 1 1, H.push (.cells [.pointer x0] true)) := by simp only [hbuildSlice, el87, Tryz.underlying88, Option.bind_some]; rfl
theorem bs88_4_0_1_2_3 (H : HHeap) (x0 : Option Addr) (x1 : Option Addr) (x2 : Option Addr) (x3 : Option Addr) : hbuildSlice Tryz.prog H 88 4 [(0, .pointer x0), (1, .pointer x1), (2, .pointer x2), (3, .pointer x3)] = some (.slice (some ⟨H.next, 0, none⟩) 4 4, H.push (.cells [.pointer x0, .pointer x1, .pointer x2, .pointer x3] true)) := by simp only [hbuildSlice, el87, Tryz.underlying88, Option.bind_some]; rfl
theorem kd30 : kindOf Tryz.prog 30 = 2 := by kernel_rfl
theorem pe30 (a : Addr) : hbin Tryz.prog .eql 30 (.pointer (some a)) (.pointer none) = some (.bool false) := x_ptr_eq kd30 a
theorem pn30 (a : Addr) : hbin Tryz.prog .neq 30 (.pointer (some a)) (.pointer none) = some (.bool true) := x_ptr_ne kd30 a
theorem pez30 : hbin Tryz.prog .eql 30 (.pointer none) (.pointer none) = some (.bool true) := x_ptr_eq0 kd30
theorem pnz30 : hbin Tryz.prog .neq 30 (.pointer none) (.pointer none) = some (.bool false) := x_ptr_ne0 kd30
theorem kd4 : kindOf Tryz.prog 4 = 1 := by kernel_rfl
theorem be4 (a b : Bool) : hbin Tryz.prog .eql 4 (.bool a) (.bool b) = some (.bool (a == b)) := x_bool_eq kd4 a b
theorem bn4 (a b : Bool) : hbin Tryz.prog .neq 4 (.bool a) (.bool b) = some (.bool (!(a == b))) := x_bool_ne kd4 a b
theorem kd70 : kindOf Tryz.prog 70 = 2 := by kernel_rfl
theorem pe70 (a : Addr) : hbin Tryz.prog .eql 70 (.pointer (some a)) (.pointer none) = some (.bool false) := x_ptr_eq kd70 a
theorem pn70 (a : Addr) : hbin Tryz.prog .neq 70 (.pointer (some a)) (.pointer none) = some (.bool true) := x_ptr_ne kd70 a
theorem pez70 : hbin Tryz.prog .eql 70 (.pointer none) (.pointer none) = some (.bool true) := x_ptr_eq0 kd70
theorem pnz70 : hbin Tryz.prog .neq 70 (.pointer none) (.pointer none) = some (.bool false) := x_ptr_ne0 kd70
theorem cv233_34 (k : IntKind) (n : Int) : hconvert Tryz.prog 233 34 (.int k n) = some (.int .u64 (IntKind.u64.wrap n)) := x_conv Tryz.underlying233 Tryz.underlying34 k n
theorem cv233_42 (k : IntKind) (n : Int) : hconvert Tryz.prog 233 42 (.int k n) = some (.int .u64 (IntKind.u64.wrap n)) := x_conv Tryz.underlying233 Tryz.underlying42 k n
theorem cv3_34 (k : IntKind) (n : Int) : hconvert Tryz.prog 3 34 (.int k n) = some (.int .u64 (IntKind.u64.wrap n)) := x_conv Tryz.underlying3 Tryz.underlying34 k n
theorem cv3_35 (k : IntKind) (n : Int) : hconvert Tryz.prog 3 35 (.int k n) = some (.int .u64 (IntKind.u64.wrap n)) := x_conv Tryz.underlying3 Tryz.underlying35 k n
theorem cv3_42 (k : IntKind) (n : Int) : hconvert Tryz.prog 3 42 (.int k n) = some (.int .u64 (IntKind.u64.wrap n)) := x_conv Tryz.underlying3 Tryz.underlying42 k n
theorem cv34_233 (k : IntKind) (n : Int) : hconvert Tryz.prog 34 233 (.int k n) = some (.int .u32 (IntKind.u32.wrap n)) := x_conv Tryz.underlying34 Tryz.underlying233 k n
theorem cv34_3 (k : IntKind) (n : Int) : hconvert Tryz.prog 34 3 (.int k n) = some (.int .i64 (IntKind.i64.wrap n)) := x_conv Tryz.underlying34 Tryz.underlying3 k n
theorem cv35_2 (k : IntKind) (n : Int) : hconvert Tryz.prog 35 2 (.int k n) = some (.int .i64 (IntKind.i64.wrap n)) := x_conv Tryz.underlying35 Tryz.underlying2 k n
theorem cv35_3 (k : IntKind) (n : Int) : hconvert Tryz.prog 35 3 (.int k n) = some (.int .i64 (IntKind.i64.wrap n)) := x_conv Tryz.underlying35 Tryz.underlying3 k n
theorem cv42_233 (k : IntKind) (n : Int) : hconvert Tryz.prog 42 233 (.int k n) = some (.int .u32 (IntKind.u32.wrap n)) := x_conv Tryz.underlying42 Tryz.underlying233 k n
theorem cv42_3 (k : IntKind) (n : Int) : hconvert Tryz.prog 42 3 (.int k n) = some (.int .i64 (IntKind.i64.wrap n)) := x_conv Tryz.underlying42 Tryz.underlying3 k n
theorem cv5_3 (k : IntKind) (n : Int) : hconvert Tryz.prog 5 3 (.int k n) = some (.int .i64 (IntKind.i64.wrap n)) := x_conv Tryz.underlying5 Tryz.underlying3 k n
theorem el3 : helem Tryz.prog 3 = some ⟨[.int .i64 0], 1, 8⟩ := by kernel_rfl
theorem cp24 (H : HHeap) (b o : Nat) (s : Option Nat) (len cap : Nat) (x : Value) : hcopy Tryz.prog H 24 (.slice (some ⟨b, o, s⟩) len cap) x = hb1 (hcp H b o 1 len) (hsource H 1 x) := x_copy Tryz.underlying24 el3 b o s len cap x
theorem cp45 (H : HHeap) (b o : Nat) (s : Option Nat) (len cap : Nat) (x : Value) : hcopy Tryz.prog H 45 (.slice (some ⟨b, o, s⟩) len cap) x = hb1 (hcp H b o 1 len) (hsource H 1 x) := x_copy Tryz.underlying45 el35 b o s len cap x
theorem fa137_0 (b o : Nat) : hfieldAt Tryz.prog 137 (.pointer (some ⟨b, o, none⟩)) 0 = some (.pointer (some ⟨b, o + 0, none⟩)) := x_field Tryz.underlying137 rfl sz45 (by decide) 0 rfl b o
theorem fa137_1 (b o : Nat) : hfieldAt Tryz.prog 137 (.pointer (some ⟨b, o, none⟩)) 1 = some (.pointer (some ⟨b, o + 1, none⟩)) := x_field Tryz.underlying137 rfl sz135 (by decide) 1 rfl b o
theorem fa137_2 (b o : Nat) : hfieldAt Tryz.prog 137 (.pointer (some ⟨b, o, none⟩)) 2 = some (.pointer (some ⟨b, o + 2, none⟩)) := x_field Tryz.underlying137 rfl sz3 (by decide) 2 rfl b o
theorem fa217_0 (b o : Nat) : hfieldAt Tryz.prog 217 (.pointer (some ⟨b, o, none⟩)) 0 = some (.pointer (some ⟨b, o + 0, none⟩)) := x_field Tryz.underlying217 rfl sz70 (by decide) 0 rfl b o
theorem fa217_1 (b o : Nat) : hfieldAt Tryz.prog 217 (.pointer (some ⟨b, o, none⟩)) 1 = some (.pointer (some ⟨b, o + 1, none⟩)) := x_field Tryz.underlying217 rfl sz70 (by decide) 1 rfl b o
theorem fa217_2 (b o : Nat) : hfieldAt Tryz.prog 217 (.pointer (some ⟨b, o, none⟩)) 2 = some (.pointer (some ⟨b, o + 2, none⟩)) := x_field Tryz.underlying217 rfl sz215 (by decide) 2 rfl b o
theorem fa217_3 (b o : Nat) : hfieldAt Tryz.prog 217 (.pointer (some ⟨b, o, none⟩)) 3 = some (.pointer (some ⟨b, o + 3, none⟩)) := x_field Tryz.underlying217 rfl sz45 (by decide) 3 rfl b o
theorem sz5 : hsize Tryz.prog 5 = some 1 := by kernel_rfl
theorem fa54_0 (b o : Nat) : hfieldAt Tryz.prog 54 (.pointer (some ⟨b, o, none⟩)) 0 = some (.pointer (some ⟨b, o + 0, none⟩)) := x_field Tryz.underlying54 rfl sz5 (by decide) 0 rfl b o
theorem fa54_1 (b o : Nat) : hfieldAt Tryz.prog 54 (.pointer (some ⟨b, o, none⟩)) 1 = some (.pointer (some ⟨b, o + 1, none⟩)) := x_field Tryz.underlying54 rfl sz3 (by decide) 1 rfl b o
theorem fa54_2 (b o : Nat) : hfieldAt Tryz.prog 54 (.pointer (some ⟨b, o, none⟩)) 2 = some (.pointer (some ⟨b, o + 2, none⟩)) := x_field Tryz.underlying54 rfl sz3 (by decide) 2 rfl b o
theorem fa54_3 (b o : Nat) : hfieldAt Tryz.prog 54 (.pointer (some ⟨b, o, none⟩)) 3 = some (.pointer (some ⟨b, o + 3, none⟩)) := x_field Tryz.underlying54 rfl sz35 (by decide) 3 rfl b o
theorem fa57_0 (b o : Nat) : hfieldAt Tryz.prog 57 (.pointer (some ⟨b, o, none⟩)) 0 = some (.pointer (some ⟨b, o + 0, none⟩)) := x_field Tryz.underlying57 rfl sz3 (by decide) 0 rfl b o
theorem fa57_1 (b o : Nat) : hfieldAt Tryz.prog 57 (.pointer (some ⟨b, o, none⟩)) 1 = some (.pointer (some ⟨b, o + 1, none⟩)) := x_field Tryz.underlying57 rfl sz55 (by decide) 1 rfl b o
theorem fa75_0 (b o : Nat) : hfieldAt Tryz.prog 75 (.pointer (some ⟨b, o, none⟩)) 0 = some (.pointer (some ⟨b, o + 0, none⟩)) := x_field Tryz.underlying75 rfl sz35 (by decide) 0 rfl b o
theorem fa75_1 (b o : Nat) : hfieldAt Tryz.prog 75 (.pointer (some ⟨b, o, none⟩)) 1 = some (.pointer (some ⟨b, o + 1, none⟩)) := x_field Tryz.underlying75 rfl sz35 (by decide) 1 rfl b o
theorem fa75_2 (b o : Nat) : hfieldAt Tryz.prog 75 (.pointer (some ⟨b, o, none⟩)) 2 = some (.pointer (some ⟨b, o + 2, none⟩)) := x_field Tryz.underlying75 rfl sz35 (by decide) 2 rfl b o
theorem fa75_3 (b o : Nat) : hfieldAt Tryz.prog 75 (.pointer (some ⟨b, o, none⟩)) 3 = some (.pointer (some ⟨b, o + 3, none⟩)) := x_field Tryz.underlying75 rfl sz35 (by decide) 3 rfl b o
theorem fa78_0 (b o : Nat) : hfieldAt Tryz.prog 78 (.pointer (some ⟨b, o, none⟩)) 0 = some (.pointer (some ⟨b, o + 0, none⟩)) := x_field Tryz.underlying78 rfl sz25 (by decide) 0 rfl b o
theorem fa78_1 (b o : Nat) : hfieldAt Tryz.prog 78 (.pointer (some ⟨b, o, none⟩)) 1 = some (.pointer (some ⟨b, o + 1, none⟩)) := x_field Tryz.underlying78 rfl sz70 (by decide) 1 rfl b o
theorem fa78_10 (b o : Nat) : hfieldAt Tryz.prog 78 (.pointer (some ⟨b, o, none⟩)) 10 = some (.pointer (some ⟨b, o + 13, none⟩)) := x_field Tryz.underlying78 rfl sz45 (by decide) 13 rfl b o
theorem fa78_2 (b o : Nat) : hfieldAt Tryz.prog 78 (.pointer (some ⟨b, o, none⟩)) 2 = some (.pointer (some ⟨b, o + 2, none⟩)) := x_field Tryz.underlying78 rfl sz73 (by decide) 2 rfl b o
theorem fa78_3 (b o : Nat) : hfieldAt Tryz.prog 78 (.pointer (some ⟨b, o, none⟩)) 3 = some (.pointer (some ⟨b, o + 3, none⟩)) := x_field Tryz.underlying78 rfl sz73 (by decide) 3 rfl b o
theorem fa78_4 (b o : Nat) : hfieldAt Tryz.prog 78 (.pointer (some ⟨b, o, none⟩)) 4 = some (.pointer (some ⟨b, o + 4, none⟩)) := x_field Tryz.underlying78 rfl sz3 (by decide) 4 rfl b o
theorem fa78_5 (b o : Nat) : hfieldAt Tryz.prog 78 (.pointer (some ⟨b, o, none⟩)) 5 = some (.pointer (some ⟨b, o + 5, none⟩)) := x_field Tryz.underlying78 rfl sz3 (by decide) 5 rfl b o
theorem fa78_6 (b o : Nat) : hfieldAt Tryz.prog 78 (.pointer (some ⟨b, o, none⟩)) 6 = some (.pointer (some ⟨b, o + 6, none⟩)) := x_field Tryz.underlying78 rfl sz3 (by decide) 6 rfl b o
theorem fa78_7 (b o : Nat) : hfieldAt Tryz.prog 78 (.pointer (some ⟨b, o, none⟩)) 7 = some (.pointer (some ⟨b, o + 7, none⟩)) := x_field Tryz.underlying78 rfl sz75 (by decide) 7 rfl b o
theorem fa78_8 (b o : Nat) : hfieldAt Tryz.prog 78 (.pointer (some ⟨b, o, none⟩)) 8 = some (.pointer (some ⟨b, o + 11, none⟩)) := x_field Tryz.underlying78 rfl sz31 (by decide) 11 rfl b o
theorem fa78_9 (b o : Nat) : hfieldAt Tryz.prog 78 (.pointer (some ⟨b, o, none⟩)) 9 = some (.pointer (some ⟨b, o + 12, none⟩)) := x_field Tryz.underlying78 rfl sz3 (by decide) 12 rfl b o
theorem fa94_0 (b o : Nat) : hfieldAt Tryz.prog 94 (.pointer (some ⟨b, o, none⟩)) 0 = some (.pointer (some ⟨b, o + 0, none⟩)) := x_field Tryz.underlying94 rfl sz35 (by decide) 0 rfl b o
theorem fa94_1 (b o : Nat) : hfieldAt Tryz.prog 94 (.pointer (some ⟨b, o, none⟩)) 1 = some (.pointer (some ⟨b, o + 1, none⟩)) := x_field Tryz.underlying94 rfl sz4 (by decide) 1 rfl b o
theorem sx9 (l : List UInt8) (k : IntKind) (i : Int) : hindex Tryz.prog 9 (S l) (.int k i) = six l i := s_index Tryz.underlying9 l k i
theorem ix135 (b o len cap : Nat) (s : Option Nat) (k : IntKind) (i : Int) : hindexAt Tryz.prog 135 (.slice (some ⟨b, o, s⟩) len cap) (.int k i) = ixa b o 1 len i := x_index Tryz.underlying135 sz4 b o len cap s k i
theorem ix184 (b o len cap : Nat) (s : Option Nat) (k : IntKind) (i : Int) : hindexAt Tryz.prog 184 (.slice (some ⟨b, o, s⟩) len cap) (.int k i) = ixa b o 1 len i := x_index Tryz.underlying184 sz45 b o len cap s k i
theorem ix213 (b o len cap : Nat) (s : Option Nat) (k : IntKind) (i : Int) : hindexAt Tryz.prog 213 (.slice (some ⟨b, o, s⟩) len cap) (.int k i) = ixa b o 1 len i := x_index Tryz.underlying213 sz73 b o len cap s k i
theorem ix24 (b o len cap : Nat) (s : Option Nat) (k : IntKind) (i : Int) : hindexAt Tryz.prog 24 (.slice (some ⟨b, o, s⟩) len cap) (.int k i) = ixa b o 1 len i := x_index Tryz.underlying24 sz3 b o len cap s k i
theorem sz57 : hsize Tryz.prog 57 = some 2 := by kernel_rfl
theorem ix25 (b o len cap : Nat) (s : Option Nat) (k : IntKind) (i : Int) : hindexAt Tryz.prog 25 (.slice (some ⟨b, o, s⟩) len cap) (.int k i) = ixa b o 2 len i := x_index Tryz.underlying25 sz57 b o len cap s k i
theorem sz9 : hsize Tryz.prog 9 = some 1 := by kernel_rfl
theorem ix26 (b o len cap : Nat) (s : Option Nat) (k : IntKind) (i : Int) : hindexAt Tryz.prog 26 (.slice (some ⟨b, o, s⟩) len cap) (.int k i) = ixa b o 1 len i := x_index Tryz.underlying26 sz9 b o len cap s k i
theorem ix45 (b o len cap : Nat) (s : Option Nat) (k : IntKind) (i : Int) : hindexAt Tryz.prog 45 (.slice (some ⟨b, o, s⟩) len cap) (.int k i) = ixa b o 1 len i := x_index Tryz.underlying45 sz35 b o len cap s k i
theorem sz54 : hsize Tryz.prog 54 = some 4 := by kernel_rfl
theorem ix55 (b o len cap : Nat) (s : Option Nat) (k : IntKind) (i : Int) : hindexAt Tryz.prog 55 (.slice (some ⟨b, o, s⟩) len cap) (.int k i) = ixa b o 4 len i := x_index Tryz.underlying55 sz54 b o len cap s k i
theorem sz94 : hsize Tryz.prog 94 = some 2 := by kernel_rfl
theorem ix73 (b o len cap : Nat) (s : Option Nat) (k : IntKind) (i : Int) : hindexAt Tryz.prog 73 (.slice (some ⟨b, o, s⟩) len cap) (.int k i) = ixa b o 2 len i := x_index Tryz.underlying73 sz94 b o len cap s k i
theorem sz87 : hsize Tryz.prog 87 = some 1 := by kernel_rfl
theorem ix88 (b o len cap : Nat) (s : Option Nat) (k : IntKind) (i : Int) : hindexAt Tryz.prog 88 (.slice (some ⟨b, o, s⟩) len cap) (.int k i) = ixa b o 1 len i := x_index Tryz.underlying88 sz87 b o len cap s k i
theorem ln184 (H : HHeap) (a : Option Addr) (n c : Nat) : hlen Tryz.prog H 184 (.slice a n c) = some (.int .i64 n) := x_lenS Tryz.underlying184 a n c
theorem ln213 (H : HHeap) (a : Option Addr) (n c : Nat) : hlen Tryz.prog H 213 (.slice a n c) = some (.int .i64 n) := x_lenS Tryz.underlying213 a n c
theorem ln24 (H : HHeap) (a : Option Addr) (n c : Nat) : hlen Tryz.prog H 24 (.slice a n c) = some (.int .i64 n) := x_lenS Tryz.underlying24 a n c
theorem ln25 (H : HHeap) (a : Option Addr) (n c : Nat) : hlen Tryz.prog H 25 (.slice a n c) = some (.int .i64 n) := x_lenS Tryz.underlying25 a n c
theorem ln26 (H : HHeap) (a : Option Addr) (n c : Nat) : hlen Tryz.prog H 26 (.slice a n c) = some (.int .i64 n) := x_lenS Tryz.underlying26 a n c
theorem ln45 (H : HHeap) (a : Option Addr) (n c : Nat) : hlen Tryz.prog H 45 (.slice a n c) = some (.int .i64 n) := x_lenS Tryz.underlying45 a n c
theorem ln55 (H : HHeap) (a : Option Addr) (n c : Nat) : hlen Tryz.prog H 55 (.slice a n c) = some (.int .i64 n) := x_lenS Tryz.underlying55 a n c
theorem ln73 (H : HHeap) (a : Option Addr) (n c : Nat) : hlen Tryz.prog H 73 (.slice a n c) = some (.int .i64 n) := x_lenS Tryz.underlying73 a n c
theorem ln88 (H : HHeap) (a : Option Addr) (n c : Nat) : hlen Tryz.prog H 88 (.slice a n c) = some (.int .i64 n) := x_lenS Tryz.underlying88 a n c
theorem ag135 : hagg Tryz.prog 135 = some false := by kernel_rfl
theorem ld135 (H : HHeap) (b o : Nat) : hload Tryz.prog H 135 (.pointer (some ⟨b, o, none⟩)) = ldc (H.get b) o := x_load ag135 b o
theorem ag215 : hagg Tryz.prog 215 = some false := by kernel_rfl
theorem ld215 (H : HHeap) (b o : Nat) : hload Tryz.prog H 215 (.pointer (some ⟨b, o, none⟩)) = ldc (H.get b) o := x_load ag215 b o
theorem ag25 : hagg Tryz.prog 25 = some false := by kernel_rfl
theorem ld25 (H : HHeap) (b o : Nat) : hload Tryz.prog H 25 (.pointer (some ⟨b, o, none⟩)) = ldc (H.get b) o := x_load ag25 b o
theorem ag3 : hagg Tryz.prog 3 = some false := by kernel_rfl
theorem ld3 (H : HHeap) (b o : Nat) : hload Tryz.prog H 3 (.pointer (some ⟨b, o, none⟩)) = ldc (H.get b) o := x_load ag3 b o
theorem ag31 : hagg Tryz.prog 31 = some false := by kernel_rfl
theorem ld31 (H : HHeap) (b o : Nat) : hload Tryz.prog H 31 (.pointer (some ⟨b, o, none⟩)) = ldc (H.get b) o := x_load ag31 b o
theorem ag35 : hagg Tryz.prog 35 = some false := by kernel_rfl
theorem ld35 (H : HHeap) (b o : Nat) : hload Tryz.prog H 35 (.pointer (some ⟨b, o, none⟩)) = ldc (H.get b) o := x_load ag35 b o
theorem ag4 : hagg Tryz.prog 4 = some false := by kernel_rfl
theorem ld4 (H : HHeap) (b o : Nat) : hload Tryz.prog H 4 (.pointer (some ⟨b, o, none⟩)) = ldc (H.get b) o := x_load ag4 b o
theorem ag45 : hagg Tryz.prog 45 = some false := by kernel_rfl
theorem ld45 (H : HHeap) (b o : Nat) : hload Tryz.prog H 45 (.pointer (some ⟨b, o, none⟩)) = ldc (H.get b) o := x_load ag45 b o
theorem ag5 : hagg Tryz.prog 5 = some false := by kernel_rfl
theorem ld5 (H : HHeap) (b o : Nat) : hload Tryz.prog H 5 (.pointer (some ⟨b, o, none⟩)) = ldc (H.get b) o := x_load ag5 b o
theorem ag54 : hagg Tryz.prog 54 = some true := by kernel_rfl
theorem ld54 (H : HHeap) (b o : Nat) : hload Tryz.prog H 54 (.pointer (some ⟨b, o, none⟩)) = lda (H.get b) o 4 := x_loadN ag54 sz54 b o
theorem ag55 : hagg Tryz.prog 55 = some false := by kernel_rfl
theorem ld55 (H : HHeap) (b o : Nat) : hload Tryz.prog H 55 (.pointer (some ⟨b, o, none⟩)) = ldc (H.get b) o := x_load ag55 b o
theorem ag57 : hagg Tryz.prog 57 = some true := by kernel_rfl
theorem ld57 (H : HHeap) (b o : Nat) : hload Tryz.prog H 57 (.pointer (some ⟨b, o, none⟩)) = lda (H.get b) o 2 := x_loadN ag57 sz57 b o
theorem ag70 : hagg Tryz.prog 70 = some false := by kernel_rfl
theorem ld70 (H : HHeap) (b o : Nat) : hload Tryz.prog H 70 (.pointer (some ⟨b, o, none⟩)) = ldc (H.get b) o := x_load ag70 b o
theorem ag73 : hagg Tryz.prog 73 = some false := by kernel_rfl
theorem ld73 (H : HHeap) (b o : Nat) : hload Tryz.prog H 73 (.pointer (some ⟨b, o, none⟩)) = ldc (H.get b) o := x_load ag73 b o
theorem ag87 : hagg Tryz.prog 87 = some false := by kernel_rfl
theorem ld87 (H : HHeap) (b o : Nat) : hload Tryz.prog H 87 (.pointer (some ⟨b, o, none⟩)) = ldc (H.get b) o := x_load ag87 b o
theorem ag9 : hagg Tryz.prog 9 = some false := by kernel_rfl
theorem ld9 (H : HHeap) (b o : Nat) : hload Tryz.prog H 9 (.pointer (some ⟨b, o, none⟩)) = ldc (H.get b) o := x_load ag9 b o
theorem ag94 : hagg Tryz.prog 94 = some true := by kernel_rfl
theorem ld94 (H : HHeap) (b o : Nat) : hload Tryz.prog H 94 (.pointer (some ⟨b, o, none⟩)) = lda (H.get b) o 2 := x_loadN ag94 sz94 b o
theorem el4 : helem Tryz.prog 4 = some ⟨[.bool false], 1, 1⟩ := by kernel_rfl
theorem mk135 (H : HHeap) (k k' : IntKind) (l c : Int) : hmakeSlice Tryz.prog H 135 (.int k l) (.int k' c) = mks H (.bool false) 1 l c := x_make Tryz.underlying135 el4 k k' l c
theorem mk24 (H : HHeap) (k k' : IntKind) (l c : Int) : hmakeSlice Tryz.prog H 24 (.int k l) (.int k' c) = mks H (.int .i64 0) 8 l c := x_make Tryz.underlying24 el3 k k' l c
theorem mk45 (H : HHeap) (k k' : IntKind) (l c : Int) : hmakeSlice Tryz.prog H 45 (.int k l) (.int k' c) = mks H (.int .u64 0) 8 l c := x_make Tryz.underlying45 el35 k k' l c
theorem sl24 (b o len cap : Nat) (lo hi mx : Option Value) : hslice Tryz.prog 24 (.slice (some ⟨b, o, none⟩) len cap) lo hi mx = slx b o 1 len cap lo hi mx := x_slice Tryz.underlying24 sz3 b o len cap lo hi mx
theorem slg24 (b o k len cap : Nat) (lo hi mx : Option Value) : hslice Tryz.prog 24 (.slice (some ⟨b, o, some k⟩) len cap) lo hi mx = slg b o 1 k len cap lo hi mx := x_sliceG Tryz.underlying24 sz3 b o k len cap lo hi mx
theorem sln24 (lo hi mx : Option Value) : hslice Tryz.prog 24 (.slice none 0 0) lo hi mx = sln lo hi mx := x_sliceN Tryz.underlying24 sz3 lo hi mx
theorem sl45 (b o len cap : Nat) (lo hi mx : Option Value) : hslice Tryz.prog 45 (.slice (some ⟨b, o, none⟩) len cap) lo hi mx = slx b o 1 len cap lo hi mx := x_slice Tryz.underlying45 sz35 b o len cap lo hi mx
theorem slg45 (b o k len cap : Nat) (lo hi mx : Option Value) : hslice Tryz.prog 45 (.slice (some ⟨b, o, some k⟩) len cap) lo hi mx = slg b o 1 k len cap lo hi mx := x_sliceG Tryz.underlying45 sz35 b o k len cap lo hi mx
theorem sln45 (lo hi mx : Option Value) : hslice Tryz.prog 45 (.slice none 0 0) lo hi mx = sln lo hi mx := x_sliceN Tryz.underlying45 sz35 lo hi mx
theorem st25 (H : HHeap) (b o : Nat) (x : Option Addr) (xl xc : Nat) : hstore Tryz.prog H 25 (.pointer (some ⟨b, o, none⟩)) (.slice x xl xc) = stc H b (H.get b) o (.slice x xl xc) := x_store sz25 b o rfl
theorem st3 (H : HHeap) (b o : Nat) (xk : IntKind) (x : Int) : hstore Tryz.prog H 3 (.pointer (some ⟨b, o, none⟩)) (.int xk x) = stc H b (H.get b) o (.int xk x) := x_store sz3 b o rfl
theorem st31 (H : HHeap) (b o : Nat) (xk : IntKind) (x : Int) : hstore Tryz.prog H 31 (.pointer (some ⟨b, o, none⟩)) (.int xk x) = stc H b (H.get b) o (.int xk x) := x_store sz31 b o rfl
theorem st35 (H : HHeap) (b o : Nat) (xk : IntKind) (x : Int) : hstore Tryz.prog H 35 (.pointer (some ⟨b, o, none⟩)) (.int xk x) = stc H b (H.get b) o (.int xk x) := x_store sz35 b o rfl
theorem st4 (H : HHeap) (b o : Nat) (x : Bool) : hstore Tryz.prog H 4 (.pointer (some ⟨b, o, none⟩)) (.bool x) = stc H b (H.get b) o (.bool x) := x_store sz4 b o rfl
theorem st45 (H : HHeap) (b o : Nat) (x : Option Addr) (xl xc : Nat) : hstore Tryz.prog H 45 (.pointer (some ⟨b, o, none⟩)) (.slice x xl xc) = stc H b (H.get b) o (.slice x xl xc) := x_store sz45 b o rfl
theorem st54 (H : HHeap) (b o : Nat) (v0 v1 v2 v3 : Value) (h : allOne [v0, v1, v2, v3] = true) : hstore Tryz.prog H 54 (.pointer (some ⟨b, o, none⟩)) (.agg #[v0, v1, v2, v3]) = sta H b (H.get b) o [v0, v1, v2, v3] := x_storeN sz54 b o rfl h
theorem st57 (H : HHeap) (b o : Nat) (v0 v1 : Value) (h : allOne [v0, v1] = true) : hstore Tryz.prog H 57 (.pointer (some ⟨b, o, none⟩)) (.agg #[v0, v1]) = sta H b (H.get b) o [v0, v1] := x_storeN sz57 b o rfl h
theorem st70 (H : HHeap) (b o : Nat) (x : Option Addr) : hstore Tryz.prog H 70 (.pointer (some ⟨b, o, none⟩)) (.pointer x) = stc H b (H.get b) o (.pointer x) := x_store sz70 b o rfl
theorem st73 (H : HHeap) (b o : Nat) (x : Option Addr) (xl xc : Nat) : hstore Tryz.prog H 73 (.pointer (some ⟨b, o, none⟩)) (.slice x xl xc) = stc H b (H.get b) o (.slice x xl xc) := x_store sz73 b o rfl
theorem st75 (H : HHeap) (b o : Nat) (v0 v1 v2 v3 : Value) (h : allOne [v0, v1, v2, v3] = true) : hstore Tryz.prog H 75 (.pointer (some ⟨b, o, none⟩)) (.agg #[v0, v1, v2, v3]) = sta H b (H.get b) o [v0, v1, v2, v3] := x_storeN sz75 b o rfl h
theorem st94 (H : HHeap) (b o : Nat) (v0 v1 : Value) (h : allOne [v0, v1] = true) : hstore Tryz.prog H 94 (.pointer (some ⟨b, o, none⟩)) (.agg #[v0, v1]) = sta H b (H.get b) o [v0, v1] := x_storeN sz94 b o rfl h
theorem wh3 (vs : List Value) : hwho Tryz.prog (some (.func (.func 3) #[] #[])) (some vs) = some (3, vs) := hwho_func0 3 vs (by kernel_rfl)
theorem wh8 (vs : List Value) : hwho Tryz.prog (some (.func (.func 8) #[] #[])) (some vs) = some (8, vs) := hwho_func0 8 vs (by kernel_rfl)
theorem wh9 (vs : List Value) : hwho Tryz.prog (some (.func (.func 9) #[] #[])) (some vs) = some (9, vs) := hwho_func0 9 vs (by kernel_rfl)
theorem wh10 (vs : List Value) : hwho Tryz.prog (some (.func (.func 10) #[] #[])) (some vs) = some (10, vs) := hwho_func0 10 vs (by kernel_rfl)
theorem wh11 (vs : List Value) : hwho Tryz.prog (some (.func (.func 11) #[] #[])) (some vs) = some (11, vs) := hwho_func0 11 vs (by kernel_rfl)
theorem wh12 (vs : List Value) : hwho Tryz.prog (some (.func (.func 12) #[] #[])) (some vs) = some (12, vs) := hwho_func0 12 vs (by kernel_rfl)
theorem wh13 (vs : List Value) : hwho Tryz.prog (some (.func (.func 13) #[] #[])) (some vs) = some (13, vs) := hwho_func0 13 vs (by kernel_rfl)
theorem wh14 (vs : List Value) : hwho Tryz.prog (some (.func (.func 14) #[] #[])) (some vs) = some (14, vs) := hwho_func0 14 vs (by kernel_rfl)
theorem wh15 (vs : List Value) : hwho Tryz.prog (some (.func (.func 15) #[] #[])) (some vs) = some (15, vs) := hwho_func0 15 vs (by kernel_rfl)
theorem wh16 (vs : List Value) : hwho Tryz.prog (some (.func (.func 16) #[] #[])) (some vs) = some (16, vs) := hwho_func0 16 vs (by kernel_rfl)
theorem wh17 (vs : List Value) : hwho Tryz.prog (some (.func (.func 17) #[] #[])) (some vs) = some (17, vs) := hwho_func0 17 vs (by kernel_rfl)
theorem wh18 (vs : List Value) : hwho Tryz.prog (some (.func (.func 18) #[] #[])) (some vs) = some (18, vs) := hwho_func0 18 vs (by kernel_rfl)
theorem wh25 (vs : List Value) : hwho Tryz.prog (some (.func (.func 25) #[] #[])) (some vs) = some (25, vs) := hwho_func0 25 vs (by kernel_rfl)
theorem wh26 (vs : List Value) : hwho Tryz.prog (some (.func (.func 26) #[] #[])) (some vs) = some (26, vs) := hwho_func0 26 vs (by kernel_rfl)
theorem wh27 (vs : List Value) : hwho Tryz.prog (some (.func (.func 27) #[] #[])) (some vs) = some (27, vs) := hwho_func0 27 vs (by kernel_rfl)
theorem wh28 (vs : List Value) : hwho Tryz.prog (some (.func (.func 28) #[] #[])) (some vs) = some (28, vs) := hwho_func0 28 vs (by kernel_rfl)
theorem wh29 (vs : List Value) : hwho Tryz.prog (some (.func (.func 29) #[] #[])) (some vs) = some (29, vs) := hwho_func0 29 vs (by kernel_rfl)
theorem wh30 (vs : List Value) : hwho Tryz.prog (some (.func (.func 30) #[] #[])) (some vs) = some (30, vs) := hwho_func0 30 vs (by kernel_rfl)
theorem wh31 (vs : List Value) : hwho Tryz.prog (some (.func (.func 31) #[] #[])) (some vs) = some (31, vs) := hwho_func0 31 vs (by kernel_rfl)
theorem wh32 (vs : List Value) : hwho Tryz.prog (some (.func (.func 32) #[] #[])) (some vs) = some (32, vs) := hwho_func0 32 vs (by kernel_rfl)
theorem wh33 (vs : List Value) : hwho Tryz.prog (some (.func (.func 33) #[] #[])) (some vs) = some (33, vs) := hwho_func0 33 vs (by kernel_rfl)
theorem wh34 (vs : List Value) : hwho Tryz.prog (some (.func (.func 34) #[] #[])) (some vs) = some (34, vs) := hwho_func0 34 vs (by kernel_rfl)
theorem wh35 (vs : List Value) : hwho Tryz.prog (some (.func (.func 35) #[] #[])) (some vs) = some (35, vs) := hwho_func0 35 vs (by kernel_rfl)
theorem wh36 (vs : List Value) : hwho Tryz.prog (some (.func (.func 36) #[] #[])) (some vs) = some (36, vs) := hwho_func0 36 vs (by kernel_rfl)
theorem wh37 (vs : List Value) : hwho Tryz.prog (some (.func (.func 37) #[] #[])) (some vs) = some (37, vs) := hwho_func0 37 vs (by kernel_rfl)
theorem wh38 (vs : List Value) : hwho Tryz.prog (some (.func (.func 38) #[] #[])) (some vs) = some (38, vs) := hwho_func0 38 vs (by kernel_rfl)
theorem wh39 (vs : List Value) : hwho Tryz.prog (some (.func (.func 39) #[] #[])) (some vs) = some (39, vs) := hwho_func0 39 vs (by kernel_rfl)
theorem wh40 (vs : List Value) : hwho Tryz.prog (some (.func (.func 40) #[] #[])) (some vs) = some (40, vs) := hwho_func0 40 vs (by kernel_rfl)
theorem wh53 (vs : List Value) : hwho Tryz.prog (some (.func (.func 53) #[] #[])) (some vs) = some (53, vs) := hwho_func0 53 vs (by kernel_rfl)
theorem wh55 (vs : List Value) : hwho Tryz.prog (some (.func (.func 55) #[] #[])) (some vs) = some (55, vs) := hwho_func0 55 vs (by kernel_rfl)
theorem wh56 (vs : List Value) : hwho Tryz.prog (some (.func (.func 56) #[] #[])) (some vs) = some (56, vs) := hwho_func0 56 vs (by kernel_rfl)
theorem wh57 (vs : List Value) : hwho Tryz.prog (some (.func (.func 57) #[] #[])) (some vs) = some (57, vs) := hwho_func0 57 vs (by kernel_rfl)
theorem wh58 (vs : List Value) : hwho Tryz.prog (some (.func (.func 58) #[] #[])) (some vs) = some (58, vs) := hwho_func0 58 vs (by kernel_rfl)
theorem wh59 (vs : List Value) : hwho Tryz.prog (some (.func (.func 59) #[] #[])) (some vs) = some (59, vs) := hwho_func0 59 vs (by kernel_rfl)
theorem wh60 (vs : List Value) : hwho Tryz.prog (some (.func (.func 60) #[] #[])) (some vs) = some (60, vs) := hwho_func0 60 vs (by kernel_rfl)
theorem wh61 (vs : List Value) : hwho Tryz.prog (some (.func (.func 61) #[] #[])) (some vs) = some (61, vs) := hwho_func0 61 vs (by kernel_rfl)
theorem wh62 (vs : List Value) : hwho Tryz.prog (some (.func (.func 62) #[] #[])) (some vs) = some (62, vs) := hwho_func0 62 vs (by kernel_rfl)
theorem wh63 (vs : List Value) : hwho Tryz.prog (some (.func (.func 63) #[] #[])) (some vs) = some (63, vs) := hwho_func0 63 vs (by kernel_rfl)
theorem wh64 (vs : List Value) : hwho Tryz.prog (some (.func (.func 64) #[] #[])) (some vs) = some (64, vs) := hwho_func0 64 vs (by kernel_rfl)
theorem wh65 (vs : List Value) : hwho Tryz.prog (some (.func (.func 65) #[] #[])) (some vs) = some (65, vs) := hwho_func0 65 vs (by kernel_rfl)
theorem wh66 (vs : List Value) : hwho Tryz.prog (some (.func (.func 66) #[] #[])) (some vs) = some (66, vs) := hwho_func0 66 vs (by kernel_rfl)
theorem wh67 (vs : List Value) : hwho Tryz.prog (some (.func (.func 67) #[] #[])) (some vs) = some (67, vs) := hwho_func0 67 vs (by kernel_rfl)
theorem wh68 (vs : List Value) : hwho Tryz.prog (some (.func (.func 68) #[] #[])) (some vs) = some (68, vs) := hwho_func0 68 vs (by kernel_rfl)
theorem wh69 (vs : List Value) : hwho Tryz.prog (some (.func (.func 69) #[] #[])) (some vs) = some (69, vs) := hwho_func0 69 vs (by kernel_rfl)
theorem wh100 (vs : List Value) : hwho Tryz.prog (some (.func (.func 100) #[] #[])) (some vs) = some (100, vs) := hwho_func0 100 vs (by kernel_rfl)
theorem wh103 (vs : List Value) : hwho Tryz.prog (some (.func (.func 103) #[] #[])) (some vs) = some (103, vs) := hwho_func0 103 vs (by kernel_rfl)
theorem wh105 (vs : List Value) : hwho Tryz.prog (some (.func (.func 105) #[] #[])) (some vs) = some (105, vs) := hwho_func0 105 vs (by kernel_rfl)
theorem wh106 (vs : List Value) : hwho Tryz.prog (some (.func (.func 106) #[] #[])) (some vs) = some (106, vs) := hwho_func0 106 vs (by kernel_rfl)
theorem wh107 (vs : List Value) : hwho Tryz.prog (some (.func (.func 107) #[] #[])) (some vs) = some (107, vs) := hwho_func0 107 vs (by kernel_rfl)
theorem wh108 (vs : List Value) : hwho Tryz.prog (some (.func (.func 108) #[] #[])) (some vs) = some (108, vs) := hwho_func0 108 vs (by kernel_rfl)
theorem wh109 (vs : List Value) : hwho Tryz.prog (some (.func (.func 109) #[] #[])) (some vs) = some (109, vs) := hwho_func0 109 vs (by kernel_rfl)
theorem wh110 (vs : List Value) : hwho Tryz.prog (some (.func (.func 110) #[] #[])) (some vs) = some (110, vs) := hwho_func0 110 vs (by kernel_rfl)
theorem wh111 (vs : List Value) : hwho Tryz.prog (some (.func (.func 111) #[] #[])) (some vs) = some (111, vs) := hwho_func0 111 vs (by kernel_rfl)
theorem wh112 (vs : List Value) : hwho Tryz.prog (some (.func (.func 112) #[] #[])) (some vs) = some (112, vs) := hwho_func0 112 vs (by kernel_rfl)
theorem wh113 (vs : List Value) : hwho Tryz.prog (some (.func (.func 113) #[] #[])) (some vs) = some (113, vs) := hwho_func0 113 vs (by kernel_rfl)
theorem wh114 (vs : List Value) : hwho Tryz.prog (some (.func (.func 114) #[] #[])) (some vs) = some (114, vs) := hwho_func0 114 vs (by kernel_rfl)
theorem wh115 (vs : List Value) : hwho Tryz.prog (some (.func (.func 115) #[] #[])) (some vs) = some (115, vs) := hwho_func0 115 vs (by kernel_rfl)
theorem wh116 (vs : List Value) : hwho Tryz.prog (some (.func (.func 116) #[] #[])) (some vs) = some (116, vs) := hwho_func0 116 vs (by kernel_rfl)
theorem wh117 (vs : List Value) : hwho Tryz.prog (some (.func (.func 117) #[] #[])) (some vs) = some (117, vs) := hwho_func0 117 vs (by kernel_rfl)
theorem wh118 (vs : List Value) : hwho Tryz.prog (some (.func (.func 118) #[] #[])) (some vs) = some (118, vs) := hwho_func0 118 vs (by kernel_rfl)
theorem wh119 (vs : List Value) : hwho Tryz.prog (some (.func (.func 119) #[] #[])) (some vs) = some (119, vs) := hwho_func0 119 vs (by kernel_rfl)
theorem wh120 (vs : List Value) : hwho Tryz.prog (some (.func (.func 120) #[] #[])) (some vs) = some (120, vs) := hwho_func0 120 vs (by kernel_rfl)
theorem wh149 (vs : List Value) : hwho Tryz.prog (some (.func (.func 149) #[] #[])) (some vs) = some (149, vs) := hwho_func0 149 vs (by kernel_rfl)
theorem wh151 (vs : List Value) : hwho Tryz.prog (some (.func (.func 151) #[] #[])) (some vs) = some (151, vs) := hwho_func0 151 vs (by kernel_rfl)
theorem wh152 (vs : List Value) : hwho Tryz.prog (some (.func (.func 152) #[] #[])) (some vs) = some (152, vs) := hwho_func0 152 vs (by kernel_rfl)
theorem wh153 (vs : List Value) : hwho Tryz.prog (some (.func (.func 153) #[] #[])) (some vs) = some (153, vs) := hwho_func0 153 vs (by kernel_rfl)
theorem wh154 (vs : List Value) : hwho Tryz.prog (some (.func (.func 154) #[] #[])) (some vs) = some (154, vs) := hwho_func0 154 vs (by kernel_rfl)
theorem wh155 (vs : List Value) : hwho Tryz.prog (some (.func (.func 155) #[] #[])) (some vs) = some (155, vs) := hwho_func0 155 vs (by kernel_rfl)
theorem wh156 (vs : List Value) : hwho Tryz.prog (some (.func (.func 156) #[] #[])) (some vs) = some (156, vs) := hwho_func0 156 vs (by kernel_rfl)
theorem wh157 (vs : List Value) : hwho Tryz.prog (some (.func (.func 157) #[] #[])) (some vs) = some (157, vs) := hwho_func0 157 vs (by kernel_rfl)
theorem wh158 (vs : List Value) : hwho Tryz.prog (some (.func (.func 158) #[] #[])) (some vs) = some (158, vs) := hwho_func0 158 vs (by kernel_rfl)
theorem wh165 (vs : List Value) : hwho Tryz.prog (some (.func (.func 165) #[] #[])) (some vs) = some (165, vs) := hwho_func0 165 vs (by kernel_rfl)
theorem wh166 (vs : List Value) : hwho Tryz.prog (some (.func (.func 166) #[] #[])) (some vs) = some (166, vs) := hwho_func0 166 vs (by kernel_rfl)
theorem wh167 (vs : List Value) : hwho Tryz.prog (some (.func (.func 167) #[] #[])) (some vs) = some (167, vs) := hwho_func0 167 vs (by kernel_rfl)
theorem wh168 (vs : List Value) : hwho Tryz.prog (some (.func (.func 168) #[] #[])) (some vs) = some (168, vs) := hwho_func0 168 vs (by kernel_rfl)
theorem wh169 (vs : List Value) : hwho Tryz.prog (some (.func (.func 169) #[] #[])) (some vs) = some (169, vs) := hwho_func0 169 vs (by kernel_rfl)
theorem wh170 (vs : List Value) : hwho Tryz.prog (some (.func (.func 170) #[] #[])) (some vs) = some (170, vs) := hwho_func0 170 vs (by kernel_rfl)
theorem wh175 (vs : List Value) : hwho Tryz.prog (some (.func (.func 175) #[] #[])) (some vs) = some (175, vs) := hwho_func0 175 vs (by kernel_rfl)
theorem wh176 (vs : List Value) : hwho Tryz.prog (some (.func (.func 176) #[] #[])) (some vs) = some (176, vs) := hwho_func0 176 vs (by kernel_rfl)
theorem wh177 (vs : List Value) : hwho Tryz.prog (some (.func (.func 177) #[] #[])) (some vs) = some (177, vs) := hwho_func0 177 vs (by kernel_rfl)
theorem wh178 (vs : List Value) : hwho Tryz.prog (some (.func (.func 178) #[] #[])) (some vs) = some (178, vs) := hwho_func0 178 vs (by kernel_rfl)
theorem wh179 (vs : List Value) : hwho Tryz.prog (some (.func (.func 179) #[] #[])) (some vs) = some (179, vs) := hwho_func0 179 vs (by kernel_rfl)
theorem wh180 (vs : List Value) : hwho Tryz.prog (some (.func (.func 180) #[] #[])) (some vs) = some (180, vs) := hwho_func0 180 vs (by kernel_rfl)
theorem wh181 (vs : List Value) : hwho Tryz.prog (some (.func (.func 181) #[] #[])) (some vs) = some (181, vs) := hwho_func0 181 vs (by kernel_rfl)
theorem mixed : Tryz.prog.follows .mixedOrders = true := by kernel_rfl
attribute [go_sem] al54 al57 al75 ap25_25 ap45_45 ap55_55 ap73_73 ap88_88 bd137_0_1 bd217_0_1_2 bd57_0_1 bd75_0_1_2_3 bd78_1_2_7 bd94_ bd94_0_1 bs184_2_0_1 bs213_2_0_1 bs25_1_0 bs45_0_ bs45_1_0 bs45_2_0_1 bs45_5_0_1_2_3_4 bs73_1_0 bs88_1_0 bs88_4_0_1_2_3 pe30 pn30 pez30 pnz30 be4 bn4 pe70 pn70 pez70 pnz70 cv233_34 cv233_42 cv3_34 cv3_35 cv3_42 cv34_233 cv34_3 cv35_2 cv35_3 cv42_233 cv42_3 cv5_3 cp24 cp45 fa137_0 fa137_1 fa137_2 fa217_0 fa217_1 fa217_2 fa217_3 fa54_0 fa54_1 fa54_2 fa54_3 fa57_0 fa57_1 fa75_0 fa75_1 fa75_2 fa75_3 fa78_0 fa78_1 fa78_10 fa78_2 fa78_3 fa78_4 fa78_5 fa78_6 fa78_7 fa78_8 fa78_9 fa94_0 fa94_1 sx9 ix135 ix184 ix213 ix24 ix25 ix26 ix45 ix55 ix73 ix88 ln184 ln213 ln24 ln25 ln26 ln45 ln55 ln73 ln88 ld135 ld215 ld25 ld3 ld31 ld35 ld4 ld45 ld5 ld54 ld55 ld57 ld70 ld73 ld87 ld9 ld94 mk135 mk24 mk45 sl24 slg24 sln24 sl45 slg45 sln45 st25 st3 st31 st35 st4 st45 st54 st57 st70 st73 st75 st94 wh3 wh8 wh9 wh10 wh11 wh12 wh13 wh14 wh15 wh16 wh17 wh18 wh25 wh26 wh27 wh28 wh29 wh30 wh31 wh32 wh33 wh34 wh35 wh36 wh37 wh38 wh39 wh40 wh53 wh55 wh56 wh57 wh58 wh59 wh60 wh61 wh62 wh63 wh64 wh65 wh66 wh67 wh68 wh69 wh100 wh103 wh105 wh106 wh107 wh108 wh109 wh110 wh111 wh112 wh113 wh114 wh115 wh116 wh117 wh118 wh119 wh120 wh149 wh151 wh152 wh153 wh154 wh155 wh156 wh157 wh158 wh165 wh166 wh167 wh168 wh169 wh170 wh175 wh176 wh177 wh178 wh179 wh180 wh181
end Go.HL
