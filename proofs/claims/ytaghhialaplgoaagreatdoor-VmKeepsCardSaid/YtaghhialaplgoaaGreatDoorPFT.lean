/-
  The instances of this program's types. Printed by wip/tools/mkT.py.
-/
import Derived.Test.YtaghhialaplgoaaGreatDoorPFG6
import Derived.Test.YtaghhialaplgoaaGreatDoorProg
import Derived.KernelRfl
set_option linter.unusedVariables false
set_option linter.unusedSimpArgs false
namespace Go.HL
open Go.RowKit Go.Proofs
set_option maxRecDepth 100000
set_option maxHeartbeats 4000000
theorem el32 : helem Tryz.prog 32 = some ⟨[.int .u8 0, .int .i64 0, .int .i64 0, .int .u64 0], 4, 32⟩ := by kernel_rfl
theorem al32 (H : HHeap) : halloc Tryz.prog H 32 = some (.pointer (some ⟨H.next, 0, none⟩), H.push (.cells [.int .u8 0, .int .i64 0, .int .i64 0, .int .u64 0] true)) := x_alloc el32
theorem el35 : helem Tryz.prog 35 = some ⟨[.int .i64 0, .slice none 0 0], 2, 32⟩ := by kernel_rfl
theorem al35 (H : HHeap) : halloc Tryz.prog H 35 = some (.pointer (some ⟨H.next, 0, none⟩), H.push (.cells [.int .i64 0, .slice none 0 0] true)) := x_alloc el35
theorem el60 : helem Tryz.prog 60 = some ⟨[.int .u64 0, .int .u64 0, .int .u64 0, .int .u64 0], 4, 32⟩ := by kernel_rfl
theorem al60 (H : HHeap) : halloc Tryz.prog H 60 = some (.pointer (some ⟨H.next, 0, none⟩), H.push (.cells [.int .u64 0, .int .u64 0, .int .u64 0, .int .u64 0] true)) := x_alloc el60
theorem isS33 : isStr Tryz.prog 33 = true := by kernel_rfl
theorem ap33_33 (H : HHeap) (s x : Value) : happend Tryz.prog H 33 33 s x = hb1 (apd H 4 32 s) (hsource H 4 x) := x_append Tryz.underlying33 isS33 el32 (by decide) s x
theorem isS36 : isStr Tryz.prog 36 = true := by kernel_rfl
theorem ap36_36 (H : HHeap) (s x : Value) : happend Tryz.prog H 36 36 s x = hb1 (apd H 2 32 s) (hsource H 2 x) := x_append Tryz.underlying36 isS36 el35 (by decide) s x
theorem isS58 : isStr Tryz.prog 58 = true := by kernel_rfl
theorem el71 : helem Tryz.prog 71 = some ⟨[.int .u64 0, .bool false], 2, 16⟩ := by kernel_rfl
theorem ap58_58 (H : HHeap) (s x : Value) : happend Tryz.prog H 58 58 s x = hb1 (apd H 2 16 s) (hsource H 2 x) := x_append Tryz.underlying58 isS58 el71 (by decide) s x
theorem isS62 : isStr Tryz.prog 62 = true := by kernel_rfl
theorem el30 : helem Tryz.prog 30 = some ⟨[.int .u64 0], 1, 8⟩ := by kernel_rfl
theorem ap62_62 (H : HHeap) (s x : Value) : happend Tryz.prog H 62 62 s x = hb1 (apd H 1 8 s) (hsource H 1 x) := x_append Tryz.underlying62 isS62 el30 (by decide) s x
theorem isS73 : isStr Tryz.prog 73 = true := by kernel_rfl
theorem el67 : helem Tryz.prog 67 = some ⟨[.pointer none], 1, 8⟩ := by kernel_rfl
theorem ap73_73 (H : HHeap) (s x : Value) : happend Tryz.prog H 73 73 s x = hb1 (apd H 1 8 s) (hsource H 1 x) := x_append Tryz.underlying73 isS73 el67 (by decide) s x
theorem isS9 : isStr Tryz.prog 9 = true := by kernel_rfl
theorem el5 : helem Tryz.prog 5 = some ⟨[.int .u8 0], 1, 1⟩ := by kernel_rfl
theorem ap82_9 (H : HHeap) (s x : Value) : happend Tryz.prog H 82 9 s x = hb1 (apd H 1 1 s) (hsource H 1 x) := x_append Tryz.underlying82 isS9 el5 (by decide) s x
theorem el144 : helem Tryz.prog 144 = some ⟨[.pointer none, .pointer none, .map none, .slice none 0 0], 4, 48⟩ := by kernel_rfl
theorem sz44 : hsize Tryz.prog 44 = some 1 := by kernel_rfl
theorem sz142 : hsize Tryz.prog 142 = some 1 := by kernel_rfl
theorem sz62 : hsize Tryz.prog 62 = some 1 := by kernel_rfl
theorem bd144_0_1_2 (x0 : Option Addr) (x1 : Option Addr) (x2 : Option Nat) : hbuild Tryz.prog 144 [(0, .pointer x0), (1, .pointer x1), (2, .map x2)] = some (.agg #[.pointer x0, .pointer x1, .map x2, .slice none 0 0]) := by simp only [hbuild, el144, Tryz.underlying144, Option.bind_some, hplaces, sz142, sz44, sz62, Option.map_some]; rfl
theorem sz5 : hsize Tryz.prog 5 = some 1 := by kernel_rfl
theorem sz3 : hsize Tryz.prog 3 = some 1 := by kernel_rfl
theorem sz30 : hsize Tryz.prog 30 = some 1 := by kernel_rfl
theorem bd32_0 (x0k : IntKind) (x0 : Int) : hbuild Tryz.prog 32 [(0, .int x0k x0)] = some (.agg #[.int x0k x0, .int .i64 0, .int .i64 0, .int .u64 0]) := by simp only [hbuild, el32, Tryz.underlying32, Option.bind_some, hplaces, sz3, sz30, sz5, Option.map_some]; rfl
theorem sz33 : hsize Tryz.prog 33 = some 1 := by kernel_rfl
theorem bd35_0_1 (x0k : IntKind) (x0 : Int) (x1 : Option Addr) (x1l x1c : Nat) : hbuild Tryz.prog 35 [(0, .int x0k x0), (1, .slice x1 x1l x1c)] = some (.agg #[.int x0k x0, .slice x1 x1l x1c]) := by simp only [hbuild, el35, Tryz.underlying35, Option.bind_some, hplaces, sz3, sz33, Option.map_some]; rfl
theorem bd35_1 (x1 : Option Addr) (x1l x1c : Nat) : hbuild Tryz.prog 35 [(1, .slice x1 x1l x1c)] = some (.agg #[.int .i64 0, .slice x1 x1l x1c]) := by simp only [hbuild, el35, Tryz.underlying35, Option.bind_some, hplaces, sz3, sz33, Option.map_some]; rfl
theorem bd60_0_1_2_3 (x0k : IntKind) (x0 : Int) (x1k : IntKind) (x1 : Int) (x2k : IntKind) (x2 : Int) (x3k : IntKind) (x3 : Int) : hbuild Tryz.prog 60 [(0, .int x0k x0), (1, .int x1k x1), (2, .int x2k x2), (3, .int x3k x3)] = some (.agg #[.int x0k x0, .int x1k x1, .int x2k x2, .int x3k x3]) := by simp only [hbuild, el60, Tryz.underlying60, Option.bind_some, hplaces, sz30, Option.map_some]; rfl
theorem el64 : helem Tryz.prog 64 = some ⟨[.slice none 0 0, .pointer none, .slice none 0 0, .slice none 0 0, .int .i64 0, .int .i64 0, .int .i64 0, .int .u64 0, .int .u64 0, .int .u64 0, .int .u64 0, .int .i64 0, .int .i64 0, .slice none 0 0], 14, 176⟩ := by kernel_rfl
theorem sz36 : hsize Tryz.prog 36 = some 1 := by kernel_rfl
theorem sz58 : hsize Tryz.prog 58 = some 1 := by kernel_rfl
theorem sz60 : hsize Tryz.prog 60 = some 4 := by kernel_rfl
theorem sz26 : hsize Tryz.prog 26 = some 1 := by kernel_rfl
theorem bd64_1_2_7 (x1 : Option Addr) (x2 : Option Addr) (x2l x2c : Nat) (x7_0 x7_1 x7_2 x7_3 : Value) : hbuild Tryz.prog 64 [(1, .pointer x1), (2, .slice x2 x2l x2c), (7, .agg #[x7_0, x7_1, x7_2, x7_3])] = some (.agg #[.slice none 0 0, .pointer x1, .slice x2 x2l x2c, .slice none 0 0, .int .i64 0, .int .i64 0, .int .i64 0, x7_0, x7_1, x7_2, x7_3, .int .i64 0, .int .i64 0, .slice none 0 0]) := by simp only [hbuild, el64, Tryz.underlying64, Option.bind_some, hplaces, sz26, sz3, sz36, sz44, sz58, sz60, sz62, Option.map_some]; rfl
theorem sz4 : hsize Tryz.prog 4 = some 1 := by kernel_rfl
theorem bd71_  : hbuild Tryz.prog 71 [] = some (.agg #[.int .u64 0, .bool false]) := by simp only [hbuild, el71, Tryz.underlying71, Option.bind_some, hplaces, sz30, sz4, Option.map_some]; rfl
theorem bd71_0_1 (x0k : IntKind) (x0 : Int) (x1 : Bool) : hbuild Tryz.prog 71 [(0, .int x0k x0), (1, .bool x1)] = some (.agg #[.int x0k x0, .bool x1]) := by simp only [hbuild, el71, Tryz.underlying71, Option.bind_some, hplaces, sz30, sz4, Option.map_some]; rfl
theorem el78 : helem Tryz.prog 78 = some ⟨[.slice none 0 0, .slice none 0 0, .int .i64 0], 3, 56⟩ := by kernel_rfl
theorem sz23 : hsize Tryz.prog 23 = some 1 := by kernel_rfl
theorem bd78_0_1 (x0 : Option Addr) (x0l x0c : Nat) (x1 : Option Addr) (x1l x1c : Nat) : hbuild Tryz.prog 78 [(0, .slice x0 x0l x0c), (1, .slice x1 x1l x1c)] = some (.agg #[.slice x0 x0l x0c, .slice x1 x1l x1c, .int .i64 0]) := by simp only [hbuild, el78, Tryz.underlying78, Option.bind_some, hplaces, sz23, sz3, sz62, Option.map_some]; rfl
theorem el86 : helem Tryz.prog 86 = some ⟨[.pointer none, .slice none 0 0, .pointer none, .pointer none], 4, 48⟩ := by kernel_rfl
theorem sz84 : hsize Tryz.prog 84 = some 2 := by kernel_rfl
theorem sz79 : hsize Tryz.prog 79 = some 1 := by kernel_rfl
theorem bd86_1_2 (x1 : Option Addr) (x2 : Option Addr) : hbuild Tryz.prog 86 [(1, .pointer x1), (2, .pointer x2)] = some (.agg #[.pointer none, .slice none 0 0, .pointer x1, .pointer x2]) := by simp only [hbuild, el86, Tryz.underlying86, Option.bind_some, hplaces, sz44, sz79, sz84, Option.map_some]; rfl
theorem el58 : helem Tryz.prog 58 = some ⟨[.slice none 0 0], 1, 24⟩ := by kernel_rfl
theorem bs109_2_0_1 (H : HHeap) (x0 : Option Addr) (x0l x0c : Nat) (x1 : Option Addr) (x1l x1c : Nat) : hbuildSlice Tryz.prog H 109 2 [(0, .slice x0 x0l x0c), (1, .slice x1 x1l x1c)] = some (.slice (some ⟨H.next, 0, none⟩) 2 2, H.push (.cells [.slice x0 x0l x0c, .slice x1 x1l x1c] true)) := by simp only [hbuildSlice, el58, Tryz.underlying109, Option.bind_some]; rfl
theorem el62 : helem Tryz.prog 62 = some ⟨[.slice none 0 0], 1, 24⟩ := by kernel_rfl
theorem bs151_2_0_1 (H : HHeap) (x0 : Option Addr) (x0l x0c : Nat) (x1 : Option Addr) (x1l x1c : Nat) : hbuildSlice Tryz.prog H 151 2 [(0, .slice x0 x0l x0c), (1, .slice x1 x1l x1c)] = some (.slice (some ⟨H.next, 0, none⟩) 2 2, H.push (.cells [.slice x0 x0l x0c, .slice x1 x1l x1c] true)) := by simp only [hbuildSlice, el62, Tryz.underlying151, Option.bind_some]; rfl
theorem bs36_1_0 (H : HHeap) (x0_0 x0_1 : Value) (h0 : allOne [x0_0, x0_1] = true) : hbuildSlice Tryz.prog H 36 1 [(0, .agg #[x0_0, x0_1])] = some (.slice (some ⟨H.next, 0, none⟩) 1 1, H.push (.cells [x0_0, x0_1] true)) := by simp only [hbuildSlice, el35, Tryz.underlying36, Option.bind_some]; exact if_pos h0
theorem bs58_1_0 (H : HHeap) (x0_0 x0_1 : Value) (h0 : allOne [x0_0, x0_1] = true) : hbuildSlice Tryz.prog H 58 1 [(0, .agg #[x0_0, x0_1])] = some (.slice (some ⟨H.next, 0, none⟩) 1 1, H.push (.cells [x0_0, x0_1] true)) := by simp only [hbuildSlice, el71, Tryz.underlying58, Option.bind_some]; exact if_pos h0
theorem bs62_0_ (H : HHeap)  : hbuildSlice Tryz.prog H 62 0 [] = some (.slice (some ⟨H.next, 0, none⟩) 0 0, H.push (.cells [] true)) := by simp only [hbuildSlice, el30, Tryz.underlying62, Option.bind_some]; rfl
theorem bs62_1_0 (H : HHeap) (x0k : IntKind) (x0 : Int) : hbuildSlice Tryz.prog H 62 1 [(0, .int x0k x0)] = some (.slice (some ⟨H.next, 0, none⟩) 1 1, H.push (.cells [.int x0k x0] true)) := by simp only [hbuildSlice, el30, Tryz.underlying62, Option.bind_some]; rfl
theorem bs62_2_0_1 (H : HHeap) (x0k : IntKind) (x0 : Int) (x1k : IntKind) (x1 : Int) : hbuildSlice Tryz.prog H 62 2 [(0, .int x0k x0), (1, .int x1k x1)] = some (.slice (some ⟨H.next, 0, none⟩) 2 2, H.push (.cells [.int x0k x0, .int x1k x1] true)) := by simp only [hbuildSlice, el30, Tryz.underlying62, Option.bind_some]; rfl
theorem bs62_5_0_1_2_3_4 (H : HHeap) (x0k : IntKind) (x0 : Int) (x1k : IntKind) (x1 : Int) (x2k : IntKind) (x2 : Int) (x3k : IntKind) (x3 : Int) (x4k : IntKind) (x4 : Int) : hbuildSlice Tryz.prog H 62 5 [(0, .int x0k x0), (1, .int x1k x1), (2, .int x2k x2), (3, .int x3k x3), (4, .int x4k x4)] = some (.slice (some ⟨H.next, 0, none⟩) 5 5, H.push (.cells [.int x0k x0, .int x1k x1, .int x2k x2, .int x3k x3, .int x4k x4] true)) := by simp only [hbuildSlice, el30, Tryz.underlying62, Option.bind_some]; rfl
theorem bs73_1_0 (H : HHeap) (x0 : Option Addr) : hbuildSlice Tryz.prog H 73 1 [(0, .pointer x0)] = some (.slice (some ⟨H.next, 0, none⟩) 1 1, H.push (.cells [.pointer x0] true)) := by simp only [hbuildSlice, el67, Tryz.underlying73, Option.bind_some]; rfl
theorem bs73_2_0_1 (H : HHeap) (x0 : Option Addr) (x1 : Option Addr) : hbuildSlice Tryz.prog H 73 2 [(0, .pointer x0), (1, .pointer x1)] = some (.slice (some ⟨H.next, 0, none⟩) 2 2, H.push (.cells [.pointer x0, .pointer x1] true)) := by simp only [hbuildSlice, el67, Tryz.underlying73, Option.bind_some]; rfl
theorem bs73_4_0_1_2_3 (H : HHeap) (x0 : Option Addr) (x1 : Option Addr) (x2 : Option Addr) (x3 : Option Addr) : hbuildSlice Tryz.prog H 73 4 [(0, .pointer x0), (1, .pointer x1), (2, .pointer x2), (3, .pointer x3)] = some (.slice (some ⟨H.next, 0, none⟩) 4 4, H.push (.cells [.pointer x0, .pointer x1, .pointer x2, .pointer x3] true)) := by simp only [hbuildSlice, el67, Tryz.underlying73, Option.bind_some]; rfl
theorem bs82_1_0 (H : HHeap) (x0k : IntKind) (x0 : Int) : hbuildSlice Tryz.prog H 82 1 [(0, .int x0k x0)] = some (.slice (some ⟨H.next, 0, none⟩) 1 1, H.push (.cells [.int x0k x0] true)) := by simp only [hbuildSlice, el5, Tryz.underlying82, Option.bind_some]; rfl
theorem kd25 : kindOf Tryz.prog 25 = 2 := by kernel_rfl
theorem pe25 (a : Addr) : hbin Tryz.prog .eql 25 (.pointer (some a)) (.pointer none) = some (.bool false) := x_ptr_eq kd25 a
theorem pn25 (a : Addr) : hbin Tryz.prog .neq 25 (.pointer (some a)) (.pointer none) = some (.bool true) := x_ptr_ne kd25 a
theorem pez25 : hbin Tryz.prog .eql 25 (.pointer none) (.pointer none) = some (.bool true) := x_ptr_eq0 kd25
theorem pnz25 : hbin Tryz.prog .neq 25 (.pointer none) (.pointer none) = some (.bool false) := x_ptr_ne0 kd25
theorem kd4 : kindOf Tryz.prog 4 = 1 := by kernel_rfl
theorem be4 (a b : Bool) : hbin Tryz.prog .eql 4 (.bool a) (.bool b) = some (.bool (a == b)) := x_bool_eq kd4 a b
theorem bn4 (a b : Bool) : hbin Tryz.prog .neq 4 (.bool a) (.bool b) = some (.bool (!(a == b))) := x_bool_ne kd4 a b
theorem kd44 : kindOf Tryz.prog 44 = 2 := by kernel_rfl
theorem pe44 (a : Addr) : hbin Tryz.prog .eql 44 (.pointer (some a)) (.pointer none) = some (.bool false) := x_ptr_eq kd44 a
theorem pn44 (a : Addr) : hbin Tryz.prog .neq 44 (.pointer (some a)) (.pointer none) = some (.bool true) := x_ptr_ne kd44 a
theorem pez44 : hbin Tryz.prog .eql 44 (.pointer none) (.pointer none) = some (.bool true) := x_ptr_eq0 kd44
theorem pnz44 : hbin Tryz.prog .neq 44 (.pointer none) (.pointer none) = some (.bool false) := x_ptr_ne0 kd44
theorem kd81 : kindOf Tryz.prog 81 = 2 := by kernel_rfl
theorem pe81 (a : Addr) : hbin Tryz.prog .eql 81 (.pointer (some a)) (.pointer none) = some (.bool false) := x_ptr_eq kd81 a
theorem pn81 (a : Addr) : hbin Tryz.prog .neq 81 (.pointer (some a)) (.pointer none) = some (.bool true) := x_ptr_ne kd81 a
theorem pez81 : hbin Tryz.prog .eql 81 (.pointer none) (.pointer none) = some (.bool true) := x_ptr_eq0 kd81
theorem pnz81 : hbin Tryz.prog .neq 81 (.pointer none) (.pointer none) = some (.bool false) := x_ptr_ne0 kd81
theorem cv177_29 (k : IntKind) (n : Int) : hconvert Tryz.prog 177 29 (.int k n) = some (.int .u64 (IntKind.u64.wrap n)) := x_conv Tryz.underlying177 Tryz.underlying29 k n
theorem cv177_39 (k : IntKind) (n : Int) : hconvert Tryz.prog 177 39 (.int k n) = some (.int .u64 (IntKind.u64.wrap n)) := x_conv Tryz.underlying177 Tryz.underlying39 k n
theorem cv29_177 (k : IntKind) (n : Int) : hconvert Tryz.prog 29 177 (.int k n) = some (.int .u32 (IntKind.u32.wrap n)) := x_conv Tryz.underlying29 Tryz.underlying177 k n
theorem cv29_3 (k : IntKind) (n : Int) : hconvert Tryz.prog 29 3 (.int k n) = some (.int .i64 (IntKind.i64.wrap n)) := x_conv Tryz.underlying29 Tryz.underlying3 k n
theorem cv29_5 (k : IntKind) (n : Int) : hconvert Tryz.prog 29 5 (.int k n) = some (.int .u8 (IntKind.u8.wrap n)) := x_conv Tryz.underlying29 Tryz.underlying5 k n
theorem cv3_29 (k : IntKind) (n : Int) : hconvert Tryz.prog 3 29 (.int k n) = some (.int .u64 (IntKind.u64.wrap n)) := x_conv Tryz.underlying3 Tryz.underlying29 k n
theorem cv3_30 (k : IntKind) (n : Int) : hconvert Tryz.prog 3 30 (.int k n) = some (.int .u64 (IntKind.u64.wrap n)) := x_conv Tryz.underlying3 Tryz.underlying30 k n
theorem cv3_39 (k : IntKind) (n : Int) : hconvert Tryz.prog 3 39 (.int k n) = some (.int .u64 (IntKind.u64.wrap n)) := x_conv Tryz.underlying3 Tryz.underlying39 k n
theorem cv30_2 (k : IntKind) (n : Int) : hconvert Tryz.prog 30 2 (.int k n) = some (.int .i64 (IntKind.i64.wrap n)) := x_conv Tryz.underlying30 Tryz.underlying2 k n
theorem cv30_3 (k : IntKind) (n : Int) : hconvert Tryz.prog 30 3 (.int k n) = some (.int .i64 (IntKind.i64.wrap n)) := x_conv Tryz.underlying30 Tryz.underlying3 k n
theorem cv39_177 (k : IntKind) (n : Int) : hconvert Tryz.prog 39 177 (.int k n) = some (.int .u32 (IntKind.u32.wrap n)) := x_conv Tryz.underlying39 Tryz.underlying177 k n
theorem cv39_3 (k : IntKind) (n : Int) : hconvert Tryz.prog 39 3 (.int k n) = some (.int .i64 (IntKind.i64.wrap n)) := x_conv Tryz.underlying39 Tryz.underlying3 k n
theorem cv5_3 (k : IntKind) (n : Int) : hconvert Tryz.prog 5 3 (.int k n) = some (.int .i64 (IntKind.i64.wrap n)) := x_conv Tryz.underlying5 Tryz.underlying3 k n
theorem el3 : helem Tryz.prog 3 = some ⟨[.int .i64 0], 1, 8⟩ := by kernel_rfl
theorem cp22 (H : HHeap) (b o : Nat) (s : Option Nat) (len cap : Nat) (x : Value) : hcopy Tryz.prog H 22 (.slice (some ⟨b, o, s⟩) len cap) x = hb1 (hcp H b o 1 len) (hsource H 1 x) := x_copy Tryz.underlying22 el3 b o s len cap x
theorem cp62 (H : HHeap) (b o : Nat) (s : Option Nat) (len cap : Nat) (x : Value) : hcopy Tryz.prog H 62 (.slice (some ⟨b, o, s⟩) len cap) x = hb1 (hcp H b o 1 len) (hsource H 1 x) := x_copy Tryz.underlying62 el30 b o s len cap x
theorem fa144_0 (b o : Nat) : hfieldAt Tryz.prog 144 (.pointer (some ⟨b, o, none⟩)) 0 = some (.pointer (some ⟨b, o + 0, none⟩)) := x_field Tryz.underlying144 rfl sz44 (by decide) 0 rfl b o
theorem fa144_1 (b o : Nat) : hfieldAt Tryz.prog 144 (.pointer (some ⟨b, o, none⟩)) 1 = some (.pointer (some ⟨b, o + 1, none⟩)) := x_field Tryz.underlying144 rfl sz44 (by decide) 1 rfl b o
theorem fa144_2 (b o : Nat) : hfieldAt Tryz.prog 144 (.pointer (some ⟨b, o, none⟩)) 2 = some (.pointer (some ⟨b, o + 2, none⟩)) := x_field Tryz.underlying144 rfl sz142 (by decide) 2 rfl b o
theorem fa144_3 (b o : Nat) : hfieldAt Tryz.prog 144 (.pointer (some ⟨b, o, none⟩)) 3 = some (.pointer (some ⟨b, o + 3, none⟩)) := x_field Tryz.underlying144 rfl sz62 (by decide) 3 rfl b o
theorem fa32_0 (b o : Nat) : hfieldAt Tryz.prog 32 (.pointer (some ⟨b, o, none⟩)) 0 = some (.pointer (some ⟨b, o + 0, none⟩)) := x_field Tryz.underlying32 rfl sz5 (by decide) 0 rfl b o
theorem fa32_1 (b o : Nat) : hfieldAt Tryz.prog 32 (.pointer (some ⟨b, o, none⟩)) 1 = some (.pointer (some ⟨b, o + 1, none⟩)) := x_field Tryz.underlying32 rfl sz3 (by decide) 1 rfl b o
theorem fa32_2 (b o : Nat) : hfieldAt Tryz.prog 32 (.pointer (some ⟨b, o, none⟩)) 2 = some (.pointer (some ⟨b, o + 2, none⟩)) := x_field Tryz.underlying32 rfl sz3 (by decide) 2 rfl b o
theorem fa32_3 (b o : Nat) : hfieldAt Tryz.prog 32 (.pointer (some ⟨b, o, none⟩)) 3 = some (.pointer (some ⟨b, o + 3, none⟩)) := x_field Tryz.underlying32 rfl sz30 (by decide) 3 rfl b o
theorem fa35_0 (b o : Nat) : hfieldAt Tryz.prog 35 (.pointer (some ⟨b, o, none⟩)) 0 = some (.pointer (some ⟨b, o + 0, none⟩)) := x_field Tryz.underlying35 rfl sz3 (by decide) 0 rfl b o
theorem fa35_1 (b o : Nat) : hfieldAt Tryz.prog 35 (.pointer (some ⟨b, o, none⟩)) 1 = some (.pointer (some ⟨b, o + 1, none⟩)) := x_field Tryz.underlying35 rfl sz33 (by decide) 1 rfl b o
theorem fa60_0 (b o : Nat) : hfieldAt Tryz.prog 60 (.pointer (some ⟨b, o, none⟩)) 0 = some (.pointer (some ⟨b, o + 0, none⟩)) := x_field Tryz.underlying60 rfl sz30 (by decide) 0 rfl b o
theorem fa60_1 (b o : Nat) : hfieldAt Tryz.prog 60 (.pointer (some ⟨b, o, none⟩)) 1 = some (.pointer (some ⟨b, o + 1, none⟩)) := x_field Tryz.underlying60 rfl sz30 (by decide) 1 rfl b o
theorem fa60_2 (b o : Nat) : hfieldAt Tryz.prog 60 (.pointer (some ⟨b, o, none⟩)) 2 = some (.pointer (some ⟨b, o + 2, none⟩)) := x_field Tryz.underlying60 rfl sz30 (by decide) 2 rfl b o
theorem fa60_3 (b o : Nat) : hfieldAt Tryz.prog 60 (.pointer (some ⟨b, o, none⟩)) 3 = some (.pointer (some ⟨b, o + 3, none⟩)) := x_field Tryz.underlying60 rfl sz30 (by decide) 3 rfl b o
theorem fa64_0 (b o : Nat) : hfieldAt Tryz.prog 64 (.pointer (some ⟨b, o, none⟩)) 0 = some (.pointer (some ⟨b, o + 0, none⟩)) := x_field Tryz.underlying64 rfl sz36 (by decide) 0 rfl b o
theorem fa64_1 (b o : Nat) : hfieldAt Tryz.prog 64 (.pointer (some ⟨b, o, none⟩)) 1 = some (.pointer (some ⟨b, o + 1, none⟩)) := x_field Tryz.underlying64 rfl sz44 (by decide) 1 rfl b o
theorem fa64_10 (b o : Nat) : hfieldAt Tryz.prog 64 (.pointer (some ⟨b, o, none⟩)) 10 = some (.pointer (some ⟨b, o + 13, none⟩)) := x_field Tryz.underlying64 rfl sz62 (by decide) 13 rfl b o
theorem fa64_2 (b o : Nat) : hfieldAt Tryz.prog 64 (.pointer (some ⟨b, o, none⟩)) 2 = some (.pointer (some ⟨b, o + 2, none⟩)) := x_field Tryz.underlying64 rfl sz58 (by decide) 2 rfl b o
theorem fa64_3 (b o : Nat) : hfieldAt Tryz.prog 64 (.pointer (some ⟨b, o, none⟩)) 3 = some (.pointer (some ⟨b, o + 3, none⟩)) := x_field Tryz.underlying64 rfl sz58 (by decide) 3 rfl b o
theorem fa64_4 (b o : Nat) : hfieldAt Tryz.prog 64 (.pointer (some ⟨b, o, none⟩)) 4 = some (.pointer (some ⟨b, o + 4, none⟩)) := x_field Tryz.underlying64 rfl sz3 (by decide) 4 rfl b o
theorem fa64_5 (b o : Nat) : hfieldAt Tryz.prog 64 (.pointer (some ⟨b, o, none⟩)) 5 = some (.pointer (some ⟨b, o + 5, none⟩)) := x_field Tryz.underlying64 rfl sz3 (by decide) 5 rfl b o
theorem fa64_6 (b o : Nat) : hfieldAt Tryz.prog 64 (.pointer (some ⟨b, o, none⟩)) 6 = some (.pointer (some ⟨b, o + 6, none⟩)) := x_field Tryz.underlying64 rfl sz3 (by decide) 6 rfl b o
theorem fa64_7 (b o : Nat) : hfieldAt Tryz.prog 64 (.pointer (some ⟨b, o, none⟩)) 7 = some (.pointer (some ⟨b, o + 7, none⟩)) := x_field Tryz.underlying64 rfl sz60 (by decide) 7 rfl b o
theorem fa64_8 (b o : Nat) : hfieldAt Tryz.prog 64 (.pointer (some ⟨b, o, none⟩)) 8 = some (.pointer (some ⟨b, o + 11, none⟩)) := x_field Tryz.underlying64 rfl sz26 (by decide) 11 rfl b o
theorem fa64_9 (b o : Nat) : hfieldAt Tryz.prog 64 (.pointer (some ⟨b, o, none⟩)) 9 = some (.pointer (some ⟨b, o + 12, none⟩)) := x_field Tryz.underlying64 rfl sz3 (by decide) 12 rfl b o
theorem fa71_0 (b o : Nat) : hfieldAt Tryz.prog 71 (.pointer (some ⟨b, o, none⟩)) 0 = some (.pointer (some ⟨b, o + 0, none⟩)) := x_field Tryz.underlying71 rfl sz30 (by decide) 0 rfl b o
theorem fa71_1 (b o : Nat) : hfieldAt Tryz.prog 71 (.pointer (some ⟨b, o, none⟩)) 1 = some (.pointer (some ⟨b, o + 1, none⟩)) := x_field Tryz.underlying71 rfl sz4 (by decide) 1 rfl b o
theorem fa78_0 (b o : Nat) : hfieldAt Tryz.prog 78 (.pointer (some ⟨b, o, none⟩)) 0 = some (.pointer (some ⟨b, o + 0, none⟩)) := x_field Tryz.underlying78 rfl sz62 (by decide) 0 rfl b o
theorem fa78_1 (b o : Nat) : hfieldAt Tryz.prog 78 (.pointer (some ⟨b, o, none⟩)) 1 = some (.pointer (some ⟨b, o + 1, none⟩)) := x_field Tryz.underlying78 rfl sz23 (by decide) 1 rfl b o
theorem fa78_2 (b o : Nat) : hfieldAt Tryz.prog 78 (.pointer (some ⟨b, o, none⟩)) 2 = some (.pointer (some ⟨b, o + 2, none⟩)) := x_field Tryz.underlying78 rfl sz3 (by decide) 2 rfl b o
theorem sz81 : hsize Tryz.prog 81 = some 1 := by kernel_rfl
theorem fa84_0 (b o : Nat) : hfieldAt Tryz.prog 84 (.pointer (some ⟨b, o, none⟩)) 0 = some (.pointer (some ⟨b, o + 0, none⟩)) := x_field Tryz.underlying84 rfl sz81 (by decide) 0 rfl b o
theorem sz82 : hsize Tryz.prog 82 = some 1 := by kernel_rfl
theorem fa84_1 (b o : Nat) : hfieldAt Tryz.prog 84 (.pointer (some ⟨b, o, none⟩)) 1 = some (.pointer (some ⟨b, o + 1, none⟩)) := x_field Tryz.underlying84 rfl sz82 (by decide) 1 rfl b o
theorem fa86_0 (b o : Nat) : hfieldAt Tryz.prog 86 (.pointer (some ⟨b, o, none⟩)) 0 = some (.pointer (some ⟨b, o + 0, none⟩)) := x_field Tryz.underlying86 rfl sz84 (by decide) 0 rfl b o
theorem fa86_1 (b o : Nat) : hfieldAt Tryz.prog 86 (.pointer (some ⟨b, o, none⟩)) 1 = some (.pointer (some ⟨b, o + 2, none⟩)) := x_field Tryz.underlying86 rfl sz44 (by decide) 2 rfl b o
theorem fa86_2 (b o : Nat) : hfieldAt Tryz.prog 86 (.pointer (some ⟨b, o, none⟩)) 2 = some (.pointer (some ⟨b, o + 3, none⟩)) := x_field Tryz.underlying86 rfl sz79 (by decide) 3 rfl b o
theorem sx9 (l : List UInt8) (k : IntKind) (i : Int) : hindex Tryz.prog 9 (S l) (.int k i) = six l i := s_index Tryz.underlying9 l k i
theorem sz9 : hsize Tryz.prog 9 = some 1 := by kernel_rfl
theorem ix100 (b o len cap : Nat) (s : Option Nat) (k : IntKind) (i : Int) : hindexAt Tryz.prog 100 (.slice (some ⟨b, o, s⟩) len cap) (.int k i) = ixa b o 1 len i := x_index Tryz.underlying100 sz9 b o len cap s k i
theorem ix109 (b o len cap : Nat) (s : Option Nat) (k : IntKind) (i : Int) : hindexAt Tryz.prog 109 (.slice (some ⟨b, o, s⟩) len cap) (.int k i) = ixa b o 1 len i := x_index Tryz.underlying109 sz58 b o len cap s k i
theorem ix151 (b o len cap : Nat) (s : Option Nat) (k : IntKind) (i : Int) : hindexAt Tryz.prog 151 (.slice (some ⟨b, o, s⟩) len cap) (.int k i) = ixa b o 1 len i := x_index Tryz.underlying151 sz62 b o len cap s k i
theorem ix22 (b o len cap : Nat) (s : Option Nat) (k : IntKind) (i : Int) : hindexAt Tryz.prog 22 (.slice (some ⟨b, o, s⟩) len cap) (.int k i) = ixa b o 1 len i := x_index Tryz.underlying22 sz3 b o len cap s k i
theorem ix23 (b o len cap : Nat) (s : Option Nat) (k : IntKind) (i : Int) : hindexAt Tryz.prog 23 (.slice (some ⟨b, o, s⟩) len cap) (.int k i) = ixa b o 1 len i := x_index Tryz.underlying23 sz4 b o len cap s k i
theorem sz32 : hsize Tryz.prog 32 = some 4 := by kernel_rfl
theorem ix33 (b o len cap : Nat) (s : Option Nat) (k : IntKind) (i : Int) : hindexAt Tryz.prog 33 (.slice (some ⟨b, o, s⟩) len cap) (.int k i) = ixa b o 4 len i := x_index Tryz.underlying33 sz32 b o len cap s k i
theorem sz35 : hsize Tryz.prog 35 = some 2 := by kernel_rfl
theorem ix36 (b o len cap : Nat) (s : Option Nat) (k : IntKind) (i : Int) : hindexAt Tryz.prog 36 (.slice (some ⟨b, o, s⟩) len cap) (.int k i) = ixa b o 2 len i := x_index Tryz.underlying36 sz35 b o len cap s k i
theorem sz71 : hsize Tryz.prog 71 = some 2 := by kernel_rfl
theorem ix58 (b o len cap : Nat) (s : Option Nat) (k : IntKind) (i : Int) : hindexAt Tryz.prog 58 (.slice (some ⟨b, o, s⟩) len cap) (.int k i) = ixa b o 2 len i := x_index Tryz.underlying58 sz71 b o len cap s k i
theorem ix62 (b o len cap : Nat) (s : Option Nat) (k : IntKind) (i : Int) : hindexAt Tryz.prog 62 (.slice (some ⟨b, o, s⟩) len cap) (.int k i) = ixa b o 1 len i := x_index Tryz.underlying62 sz30 b o len cap s k i
theorem sz67 : hsize Tryz.prog 67 = some 1 := by kernel_rfl
theorem ix73 (b o len cap : Nat) (s : Option Nat) (k : IntKind) (i : Int) : hindexAt Tryz.prog 73 (.slice (some ⟨b, o, s⟩) len cap) (.int k i) = ixa b o 1 len i := x_index Tryz.underlying73 sz67 b o len cap s k i
theorem ln100 (H : HHeap) (a : Option Addr) (n c : Nat) : hlen Tryz.prog H 100 (.slice a n c) = some (.int .i64 n) := x_lenS Tryz.underlying100 a n c
theorem ln109 (H : HHeap) (a : Option Addr) (n c : Nat) : hlen Tryz.prog H 109 (.slice a n c) = some (.int .i64 n) := x_lenS Tryz.underlying109 a n c
theorem ln151 (H : HHeap) (a : Option Addr) (n c : Nat) : hlen Tryz.prog H 151 (.slice a n c) = some (.int .i64 n) := x_lenS Tryz.underlying151 a n c
theorem ln22 (H : HHeap) (a : Option Addr) (n c : Nat) : hlen Tryz.prog H 22 (.slice a n c) = some (.int .i64 n) := x_lenS Tryz.underlying22 a n c
theorem ln23 (H : HHeap) (a : Option Addr) (n c : Nat) : hlen Tryz.prog H 23 (.slice a n c) = some (.int .i64 n) := x_lenS Tryz.underlying23 a n c
theorem ln33 (H : HHeap) (a : Option Addr) (n c : Nat) : hlen Tryz.prog H 33 (.slice a n c) = some (.int .i64 n) := x_lenS Tryz.underlying33 a n c
theorem ln36 (H : HHeap) (a : Option Addr) (n c : Nat) : hlen Tryz.prog H 36 (.slice a n c) = some (.int .i64 n) := x_lenS Tryz.underlying36 a n c
theorem ln58 (H : HHeap) (a : Option Addr) (n c : Nat) : hlen Tryz.prog H 58 (.slice a n c) = some (.int .i64 n) := x_lenS Tryz.underlying58 a n c
theorem ln62 (H : HHeap) (a : Option Addr) (n c : Nat) : hlen Tryz.prog H 62 (.slice a n c) = some (.int .i64 n) := x_lenS Tryz.underlying62 a n c
theorem ln73 (H : HHeap) (a : Option Addr) (n c : Nat) : hlen Tryz.prog H 73 (.slice a n c) = some (.int .i64 n) := x_lenS Tryz.underlying73 a n c
theorem ln82 (H : HHeap) (a : Option Addr) (n c : Nat) : hlen Tryz.prog H 82 (.slice a n c) = some (.int .i64 n) := x_lenS Tryz.underlying82 a n c
theorem ln9 (H : HHeap) (s : List UInt8) : hlen Tryz.prog H 9 (S s) = some (.int .i64 (s.length : Nat)) := s_len Tryz.underlying9 H s
theorem ag142 : hagg Tryz.prog 142 = some false := by kernel_rfl
theorem ld142 (H : HHeap) (b o : Nat) : hload Tryz.prog H 142 (.pointer (some ⟨b, o, none⟩)) = ldc (H.get b) o := x_load ag142 b o
theorem ag23 : hagg Tryz.prog 23 = some false := by kernel_rfl
theorem ld23 (H : HHeap) (b o : Nat) : hload Tryz.prog H 23 (.pointer (some ⟨b, o, none⟩)) = ldc (H.get b) o := x_load ag23 b o
theorem ag3 : hagg Tryz.prog 3 = some false := by kernel_rfl
theorem ld3 (H : HHeap) (b o : Nat) : hload Tryz.prog H 3 (.pointer (some ⟨b, o, none⟩)) = ldc (H.get b) o := x_load ag3 b o
theorem ag30 : hagg Tryz.prog 30 = some false := by kernel_rfl
theorem ld30 (H : HHeap) (b o : Nat) : hload Tryz.prog H 30 (.pointer (some ⟨b, o, none⟩)) = ldc (H.get b) o := x_load ag30 b o
theorem ag32 : hagg Tryz.prog 32 = some true := by kernel_rfl
theorem ld32 (H : HHeap) (b o : Nat) : hload Tryz.prog H 32 (.pointer (some ⟨b, o, none⟩)) = lda (H.get b) o 4 := x_loadN ag32 sz32 b o
theorem ag33 : hagg Tryz.prog 33 = some false := by kernel_rfl
theorem ld33 (H : HHeap) (b o : Nat) : hload Tryz.prog H 33 (.pointer (some ⟨b, o, none⟩)) = ldc (H.get b) o := x_load ag33 b o
theorem ag35 : hagg Tryz.prog 35 = some true := by kernel_rfl
theorem ld35 (H : HHeap) (b o : Nat) : hload Tryz.prog H 35 (.pointer (some ⟨b, o, none⟩)) = lda (H.get b) o 2 := x_loadN ag35 sz35 b o
theorem ag36 : hagg Tryz.prog 36 = some false := by kernel_rfl
theorem ld36 (H : HHeap) (b o : Nat) : hload Tryz.prog H 36 (.pointer (some ⟨b, o, none⟩)) = ldc (H.get b) o := x_load ag36 b o
theorem ag4 : hagg Tryz.prog 4 = some false := by kernel_rfl
theorem ld4 (H : HHeap) (b o : Nat) : hload Tryz.prog H 4 (.pointer (some ⟨b, o, none⟩)) = ldc (H.get b) o := x_load ag4 b o
theorem ag44 : hagg Tryz.prog 44 = some false := by kernel_rfl
theorem ld44 (H : HHeap) (b o : Nat) : hload Tryz.prog H 44 (.pointer (some ⟨b, o, none⟩)) = ldc (H.get b) o := x_load ag44 b o
theorem ag5 : hagg Tryz.prog 5 = some false := by kernel_rfl
theorem ld5 (H : HHeap) (b o : Nat) : hload Tryz.prog H 5 (.pointer (some ⟨b, o, none⟩)) = ldc (H.get b) o := x_load ag5 b o
theorem ag58 : hagg Tryz.prog 58 = some false := by kernel_rfl
theorem ld58 (H : HHeap) (b o : Nat) : hload Tryz.prog H 58 (.pointer (some ⟨b, o, none⟩)) = ldc (H.get b) o := x_load ag58 b o
theorem ag62 : hagg Tryz.prog 62 = some false := by kernel_rfl
theorem ld62 (H : HHeap) (b o : Nat) : hload Tryz.prog H 62 (.pointer (some ⟨b, o, none⟩)) = ldc (H.get b) o := x_load ag62 b o
theorem ag67 : hagg Tryz.prog 67 = some false := by kernel_rfl
theorem ld67 (H : HHeap) (b o : Nat) : hload Tryz.prog H 67 (.pointer (some ⟨b, o, none⟩)) = ldc (H.get b) o := x_load ag67 b o
theorem ag71 : hagg Tryz.prog 71 = some true := by kernel_rfl
theorem ld71 (H : HHeap) (b o : Nat) : hload Tryz.prog H 71 (.pointer (some ⟨b, o, none⟩)) = lda (H.get b) o 2 := x_loadN ag71 sz71 b o
theorem ag79 : hagg Tryz.prog 79 = some false := by kernel_rfl
theorem ld79 (H : HHeap) (b o : Nat) : hload Tryz.prog H 79 (.pointer (some ⟨b, o, none⟩)) = ldc (H.get b) o := x_load ag79 b o
theorem ag81 : hagg Tryz.prog 81 = some false := by kernel_rfl
theorem ld81 (H : HHeap) (b o : Nat) : hload Tryz.prog H 81 (.pointer (some ⟨b, o, none⟩)) = ldc (H.get b) o := x_load ag81 b o
theorem ag82 : hagg Tryz.prog 82 = some false := by kernel_rfl
theorem ld82 (H : HHeap) (b o : Nat) : hload Tryz.prog H 82 (.pointer (some ⟨b, o, none⟩)) = ldc (H.get b) o := x_load ag82 b o
theorem ag9 : hagg Tryz.prog 9 = some false := by kernel_rfl
theorem ld9 (H : HHeap) (b o : Nat) : hload Tryz.prog H 9 (.pointer (some ⟨b, o, none⟩)) = ldc (H.get b) o := x_load ag9 b o
theorem mk22 (H : HHeap) (k k' : IntKind) (l c : Int) : hmakeSlice Tryz.prog H 22 (.int k l) (.int k' c) = mks H (.int .i64 0) 8 l c := x_make Tryz.underlying22 el3 k k' l c
theorem el4 : helem Tryz.prog 4 = some ⟨[.bool false], 1, 1⟩ := by kernel_rfl
theorem mk23 (H : HHeap) (k k' : IntKind) (l c : Int) : hmakeSlice Tryz.prog H 23 (.int k l) (.int k' c) = mks H (.bool false) 1 l c := x_make Tryz.underlying23 el4 k k' l c
theorem mk62 (H : HHeap) (k k' : IntKind) (l c : Int) : hmakeSlice Tryz.prog H 62 (.int k l) (.int k' c) = mks H (.int .u64 0) 8 l c := x_make Tryz.underlying62 el30 k k' l c
theorem sl22 (b o len cap : Nat) (lo hi mx : Option Value) : hslice Tryz.prog 22 (.slice (some ⟨b, o, none⟩) len cap) lo hi mx = slx b o 1 len cap lo hi mx := x_slice Tryz.underlying22 sz3 b o len cap lo hi mx
theorem slg22 (b o k len cap : Nat) (lo hi mx : Option Value) : hslice Tryz.prog 22 (.slice (some ⟨b, o, some k⟩) len cap) lo hi mx = slg b o 1 k len cap lo hi mx := x_sliceG Tryz.underlying22 sz3 b o k len cap lo hi mx
theorem sln22 (lo hi mx : Option Value) : hslice Tryz.prog 22 (.slice none 0 0) lo hi mx = sln lo hi mx := x_sliceN Tryz.underlying22 sz3 lo hi mx
theorem sl62 (b o len cap : Nat) (lo hi mx : Option Value) : hslice Tryz.prog 62 (.slice (some ⟨b, o, none⟩) len cap) lo hi mx = slx b o 1 len cap lo hi mx := x_slice Tryz.underlying62 sz30 b o len cap lo hi mx
theorem slg62 (b o k len cap : Nat) (lo hi mx : Option Value) : hslice Tryz.prog 62 (.slice (some ⟨b, o, some k⟩) len cap) lo hi mx = slg b o 1 k len cap lo hi mx := x_sliceG Tryz.underlying62 sz30 b o k len cap lo hi mx
theorem sln62 (lo hi mx : Option Value) : hslice Tryz.prog 62 (.slice none 0 0) lo hi mx = sln lo hi mx := x_sliceN Tryz.underlying62 sz30 lo hi mx
theorem ss9 (l : List UInt8) (lo hi : Option Value) : hslice Tryz.prog 9 (S l) lo hi none = ssl l lo hi := s_slice Tryz.underlying9 l lo hi
theorem st26 (H : HHeap) (b o : Nat) (xk : IntKind) (x : Int) : hstore Tryz.prog H 26 (.pointer (some ⟨b, o, none⟩)) (.int xk x) = stc H b (H.get b) o (.int xk x) := x_store sz26 b o rfl
theorem st3 (H : HHeap) (b o : Nat) (xk : IntKind) (x : Int) : hstore Tryz.prog H 3 (.pointer (some ⟨b, o, none⟩)) (.int xk x) = stc H b (H.get b) o (.int xk x) := x_store sz3 b o rfl
theorem st30 (H : HHeap) (b o : Nat) (xk : IntKind) (x : Int) : hstore Tryz.prog H 30 (.pointer (some ⟨b, o, none⟩)) (.int xk x) = stc H b (H.get b) o (.int xk x) := x_store sz30 b o rfl
theorem st32 (H : HHeap) (b o : Nat) (v0 v1 v2 v3 : Value) (h : allOne [v0, v1, v2, v3] = true) : hstore Tryz.prog H 32 (.pointer (some ⟨b, o, none⟩)) (.agg #[v0, v1, v2, v3]) = sta H b (H.get b) o [v0, v1, v2, v3] := x_storeN sz32 b o rfl h
theorem st35 (H : HHeap) (b o : Nat) (v0 v1 : Value) (h : allOne [v0, v1] = true) : hstore Tryz.prog H 35 (.pointer (some ⟨b, o, none⟩)) (.agg #[v0, v1]) = sta H b (H.get b) o [v0, v1] := x_storeN sz35 b o rfl h
theorem st36 (H : HHeap) (b o : Nat) (x : Option Addr) (xl xc : Nat) : hstore Tryz.prog H 36 (.pointer (some ⟨b, o, none⟩)) (.slice x xl xc) = stc H b (H.get b) o (.slice x xl xc) := x_store sz36 b o rfl
theorem st4 (H : HHeap) (b o : Nat) (x : Bool) : hstore Tryz.prog H 4 (.pointer (some ⟨b, o, none⟩)) (.bool x) = stc H b (H.get b) o (.bool x) := x_store sz4 b o rfl
theorem st44 (H : HHeap) (b o : Nat) (x : Option Addr) : hstore Tryz.prog H 44 (.pointer (some ⟨b, o, none⟩)) (.pointer x) = stc H b (H.get b) o (.pointer x) := x_store sz44 b o rfl
theorem st58 (H : HHeap) (b o : Nat) (x : Option Addr) (xl xc : Nat) : hstore Tryz.prog H 58 (.pointer (some ⟨b, o, none⟩)) (.slice x xl xc) = stc H b (H.get b) o (.slice x xl xc) := x_store sz58 b o rfl
theorem st60 (H : HHeap) (b o : Nat) (v0 v1 v2 v3 : Value) (h : allOne [v0, v1, v2, v3] = true) : hstore Tryz.prog H 60 (.pointer (some ⟨b, o, none⟩)) (.agg #[v0, v1, v2, v3]) = sta H b (H.get b) o [v0, v1, v2, v3] := x_storeN sz60 b o rfl h
theorem st62 (H : HHeap) (b o : Nat) (x : Option Addr) (xl xc : Nat) : hstore Tryz.prog H 62 (.pointer (some ⟨b, o, none⟩)) (.slice x xl xc) = stc H b (H.get b) o (.slice x xl xc) := x_store sz62 b o rfl
theorem st71 (H : HHeap) (b o : Nat) (v0 v1 : Value) (h : allOne [v0, v1] = true) : hstore Tryz.prog H 71 (.pointer (some ⟨b, o, none⟩)) (.agg #[v0, v1]) = sta H b (H.get b) o [v0, v1] := x_storeN sz71 b o rfl h
theorem st81 (H : HHeap) (b o : Nat) (x : Option Addr) : hstore Tryz.prog H 81 (.pointer (some ⟨b, o, none⟩)) (.pointer x) = stc H b (H.get b) o (.pointer x) := x_store sz81 b o rfl
theorem st82 (H : HHeap) (b o : Nat) (x : Option Addr) (xl xc : Nat) : hstore Tryz.prog H 82 (.pointer (some ⟨b, o, none⟩)) (.slice x xl xc) = stc H b (H.get b) o (.slice x xl xc) := x_store sz82 b o rfl
theorem wh3 (vs : List Value) : hwho Tryz.prog (some (.func (.func 3) #[] #[])) (some vs) = some (3, vs) := hwho_func0 3 vs (by kernel_rfl)
theorem wh5 (vs : List Value) : hwho Tryz.prog (some (.func (.func 5) #[] #[])) (some vs) = some (5, vs) := hwho_func0 5 vs (by kernel_rfl)
theorem wh6 (vs : List Value) : hwho Tryz.prog (some (.func (.func 6) #[] #[])) (some vs) = some (6, vs) := hwho_func0 6 vs (by kernel_rfl)
theorem wh7 (vs : List Value) : hwho Tryz.prog (some (.func (.func 7) #[] #[])) (some vs) = some (7, vs) := hwho_func0 7 vs (by kernel_rfl)
theorem wh8 (vs : List Value) : hwho Tryz.prog (some (.func (.func 8) #[] #[])) (some vs) = some (8, vs) := hwho_func0 8 vs (by kernel_rfl)
theorem wh9 (vs : List Value) : hwho Tryz.prog (some (.func (.func 9) #[] #[])) (some vs) = some (9, vs) := hwho_func0 9 vs (by kernel_rfl)
theorem wh10 (vs : List Value) : hwho Tryz.prog (some (.func (.func 10) #[] #[])) (some vs) = some (10, vs) := hwho_func0 10 vs (by kernel_rfl)
theorem wh11 (vs : List Value) : hwho Tryz.prog (some (.func (.func 11) #[] #[])) (some vs) = some (11, vs) := hwho_func0 11 vs (by kernel_rfl)
theorem wh12 (vs : List Value) : hwho Tryz.prog (some (.func (.func 12) #[] #[])) (some vs) = some (12, vs) := hwho_func0 12 vs (by kernel_rfl)
theorem wh13 (vs : List Value) : hwho Tryz.prog (some (.func (.func 13) #[] #[])) (some vs) = some (13, vs) := hwho_func0 13 vs (by kernel_rfl)
theorem wh14 (vs : List Value) : hwho Tryz.prog (some (.func (.func 14) #[] #[])) (some vs) = some (14, vs) := hwho_func0 14 vs (by kernel_rfl)
theorem wh15 (vs : List Value) : hwho Tryz.prog (some (.func (.func 15) #[] #[])) (some vs) = some (15, vs) := hwho_func0 15 vs (by kernel_rfl)
theorem wh16 (vs : List Value) : hwho Tryz.prog (some (.func (.func 16) #[] #[])) (some vs) = some (16, vs) := hwho_func0 16 vs (by kernel_rfl)
theorem wh17 (vs : List Value) : hwho Tryz.prog (some (.func (.func 17) #[] #[])) (some vs) = some (17, vs) := hwho_func0 17 vs (by kernel_rfl)
theorem wh18 (vs : List Value) : hwho Tryz.prog (some (.func (.func 18) #[] #[])) (some vs) = some (18, vs) := hwho_func0 18 vs (by kernel_rfl)
theorem wh19 (vs : List Value) : hwho Tryz.prog (some (.func (.func 19) #[] #[])) (some vs) = some (19, vs) := hwho_func0 19 vs (by kernel_rfl)
theorem wh20 (vs : List Value) : hwho Tryz.prog (some (.func (.func 20) #[] #[])) (some vs) = some (20, vs) := hwho_func0 20 vs (by kernel_rfl)
theorem wh22 (vs : List Value) : hwho Tryz.prog (some (.func (.func 22) #[] #[])) (some vs) = some (22, vs) := hwho_func0 22 vs (by kernel_rfl)
theorem wh23 (vs : List Value) : hwho Tryz.prog (some (.func (.func 23) #[] #[])) (some vs) = some (23, vs) := hwho_func0 23 vs (by kernel_rfl)
theorem wh24 (vs : List Value) : hwho Tryz.prog (some (.func (.func 24) #[] #[])) (some vs) = some (24, vs) := hwho_func0 24 vs (by kernel_rfl)
theorem wh25 (vs : List Value) : hwho Tryz.prog (some (.func (.func 25) #[] #[])) (some vs) = some (25, vs) := hwho_func0 25 vs (by kernel_rfl)
theorem wh26 (vs : List Value) : hwho Tryz.prog (some (.func (.func 26) #[] #[])) (some vs) = some (26, vs) := hwho_func0 26 vs (by kernel_rfl)
theorem wh27 (vs : List Value) : hwho Tryz.prog (some (.func (.func 27) #[] #[])) (some vs) = some (27, vs) := hwho_func0 27 vs (by kernel_rfl)
theorem wh28 (vs : List Value) : hwho Tryz.prog (some (.func (.func 28) #[] #[])) (some vs) = some (28, vs) := hwho_func0 28 vs (by kernel_rfl)
theorem wh29 (vs : List Value) : hwho Tryz.prog (some (.func (.func 29) #[] #[])) (some vs) = some (29, vs) := hwho_func0 29 vs (by kernel_rfl)
theorem wh30 (vs : List Value) : hwho Tryz.prog (some (.func (.func 30) #[] #[])) (some vs) = some (30, vs) := hwho_func0 30 vs (by kernel_rfl)
theorem wh31 (vs : List Value) : hwho Tryz.prog (some (.func (.func 31) #[] #[])) (some vs) = some (31, vs) := hwho_func0 31 vs (by kernel_rfl)
theorem wh32 (vs : List Value) : hwho Tryz.prog (some (.func (.func 32) #[] #[])) (some vs) = some (32, vs) := hwho_func0 32 vs (by kernel_rfl)
theorem wh33 (vs : List Value) : hwho Tryz.prog (some (.func (.func 33) #[] #[])) (some vs) = some (33, vs) := hwho_func0 33 vs (by kernel_rfl)
theorem wh34 (vs : List Value) : hwho Tryz.prog (some (.func (.func 34) #[] #[])) (some vs) = some (34, vs) := hwho_func0 34 vs (by kernel_rfl)
theorem wh35 (vs : List Value) : hwho Tryz.prog (some (.func (.func 35) #[] #[])) (some vs) = some (35, vs) := hwho_func0 35 vs (by kernel_rfl)
theorem wh36 (vs : List Value) : hwho Tryz.prog (some (.func (.func 36) #[] #[])) (some vs) = some (36, vs) := hwho_func0 36 vs (by kernel_rfl)
theorem wh37 (vs : List Value) : hwho Tryz.prog (some (.func (.func 37) #[] #[])) (some vs) = some (37, vs) := hwho_func0 37 vs (by kernel_rfl)
theorem wh38 (vs : List Value) : hwho Tryz.prog (some (.func (.func 38) #[] #[])) (some vs) = some (38, vs) := hwho_func0 38 vs (by kernel_rfl)
theorem wh39 (vs : List Value) : hwho Tryz.prog (some (.func (.func 39) #[] #[])) (some vs) = some (39, vs) := hwho_func0 39 vs (by kernel_rfl)
theorem wh40 (vs : List Value) : hwho Tryz.prog (some (.func (.func 40) #[] #[])) (some vs) = some (40, vs) := hwho_func0 40 vs (by kernel_rfl)
theorem wh41 (vs : List Value) : hwho Tryz.prog (some (.func (.func 41) #[] #[])) (some vs) = some (41, vs) := hwho_func0 41 vs (by kernel_rfl)
theorem wh42 (vs : List Value) : hwho Tryz.prog (some (.func (.func 42) #[] #[])) (some vs) = some (42, vs) := hwho_func0 42 vs (by kernel_rfl)
theorem wh46 (vs : List Value) : hwho Tryz.prog (some (.func (.func 46) #[] #[])) (some vs) = some (46, vs) := hwho_func0 46 vs (by kernel_rfl)
theorem wh48 (vs : List Value) : hwho Tryz.prog (some (.func (.func 48) #[] #[])) (some vs) = some (48, vs) := hwho_func0 48 vs (by kernel_rfl)
theorem wh49 (vs : List Value) : hwho Tryz.prog (some (.func (.func 49) #[] #[])) (some vs) = some (49, vs) := hwho_func0 49 vs (by kernel_rfl)
theorem wh50 (vs : List Value) : hwho Tryz.prog (some (.func (.func 50) #[] #[])) (some vs) = some (50, vs) := hwho_func0 50 vs (by kernel_rfl)
theorem wh51 (vs : List Value) : hwho Tryz.prog (some (.func (.func 51) #[] #[])) (some vs) = some (51, vs) := hwho_func0 51 vs (by kernel_rfl)
theorem wh52 (vs : List Value) : hwho Tryz.prog (some (.func (.func 52) #[] #[])) (some vs) = some (52, vs) := hwho_func0 52 vs (by kernel_rfl)
theorem wh53 (vs : List Value) : hwho Tryz.prog (some (.func (.func 53) #[] #[])) (some vs) = some (53, vs) := hwho_func0 53 vs (by kernel_rfl)
theorem wh54 (vs : List Value) : hwho Tryz.prog (some (.func (.func 54) #[] #[])) (some vs) = some (54, vs) := hwho_func0 54 vs (by kernel_rfl)
theorem wh55 (vs : List Value) : hwho Tryz.prog (some (.func (.func 55) #[] #[])) (some vs) = some (55, vs) := hwho_func0 55 vs (by kernel_rfl)
theorem wh56 (vs : List Value) : hwho Tryz.prog (some (.func (.func 56) #[] #[])) (some vs) = some (56, vs) := hwho_func0 56 vs (by kernel_rfl)
theorem wh57 (vs : List Value) : hwho Tryz.prog (some (.func (.func 57) #[] #[])) (some vs) = some (57, vs) := hwho_func0 57 vs (by kernel_rfl)
theorem wh58 (vs : List Value) : hwho Tryz.prog (some (.func (.func 58) #[] #[])) (some vs) = some (58, vs) := hwho_func0 58 vs (by kernel_rfl)
theorem wh59 (vs : List Value) : hwho Tryz.prog (some (.func (.func 59) #[] #[])) (some vs) = some (59, vs) := hwho_func0 59 vs (by kernel_rfl)
theorem wh60 (vs : List Value) : hwho Tryz.prog (some (.func (.func 60) #[] #[])) (some vs) = some (60, vs) := hwho_func0 60 vs (by kernel_rfl)
theorem wh61 (vs : List Value) : hwho Tryz.prog (some (.func (.func 61) #[] #[])) (some vs) = some (61, vs) := hwho_func0 61 vs (by kernel_rfl)
theorem wh62 (vs : List Value) : hwho Tryz.prog (some (.func (.func 62) #[] #[])) (some vs) = some (62, vs) := hwho_func0 62 vs (by kernel_rfl)
theorem wh63 (vs : List Value) : hwho Tryz.prog (some (.func (.func 63) #[] #[])) (some vs) = some (63, vs) := hwho_func0 63 vs (by kernel_rfl)
theorem wh64 (vs : List Value) : hwho Tryz.prog (some (.func (.func 64) #[] #[])) (some vs) = some (64, vs) := hwho_func0 64 vs (by kernel_rfl)
theorem wh65 (vs : List Value) : hwho Tryz.prog (some (.func (.func 65) #[] #[])) (some vs) = some (65, vs) := hwho_func0 65 vs (by kernel_rfl)
theorem wh66 (vs : List Value) : hwho Tryz.prog (some (.func (.func 66) #[] #[])) (some vs) = some (66, vs) := hwho_func0 66 vs (by kernel_rfl)
theorem wh68 (vs : List Value) : hwho Tryz.prog (some (.func (.func 68) #[] #[])) (some vs) = some (68, vs) := hwho_func0 68 vs (by kernel_rfl)
theorem wh71 (vs : List Value) : hwho Tryz.prog (some (.func (.func 71) #[] #[])) (some vs) = some (71, vs) := hwho_func0 71 vs (by kernel_rfl)
theorem wh73 (vs : List Value) : hwho Tryz.prog (some (.func (.func 73) #[] #[])) (some vs) = some (73, vs) := hwho_func0 73 vs (by kernel_rfl)
theorem wh74 (vs : List Value) : hwho Tryz.prog (some (.func (.func 74) #[] #[])) (some vs) = some (74, vs) := hwho_func0 74 vs (by kernel_rfl)
theorem wh75 (vs : List Value) : hwho Tryz.prog (some (.func (.func 75) #[] #[])) (some vs) = some (75, vs) := hwho_func0 75 vs (by kernel_rfl)
theorem wh76 (vs : List Value) : hwho Tryz.prog (some (.func (.func 76) #[] #[])) (some vs) = some (76, vs) := hwho_func0 76 vs (by kernel_rfl)
theorem wh77 (vs : List Value) : hwho Tryz.prog (some (.func (.func 77) #[] #[])) (some vs) = some (77, vs) := hwho_func0 77 vs (by kernel_rfl)
theorem wh78 (vs : List Value) : hwho Tryz.prog (some (.func (.func 78) #[] #[])) (some vs) = some (78, vs) := hwho_func0 78 vs (by kernel_rfl)
theorem wh79 (vs : List Value) : hwho Tryz.prog (some (.func (.func 79) #[] #[])) (some vs) = some (79, vs) := hwho_func0 79 vs (by kernel_rfl)
theorem wh80 (vs : List Value) : hwho Tryz.prog (some (.func (.func 80) #[] #[])) (some vs) = some (80, vs) := hwho_func0 80 vs (by kernel_rfl)
theorem wh81 (vs : List Value) : hwho Tryz.prog (some (.func (.func 81) #[] #[])) (some vs) = some (81, vs) := hwho_func0 81 vs (by kernel_rfl)
theorem wh82 (vs : List Value) : hwho Tryz.prog (some (.func (.func 82) #[] #[])) (some vs) = some (82, vs) := hwho_func0 82 vs (by kernel_rfl)
theorem wh83 (vs : List Value) : hwho Tryz.prog (some (.func (.func 83) #[] #[])) (some vs) = some (83, vs) := hwho_func0 83 vs (by kernel_rfl)
theorem wh84 (vs : List Value) : hwho Tryz.prog (some (.func (.func 84) #[] #[])) (some vs) = some (84, vs) := hwho_func0 84 vs (by kernel_rfl)
theorem wh85 (vs : List Value) : hwho Tryz.prog (some (.func (.func 85) #[] #[])) (some vs) = some (85, vs) := hwho_func0 85 vs (by kernel_rfl)
theorem wh86 (vs : List Value) : hwho Tryz.prog (some (.func (.func 86) #[] #[])) (some vs) = some (86, vs) := hwho_func0 86 vs (by kernel_rfl)
theorem wh87 (vs : List Value) : hwho Tryz.prog (some (.func (.func 87) #[] #[])) (some vs) = some (87, vs) := hwho_func0 87 vs (by kernel_rfl)
theorem wh88 (vs : List Value) : hwho Tryz.prog (some (.func (.func 88) #[] #[])) (some vs) = some (88, vs) := hwho_func0 88 vs (by kernel_rfl)
theorem wh89 (vs : List Value) : hwho Tryz.prog (some (.func (.func 89) #[] #[])) (some vs) = some (89, vs) := hwho_func0 89 vs (by kernel_rfl)
theorem wh90 (vs : List Value) : hwho Tryz.prog (some (.func (.func 90) #[] #[])) (some vs) = some (90, vs) := hwho_func0 90 vs (by kernel_rfl)
theorem wh92 (vs : List Value) : hwho Tryz.prog (some (.func (.func 92) #[] #[])) (some vs) = some (92, vs) := hwho_func0 92 vs (by kernel_rfl)
theorem wh93 (vs : List Value) : hwho Tryz.prog (some (.func (.func 93) #[] #[])) (some vs) = some (93, vs) := hwho_func0 93 vs (by kernel_rfl)
theorem wh94 (vs : List Value) : hwho Tryz.prog (some (.func (.func 94) #[] #[])) (some vs) = some (94, vs) := hwho_func0 94 vs (by kernel_rfl)
theorem wh95 (vs : List Value) : hwho Tryz.prog (some (.func (.func 95) #[] #[])) (some vs) = some (95, vs) := hwho_func0 95 vs (by kernel_rfl)
theorem wh97 (vs : List Value) : hwho Tryz.prog (some (.func (.func 97) #[] #[])) (some vs) = some (97, vs) := hwho_func0 97 vs (by kernel_rfl)
theorem wh99 (vs : List Value) : hwho Tryz.prog (some (.func (.func 99) #[] #[])) (some vs) = some (99, vs) := hwho_func0 99 vs (by kernel_rfl)
theorem wh100 (vs : List Value) : hwho Tryz.prog (some (.func (.func 100) #[] #[])) (some vs) = some (100, vs) := hwho_func0 100 vs (by kernel_rfl)
theorem wh101 (vs : List Value) : hwho Tryz.prog (some (.func (.func 101) #[] #[])) (some vs) = some (101, vs) := hwho_func0 101 vs (by kernel_rfl)
theorem wh103 (vs : List Value) : hwho Tryz.prog (some (.func (.func 103) #[] #[])) (some vs) = some (103, vs) := hwho_func0 103 vs (by kernel_rfl)
theorem wh104 (vs : List Value) : hwho Tryz.prog (some (.func (.func 104) #[] #[])) (some vs) = some (104, vs) := hwho_func0 104 vs (by kernel_rfl)
theorem wh105 (vs : List Value) : hwho Tryz.prog (some (.func (.func 105) #[] #[])) (some vs) = some (105, vs) := hwho_func0 105 vs (by kernel_rfl)
theorem wh108 (vs : List Value) : hwho Tryz.prog (some (.func (.func 108) #[] #[])) (some vs) = some (108, vs) := hwho_func0 108 vs (by kernel_rfl)
theorem wh109 (vs : List Value) : hwho Tryz.prog (some (.func (.func 109) #[] #[])) (some vs) = some (109, vs) := hwho_func0 109 vs (by kernel_rfl)
theorem wh110 (vs : List Value) : hwho Tryz.prog (some (.func (.func 110) #[] #[])) (some vs) = some (110, vs) := hwho_func0 110 vs (by kernel_rfl)
theorem wh111 (vs : List Value) : hwho Tryz.prog (some (.func (.func 111) #[] #[])) (some vs) = some (111, vs) := hwho_func0 111 vs (by kernel_rfl)
theorem wh117 (vs : List Value) : hwho Tryz.prog (some (.func (.func 117) #[] #[])) (some vs) = some (117, vs) := hwho_func0 117 vs (by kernel_rfl)
theorem wh118 (vs : List Value) : hwho Tryz.prog (some (.func (.func 118) #[] #[])) (some vs) = some (118, vs) := hwho_func0 118 vs (by kernel_rfl)
theorem wh119 (vs : List Value) : hwho Tryz.prog (some (.func (.func 119) #[] #[])) (some vs) = some (119, vs) := hwho_func0 119 vs (by kernel_rfl)
theorem wh120 (vs : List Value) : hwho Tryz.prog (some (.func (.func 120) #[] #[])) (some vs) = some (120, vs) := hwho_func0 120 vs (by kernel_rfl)
theorem wh121 (vs : List Value) : hwho Tryz.prog (some (.func (.func 121) #[] #[])) (some vs) = some (121, vs) := hwho_func0 121 vs (by kernel_rfl)
theorem wh122 (vs : List Value) : hwho Tryz.prog (some (.func (.func 122) #[] #[])) (some vs) = some (122, vs) := hwho_func0 122 vs (by kernel_rfl)
theorem wh123 (vs : List Value) : hwho Tryz.prog (some (.func (.func 123) #[] #[])) (some vs) = some (123, vs) := hwho_func0 123 vs (by kernel_rfl)
theorem wh138 (vs : List Value) : hwho Tryz.prog (some (.func (.func 138) #[] #[])) (some vs) = some (138, vs) := hwho_func0 138 vs (by kernel_rfl)
theorem wh141 (vs : List Value) : hwho Tryz.prog (some (.func (.func 141) #[] #[])) (some vs) = some (141, vs) := hwho_func0 141 vs (by kernel_rfl)
theorem wh144 (vs : List Value) : hwho Tryz.prog (some (.func (.func 144) #[] #[])) (some vs) = some (144, vs) := hwho_func0 144 vs (by kernel_rfl)
theorem wh145 (vs : List Value) : hwho Tryz.prog (some (.func (.func 145) #[] #[])) (some vs) = some (145, vs) := hwho_func0 145 vs (by kernel_rfl)
theorem mixed : Tryz.prog.follows .mixedOrders = true := by kernel_rfl
attribute [go_sem] al32 al35 al60 ap33_33 ap36_36 ap58_58 ap62_62 ap73_73 ap82_9 bd144_0_1_2 bd32_0 bd35_0_1 bd35_1 bd60_0_1_2_3 bd64_1_2_7 bd71_ bd71_0_1 bd78_0_1 bd86_1_2 bs109_2_0_1 bs151_2_0_1 bs36_1_0 bs58_1_0 bs62_0_ bs62_1_0 bs62_2_0_1 bs62_5_0_1_2_3_4 bs73_1_0 bs73_2_0_1 bs73_4_0_1_2_3 bs82_1_0 pe25 pn25 pez25 pnz25 be4 bn4 pe44 pn44 pez44 pnz44 pe81 pn81 pez81 pnz81 cv177_29 cv177_39 cv29_177 cv29_3 cv29_5 cv3_29 cv3_30 cv3_39 cv30_2 cv30_3 cv39_177 cv39_3 cv5_3 cp22 cp62 fa144_0 fa144_1 fa144_2 fa144_3 fa32_0 fa32_1 fa32_2 fa32_3 fa35_0 fa35_1 fa60_0 fa60_1 fa60_2 fa60_3 fa64_0 fa64_1 fa64_10 fa64_2 fa64_3 fa64_4 fa64_5 fa64_6 fa64_7 fa64_8 fa64_9 fa71_0 fa71_1 fa78_0 fa78_1 fa78_2 fa84_0 fa84_1 fa86_0 fa86_1 fa86_2 sx9 ix100 ix109 ix151 ix22 ix23 ix33 ix36 ix58 ix62 ix73 ln100 ln109 ln151 ln22 ln23 ln33 ln36 ln58 ln62 ln73 ln82 ln9 ld142 ld23 ld3 ld30 ld32 ld33 ld35 ld36 ld4 ld44 ld5 ld58 ld62 ld67 ld71 ld79 ld81 ld82 ld9 mk22 mk23 mk62 sl22 slg22 sln22 sl62 slg62 sln62 ss9 st26 st3 st30 st32 st35 st36 st4 st44 st58 st60 st62 st71 st81 st82 wh3 wh5 wh6 wh7 wh8 wh9 wh10 wh11 wh12 wh13 wh14 wh15 wh16 wh17 wh18 wh19 wh20 wh22 wh23 wh24 wh25 wh26 wh27 wh28 wh29 wh30 wh31 wh32 wh33 wh34 wh35 wh36 wh37 wh38 wh39 wh40 wh41 wh42 wh46 wh48 wh49 wh50 wh51 wh52 wh53 wh54 wh55 wh56 wh57 wh58 wh59 wh60 wh61 wh62 wh63 wh64 wh65 wh66 wh68 wh71 wh73 wh74 wh75 wh76 wh77 wh78 wh79 wh80 wh81 wh82 wh83 wh84 wh85 wh86 wh87 wh88 wh89 wh90 wh92 wh93 wh94 wh95 wh97 wh99 wh100 wh101 wh103 wh104 wh105 wh108 wh109 wh110 wh111 wh117 wh118 wh119 wh120 wh121 wh122 wh123 wh138 wh141 wh144 wh145
end Go.HL
