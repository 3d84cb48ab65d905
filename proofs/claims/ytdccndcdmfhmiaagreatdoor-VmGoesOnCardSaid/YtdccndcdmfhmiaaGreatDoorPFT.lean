/-
  The instances of this program's types. Printed by wip/tools/mkT.py.
-/
import Derived.Test.YtdccndcdmfhmiaaGreatDoorPFG6
import Derived.Test.YtdccndcdmfhmiaaGreatDoorProg
import Derived.KernelRfl
set_option linter.unusedVariables false
set_option linter.unusedSimpArgs false
namespace Go.HL
open Go.RowKit Go.Proofs
set_option maxRecDepth 100000
set_option maxHeartbeats 4000000
theorem el58 : helem Tryz.prog 58 = some ⟨[.int .u8 0, .int .i64 0, .int .i64 0, .int .u64 0], 4, 32⟩ := by kernel_rfl
theorem al58 (H : HHeap) : halloc Tryz.prog H 58 = some (.pointer (some ⟨H.next, 0, none⟩), H.push (.cells [.int .u8 0, .int .i64 0, .int .i64 0, .int .u64 0] true)) := x_alloc el58
theorem el61 : helem Tryz.prog 61 = some ⟨[.int .i64 0, .slice none 0 0], 2, 32⟩ := by kernel_rfl
theorem al61 (H : HHeap) : halloc Tryz.prog H 61 = some (.pointer (some ⟨H.next, 0, none⟩), H.push (.cells [.int .i64 0, .slice none 0 0] true)) := x_alloc el61
theorem el78 : helem Tryz.prog 78 = some ⟨[.int .u64 0, .int .u64 0, .int .u64 0, .int .u64 0], 4, 32⟩ := by kernel_rfl
theorem al78 (H : HHeap) : halloc Tryz.prog H 78 = some (.pointer (some ⟨H.next, 0, none⟩), H.push (.cells [.int .u64 0, .int .u64 0, .int .u64 0, .int .u64 0] true)) := x_alloc el78
theorem isS9 : isStr Tryz.prog 9 = true := by kernel_rfl
theorem el5 : helem Tryz.prog 5 = some ⟨[.int .u8 0], 1, 1⟩ := by kernel_rfl
theorem ap106_9 (H : HHeap) (s x : Value) : happend Tryz.prog H 106 9 s x = hb1 (apd H 1 1 s) (hsource H 1 x) := x_append Tryz.underlying106 isS9 el5 (by decide) s x
theorem isS26 : isStr Tryz.prog 26 = true := by kernel_rfl
theorem ap26_26 (H : HHeap) (s x : Value) : happend Tryz.prog H 26 26 s x = hb1 (apd H 2 32 s) (hsource H 2 x) := x_append Tryz.underlying26 isS26 el61 (by decide) s x
theorem isS40 : isStr Tryz.prog 40 = true := by kernel_rfl
theorem el35 : helem Tryz.prog 35 = some ⟨[.int .u64 0], 1, 8⟩ := by kernel_rfl
theorem ap40_40 (H : HHeap) (s x : Value) : happend Tryz.prog H 40 40 s x = hb1 (apd H 1 8 s) (hsource H 1 x) := x_append Tryz.underlying40 isS40 el35 (by decide) s x
theorem isS59 : isStr Tryz.prog 59 = true := by kernel_rfl
theorem ap59_59 (H : HHeap) (s x : Value) : happend Tryz.prog H 59 59 s x = hb1 (apd H 4 32 s) (hsource H 4 x) := x_append Tryz.underlying59 isS59 el58 (by decide) s x
theorem isS76 : isStr Tryz.prog 76 = true := by kernel_rfl
theorem el99 : helem Tryz.prog 99 = some ⟨[.int .u64 0, .bool false], 2, 16⟩ := by kernel_rfl
theorem ap76_76 (H : HHeap) (s x : Value) : happend Tryz.prog H 76 76 s x = hb1 (apd H 2 16 s) (hsource H 2 x) := x_append Tryz.underlying76 isS76 el99 (by decide) s x
theorem isS91 : isStr Tryz.prog 91 = true := by kernel_rfl
theorem el90 : helem Tryz.prog 90 = some ⟨[.pointer none], 1, 8⟩ := by kernel_rfl
theorem ap91_91 (H : HHeap) (s x : Value) : happend Tryz.prog H 91 91 s x = hb1 (apd H 1 8 s) (hsource H 1 x) := x_append Tryz.underlying91 isS91 el90 (by decide) s x
theorem el110 : helem Tryz.prog 110 = some ⟨[.pointer none, .slice none 0 0, .pointer none, .pointer none], 4, 48⟩ := by kernel_rfl
theorem sz108 : hsize Tryz.prog 108 = some 2 := by kernel_rfl
theorem sz44 : hsize Tryz.prog 44 = some 1 := by kernel_rfl
theorem sz50 : hsize Tryz.prog 50 = some 1 := by kernel_rfl
theorem bd110_1_2 (x1 : Option Addr) (x2 : Option Addr) : hbuild Tryz.prog 110 [(1, .pointer x1), (2, .pointer x2)] = some (.agg #[.pointer none, .slice none 0 0, .pointer x1, .pointer x2]) := by simp only [hbuild, el110, Tryz.underlying110, Option.bind_some, hplaces, sz108, sz44, sz50, Option.map_some]; rfl
theorem el155 : helem Tryz.prog 155 = some ⟨[.slice none 0 0, .slice none 0 0, .int .i64 0], 3, 56⟩ := by kernel_rfl
theorem sz40 : hsize Tryz.prog 40 = some 1 := by kernel_rfl
theorem sz153 : hsize Tryz.prog 153 = some 1 := by kernel_rfl
theorem sz3 : hsize Tryz.prog 3 = some 1 := by kernel_rfl
theorem bd155_0_1 (x0 : Option Addr) (x0l x0c : Nat) (x1 : Option Addr) (x1l x1c : Nat) : hbuild Tryz.prog 155 [(0, .slice x0 x0l x0c), (1, .slice x1 x1l x1c)] = some (.agg #[.slice x0 x0l x0c, .slice x1 x1l x1c, .int .i64 0]) := by simp only [hbuild, el155, Tryz.underlying155, Option.bind_some, hplaces, sz153, sz3, sz40, Option.map_some]; rfl
theorem el228 : helem Tryz.prog 228 = some ⟨[.pointer none, .pointer none, .map none, .slice none 0 0], 4, 48⟩ := by kernel_rfl
theorem sz226 : hsize Tryz.prog 226 = some 1 := by kernel_rfl
theorem bd228_0_1_2 (x0 : Option Addr) (x1 : Option Addr) (x2 : Option Nat) : hbuild Tryz.prog 228 [(0, .pointer x0), (1, .pointer x1), (2, .map x2)] = some (.agg #[.pointer x0, .pointer x1, .map x2, .slice none 0 0]) := by simp only [hbuild, el228, Tryz.underlying228, Option.bind_some, hplaces, sz226, sz40, sz44, Option.map_some]; rfl
theorem sz59 : hsize Tryz.prog 59 = some 1 := by kernel_rfl
theorem bd61_0_1 (x0k : IntKind) (x0 : Int) (x1 : Option Addr) (x1l x1c : Nat) : hbuild Tryz.prog 61 [(0, .int x0k x0), (1, .slice x1 x1l x1c)] = some (.agg #[.int x0k x0, .slice x1 x1l x1c]) := by simp only [hbuild, el61, Tryz.underlying61, Option.bind_some, hplaces, sz3, sz59, Option.map_some]; rfl
theorem sz35 : hsize Tryz.prog 35 = some 1 := by kernel_rfl
theorem bd78_0_1_2_3 (x0k : IntKind) (x0 : Int) (x1k : IntKind) (x1 : Int) (x2k : IntKind) (x2 : Int) (x3k : IntKind) (x3 : Int) : hbuild Tryz.prog 78 [(0, .int x0k x0), (1, .int x1k x1), (2, .int x2k x2), (3, .int x3k x3)] = some (.agg #[.int x0k x0, .int x1k x1, .int x2k x2, .int x3k x3]) := by simp only [hbuild, el78, Tryz.underlying78, Option.bind_some, hplaces, sz35, Option.map_some]; rfl
theorem el81 : helem Tryz.prog 81 = some ⟨[.slice none 0 0, .pointer none, .slice none 0 0, .slice none 0 0, .int .i64 0, .int .i64 0, .int .i64 0, .int .u64 0, .int .u64 0, .int .u64 0, .int .u64 0, .int .i64 0, .int .i64 0, .slice none 0 0], 14, 176⟩ := by kernel_rfl
theorem sz26 : hsize Tryz.prog 26 = some 1 := by kernel_rfl
theorem sz76 : hsize Tryz.prog 76 = some 1 := by kernel_rfl
theorem sz78 : hsize Tryz.prog 78 = some 4 := by kernel_rfl
theorem sz31 : hsize Tryz.prog 31 = some 1 := by kernel_rfl
theorem bd81_1_2_7 (x1 : Option Addr) (x2 : Option Addr) (x2l x2c : Nat) (x7_0 x7_1 x7_2 x7_3 : Value) : hbuild Tryz.prog 81 [(1, .pointer x1), (2, .slice x2 x2l x2c), (7, .agg #[x7_0, x7_1, x7_2, x7_3])] = some (.agg #[.slice none 0 0, .pointer x1, .slice x2 x2l x2c, .slice none 0 0, .int .i64 0, .int .i64 0, .int .i64 0, x7_0, x7_1, x7_2, x7_3, .int .i64 0, .int .i64 0, .slice none 0 0]) := by simp only [hbuild, el81, Tryz.underlying81, Option.bind_some, hplaces, sz26, sz3, sz31, sz40, sz44, sz76, sz78, Option.map_some]; rfl
theorem sz4 : hsize Tryz.prog 4 = some 1 := by kernel_rfl
theorem bd99_  : hbuild Tryz.prog 99 [] = some (.agg #[.int .u64 0, .bool false]) := by simp only [hbuild, el99, Tryz.underlying99, Option.bind_some, hplaces, sz35, sz4, Option.map_some]; rfl
theorem bd99_0_1 (x0k : IntKind) (x0 : Int) (x1 : Bool) : hbuild Tryz.prog 99 [(0, .int x0k x0), (1, .bool x1)] = some (.agg #[.int x0k x0, .bool x1]) := by simp only [hbuild, el99, Tryz.underlying99, Option.bind_some, hplaces, sz35, sz4, Option.map_some]; rfl
theorem bs106_1_0 (H : HHeap) (x0k : IntKind) (x0 : Int) : hbuildSlice Tryz.prog H 106 1 [(0, .int x0k x0)] = some (.slice (some ⟨H.next, 0, none⟩) 1 1, H.push (.cells [.int x0k x0] true)) := by simp only [hbuildSlice, el5, Tryz.underlying106, Option.bind_some]; rfl
theorem el40 : helem Tryz.prog 40 = some ⟨[.slice none 0 0], 1, 24⟩ := by kernel_rfl
theorem bs210_2_0_1 (H : HHeap) (x0 : Option Addr) (x0l x0c : Nat) (x1 : Option Addr) (x1l x1c : Nat) : hbuildSlice Tryz.prog H 210 2 [(0, .slice x0 x0l x0c), (1, .slice x1 x1l x1c)] = some (.slice (some ⟨H.next, 0, none⟩) 2 2, H.push (.cells [.slice x0 x0l x0c, .slice x1 x1l x1c] true)) := by simp only [hbuildSlice, el40, Tryz.underlying210, Option.bind_some]; rfl
theorem el76 : helem Tryz.prog 76 = some ⟨[.slice none 0 0], 1, 24⟩ := by kernel_rfl
theorem bs224_2_0_1 (H : HHeap) (x0 : Option Addr) (x0l x0c : Nat) (x1 : Option Addr) (x1l x1c : Nat) : hbuildSlice Tryz.prog H 224 2 [(0, .slice x0 x0l x0c), (1, .slice x1 x1l x1c)] = some (.slice (some ⟨H.next, 0, none⟩) 2 2, H.push (.cells [.slice x0 x0l x0c, .slice x1 x1l x1c] true)) := by simp only [hbuildSlice, el76, Tryz.underlying224, Option.bind_some]; rfl
theorem bs26_1_0 (H : HHeap) (x0_0 x0_1 : Value) (h0 : allOne [x0_0, x0_1] = true) : hbuildSlice Tryz.prog H 26 1 [(0, .agg #[x0_0, x0_1])] = some (.slice (some ⟨H.next, 0, none⟩) 1 1, H.push (.cells [x0_0, x0_1] true)) := by simp only [hbuildSlice, el61, Tryz.underlying26, Option.bind_some]; exact if_pos h0
theorem bs40_0_ (H : HHeap)  : hbuildSlice Tryz.prog H 40 0 [] = some (.slice (some ⟨H.next, 0, none⟩) 0 0, H.push (.cells [] true)) := by simp only [hbuildSlice, el35, Tryz.underlying40, Option.bind_some]; rfl
theorem bs40_1_0 (H : HHeap) (x0k : IntKind) (x0 : Int) : hbuildSlice Tryz.prog H 40 1 [(0, .int x0k x0)] = some (.slice (some ⟨H.next, 0, none⟩) 1 1, H.push (.cells [.int x0k x0] true)) := by simp only [hbuildSlice, el35, Tryz.underlying40, Option.bind_some]; rfl
theorem bs40_2_0_1 (H : HHeap) (x0k : IntKind) (x0 : Int) (x1k : IntKind) (x1 : Int) : hbuildSlice Tryz.prog H 40 2 [(0, .int x0k x0), (1, .int x1k x1)] = some (.slice (some ⟨H.next, 0, none⟩) 2 2, H.push (.cells [.int x0k x0, .int x1k x1] true)) := by simp only [hbuildSlice, el35, Tryz.underlying40, Option.bind_some]; rfl
theorem bs40_5_0_1_2_3_4 (H : HHeap) (x0k : IntKind) (x0 : Int) (x1k : IntKind) (x1 : Int) (x2k : IntKind) (x2 : Int) (x3k : IntKind) (x3 : Int) (x4k : IntKind) (x4 : Int) : hbuildSlice Tryz.prog H 40 5 [(0, .int x0k x0), (1, .int x1k x1), (2, .int x2k x2), (3, .int x3k x3), (4, .int x4k x4)] = some (.slice (some ⟨H.next, 0, none⟩) 5 5, H.push (.cells [.int x0k x0, .int x1k x1, .int x2k x2, .int x3k x3, .int x4k x4] true)) := by simp only [hbuildSlice, el35, Tryz.underlying40, Option.bind_some]; rfl
theorem bs76_1_0 (H : HHeap) (x0_0 x0_1 : Value) (h0 : allOne [x0_0, x0_1] = true) : hbuildSlice Tryz.prog H 76 1 [(0, .agg #[x0_0, x0_1])] = some (.slice (some ⟨H.next, 0, none⟩) 1 1, H.push (.cells [x0_0, x0_1] true)) := by simp only [hbuildSlice, el99, Tryz.underlying76, Option.bind_some]; exact if_pos h0
theorem bs91_1_0 (H : HHeap) (x0 : Option Addr) : hbuildSlice Tryz.prog H 91 1 [(0, .pointer x0)] = some (.slice (some ⟨H.next, 0, none⟩) 1 1, H.push (.cells [.pointer x0] true)) := by simp only [hbuildSlice, el90, Tryz.underlying91, Option.bind_some]; rfl
theorem bs91_4_0_1_2_3 (H : HHeap) (x0 : Option Addr) (x1 : Option Addr) (x2 : Option Addr) (x3 : Option Addr) : hbuildSlice Tryz.prog H 91 4 [(0, .pointer x0), (1, .pointer x1), (2, .pointer x2), (3, .pointer x3)] = some (.slice (some ⟨H.next, 0, none⟩) 4 4, H.push (.cells [.pointer x0, .pointer x1, .pointer x2, .pointer x3] true)) := by simp only [hbuildSlice, el90, Tryz.underlying91, Option.bind_some]; rfl
theorem kd105 : kindOf Tryz.prog 105 = 2 := by kernel_rfl
theorem pe105 (a : Addr) : hbin Tryz.prog .eql 105 (.pointer (some a)) (.pointer none) = some (.bool false) := x_ptr_eq kd105 a
theorem pn105 (a : Addr) : hbin Tryz.prog .neq 105 (.pointer (some a)) (.pointer none) = some (.bool true) := x_ptr_ne kd105 a
theorem pez105 : hbin Tryz.prog .eql 105 (.pointer none) (.pointer none) = some (.bool true) := x_ptr_eq0 kd105
theorem pnz105 : hbin Tryz.prog .neq 105 (.pointer none) (.pointer none) = some (.bool false) := x_ptr_ne0 kd105
theorem kd30 : kindOf Tryz.prog 30 = 2 := by kernel_rfl
theorem pe30 (a : Addr) : hbin Tryz.prog .eql 30 (.pointer (some a)) (.pointer none) = some (.bool false) := x_ptr_eq kd30 a
theorem pn30 (a : Addr) : hbin Tryz.prog .neq 30 (.pointer (some a)) (.pointer none) = some (.bool true) := x_ptr_ne kd30 a
theorem pez30 : hbin Tryz.prog .eql 30 (.pointer none) (.pointer none) = some (.bool true) := x_ptr_eq0 kd30
theorem pnz30 : hbin Tryz.prog .neq 30 (.pointer none) (.pointer none) = some (.bool false) := x_ptr_ne0 kd30
theorem kd4 : kindOf Tryz.prog 4 = 1 := by kernel_rfl
theorem be4 (a b : Bool) : hbin Tryz.prog .eql 4 (.bool a) (.bool b) = some (.bool (a == b)) := x_bool_eq kd4 a b
theorem bn4 (a b : Bool) : hbin Tryz.prog .neq 4 (.bool a) (.bool b) = some (.bool (!(a == b))) := x_bool_ne kd4 a b
theorem kd44 : kindOf Tryz.prog 44 = 2 := by kernel_rfl
theorem pe44 (a : Addr) : hbin Tryz.prog .eql 44 (.pointer (some a)) (.pointer none) = some (.bool false) := x_ptr_eq kd44 a
theorem pn44 (a : Addr) : hbin Tryz.prog .neq 44 (.pointer (some a)) (.pointer none) = some (.bool true) := x_ptr_ne kd44 a
theorem pez44 : hbin Tryz.prog .eql 44 (.pointer none) (.pointer none) = some (.bool true) := x_ptr_eq0 kd44
theorem pnz44 : hbin Tryz.prog .neq 44 (.pointer none) (.pointer none) = some (.bool false) := x_ptr_ne0 kd44
theorem cv22_3 (k : IntKind) (n : Int) : hconvert Tryz.prog 22 3 (.int k n) = some (.int .i64 (IntKind.i64.wrap n)) := x_conv Tryz.underlying22 Tryz.underlying3 k n
theorem cv265_34 (k : IntKind) (n : Int) : hconvert Tryz.prog 265 34 (.int k n) = some (.int .u64 (IntKind.u64.wrap n)) := x_conv Tryz.underlying265 Tryz.underlying34 k n
theorem cv265_53 (k : IntKind) (n : Int) : hconvert Tryz.prog 265 53 (.int k n) = some (.int .u64 (IntKind.u64.wrap n)) := x_conv Tryz.underlying265 Tryz.underlying53 k n
theorem cv3_34 (k : IntKind) (n : Int) : hconvert Tryz.prog 3 34 (.int k n) = some (.int .u64 (IntKind.u64.wrap n)) := x_conv Tryz.underlying3 Tryz.underlying34 k n
theorem cv3_35 (k : IntKind) (n : Int) : hconvert Tryz.prog 3 35 (.int k n) = some (.int .u64 (IntKind.u64.wrap n)) := x_conv Tryz.underlying3 Tryz.underlying35 k n
theorem cv3_53 (k : IntKind) (n : Int) : hconvert Tryz.prog 3 53 (.int k n) = some (.int .u64 (IntKind.u64.wrap n)) := x_conv Tryz.underlying3 Tryz.underlying53 k n
theorem cv34_265 (k : IntKind) (n : Int) : hconvert Tryz.prog 34 265 (.int k n) = some (.int .u32 (IntKind.u32.wrap n)) := x_conv Tryz.underlying34 Tryz.underlying265 k n
theorem cv34_3 (k : IntKind) (n : Int) : hconvert Tryz.prog 34 3 (.int k n) = some (.int .i64 (IntKind.i64.wrap n)) := x_conv Tryz.underlying34 Tryz.underlying3 k n
theorem cv34_5 (k : IntKind) (n : Int) : hconvert Tryz.prog 34 5 (.int k n) = some (.int .u8 (IntKind.u8.wrap n)) := x_conv Tryz.underlying34 Tryz.underlying5 k n
theorem cv35_2 (k : IntKind) (n : Int) : hconvert Tryz.prog 35 2 (.int k n) = some (.int .i64 (IntKind.i64.wrap n)) := x_conv Tryz.underlying35 Tryz.underlying2 k n
theorem cv35_3 (k : IntKind) (n : Int) : hconvert Tryz.prog 35 3 (.int k n) = some (.int .i64 (IntKind.i64.wrap n)) := x_conv Tryz.underlying35 Tryz.underlying3 k n
theorem cv5_3 (k : IntKind) (n : Int) : hconvert Tryz.prog 5 3 (.int k n) = some (.int .i64 (IntKind.i64.wrap n)) := x_conv Tryz.underlying5 Tryz.underlying3 k n
theorem cv53_265 (k : IntKind) (n : Int) : hconvert Tryz.prog 53 265 (.int k n) = some (.int .u32 (IntKind.u32.wrap n)) := x_conv Tryz.underlying53 Tryz.underlying265 k n
theorem cv53_3 (k : IntKind) (n : Int) : hconvert Tryz.prog 53 3 (.int k n) = some (.int .i64 (IntKind.i64.wrap n)) := x_conv Tryz.underlying53 Tryz.underlying3 k n
theorem el3 : helem Tryz.prog 3 = some ⟨[.int .i64 0], 1, 8⟩ := by kernel_rfl
theorem cp25 (H : HHeap) (b o : Nat) (s : Option Nat) (len cap : Nat) (x : Value) : hcopy Tryz.prog H 25 (.slice (some ⟨b, o, s⟩) len cap) x = hb1 (hcp H b o 1 len) (hsource H 1 x) := x_copy Tryz.underlying25 el3 b o s len cap x
theorem cp40 (H : HHeap) (b o : Nat) (s : Option Nat) (len cap : Nat) (x : Value) : hcopy Tryz.prog H 40 (.slice (some ⟨b, o, s⟩) len cap) x = hb1 (hcp H b o 1 len) (hsource H 1 x) := x_copy Tryz.underlying40 el35 b o s len cap x
theorem sz105 : hsize Tryz.prog 105 = some 1 := by kernel_rfl
theorem fa108_0 (b o : Nat) : hfieldAt Tryz.prog 108 (.pointer (some ⟨b, o, none⟩)) 0 = some (.pointer (some ⟨b, o + 0, none⟩)) := x_field Tryz.underlying108 rfl sz105 (by decide) 0 rfl b o
theorem sz106 : hsize Tryz.prog 106 = some 1 := by kernel_rfl
theorem fa108_1 (b o : Nat) : hfieldAt Tryz.prog 108 (.pointer (some ⟨b, o, none⟩)) 1 = some (.pointer (some ⟨b, o + 1, none⟩)) := x_field Tryz.underlying108 rfl sz106 (by decide) 1 rfl b o
theorem fa110_0 (b o : Nat) : hfieldAt Tryz.prog 110 (.pointer (some ⟨b, o, none⟩)) 0 = some (.pointer (some ⟨b, o + 0, none⟩)) := x_field Tryz.underlying110 rfl sz108 (by decide) 0 rfl b o
theorem fa110_1 (b o : Nat) : hfieldAt Tryz.prog 110 (.pointer (some ⟨b, o, none⟩)) 1 = some (.pointer (some ⟨b, o + 2, none⟩)) := x_field Tryz.underlying110 rfl sz44 (by decide) 2 rfl b o
theorem fa110_2 (b o : Nat) : hfieldAt Tryz.prog 110 (.pointer (some ⟨b, o, none⟩)) 2 = some (.pointer (some ⟨b, o + 3, none⟩)) := x_field Tryz.underlying110 rfl sz50 (by decide) 3 rfl b o
theorem fa155_0 (b o : Nat) : hfieldAt Tryz.prog 155 (.pointer (some ⟨b, o, none⟩)) 0 = some (.pointer (some ⟨b, o + 0, none⟩)) := x_field Tryz.underlying155 rfl sz40 (by decide) 0 rfl b o
theorem fa155_1 (b o : Nat) : hfieldAt Tryz.prog 155 (.pointer (some ⟨b, o, none⟩)) 1 = some (.pointer (some ⟨b, o + 1, none⟩)) := x_field Tryz.underlying155 rfl sz153 (by decide) 1 rfl b o
theorem fa155_2 (b o : Nat) : hfieldAt Tryz.prog 155 (.pointer (some ⟨b, o, none⟩)) 2 = some (.pointer (some ⟨b, o + 2, none⟩)) := x_field Tryz.underlying155 rfl sz3 (by decide) 2 rfl b o
theorem fa228_0 (b o : Nat) : hfieldAt Tryz.prog 228 (.pointer (some ⟨b, o, none⟩)) 0 = some (.pointer (some ⟨b, o + 0, none⟩)) := x_field Tryz.underlying228 rfl sz44 (by decide) 0 rfl b o
theorem fa228_1 (b o : Nat) : hfieldAt Tryz.prog 228 (.pointer (some ⟨b, o, none⟩)) 1 = some (.pointer (some ⟨b, o + 1, none⟩)) := x_field Tryz.underlying228 rfl sz44 (by decide) 1 rfl b o
theorem fa228_2 (b o : Nat) : hfieldAt Tryz.prog 228 (.pointer (some ⟨b, o, none⟩)) 2 = some (.pointer (some ⟨b, o + 2, none⟩)) := x_field Tryz.underlying228 rfl sz226 (by decide) 2 rfl b o
theorem fa228_3 (b o : Nat) : hfieldAt Tryz.prog 228 (.pointer (some ⟨b, o, none⟩)) 3 = some (.pointer (some ⟨b, o + 3, none⟩)) := x_field Tryz.underlying228 rfl sz40 (by decide) 3 rfl b o
theorem sz5 : hsize Tryz.prog 5 = some 1 := by kernel_rfl
theorem fa58_0 (b o : Nat) : hfieldAt Tryz.prog 58 (.pointer (some ⟨b, o, none⟩)) 0 = some (.pointer (some ⟨b, o + 0, none⟩)) := x_field Tryz.underlying58 rfl sz5 (by decide) 0 rfl b o
theorem fa58_1 (b o : Nat) : hfieldAt Tryz.prog 58 (.pointer (some ⟨b, o, none⟩)) 1 = some (.pointer (some ⟨b, o + 1, none⟩)) := x_field Tryz.underlying58 rfl sz3 (by decide) 1 rfl b o
theorem fa58_2 (b o : Nat) : hfieldAt Tryz.prog 58 (.pointer (some ⟨b, o, none⟩)) 2 = some (.pointer (some ⟨b, o + 2, none⟩)) := x_field Tryz.underlying58 rfl sz3 (by decide) 2 rfl b o
theorem fa58_3 (b o : Nat) : hfieldAt Tryz.prog 58 (.pointer (some ⟨b, o, none⟩)) 3 = some (.pointer (some ⟨b, o + 3, none⟩)) := x_field Tryz.underlying58 rfl sz35 (by decide) 3 rfl b o
theorem fa61_0 (b o : Nat) : hfieldAt Tryz.prog 61 (.pointer (some ⟨b, o, none⟩)) 0 = some (.pointer (some ⟨b, o + 0, none⟩)) := x_field Tryz.underlying61 rfl sz3 (by decide) 0 rfl b o
theorem fa61_1 (b o : Nat) : hfieldAt Tryz.prog 61 (.pointer (some ⟨b, o, none⟩)) 1 = some (.pointer (some ⟨b, o + 1, none⟩)) := x_field Tryz.underlying61 rfl sz59 (by decide) 1 rfl b o
theorem fa78_0 (b o : Nat) : hfieldAt Tryz.prog 78 (.pointer (some ⟨b, o, none⟩)) 0 = some (.pointer (some ⟨b, o + 0, none⟩)) := x_field Tryz.underlying78 rfl sz35 (by decide) 0 rfl b o
theorem fa78_1 (b o : Nat) : hfieldAt Tryz.prog 78 (.pointer (some ⟨b, o, none⟩)) 1 = some (.pointer (some ⟨b, o + 1, none⟩)) := x_field Tryz.underlying78 rfl sz35 (by decide) 1 rfl b o
theorem fa78_2 (b o : Nat) : hfieldAt Tryz.prog 78 (.pointer (some ⟨b, o, none⟩)) 2 = some (.pointer (some ⟨b, o + 2, none⟩)) := x_field Tryz.underlying78 rfl sz35 (by decide) 2 rfl b o
theorem fa78_3 (b o : Nat) : hfieldAt Tryz.prog 78 (.pointer (some ⟨b, o, none⟩)) 3 = some (.pointer (some ⟨b, o + 3, none⟩)) := x_field Tryz.underlying78 rfl sz35 (by decide) 3 rfl b o
theorem fa81_0 (b o : Nat) : hfieldAt Tryz.prog 81 (.pointer (some ⟨b, o, none⟩)) 0 = some (.pointer (some ⟨b, o + 0, none⟩)) := x_field Tryz.underlying81 rfl sz26 (by decide) 0 rfl b o
theorem fa81_1 (b o : Nat) : hfieldAt Tryz.prog 81 (.pointer (some ⟨b, o, none⟩)) 1 = some (.pointer (some ⟨b, o + 1, none⟩)) := x_field Tryz.underlying81 rfl sz44 (by decide) 1 rfl b o
theorem fa81_10 (b o : Nat) : hfieldAt Tryz.prog 81 (.pointer (some ⟨b, o, none⟩)) 10 = some (.pointer (some ⟨b, o + 13, none⟩)) := x_field Tryz.underlying81 rfl sz40 (by decide) 13 rfl b o
theorem fa81_2 (b o : Nat) : hfieldAt Tryz.prog 81 (.pointer (some ⟨b, o, none⟩)) 2 = some (.pointer (some ⟨b, o + 2, none⟩)) := x_field Tryz.underlying81 rfl sz76 (by decide) 2 rfl b o
theorem fa81_3 (b o : Nat) : hfieldAt Tryz.prog 81 (.pointer (some ⟨b, o, none⟩)) 3 = some (.pointer (some ⟨b, o + 3, none⟩)) := x_field Tryz.underlying81 rfl sz76 (by decide) 3 rfl b o
theorem fa81_4 (b o : Nat) : hfieldAt Tryz.prog 81 (.pointer (some ⟨b, o, none⟩)) 4 = some (.pointer (some ⟨b, o + 4, none⟩)) := x_field Tryz.underlying81 rfl sz3 (by decide) 4 rfl b o
theorem fa81_5 (b o : Nat) : hfieldAt Tryz.prog 81 (.pointer (some ⟨b, o, none⟩)) 5 = some (.pointer (some ⟨b, o + 5, none⟩)) := x_field Tryz.underlying81 rfl sz3 (by decide) 5 rfl b o
theorem fa81_6 (b o : Nat) : hfieldAt Tryz.prog 81 (.pointer (some ⟨b, o, none⟩)) 6 = some (.pointer (some ⟨b, o + 6, none⟩)) := x_field Tryz.underlying81 rfl sz3 (by decide) 6 rfl b o
theorem fa81_7 (b o : Nat) : hfieldAt Tryz.prog 81 (.pointer (some ⟨b, o, none⟩)) 7 = some (.pointer (some ⟨b, o + 7, none⟩)) := x_field Tryz.underlying81 rfl sz78 (by decide) 7 rfl b o
theorem fa81_8 (b o : Nat) : hfieldAt Tryz.prog 81 (.pointer (some ⟨b, o, none⟩)) 8 = some (.pointer (some ⟨b, o + 11, none⟩)) := x_field Tryz.underlying81 rfl sz31 (by decide) 11 rfl b o
theorem fa81_9 (b o : Nat) : hfieldAt Tryz.prog 81 (.pointer (some ⟨b, o, none⟩)) 9 = some (.pointer (some ⟨b, o + 12, none⟩)) := x_field Tryz.underlying81 rfl sz3 (by decide) 12 rfl b o
theorem fa99_0 (b o : Nat) : hfieldAt Tryz.prog 99 (.pointer (some ⟨b, o, none⟩)) 0 = some (.pointer (some ⟨b, o + 0, none⟩)) := x_field Tryz.underlying99 rfl sz35 (by decide) 0 rfl b o
theorem fa99_1 (b o : Nat) : hfieldAt Tryz.prog 99 (.pointer (some ⟨b, o, none⟩)) 1 = some (.pointer (some ⟨b, o + 1, none⟩)) := x_field Tryz.underlying99 rfl sz4 (by decide) 1 rfl b o
theorem sx9 (l : List UInt8) (k : IntKind) (i : Int) : hindex Tryz.prog 9 (S l) (.int k i) = six l i := s_index Tryz.underlying9 l k i
theorem ix153 (b o len cap : Nat) (s : Option Nat) (k : IntKind) (i : Int) : hindexAt Tryz.prog 153 (.slice (some ⟨b, o, s⟩) len cap) (.int k i) = ixa b o 1 len i := x_index Tryz.underlying153 sz4 b o len cap s k i
theorem ix210 (b o len cap : Nat) (s : Option Nat) (k : IntKind) (i : Int) : hindexAt Tryz.prog 210 (.slice (some ⟨b, o, s⟩) len cap) (.int k i) = ixa b o 1 len i := x_index Tryz.underlying210 sz40 b o len cap s k i
theorem ix224 (b o len cap : Nat) (s : Option Nat) (k : IntKind) (i : Int) : hindexAt Tryz.prog 224 (.slice (some ⟨b, o, s⟩) len cap) (.int k i) = ixa b o 1 len i := x_index Tryz.underlying224 sz76 b o len cap s k i
theorem ix25 (b o len cap : Nat) (s : Option Nat) (k : IntKind) (i : Int) : hindexAt Tryz.prog 25 (.slice (some ⟨b, o, s⟩) len cap) (.int k i) = ixa b o 1 len i := x_index Tryz.underlying25 sz3 b o len cap s k i
theorem sz61 : hsize Tryz.prog 61 = some 2 := by kernel_rfl
theorem ix26 (b o len cap : Nat) (s : Option Nat) (k : IntKind) (i : Int) : hindexAt Tryz.prog 26 (.slice (some ⟨b, o, s⟩) len cap) (.int k i) = ixa b o 2 len i := x_index Tryz.underlying26 sz61 b o len cap s k i
theorem sz9 : hsize Tryz.prog 9 = some 1 := by kernel_rfl
theorem ix27 (b o len cap : Nat) (s : Option Nat) (k : IntKind) (i : Int) : hindexAt Tryz.prog 27 (.slice (some ⟨b, o, s⟩) len cap) (.int k i) = ixa b o 1 len i := x_index Tryz.underlying27 sz9 b o len cap s k i
theorem ix40 (b o len cap : Nat) (s : Option Nat) (k : IntKind) (i : Int) : hindexAt Tryz.prog 40 (.slice (some ⟨b, o, s⟩) len cap) (.int k i) = ixa b o 1 len i := x_index Tryz.underlying40 sz35 b o len cap s k i
theorem sz58 : hsize Tryz.prog 58 = some 4 := by kernel_rfl
theorem ix59 (b o len cap : Nat) (s : Option Nat) (k : IntKind) (i : Int) : hindexAt Tryz.prog 59 (.slice (some ⟨b, o, s⟩) len cap) (.int k i) = ixa b o 4 len i := x_index Tryz.underlying59 sz58 b o len cap s k i
theorem sz99 : hsize Tryz.prog 99 = some 2 := by kernel_rfl
theorem ix76 (b o len cap : Nat) (s : Option Nat) (k : IntKind) (i : Int) : hindexAt Tryz.prog 76 (.slice (some ⟨b, o, s⟩) len cap) (.int k i) = ixa b o 2 len i := x_index Tryz.underlying76 sz99 b o len cap s k i
theorem sz90 : hsize Tryz.prog 90 = some 1 := by kernel_rfl
theorem ix91 (b o len cap : Nat) (s : Option Nat) (k : IntKind) (i : Int) : hindexAt Tryz.prog 91 (.slice (some ⟨b, o, s⟩) len cap) (.int k i) = ixa b o 1 len i := x_index Tryz.underlying91 sz90 b o len cap s k i
theorem ln106 (H : HHeap) (a : Option Addr) (n c : Nat) : hlen Tryz.prog H 106 (.slice a n c) = some (.int .i64 n) := x_lenS Tryz.underlying106 a n c
theorem ln210 (H : HHeap) (a : Option Addr) (n c : Nat) : hlen Tryz.prog H 210 (.slice a n c) = some (.int .i64 n) := x_lenS Tryz.underlying210 a n c
theorem ln224 (H : HHeap) (a : Option Addr) (n c : Nat) : hlen Tryz.prog H 224 (.slice a n c) = some (.int .i64 n) := x_lenS Tryz.underlying224 a n c
theorem ln25 (H : HHeap) (a : Option Addr) (n c : Nat) : hlen Tryz.prog H 25 (.slice a n c) = some (.int .i64 n) := x_lenS Tryz.underlying25 a n c
theorem ln26 (H : HHeap) (a : Option Addr) (n c : Nat) : hlen Tryz.prog H 26 (.slice a n c) = some (.int .i64 n) := x_lenS Tryz.underlying26 a n c
theorem ln27 (H : HHeap) (a : Option Addr) (n c : Nat) : hlen Tryz.prog H 27 (.slice a n c) = some (.int .i64 n) := x_lenS Tryz.underlying27 a n c
theorem ln40 (H : HHeap) (a : Option Addr) (n c : Nat) : hlen Tryz.prog H 40 (.slice a n c) = some (.int .i64 n) := x_lenS Tryz.underlying40 a n c
theorem ln59 (H : HHeap) (a : Option Addr) (n c : Nat) : hlen Tryz.prog H 59 (.slice a n c) = some (.int .i64 n) := x_lenS Tryz.underlying59 a n c
theorem ln76 (H : HHeap) (a : Option Addr) (n c : Nat) : hlen Tryz.prog H 76 (.slice a n c) = some (.int .i64 n) := x_lenS Tryz.underlying76 a n c
theorem ln9 (H : HHeap) (s : List UInt8) : hlen Tryz.prog H 9 (S s) = some (.int .i64 (s.length : Nat)) := s_len Tryz.underlying9 H s
theorem ln91 (H : HHeap) (a : Option Addr) (n c : Nat) : hlen Tryz.prog H 91 (.slice a n c) = some (.int .i64 n) := x_lenS Tryz.underlying91 a n c
theorem ag105 : hagg Tryz.prog 105 = some false := by kernel_rfl
theorem ld105 (H : HHeap) (b o : Nat) : hload Tryz.prog H 105 (.pointer (some ⟨b, o, none⟩)) = ldc (H.get b) o := x_load ag105 b o
theorem ag106 : hagg Tryz.prog 106 = some false := by kernel_rfl
theorem ld106 (H : HHeap) (b o : Nat) : hload Tryz.prog H 106 (.pointer (some ⟨b, o, none⟩)) = ldc (H.get b) o := x_load ag106 b o
theorem ag153 : hagg Tryz.prog 153 = some false := by kernel_rfl
theorem ld153 (H : HHeap) (b o : Nat) : hload Tryz.prog H 153 (.pointer (some ⟨b, o, none⟩)) = ldc (H.get b) o := x_load ag153 b o
theorem ag226 : hagg Tryz.prog 226 = some false := by kernel_rfl
theorem ld226 (H : HHeap) (b o : Nat) : hload Tryz.prog H 226 (.pointer (some ⟨b, o, none⟩)) = ldc (H.get b) o := x_load ag226 b o
theorem ag26 : hagg Tryz.prog 26 = some false := by kernel_rfl
theorem ld26 (H : HHeap) (b o : Nat) : hload Tryz.prog H 26 (.pointer (some ⟨b, o, none⟩)) = ldc (H.get b) o := x_load ag26 b o
theorem ag3 : hagg Tryz.prog 3 = some false := by kernel_rfl
theorem ld3 (H : HHeap) (b o : Nat) : hload Tryz.prog H 3 (.pointer (some ⟨b, o, none⟩)) = ldc (H.get b) o := x_load ag3 b o
theorem ag35 : hagg Tryz.prog 35 = some false := by kernel_rfl
theorem ld35 (H : HHeap) (b o : Nat) : hload Tryz.prog H 35 (.pointer (some ⟨b, o, none⟩)) = ldc (H.get b) o := x_load ag35 b o
theorem ag4 : hagg Tryz.prog 4 = some false := by kernel_rfl
theorem ld4 (H : HHeap) (b o : Nat) : hload Tryz.prog H 4 (.pointer (some ⟨b, o, none⟩)) = ldc (H.get b) o := x_load ag4 b o
theorem ag40 : hagg Tryz.prog 40 = some false := by kernel_rfl
theorem ld40 (H : HHeap) (b o : Nat) : hload Tryz.prog H 40 (.pointer (some ⟨b, o, none⟩)) = ldc (H.get b) o := x_load ag40 b o
theorem ag44 : hagg Tryz.prog 44 = some false := by kernel_rfl
theorem ld44 (H : HHeap) (b o : Nat) : hload Tryz.prog H 44 (.pointer (some ⟨b, o, none⟩)) = ldc (H.get b) o := x_load ag44 b o
theorem ag5 : hagg Tryz.prog 5 = some false := by kernel_rfl
theorem ld5 (H : HHeap) (b o : Nat) : hload Tryz.prog H 5 (.pointer (some ⟨b, o, none⟩)) = ldc (H.get b) o := x_load ag5 b o
theorem ag50 : hagg Tryz.prog 50 = some false := by kernel_rfl
theorem ld50 (H : HHeap) (b o : Nat) : hload Tryz.prog H 50 (.pointer (some ⟨b, o, none⟩)) = ldc (H.get b) o := x_load ag50 b o
theorem ag58 : hagg Tryz.prog 58 = some true := by kernel_rfl
theorem ld58 (H : HHeap) (b o : Nat) : hload Tryz.prog H 58 (.pointer (some ⟨b, o, none⟩)) = lda (H.get b) o 4 := x_loadN ag58 sz58 b o
theorem ag59 : hagg Tryz.prog 59 = some false := by kernel_rfl
theorem ld59 (H : HHeap) (b o : Nat) : hload Tryz.prog H 59 (.pointer (some ⟨b, o, none⟩)) = ldc (H.get b) o := x_load ag59 b o
theorem ag61 : hagg Tryz.prog 61 = some true := by kernel_rfl
theorem ld61 (H : HHeap) (b o : Nat) : hload Tryz.prog H 61 (.pointer (some ⟨b, o, none⟩)) = lda (H.get b) o 2 := x_loadN ag61 sz61 b o
theorem ag76 : hagg Tryz.prog 76 = some false := by kernel_rfl
theorem ld76 (H : HHeap) (b o : Nat) : hload Tryz.prog H 76 (.pointer (some ⟨b, o, none⟩)) = ldc (H.get b) o := x_load ag76 b o
theorem ag9 : hagg Tryz.prog 9 = some false := by kernel_rfl
theorem ld9 (H : HHeap) (b o : Nat) : hload Tryz.prog H 9 (.pointer (some ⟨b, o, none⟩)) = ldc (H.get b) o := x_load ag9 b o
theorem ag90 : hagg Tryz.prog 90 = some false := by kernel_rfl
theorem ld90 (H : HHeap) (b o : Nat) : hload Tryz.prog H 90 (.pointer (some ⟨b, o, none⟩)) = ldc (H.get b) o := x_load ag90 b o
theorem ag99 : hagg Tryz.prog 99 = some true := by kernel_rfl
theorem ld99 (H : HHeap) (b o : Nat) : hload Tryz.prog H 99 (.pointer (some ⟨b, o, none⟩)) = lda (H.get b) o 2 := x_loadN ag99 sz99 b o
theorem el4 : helem Tryz.prog 4 = some ⟨[.bool false], 1, 1⟩ := by kernel_rfl
theorem mk153 (H : HHeap) (k k' : IntKind) (l c : Int) : hmakeSlice Tryz.prog H 153 (.int k l) (.int k' c) = mks H (.bool false) 1 l c := x_make Tryz.underlying153 el4 k k' l c
theorem mk25 (H : HHeap) (k k' : IntKind) (l c : Int) : hmakeSlice Tryz.prog H 25 (.int k l) (.int k' c) = mks H (.int .i64 0) 8 l c := x_make Tryz.underlying25 el3 k k' l c
theorem mk40 (H : HHeap) (k k' : IntKind) (l c : Int) : hmakeSlice Tryz.prog H 40 (.int k l) (.int k' c) = mks H (.int .u64 0) 8 l c := x_make Tryz.underlying40 el35 k k' l c
theorem sl25 (b o len cap : Nat) (lo hi mx : Option Value) : hslice Tryz.prog 25 (.slice (some ⟨b, o, none⟩) len cap) lo hi mx = slx b o 1 len cap lo hi mx := x_slice Tryz.underlying25 sz3 b o len cap lo hi mx
theorem slg25 (b o k len cap : Nat) (lo hi mx : Option Value) : hslice Tryz.prog 25 (.slice (some ⟨b, o, some k⟩) len cap) lo hi mx = slg b o 1 k len cap lo hi mx := x_sliceG Tryz.underlying25 sz3 b o k len cap lo hi mx
theorem sln25 (lo hi mx : Option Value) : hslice Tryz.prog 25 (.slice none 0 0) lo hi mx = sln lo hi mx := x_sliceN Tryz.underlying25 sz3 lo hi mx
theorem sl40 (b o len cap : Nat) (lo hi mx : Option Value) : hslice Tryz.prog 40 (.slice (some ⟨b, o, none⟩) len cap) lo hi mx = slx b o 1 len cap lo hi mx := x_slice Tryz.underlying40 sz35 b o len cap lo hi mx
theorem slg40 (b o k len cap : Nat) (lo hi mx : Option Value) : hslice Tryz.prog 40 (.slice (some ⟨b, o, some k⟩) len cap) lo hi mx = slg b o 1 k len cap lo hi mx := x_sliceG Tryz.underlying40 sz35 b o k len cap lo hi mx
theorem sln40 (lo hi mx : Option Value) : hslice Tryz.prog 40 (.slice none 0 0) lo hi mx = sln lo hi mx := x_sliceN Tryz.underlying40 sz35 lo hi mx
theorem ss9 (l : List UInt8) (lo hi : Option Value) : hslice Tryz.prog 9 (S l) lo hi none = ssl l lo hi := s_slice Tryz.underlying9 l lo hi
theorem st105 (H : HHeap) (b o : Nat) (x : Option Addr) : hstore Tryz.prog H 105 (.pointer (some ⟨b, o, none⟩)) (.pointer x) = stc H b (H.get b) o (.pointer x) := x_store sz105 b o rfl
theorem st106 (H : HHeap) (b o : Nat) (x : Option Addr) (xl xc : Nat) : hstore Tryz.prog H 106 (.pointer (some ⟨b, o, none⟩)) (.slice x xl xc) = stc H b (H.get b) o (.slice x xl xc) := x_store sz106 b o rfl
theorem st26 (H : HHeap) (b o : Nat) (x : Option Addr) (xl xc : Nat) : hstore Tryz.prog H 26 (.pointer (some ⟨b, o, none⟩)) (.slice x xl xc) = stc H b (H.get b) o (.slice x xl xc) := x_store sz26 b o rfl
theorem st3 (H : HHeap) (b o : Nat) (xk : IntKind) (x : Int) : hstore Tryz.prog H 3 (.pointer (some ⟨b, o, none⟩)) (.int xk x) = stc H b (H.get b) o (.int xk x) := x_store sz3 b o rfl
theorem st31 (H : HHeap) (b o : Nat) (xk : IntKind) (x : Int) : hstore Tryz.prog H 31 (.pointer (some ⟨b, o, none⟩)) (.int xk x) = stc H b (H.get b) o (.int xk x) := x_store sz31 b o rfl
theorem st35 (H : HHeap) (b o : Nat) (xk : IntKind) (x : Int) : hstore Tryz.prog H 35 (.pointer (some ⟨b, o, none⟩)) (.int xk x) = stc H b (H.get b) o (.int xk x) := x_store sz35 b o rfl
theorem st4 (H : HHeap) (b o : Nat) (x : Bool) : hstore Tryz.prog H 4 (.pointer (some ⟨b, o, none⟩)) (.bool x) = stc H b (H.get b) o (.bool x) := x_store sz4 b o rfl
theorem st40 (H : HHeap) (b o : Nat) (x : Option Addr) (xl xc : Nat) : hstore Tryz.prog H 40 (.pointer (some ⟨b, o, none⟩)) (.slice x xl xc) = stc H b (H.get b) o (.slice x xl xc) := x_store sz40 b o rfl
theorem st44 (H : HHeap) (b o : Nat) (x : Option Addr) : hstore Tryz.prog H 44 (.pointer (some ⟨b, o, none⟩)) (.pointer x) = stc H b (H.get b) o (.pointer x) := x_store sz44 b o rfl
theorem st58 (H : HHeap) (b o : Nat) (v0 v1 v2 v3 : Value) (h : allOne [v0, v1, v2, v3] = true) : hstore Tryz.prog H 58 (.pointer (some ⟨b, o, none⟩)) (.agg #[v0, v1, v2, v3]) = sta H b (H.get b) o [v0, v1, v2, v3] := x_storeN sz58 b o rfl h
theorem st61 (H : HHeap) (b o : Nat) (v0 v1 : Value) (h : allOne [v0, v1] = true) : hstore Tryz.prog H 61 (.pointer (some ⟨b, o, none⟩)) (.agg #[v0, v1]) = sta H b (H.get b) o [v0, v1] := x_storeN sz61 b o rfl h
theorem st76 (H : HHeap) (b o : Nat) (x : Option Addr) (xl xc : Nat) : hstore Tryz.prog H 76 (.pointer (some ⟨b, o, none⟩)) (.slice x xl xc) = stc H b (H.get b) o (.slice x xl xc) := x_store sz76 b o rfl
theorem st78 (H : HHeap) (b o : Nat) (v0 v1 v2 v3 : Value) (h : allOne [v0, v1, v2, v3] = true) : hstore Tryz.prog H 78 (.pointer (some ⟨b, o, none⟩)) (.agg #[v0, v1, v2, v3]) = sta H b (H.get b) o [v0, v1, v2, v3] := x_storeN sz78 b o rfl h
theorem st99 (H : HHeap) (b o : Nat) (v0 v1 : Value) (h : allOne [v0, v1] = true) : hstore Tryz.prog H 99 (.pointer (some ⟨b, o, none⟩)) (.agg #[v0, v1]) = sta H b (H.get b) o [v0, v1] := x_storeN sz99 b o rfl h
theorem wh3 (vs : List Value) : hwho Tryz.prog (some (.func (.func 3) #[] #[])) (some vs) = some (3, vs) := hwho_func0 3 vs (by kernel_rfl)
theorem wh6 (vs : List Value) : hwho Tryz.prog (some (.func (.func 6) #[] #[])) (some vs) = some (6, vs) := hwho_func0 6 vs (by kernel_rfl)
theorem wh7 (vs : List Value) : hwho Tryz.prog (some (.func (.func 7) #[] #[])) (some vs) = some (7, vs) := hwho_func0 7 vs (by kernel_rfl)
theorem wh8 (vs : List Value) : hwho Tryz.prog (some (.func (.func 8) #[] #[])) (some vs) = some (8, vs) := hwho_func0 8 vs (by kernel_rfl)
theorem wh9 (vs : List Value) : hwho Tryz.prog (some (.func (.func 9) #[] #[])) (some vs) = some (9, vs) := hwho_func0 9 vs (by kernel_rfl)
theorem wh10 (vs : List Value) : hwho Tryz.prog (some (.func (.func 10) #[] #[])) (some vs) = some (10, vs) := hwho_func0 10 vs (by kernel_rfl)
theorem wh11 (vs : List Value) : hwho Tryz.prog (some (.func (.func 11) #[] #[])) (some vs) = some (11, vs) := hwho_func0 11 vs (by kernel_rfl)
theorem wh12 (vs : List Value) : hwho Tryz.prog (some (.func (.func 12) #[] #[])) (some vs) = some (12, vs) := hwho_func0 12 vs (by kernel_rfl)
theorem wh13 (vs : List Value) : hwho Tryz.prog (some (.func (.func 13) #[] #[])) (some vs) = some (13, vs) := hwho_func0 13 vs (by kernel_rfl)
theorem wh14 (vs : List Value) : hwho Tryz.prog (some (.func (.func 14) #[] #[])) (some vs) = some (14, vs) := hwho_func0 14 vs (by kernel_rfl)
theorem wh15 (vs : List Value) : hwho Tryz.prog (some (.func (.func 15) #[] #[])) (some vs) = some (15, vs) := hwho_func0 15 vs (by kernel_rfl)
theorem wh17 (vs : List Value) : hwho Tryz.prog (some (.func (.func 17) #[] #[])) (some vs) = some (17, vs) := hwho_func0 17 vs (by kernel_rfl)
theorem wh18 (vs : List Value) : hwho Tryz.prog (some (.func (.func 18) #[] #[])) (some vs) = some (18, vs) := hwho_func0 18 vs (by kernel_rfl)
theorem wh19 (vs : List Value) : hwho Tryz.prog (some (.func (.func 19) #[] #[])) (some vs) = some (19, vs) := hwho_func0 19 vs (by kernel_rfl)
theorem wh20 (vs : List Value) : hwho Tryz.prog (some (.func (.func 20) #[] #[])) (some vs) = some (20, vs) := hwho_func0 20 vs (by kernel_rfl)
theorem wh21 (vs : List Value) : hwho Tryz.prog (some (.func (.func 21) #[] #[])) (some vs) = some (21, vs) := hwho_func0 21 vs (by kernel_rfl)
theorem wh27 (vs : List Value) : hwho Tryz.prog (some (.func (.func 27) #[] #[])) (some vs) = some (27, vs) := hwho_func0 27 vs (by kernel_rfl)
theorem wh28 (vs : List Value) : hwho Tryz.prog (some (.func (.func 28) #[] #[])) (some vs) = some (28, vs) := hwho_func0 28 vs (by kernel_rfl)
theorem wh29 (vs : List Value) : hwho Tryz.prog (some (.func (.func 29) #[] #[])) (some vs) = some (29, vs) := hwho_func0 29 vs (by kernel_rfl)
theorem wh30 (vs : List Value) : hwho Tryz.prog (some (.func (.func 30) #[] #[])) (some vs) = some (30, vs) := hwho_func0 30 vs (by kernel_rfl)
theorem wh31 (vs : List Value) : hwho Tryz.prog (some (.func (.func 31) #[] #[])) (some vs) = some (31, vs) := hwho_func0 31 vs (by kernel_rfl)
theorem wh32 (vs : List Value) : hwho Tryz.prog (some (.func (.func 32) #[] #[])) (some vs) = some (32, vs) := hwho_func0 32 vs (by kernel_rfl)
theorem wh33 (vs : List Value) : hwho Tryz.prog (some (.func (.func 33) #[] #[])) (some vs) = some (33, vs) := hwho_func0 33 vs (by kernel_rfl)
theorem wh34 (vs : List Value) : hwho Tryz.prog (some (.func (.func 34) #[] #[])) (some vs) = some (34, vs) := hwho_func0 34 vs (by kernel_rfl)
theorem wh35 (vs : List Value) : hwho Tryz.prog (some (.func (.func 35) #[] #[])) (some vs) = some (35, vs) := hwho_func0 35 vs (by kernel_rfl)
theorem wh36 (vs : List Value) : hwho Tryz.prog (some (.func (.func 36) #[] #[])) (some vs) = some (36, vs) := hwho_func0 36 vs (by kernel_rfl)
theorem wh37 (vs : List Value) : hwho Tryz.prog (some (.func (.func 37) #[] #[])) (some vs) = some (37, vs) := hwho_func0 37 vs (by kernel_rfl)
theorem wh38 (vs : List Value) : hwho Tryz.prog (some (.func (.func 38) #[] #[])) (some vs) = some (38, vs) := hwho_func0 38 vs (by kernel_rfl)
theorem wh39 (vs : List Value) : hwho Tryz.prog (some (.func (.func 39) #[] #[])) (some vs) = some (39, vs) := hwho_func0 39 vs (by kernel_rfl)
theorem wh40 (vs : List Value) : hwho Tryz.prog (some (.func (.func 40) #[] #[])) (some vs) = some (40, vs) := hwho_func0 40 vs (by kernel_rfl)
theorem wh41 (vs : List Value) : hwho Tryz.prog (some (.func (.func 41) #[] #[])) (some vs) = some (41, vs) := hwho_func0 41 vs (by kernel_rfl)
theorem wh42 (vs : List Value) : hwho Tryz.prog (some (.func (.func 42) #[] #[])) (some vs) = some (42, vs) := hwho_func0 42 vs (by kernel_rfl)
theorem wh43 (vs : List Value) : hwho Tryz.prog (some (.func (.func 43) #[] #[])) (some vs) = some (43, vs) := hwho_func0 43 vs (by kernel_rfl)
theorem wh46 (vs : List Value) : hwho Tryz.prog (some (.func (.func 46) #[] #[])) (some vs) = some (46, vs) := hwho_func0 46 vs (by kernel_rfl)
theorem wh47 (vs : List Value) : hwho Tryz.prog (some (.func (.func 47) #[] #[])) (some vs) = some (47, vs) := hwho_func0 47 vs (by kernel_rfl)
theorem wh48 (vs : List Value) : hwho Tryz.prog (some (.func (.func 48) #[] #[])) (some vs) = some (48, vs) := hwho_func0 48 vs (by kernel_rfl)
theorem wh49 (vs : List Value) : hwho Tryz.prog (some (.func (.func 49) #[] #[])) (some vs) = some (49, vs) := hwho_func0 49 vs (by kernel_rfl)
theorem wh62 (vs : List Value) : hwho Tryz.prog (some (.func (.func 62) #[] #[])) (some vs) = some (62, vs) := hwho_func0 62 vs (by kernel_rfl)
theorem wh64 (vs : List Value) : hwho Tryz.prog (some (.func (.func 64) #[] #[])) (some vs) = some (64, vs) := hwho_func0 64 vs (by kernel_rfl)
theorem wh65 (vs : List Value) : hwho Tryz.prog (some (.func (.func 65) #[] #[])) (some vs) = some (65, vs) := hwho_func0 65 vs (by kernel_rfl)
theorem wh66 (vs : List Value) : hwho Tryz.prog (some (.func (.func 66) #[] #[])) (some vs) = some (66, vs) := hwho_func0 66 vs (by kernel_rfl)
theorem wh67 (vs : List Value) : hwho Tryz.prog (some (.func (.func 67) #[] #[])) (some vs) = some (67, vs) := hwho_func0 67 vs (by kernel_rfl)
theorem wh68 (vs : List Value) : hwho Tryz.prog (some (.func (.func 68) #[] #[])) (some vs) = some (68, vs) := hwho_func0 68 vs (by kernel_rfl)
theorem wh69 (vs : List Value) : hwho Tryz.prog (some (.func (.func 69) #[] #[])) (some vs) = some (69, vs) := hwho_func0 69 vs (by kernel_rfl)
theorem wh70 (vs : List Value) : hwho Tryz.prog (some (.func (.func 70) #[] #[])) (some vs) = some (70, vs) := hwho_func0 70 vs (by kernel_rfl)
theorem wh71 (vs : List Value) : hwho Tryz.prog (some (.func (.func 71) #[] #[])) (some vs) = some (71, vs) := hwho_func0 71 vs (by kernel_rfl)
theorem wh72 (vs : List Value) : hwho Tryz.prog (some (.func (.func 72) #[] #[])) (some vs) = some (72, vs) := hwho_func0 72 vs (by kernel_rfl)
theorem wh73 (vs : List Value) : hwho Tryz.prog (some (.func (.func 73) #[] #[])) (some vs) = some (73, vs) := hwho_func0 73 vs (by kernel_rfl)
theorem wh74 (vs : List Value) : hwho Tryz.prog (some (.func (.func 74) #[] #[])) (some vs) = some (74, vs) := hwho_func0 74 vs (by kernel_rfl)
theorem wh75 (vs : List Value) : hwho Tryz.prog (some (.func (.func 75) #[] #[])) (some vs) = some (75, vs) := hwho_func0 75 vs (by kernel_rfl)
theorem wh76 (vs : List Value) : hwho Tryz.prog (some (.func (.func 76) #[] #[])) (some vs) = some (76, vs) := hwho_func0 76 vs (by kernel_rfl)
theorem wh77 (vs : List Value) : hwho Tryz.prog (some (.func (.func 77) #[] #[])) (some vs) = some (77, vs) := hwho_func0 77 vs (by kernel_rfl)
theorem wh78 (vs : List Value) : hwho Tryz.prog (some (.func (.func 78) #[] #[])) (some vs) = some (78, vs) := hwho_func0 78 vs (by kernel_rfl)
theorem wh79 (vs : List Value) : hwho Tryz.prog (some (.func (.func 79) #[] #[])) (some vs) = some (79, vs) := hwho_func0 79 vs (by kernel_rfl)
theorem wh80 (vs : List Value) : hwho Tryz.prog (some (.func (.func 80) #[] #[])) (some vs) = some (80, vs) := hwho_func0 80 vs (by kernel_rfl)
theorem wh81 (vs : List Value) : hwho Tryz.prog (some (.func (.func 81) #[] #[])) (some vs) = some (81, vs) := hwho_func0 81 vs (by kernel_rfl)
theorem wh82 (vs : List Value) : hwho Tryz.prog (some (.func (.func 82) #[] #[])) (some vs) = some (82, vs) := hwho_func0 82 vs (by kernel_rfl)
theorem wh113 (vs : List Value) : hwho Tryz.prog (some (.func (.func 113) #[] #[])) (some vs) = some (113, vs) := hwho_func0 113 vs (by kernel_rfl)
theorem wh116 (vs : List Value) : hwho Tryz.prog (some (.func (.func 116) #[] #[])) (some vs) = some (116, vs) := hwho_func0 116 vs (by kernel_rfl)
theorem wh118 (vs : List Value) : hwho Tryz.prog (some (.func (.func 118) #[] #[])) (some vs) = some (118, vs) := hwho_func0 118 vs (by kernel_rfl)
theorem wh119 (vs : List Value) : hwho Tryz.prog (some (.func (.func 119) #[] #[])) (some vs) = some (119, vs) := hwho_func0 119 vs (by kernel_rfl)
theorem wh120 (vs : List Value) : hwho Tryz.prog (some (.func (.func 120) #[] #[])) (some vs) = some (120, vs) := hwho_func0 120 vs (by kernel_rfl)
theorem wh121 (vs : List Value) : hwho Tryz.prog (some (.func (.func 121) #[] #[])) (some vs) = some (121, vs) := hwho_func0 121 vs (by kernel_rfl)
theorem wh122 (vs : List Value) : hwho Tryz.prog (some (.func (.func 122) #[] #[])) (some vs) = some (122, vs) := hwho_func0 122 vs (by kernel_rfl)
theorem wh123 (vs : List Value) : hwho Tryz.prog (some (.func (.func 123) #[] #[])) (some vs) = some (123, vs) := hwho_func0 123 vs (by kernel_rfl)
theorem wh124 (vs : List Value) : hwho Tryz.prog (some (.func (.func 124) #[] #[])) (some vs) = some (124, vs) := hwho_func0 124 vs (by kernel_rfl)
theorem wh125 (vs : List Value) : hwho Tryz.prog (some (.func (.func 125) #[] #[])) (some vs) = some (125, vs) := hwho_func0 125 vs (by kernel_rfl)
theorem wh126 (vs : List Value) : hwho Tryz.prog (some (.func (.func 126) #[] #[])) (some vs) = some (126, vs) := hwho_func0 126 vs (by kernel_rfl)
theorem wh127 (vs : List Value) : hwho Tryz.prog (some (.func (.func 127) #[] #[])) (some vs) = some (127, vs) := hwho_func0 127 vs (by kernel_rfl)
theorem wh128 (vs : List Value) : hwho Tryz.prog (some (.func (.func 128) #[] #[])) (some vs) = some (128, vs) := hwho_func0 128 vs (by kernel_rfl)
theorem wh129 (vs : List Value) : hwho Tryz.prog (some (.func (.func 129) #[] #[])) (some vs) = some (129, vs) := hwho_func0 129 vs (by kernel_rfl)
theorem wh130 (vs : List Value) : hwho Tryz.prog (some (.func (.func 130) #[] #[])) (some vs) = some (130, vs) := hwho_func0 130 vs (by kernel_rfl)
theorem wh131 (vs : List Value) : hwho Tryz.prog (some (.func (.func 131) #[] #[])) (some vs) = some (131, vs) := hwho_func0 131 vs (by kernel_rfl)
theorem wh132 (vs : List Value) : hwho Tryz.prog (some (.func (.func 132) #[] #[])) (some vs) = some (132, vs) := hwho_func0 132 vs (by kernel_rfl)
theorem wh133 (vs : List Value) : hwho Tryz.prog (some (.func (.func 133) #[] #[])) (some vs) = some (133, vs) := hwho_func0 133 vs (by kernel_rfl)
theorem wh134 (vs : List Value) : hwho Tryz.prog (some (.func (.func 134) #[] #[])) (some vs) = some (134, vs) := hwho_func0 134 vs (by kernel_rfl)
theorem wh135 (vs : List Value) : hwho Tryz.prog (some (.func (.func 135) #[] #[])) (some vs) = some (135, vs) := hwho_func0 135 vs (by kernel_rfl)
theorem wh164 (vs : List Value) : hwho Tryz.prog (some (.func (.func 164) #[] #[])) (some vs) = some (164, vs) := hwho_func0 164 vs (by kernel_rfl)
theorem wh166 (vs : List Value) : hwho Tryz.prog (some (.func (.func 166) #[] #[])) (some vs) = some (166, vs) := hwho_func0 166 vs (by kernel_rfl)
theorem wh167 (vs : List Value) : hwho Tryz.prog (some (.func (.func 167) #[] #[])) (some vs) = some (167, vs) := hwho_func0 167 vs (by kernel_rfl)
theorem wh168 (vs : List Value) : hwho Tryz.prog (some (.func (.func 168) #[] #[])) (some vs) = some (168, vs) := hwho_func0 168 vs (by kernel_rfl)
theorem wh169 (vs : List Value) : hwho Tryz.prog (some (.func (.func 169) #[] #[])) (some vs) = some (169, vs) := hwho_func0 169 vs (by kernel_rfl)
theorem wh170 (vs : List Value) : hwho Tryz.prog (some (.func (.func 170) #[] #[])) (some vs) = some (170, vs) := hwho_func0 170 vs (by kernel_rfl)
theorem wh171 (vs : List Value) : hwho Tryz.prog (some (.func (.func 171) #[] #[])) (some vs) = some (171, vs) := hwho_func0 171 vs (by kernel_rfl)
theorem wh173 (vs : List Value) : hwho Tryz.prog (some (.func (.func 173) #[] #[])) (some vs) = some (173, vs) := hwho_func0 173 vs (by kernel_rfl)
theorem wh181 (vs : List Value) : hwho Tryz.prog (some (.func (.func 181) #[] #[])) (some vs) = some (181, vs) := hwho_func0 181 vs (by kernel_rfl)
theorem wh182 (vs : List Value) : hwho Tryz.prog (some (.func (.func 182) #[] #[])) (some vs) = some (182, vs) := hwho_func0 182 vs (by kernel_rfl)
theorem wh183 (vs : List Value) : hwho Tryz.prog (some (.func (.func 183) #[] #[])) (some vs) = some (183, vs) := hwho_func0 183 vs (by kernel_rfl)
theorem wh184 (vs : List Value) : hwho Tryz.prog (some (.func (.func 184) #[] #[])) (some vs) = some (184, vs) := hwho_func0 184 vs (by kernel_rfl)
theorem wh185 (vs : List Value) : hwho Tryz.prog (some (.func (.func 185) #[] #[])) (some vs) = some (185, vs) := hwho_func0 185 vs (by kernel_rfl)
theorem wh186 (vs : List Value) : hwho Tryz.prog (some (.func (.func 186) #[] #[])) (some vs) = some (186, vs) := hwho_func0 186 vs (by kernel_rfl)
theorem wh187 (vs : List Value) : hwho Tryz.prog (some (.func (.func 187) #[] #[])) (some vs) = some (187, vs) := hwho_func0 187 vs (by kernel_rfl)
theorem wh194 (vs : List Value) : hwho Tryz.prog (some (.func (.func 194) #[] #[])) (some vs) = some (194, vs) := hwho_func0 194 vs (by kernel_rfl)
theorem wh195 (vs : List Value) : hwho Tryz.prog (some (.func (.func 195) #[] #[])) (some vs) = some (195, vs) := hwho_func0 195 vs (by kernel_rfl)
theorem wh196 (vs : List Value) : hwho Tryz.prog (some (.func (.func 196) #[] #[])) (some vs) = some (196, vs) := hwho_func0 196 vs (by kernel_rfl)
theorem wh197 (vs : List Value) : hwho Tryz.prog (some (.func (.func 197) #[] #[])) (some vs) = some (197, vs) := hwho_func0 197 vs (by kernel_rfl)
theorem wh198 (vs : List Value) : hwho Tryz.prog (some (.func (.func 198) #[] #[])) (some vs) = some (198, vs) := hwho_func0 198 vs (by kernel_rfl)
theorem wh199 (vs : List Value) : hwho Tryz.prog (some (.func (.func 199) #[] #[])) (some vs) = some (199, vs) := hwho_func0 199 vs (by kernel_rfl)
theorem wh200 (vs : List Value) : hwho Tryz.prog (some (.func (.func 200) #[] #[])) (some vs) = some (200, vs) := hwho_func0 200 vs (by kernel_rfl)
theorem wh217 (vs : List Value) : hwho Tryz.prog (some (.func (.func 217) #[] #[])) (some vs) = some (217, vs) := hwho_func0 217 vs (by kernel_rfl)
theorem wh220 (vs : List Value) : hwho Tryz.prog (some (.func (.func 220) #[] #[])) (some vs) = some (220, vs) := hwho_func0 220 vs (by kernel_rfl)
theorem wh223 (vs : List Value) : hwho Tryz.prog (some (.func (.func 223) #[] #[])) (some vs) = some (223, vs) := hwho_func0 223 vs (by kernel_rfl)
theorem wh224 (vs : List Value) : hwho Tryz.prog (some (.func (.func 224) #[] #[])) (some vs) = some (224, vs) := hwho_func0 224 vs (by kernel_rfl)
theorem mixed : Tryz.prog.follows .mixedOrders = true := by kernel_rfl
attribute [go_sem] al58 al61 al78 ap106_9 ap26_26 ap40_40 ap59_59 ap76_76 ap91_91 bd110_1_2 bd155_0_1 bd228_0_1_2 bd61_0_1 bd78_0_1_2_3 bd81_1_2_7 bd99_ bd99_0_1 bs106_1_0 bs210_2_0_1 bs224_2_0_1 bs26_1_0 bs40_0_ bs40_1_0 bs40_2_0_1 bs40_5_0_1_2_3_4 bs76_1_0 bs91_1_0 bs91_4_0_1_2_3 pe105 pn105 pez105 pnz105 pe30 pn30 pez30 pnz30 be4 bn4 pe44 pn44 pez44 pnz44 cv22_3 cv265_34 cv265_53 cv3_34 cv3_35 cv3_53 cv34_265 cv34_3 cv34_5 cv35_2 cv35_3 cv5_3 cv53_265 cv53_3 cp25 cp40 fa108_0 fa108_1 fa110_0 fa110_1 fa110_2 fa155_0 fa155_1 fa155_2 fa228_0 fa228_1 fa228_2 fa228_3 fa58_0 fa58_1 fa58_2 fa58_3 fa61_0 fa61_1 fa78_0 fa78_1 fa78_2 fa78_3 fa81_0 fa81_1 fa81_10 fa81_2 fa81_3 fa81_4 fa81_5 fa81_6 fa81_7 fa81_8 fa81_9 fa99_0 fa99_1 sx9 ix153 ix210 ix224 ix25 ix26 ix27 ix40 ix59 ix76 ix91 ln106 ln210 ln224 ln25 ln26 ln27 ln40 ln59 ln76 ln9 ln91 ld105 ld106 ld153 ld226 ld26 ld3 ld35 ld4 ld40 ld44 ld5 ld50 ld58 ld59 ld61 ld76 ld9 ld90 ld99 mk153 mk25 mk40 sl25 slg25 sln25 sl40 slg40 sln40 ss9 st105 st106 st26 st3 st31 st35 st4 st40 st44 st58 st61 st76 st78 st99 wh3 wh6 wh7 wh8 wh9 wh10 wh11 wh12 wh13 wh14 wh15 wh17 wh18 wh19 wh20 wh21 wh27 wh28 wh29 wh30 wh31 wh32 wh33 wh34 wh35 wh36 wh37 wh38 wh39 wh40 wh41 wh42 wh43 wh46 wh47 wh48 wh49 wh62 wh64 wh65 wh66 wh67 wh68 wh69 wh70 wh71 wh72 wh73 wh74 wh75 wh76 wh77 wh78 wh79 wh80 wh81 wh82 wh113 wh116 wh118 wh119 wh120 wh121 wh122 wh123 wh124 wh125 wh126 wh127 wh128 wh129 wh130 wh131 wh132 wh133 wh134 wh135 wh164 wh166 wh167 wh168 wh169 wh170 wh171 wh173 wh181 wh182 wh183 wh184 wh185 wh186 wh187 wh194 wh195 wh196 wh197 wh198 wh199 wh200 wh217 wh220 wh223 wh224
end Go.HL
