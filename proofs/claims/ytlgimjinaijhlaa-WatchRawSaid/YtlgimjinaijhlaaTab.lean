/- The types and functions of this translation, as the walks look them up. -/
import Derived.Test.YtlgimjinaijhlaaTac
import Derived.Test.YtlgimjinaijhlaaRows
namespace Go.Proofs.Ytlgimjinaijhlaa
def TAB : List (Nat × TI) := [(1, ⟨1, 8, .nilFunc, .fn⟩),
  (2, ⟨1, 8, .int .i64 0, .int .i64⟩),
  (3, ⟨1, 8, .int .i64 0, .int .i64⟩),
  (4, ⟨1, 1, .bool false, .bool⟩),
  (5, ⟨1, 1, .int .u8 0, .int .u8⟩),
  (6, ⟨1, 1, .int .u8 0, .int .u8⟩),
  (7, ⟨4, 24, .agg #[.int .i64 0, .int .i64 0, .bool false, .int .u8 0], .st [(0, 2), (1, 3), (2, 4), (3, 6)]⟩),
  (8, ⟨4, 24, .agg #[.int .i64 0, .int .i64 0, .bool false, .int .u8 0], .st [(0, 2), (1, 3), (2, 4), (3, 6)]⟩),
  (9, ⟨1, 16, .string .empty, .str⟩),
  (10, ⟨1, 16, .string .empty, .str⟩),
  (11, ⟨1, 16, .string .empty, .str⟩),
  (12, ⟨1, 8, .int .u64 0, .int .u64⟩),
  (13, ⟨2, 24, .agg #[.string .empty, .int .u64 0], .st [(0, 9), (1, 12)]⟩),
  (14, ⟨2, 24, .agg #[.string .empty, .int .u64 0], .st [(0, 9), (1, 12)]⟩),
  (15, ⟨1, 8, .pointer none, .ptr 55⟩),
  (16, ⟨1, 8, .pointer none, .ptr 58⟩),
  (17, ⟨1, 8, .pointer none, .ptr 68⟩),
  (18, ⟨1, 8, .agg #[.pointer none], .st [(0, 17)]⟩),
  (19, ⟨1, 8, .agg #[.pointer none], .st [(0, 17)]⟩),
  (21, ⟨1, 4, .int .i32 0, .int .i32⟩),
  (22, ⟨1, 24, .slice none 0 0, .sl 3⟩),
  (23, ⟨2, 32, .agg #[.int .i64 0, .slice none 0 0], .st [(0, 3), (1, 22)]⟩),
  (24, ⟨2, 32, .agg #[.int .i64 0, .slice none 0 0], .st [(0, 3), (1, 22)]⟩),
  (25, ⟨1, 24, .slice none 0 0, .sl 4⟩),
  (26, ⟨1, 24, .slice none 0 0, .sl 42⟩),
  (27, ⟨1, 8, .nilFunc, .fn⟩),
  (28, ⟨1, 8, .int .i64 0, .int .i64⟩),
  (30, ⟨1, 8, .nilFunc, .fn⟩),
  (32, ⟨1, 8, .nilFunc, .fn⟩),
  (33, ⟨1, 8, .nilFunc, .fn⟩),
  (34, ⟨1, 8, .nilFunc, .fn⟩),
  (35, ⟨1, 8, .nilFunc, .fn⟩),
  (36, ⟨1, 8, .nilFunc, .fn⟩),
  (37, ⟨1, 8, .nilFunc, .fn⟩),
  (38, ⟨1, 24, .slice none 0 0, .sl 5⟩),
  (39, ⟨1, 8, .int .u64 0, .int .u64⟩),
  (40, ⟨1, 8, .nilFunc, .fn⟩),
  (41, ⟨3, 24, .agg #[.int .i64 0, .int .i64 0, .int .i64 0], .st [(0, 3), (1, 3), (2, 3)]⟩),
  (42, ⟨3, 24, .agg #[.int .i64 0, .int .i64 0, .int .i64 0], .st [(0, 3), (1, 3), (2, 3)]⟩),
  (43, ⟨1, 8, .nilFunc, .fn⟩),
  (44, ⟨1, 8, .nilFunc, .fn⟩),
  (45, ⟨1, 8, .nilFunc, .fn⟩),
  (46, ⟨1, 8, .nilFunc, .fn⟩),
  (47, ⟨1, 8, .nilFunc, .fn⟩),
  (48, ⟨1, 8, .nilFunc, .fn⟩),
  (49, ⟨1, 8, .nilFunc, .fn⟩),
  (50, ⟨1, 8, .int .u64 0, .int .u64⟩),
  (51, ⟨1, 8, .nilFunc, .fn⟩),
  (52, ⟨1, 8, .nilFunc, .fn⟩),
  (53, ⟨1, 8, .nilFunc, .fn⟩),
  (54, ⟨4, 40, .agg #[.pointer none, .pointer none, .pointer none, .string .empty], .st [(0, 17), (1, 17), (2, 17), (3, 9)]⟩),
  (55, ⟨4, 40, .agg #[.pointer none, .pointer none, .pointer none, .string .empty], .st [(0, 17), (1, 17), (2, 17), (3, 9)]⟩),
  (56, ⟨0, 0, .agg #[], .arr 0 16⟩),
  (57, ⟨0, 0, .agg #[], .st [(0, 56)]⟩),
  (58, ⟨0, 0, .agg #[], .st [(0, 56)]⟩),
  (59, ⟨1, 8, .nilFunc, .fn⟩),
  (60, ⟨1, 4, .int .u32 0, .int .u32⟩),
  (61, ⟨1, 1, .int .u8 0, .int .u8⟩),
  (62, ⟨1, 1, .int .u8 0, .int .u8⟩),
  (63, ⟨1, 8, .nilFunc, .fn⟩),
  (64, ⟨1, 8, .pointer none, .ptr 5⟩),
  (65, ⟨1, 4, .int .i32 0, .int .i32⟩),
  (66, ⟨1, 4, .int .i32 0, .int .i32⟩),
  (67, ⟨11, 48, .agg #[.int .u64 0, .int .u64 0, .int .u32 0, .int .u8 0, .int .u8 0, .int .u8 0, .int .u8 0, .nilFunc, .pointer none, .int .i32 0, .int .i32 0], .st [(0, 12), (1, 12), (2, 60), (3, 61), (4, 5), (5, 5), (6, 62), (7, 63), (8, 64), (9, 65), (10, 66)]⟩),
  (68, ⟨11, 48, .agg #[.int .u64 0, .int .u64 0, .int .u32 0, .int .u8 0, .int .u8 0, .int .u8 0, .int .u8 0, .nilFunc, .pointer none, .int .i32 0, .int .i32 0], .st [(0, 12), (1, 12), (2, 60), (3, 61), (4, 5), (5, 5), (6, 62), (7, 63), (8, 64), (9, 65), (10, 66)]⟩)]
theorem tab : TabOk Try.prog TAB := by
  have h1 : TAB.map (fun p => (Try.prog.info? p.1).map (fun i => (i.zero, i.size, i.bytes))) = TAB.map (fun p => some (some p.2.z, p.2.sz, p.2.by_)) := by kernel_rfl
  have h2 : TAB.map (fun p => (Try.prog.underlying p.1).map tdOf) = TAB.map (fun p => some p.2.d) := by kernel_rfl
  exact tabOk fun p hp => ⟨List.map_inj_left.1 h1 p hp, List.map_inj_left.1 h2 p hp⟩
def PLAIN : List Nat := [3, 4, 5, 6, 7, 8, 9, 10, 11, 12, 13, 14, 15, 16, 17, 18, 19, 20, 21, 22, 23, 24, 25, 26]
theorem pl (f : Nat) (h : PLAIN.contains f = true) : plain Try.prog f := by
  have h1 : PLAIN.map (fun f => (Try.prog.funcs[f]?).map (fun fn => !(fn.name == "runtime.NumGoroutine") && fn.body.isSome)) = PLAIN.map (fun _ => some true) := by kernel_rfl
  exact ⟨List.map_inj_left.1 h1 f (by simpa using h)⟩

end Go.Proofs.Ytlgimjinaijhlaa
