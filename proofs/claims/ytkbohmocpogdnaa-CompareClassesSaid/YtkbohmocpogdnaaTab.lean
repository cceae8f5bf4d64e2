/- The types and functions of this translation, as the walks look them up. -/
import Derived.Test.YtkbohmocpogdnaaEng11
import Derived.Test.YtkbohmocpogdnaaRows
namespace Go.Proofs.Ytkbohmocpogdnaa
def TAB : List (Nat × TI) := [(1, ⟨1, 8, .nilFunc, .fn⟩),
  (2, ⟨1, 8, .int .i64 0, .int .i64⟩),
  (3, ⟨1, 8, .int .i64 0, .int .i64⟩),
  (4, ⟨1, 1, .bool false, .bool⟩),
  (5, ⟨1, 1, .int .u8 0, .int .u8⟩),
  (6, ⟨1, 1, .int .u8 0, .int .u8⟩),
  (7, ⟨4, 24, .agg #[.int .i64 0, .int .i64 0, .bool false, .int .u8 0], .st [(0, 2), (1, 3), (2, 4), (3, 6)]⟩),
  (8, ⟨4, 24, .agg #[.int .i64 0, .int .i64 0, .bool false, .int .u8 0], .st [(0, 2), (1, 3), (2, 4), (3, 6)]⟩),
  (9, ⟨1, 16, .string .empty, .str⟩),
  (10, ⟨1, 16, .string .empty, .str⟩),
  (11, ⟨1, 16, .string .empty, .str⟩),
  (12, ⟨1, 8, .int .u64 0, .int .u64⟩),
  (13, ⟨2, 24, .agg #[.string .empty, .int .u64 0], .st [(0, 9), (1, 12)]⟩),
  (14, ⟨2, 24, .agg #[.string .empty, .int .u64 0], .st [(0, 9), (1, 12)]⟩),
  (15, ⟨1, 8, .pointer none, .ptr 53⟩),
  (16, ⟨1, 8, .pointer none, .ptr 56⟩),
  (17, ⟨1, 8, .pointer none, .ptr 66⟩),
  (18, ⟨1, 8, .agg #[.pointer none], .st [(0, 17)]⟩),
  (19, ⟨1, 8, .agg #[.pointer none], .st [(0, 17)]⟩),
  (21, ⟨1, 4, .int .i32 0, .int .i32⟩),
  (22, ⟨1, 24, .slice none 0 0, .sl 26⟩),
  (23, ⟨1, 24, .slice none 0 0, .sl 4⟩),
  (24, ⟨1, 24, .slice none 0 0, .sl 5⟩),
  (25, ⟨2, 32, .agg #[.bool false, .slice none 0 0], .st [(0, 4), (1, 24)]⟩),
  (26, ⟨2, 32, .agg #[.bool false, .slice none 0 0], .st [(0, 4), (1, 24)]⟩),
  (27, ⟨1, 8, .nilFunc, .fn⟩),
  (28, ⟨1, 24, .slice none 0 0, .sl 40⟩),
  (29, ⟨1, 8, .int .i64 0, .int .i64⟩),
  (31, ⟨1, 8, .nilFunc, .fn⟩),
  (32, ⟨1, 8, .nilFunc, .fn⟩),
  (33, ⟨1, 8, .nilFunc, .fn⟩),
  (34, ⟨1, 8, .nilFunc, .fn⟩),
  (35, ⟨1, 8, .nilFunc, .fn⟩),
  (36, ⟨5, 5, .agg #[.bool false, .bool false, .bool false, .bool false, .bool false], .arr 5 4⟩),
  (37, ⟨1, 8, .nilFunc, .fn⟩),
  (38, ⟨1, 24, .slice none 0 0, .sl 3⟩),
  (39, ⟨3, 56, .agg #[.bool false, .slice none 0 0, .slice none 0 0], .st [(0, 4), (1, 24), (2, 38)]⟩),
  (40, ⟨3, 56, .agg #[.bool false, .slice none 0 0, .slice none 0 0], .st [(0, 4), (1, 24), (2, 38)]⟩),
  (41, ⟨1, 8, .nilFunc, .fn⟩),
  (42, ⟨1, 8, .nilFunc, .fn⟩),
  (43, ⟨1, 8, .nilFunc, .fn⟩),
  (44, ⟨3, 3, .agg #[.int .u8 0, .int .u8 0, .int .u8 0], .arr 3 5⟩),
  (45, ⟨1, 8, .nilFunc, .fn⟩),
  (46, ⟨1, 8, .nilFunc, .fn⟩),
  (47, ⟨1, 8, .nilFunc, .fn⟩),
  (48, ⟨1, 8, .nilFunc, .fn⟩),
  (49, ⟨1, 8, .nilFunc, .fn⟩),
  (50, ⟨1, 8, .nilFunc, .fn⟩),
  (51, ⟨1, 8, .nilFunc, .fn⟩),
  (52, ⟨4, 40, .agg #[.pointer none, .pointer none, .pointer none, .string .empty], .st [(0, 17), (1, 17), (2, 17), (3, 9)]⟩),
  (53, ⟨4, 40, .agg #[.pointer none, .pointer none, .pointer none, .string .empty], .st [(0, 17), (1, 17), (2, 17), (3, 9)]⟩),
  (54, ⟨0, 0, .agg #[], .arr 0 16⟩),
  (55, ⟨0, 0, .agg #[], .st [(0, 54)]⟩),
  (56, ⟨0, 0, .agg #[], .st [(0, 54)]⟩),
  (57, ⟨1, 8, .nilFunc, .fn⟩),
  (58, ⟨1, 4, .int .u32 0, .int .u32⟩),
  (59, ⟨1, 1, .int .u8 0, .int .u8⟩),
  (60, ⟨1, 1, .int .u8 0, .int .u8⟩),
  (61, ⟨1, 8, .nilFunc, .fn⟩),
  (62, ⟨1, 8, .pointer none, .ptr 5⟩),
  (63, ⟨1, 4, .int .i32 0, .int .i32⟩),
  (64, ⟨1, 4, .int .i32 0, .int .i32⟩),
  (65, ⟨11, 48, .agg #[.int .u64 0, .int .u64 0, .int .u32 0, .int .u8 0, .int .u8 0, .int .u8 0, .int .u8 0, .nilFunc, .pointer none, .int .i32 0, .int .i32 0], .st [(0, 12), (1, 12), (2, 58), (3, 59), (4, 5), (5, 5), (6, 60), (7, 61), (8, 62), (9, 63), (10, 64)]⟩),
  (66, ⟨11, 48, .agg #[.int .u64 0, .int .u64 0, .int .u32 0, .int .u8 0, .int .u8 0, .int .u8 0, .int .u8 0, .nilFunc, .pointer none, .int .i32 0, .int .i32 0], .st [(0, 12), (1, 12), (2, 58), (3, 59), (4, 5), (5, 5), (6, 60), (7, 61), (8, 62), (9, 63), (10, 64)]⟩)]
theorem tab : TabOk Try.prog TAB := by
  have h1 : TAB.map (fun p => (Try.prog.info? p.1).map (fun i => (i.zero, i.size, i.bytes))) = TAB.map (fun p => some (some p.2.z, p.2.sz, p.2.by_)) := by kernel_rfl
  have h2 : TAB.map (fun p => (Try.prog.underlying p.1).map tdOf) = TAB.map (fun p => some p.2.d) := by kernel_rfl
  exact tabOk fun p hp => ⟨List.map_inj_left.1 h1 p hp, List.map_inj_left.1 h2 p hp⟩
def PLAIN : List Nat := [3, 4, 5, 6, 7, 8, 9, 10, 11, 12, 13, 14, 15, 16, 17, 18, 19, 20, 21, 22, 23, 24]
theorem pl (f : Nat) (h : PLAIN.contains f = true) : plain Try.prog f := by
  have h1 : PLAIN.map (fun f => (Try.prog.funcs[f]?).map (fun fn => !(fn.name == "runtime.NumGoroutine") && fn.body.isSome)) = PLAIN.map (fun _ => some true) := by kernel_rfl
  exact ⟨List.map_inj_left.1 h1 f (by simpa using h)⟩

end Go.Proofs.Ytkbohmocpogdnaa
