/- THE TABLE OF TYPES of this seat, for the abstract machine, printed by abt.py; and that it is the program's. Conditions: none. -/
import Derived.Test.YthbbollhojdjdaaProg
import Derived.Test.YthbbollhojdjdaaAbUse
namespace Go.Proofs.Ythbbollhojdjdaa
open Go.Ab
def ti2 : TI := ⟨1, 8, .int .i64 0, .int .i64⟩
theorem tiok2 : TIok Try.prog 2 ti2 := TIok.of Try.underlying2 rfl (z := .int .i64 0) (by kernel_rfl) rfl (.inr fun _ => V.int _ _) (fun F hF => by cases hF)
def ti3 : TI := ⟨1, 8, .int .i64 0, .int .i64⟩
theorem tiok3 : TIok Try.prog 3 ti3 := TIok.of Try.underlying3 rfl (z := .int .i64 0) (by kernel_rfl) rfl (.inr fun _ => V.int _ _) (fun F hF => by cases hF)
def ti4 : TI := ⟨1, 1, .bool false, .bool⟩
theorem tiok4 : TIok Try.prog 4 ti4 := TIok.of Try.underlying4 rfl (z := .bool false) (by kernel_rfl) rfl (.inr fun _ => V.bool _) (fun F hF => by cases hF)
def ti5 : TI := ⟨1, 1, .int .u8 0, .int .u8⟩
theorem tiok5 : TIok Try.prog 5 ti5 := TIok.of Try.underlying5 rfl (z := .int .u8 0) (by kernel_rfl) rfl (.inr fun _ => V.int _ _) (fun F hF => by cases hF)
def ti6 : TI := ⟨1, 1, .int .u8 0, .int .u8⟩
theorem tiok6 : TIok Try.prog 6 ti6 := TIok.of Try.underlying6 rfl (z := .int .u8 0) (by kernel_rfl) rfl (.inr fun _ => V.int _ _) (fun F hF => by cases hF)
def ti7 : TI := ⟨4, 24, .agg [.int .i64 0, .int .i64 0, .bool false, .int .u8 0], .struct [(0, 2), (1, 3), (2, 4), (3, 6)]⟩
theorem tiok7 : TIok Try.prog 7 ti7 := TIok.of Try.underlying7 ⟨_, rfl, rfl⟩ (z := .agg #[.int .i64 0, .int .i64 0, .bool false, .int .u8 0]) (by kernel_rfl) rfl (.inr fun _ => V.aggL (VL.cons (V.int _ _) (VL.cons (V.int _ _) (VL.cons (V.bool _) (VL.cons (V.int _ _) VL.nil))))) (fun F hF f hf => by cases hF; simp only [List.mem_cons, List.not_mem_nil, or_false] at hf; rcases hf with rfl | rfl | rfl | rfl <;> kernel_rfl)
def ti8 : TI := ⟨4, 24, .agg [.int .i64 0, .int .i64 0, .bool false, .int .u8 0], .struct [(0, 2), (1, 3), (2, 4), (3, 6)]⟩
theorem tiok8 : TIok Try.prog 8 ti8 := TIok.of Try.underlying8 ⟨_, rfl, rfl⟩ (z := .agg #[.int .i64 0, .int .i64 0, .bool false, .int .u8 0]) (by kernel_rfl) rfl (.inr fun _ => V.aggL (VL.cons (V.int _ _) (VL.cons (V.int _ _) (VL.cons (V.bool _) (VL.cons (V.int _ _) VL.nil))))) (fun F hF f hf => by cases hF; simp only [List.mem_cons, List.not_mem_nil, or_false] at hf; rcases hf with rfl | rfl | rfl | rfl <;> kernel_rfl)
def ti9 : TI := ⟨1, 16, .str [], .str⟩
theorem tiok9 : TIok Try.prog 9 ti9 := TIok.of Try.underlying9 rfl (z := .string ⟨#[]⟩) (by kernel_rfl) rfl (.inr fun _ => V.str0 _) (fun F hF => by cases hF)
def ti10 : TI := ⟨1, 16, .str [], .str⟩
theorem tiok10 : TIok Try.prog 10 ti10 := TIok.of Try.underlying10 rfl (z := .string ⟨#[]⟩) (by kernel_rfl) rfl (.inr fun _ => V.str0 _) (fun F hF => by cases hF)
def ti11 : TI := ⟨1, 16, .str [], .str⟩
theorem tiok11 : TIok Try.prog 11 ti11 := TIok.of Try.underlying11 rfl (z := .string ⟨#[]⟩) (by kernel_rfl) rfl (.inr fun _ => V.str0 _) (fun F hF => by cases hF)
def ti12 : TI := ⟨1, 8, .int .u64 0, .int .u64⟩
theorem tiok12 : TIok Try.prog 12 ti12 := TIok.of Try.underlying12 rfl (z := .int .u64 0) (by kernel_rfl) rfl (.inr fun _ => V.int _ _) (fun F hF => by cases hF)
def ti13 : TI := ⟨2, 24, .agg [.str [], .int .u64 0], .struct [(0, 9), (1, 12)]⟩
theorem tiok13 : TIok Try.prog 13 ti13 := TIok.of Try.underlying13 ⟨_, rfl, rfl⟩ (z := .agg #[.string ⟨#[]⟩, .int .u64 0]) (by kernel_rfl) rfl (.inr fun _ => V.aggL (VL.cons (V.str0 _) (VL.cons (V.int _ _) VL.nil))) (fun F hF f hf => by cases hF; simp only [List.mem_cons, List.not_mem_nil, or_false] at hf; rcases hf with rfl | rfl <;> kernel_rfl)
def ti14 : TI := ⟨2, 24, .agg [.str [], .int .u64 0], .struct [(0, 9), (1, 12)]⟩
theorem tiok14 : TIok Try.prog 14 ti14 := TIok.of Try.underlying14 ⟨_, rfl, rfl⟩ (z := .agg #[.string ⟨#[]⟩, .int .u64 0]) (by kernel_rfl) rfl (.inr fun _ => V.aggL (VL.cons (V.str0 _) (VL.cons (V.int _ _) VL.nil))) (fun F hF f hf => by cases hF; simp only [List.mem_cons, List.not_mem_nil, or_false] at hf; rcases hf with rfl | rfl <;> kernel_rfl)
def ti15 : TI := ⟨1, 8, .nilp, .ptr 107⟩
theorem tiok15 : TIok Try.prog 15 ti15 := TIok.of Try.underlying15 rfl (z := .pointer none) (by kernel_rfl) rfl (.inr fun _ => V.nilp) (fun F hF => by cases hF)
def ti16 : TI := ⟨1, 8, .nilp, .ptr 110⟩
theorem tiok16 : TIok Try.prog 16 ti16 := TIok.of Try.underlying16 rfl (z := .pointer none) (by kernel_rfl) rfl (.inr fun _ => V.nilp) (fun F hF => by cases hF)
def ti17 : TI := ⟨1, 8, .nilp, .ptr 119⟩
theorem tiok17 : TIok Try.prog 17 ti17 := TIok.of Try.underlying17 rfl (z := .pointer none) (by kernel_rfl) rfl (.inr fun _ => V.nilp) (fun F hF => by cases hF)
def ti18 : TI := ⟨1, 8, .agg [.nilp], .struct [(0, 17)]⟩
theorem tiok18 : TIok Try.prog 18 ti18 := TIok.of Try.underlying18 ⟨_, rfl, rfl⟩ (z := .agg #[.pointer none]) (by kernel_rfl) rfl (.inr fun _ => V.aggL (VL.cons (V.nilp) VL.nil)) (fun F hF f hf => by cases hF; simp only [List.mem_cons, List.not_mem_nil, or_false] at hf; subst hf; kernel_rfl)
def ti19 : TI := ⟨1, 8, .agg [.nilp], .struct [(0, 17)]⟩
theorem tiok19 : TIok Try.prog 19 ti19 := TIok.of Try.underlying19 ⟨_, rfl, rfl⟩ (z := .agg #[.pointer none]) (by kernel_rfl) rfl (.inr fun _ => V.aggL (VL.cons (V.nilp) VL.nil)) (fun F hF f hf => by cases hF; simp only [List.mem_cons, List.not_mem_nil, or_false] at hf; subst hf; kernel_rfl)
def ti21 : TI := ⟨1, 4, .int .i32 0, .int .i32⟩
theorem tiok21 : TIok Try.prog 21 ti21 := TIok.of Try.underlying21 rfl (z := .int .i32 0) (by kernel_rfl) rfl (.inr fun _ => V.int _ _) (fun F hF => by cases hF)
def ti22 : TI := ⟨1, 24, .sl true 1 [] false, .slice 5⟩
theorem tiok22 : TIok Try.prog 22 ti22 := TIok.of Try.underlying22 rfl (z := .slice none 0 0) (by kernel_rfl) rfl (.inr fun _ => V.slnil _ _) (fun F hF => by cases hF)
def ti23 : TI := ⟨1, 24, .sl true 1 [] false, .slice 56⟩
theorem tiok23 : TIok Try.prog 23 ti23 := TIok.of Try.underlying23 rfl (z := .slice none 0 0) (by kernel_rfl) rfl (.inr fun _ => V.slnil _ _) (fun F hF => by cases hF)
def ti24 : TI := ⟨2, 32, .agg [.bool false, .sl true 1 [] false], .struct [(0, 4), (1, 23)]⟩
theorem tiok24 : TIok Try.prog 24 ti24 := TIok.of Try.underlying24 ⟨_, rfl, rfl⟩ (z := .agg #[.bool false, .slice none 0 0]) (by kernel_rfl) rfl (.inr fun _ => V.aggL (VL.cons (V.bool _) (VL.cons (V.slnil _ _) VL.nil))) (fun F hF f hf => by cases hF; simp only [List.mem_cons, List.not_mem_nil, or_false] at hf; rcases hf with rfl | rfl <;> kernel_rfl)
def ti25 : TI := ⟨2, 32, .agg [.bool false, .sl true 1 [] false], .struct [(0, 4), (1, 23)]⟩
theorem tiok25 : TIok Try.prog 25 ti25 := TIok.of Try.underlying25 ⟨_, rfl, rfl⟩ (z := .agg #[.bool false, .slice none 0 0]) (by kernel_rfl) rfl (.inr fun _ => V.aggL (VL.cons (V.bool _) (VL.cons (V.slnil _ _) VL.nil))) (fun F hF f hf => by cases hF; simp only [List.mem_cons, List.not_mem_nil, or_false] at hf; rcases hf with rfl | rfl <;> kernel_rfl)
def ti26 : TI := ⟨1, 24, .sl true 6 [] false, .slice 28⟩
theorem tiok26 : TIok Try.prog 26 ti26 := TIok.of Try.underlying26 rfl (z := .slice none 0 0) (by kernel_rfl) rfl (.inr fun _ => V.slnil _ _) (fun F hF => by cases hF)
def ti27 : TI := ⟨6, 88, .agg [.int .i64 0, .bool false, .sl true 1 [] false, .str [], .int .i64 0, .sl true 6 [] false], .struct [(0, 3), (1, 25), (3, 9), (4, 3), (5, 26)]⟩
theorem tiok27 : TIok Try.prog 27 ti27 := TIok.of Try.underlying27 ⟨_, rfl, rfl⟩ (z := .agg #[.int .i64 0, .bool false, .slice none 0 0, .string ⟨#[]⟩, .int .i64 0, .slice none 0 0]) (by kernel_rfl) rfl (.inr fun _ => V.aggL (VL.cons (V.int _ _) (VL.cons (V.bool _) (VL.cons (V.slnil _ _) (VL.cons (V.str0 _) (VL.cons (V.int _ _) (VL.cons (V.slnil _ _) VL.nil))))))) (fun F hF f hf => by cases hF; simp only [List.mem_cons, List.not_mem_nil, or_false] at hf; rcases hf with rfl | rfl | rfl | rfl | rfl <;> kernel_rfl)
def ti28 : TI := ⟨6, 88, .agg [.int .i64 0, .bool false, .sl true 1 [] false, .str [], .int .i64 0, .sl true 6 [] false], .struct [(0, 3), (1, 25), (3, 9), (4, 3), (5, 26)]⟩
theorem tiok28 : TIok Try.prog 28 ti28 := TIok.of Try.underlying28 ⟨_, rfl, rfl⟩ (z := .agg #[.int .i64 0, .bool false, .slice none 0 0, .string ⟨#[]⟩, .int .i64 0, .slice none 0 0]) (by kernel_rfl) rfl (.inr fun _ => V.aggL (VL.cons (V.int _ _) (VL.cons (V.bool _) (VL.cons (V.slnil _ _) (VL.cons (V.str0 _) (VL.cons (V.int _ _) (VL.cons (V.slnil _ _) VL.nil))))))) (fun F hF f hf => by cases hF; simp only [List.mem_cons, List.not_mem_nil, or_false] at hf; rcases hf with rfl | rfl | rfl | rfl | rfl <;> kernel_rfl)
def ti34 : TI := ⟨1, 8, .int .i64 0, .int .i64⟩
theorem tiok34 : TIok Try.prog 34 ti34 := TIok.of Try.underlying34 rfl (z := .int .i64 0) (by kernel_rfl) rfl (.inr fun _ => V.int _ _) (fun F hF => by cases hF)
def ti44 : TI := ⟨1, 8, .int .u64 0, .int .u64⟩
theorem tiok44 : TIok Try.prog 44 ti44 := TIok.of Try.underlying44 rfl (z := .int .u64 0) (by kernel_rfl) rfl (.inr fun _ => V.int _ _) (fun F hF => by cases hF)
def ti56 : TI := ⟨1, 4, .int .u32 0, .int .u32⟩
theorem tiok56 : TIok Try.prog 56 ti56 := TIok.of Try.underlying56 rfl (z := .int .u32 0) (by kernel_rfl) rfl (.inr fun _ => V.int _ _) (fun F hF => by cases hF)
def ti57 : TI := ⟨1, 8, .nilp, .ptr 59⟩
theorem tiok57 : TIok Try.prog 57 ti57 := TIok.of Try.underlying57 rfl (z := .pointer none) (by kernel_rfl) rfl (.inr fun _ => V.nilp) (fun F hF => by cases hF)
def ti58 : TI := ⟨4, 48, .agg [.sl true 1 [] false, .int .i64 0, .int .i64 0, .int .i64 0], .struct [(0, 22), (1, 3), (2, 3), (3, 34)]⟩
theorem tiok58 : TIok Try.prog 58 ti58 := TIok.of Try.underlying58 ⟨_, rfl, rfl⟩ (z := .agg #[.slice none 0 0, .int .i64 0, .int .i64 0, .int .i64 0]) (by kernel_rfl) rfl (.inr fun _ => V.aggL (VL.cons (V.slnil _ _) (VL.cons (V.int _ _) (VL.cons (V.int _ _) (VL.cons (V.int _ _) VL.nil))))) (fun F hF f hf => by cases hF; simp only [List.mem_cons, List.not_mem_nil, or_false] at hf; rcases hf with rfl | rfl | rfl | rfl <;> kernel_rfl)
def ti59 : TI := ⟨4, 48, .agg [.sl true 1 [] false, .int .i64 0, .int .i64 0, .int .i64 0], .struct [(0, 22), (1, 3), (2, 3), (3, 34)]⟩
theorem tiok59 : TIok Try.prog 59 ti59 := TIok.of Try.underlying59 ⟨_, rfl, rfl⟩ (z := .agg #[.slice none 0 0, .int .i64 0, .int .i64 0, .int .i64 0]) (by kernel_rfl) rfl (.inr fun _ => V.aggL (VL.cons (V.slnil _ _) (VL.cons (V.int _ _) (VL.cons (V.int _ _) (VL.cons (V.int _ _) VL.nil))))) (fun F hF f hf => by cases hF; simp only [List.mem_cons, List.not_mem_nil, or_false] at hf; rcases hf with rfl | rfl | rfl | rfl <;> kernel_rfl)
def ti61 : TI := ⟨1, 8, .nilp, .ptr 63⟩
theorem tiok61 : TIok Try.prog 61 ti61 := TIok.of Try.underlying61 rfl (z := .pointer none) (by kernel_rfl) rfl (.inr fun _ => V.nilp) (fun F hF => by cases hF)
def ti62 : TI := ⟨4, 48, .agg [.sl true 1 [] false, .int .i64 0, .int .i64 0, .int .i64 0], .struct [(0, 22), (1, 3), (2, 3), (3, 34)]⟩
theorem tiok62 : TIok Try.prog 62 ti62 := TIok.of Try.underlying62 ⟨_, rfl, rfl⟩ (z := .agg #[.slice none 0 0, .int .i64 0, .int .i64 0, .int .i64 0]) (by kernel_rfl) rfl (.inr fun _ => V.aggL (VL.cons (V.slnil _ _) (VL.cons (V.int _ _) (VL.cons (V.int _ _) (VL.cons (V.int _ _) VL.nil))))) (fun F hF f hf => by cases hF; simp only [List.mem_cons, List.not_mem_nil, or_false] at hf; rcases hf with rfl | rfl | rfl | rfl <;> kernel_rfl)
def ti63 : TI := ⟨4, 48, .agg [.sl true 1 [] false, .int .i64 0, .int .i64 0, .int .i64 0], .struct [(0, 22), (1, 3), (2, 3), (3, 34)]⟩
theorem tiok63 : TIok Try.prog 63 ti63 := TIok.of Try.underlying63 ⟨_, rfl, rfl⟩ (z := .agg #[.slice none 0 0, .int .i64 0, .int .i64 0, .int .i64 0]) (by kernel_rfl) rfl (.inr fun _ => V.aggL (VL.cons (V.slnil _ _) (VL.cons (V.int _ _) (VL.cons (V.int _ _) (VL.cons (V.int _ _) VL.nil))))) (fun F hF f hf => by cases hF; simp only [List.mem_cons, List.not_mem_nil, or_false] at hf; rcases hf with rfl | rfl | rfl | rfl <;> kernel_rfl)
def ti72 : TI := ⟨1, 8, .int .u64 0, .int .u64⟩
theorem tiok72 : TIok Try.prog 72 ti72 := TIok.of Try.underlying72 rfl (z := .int .u64 0) (by kernel_rfl) rfl (.inr fun _ => V.int _ _) (fun F hF => by cases hF)
def ti76 : TI := ⟨1, 8, .nilp, .ptr 3⟩
theorem tiok76 : TIok Try.prog 76 ti76 := TIok.of Try.underlying76 rfl (z := .pointer none) (by kernel_rfl) rfl (.inr fun _ => V.nilp) (fun F hF => by cases hF)
def ti106 : TI := ⟨4, 40, .agg [.nilp, .nilp, .nilp, .str []], .struct [(0, 17), (1, 17), (2, 17), (3, 9)]⟩
theorem tiok106 : TIok Try.prog 106 ti106 := TIok.of Try.underlying106 ⟨_, rfl, rfl⟩ (z := .agg #[.pointer none, .pointer none, .pointer none, .string ⟨#[]⟩]) (by kernel_rfl) rfl (.inr fun _ => V.aggL (VL.cons (V.nilp) (VL.cons (V.nilp) (VL.cons (V.nilp) (VL.cons (V.str0 _) VL.nil))))) (fun F hF f hf => by cases hF; simp only [List.mem_cons, List.not_mem_nil, or_false] at hf; rcases hf with rfl | rfl | rfl | rfl <;> kernel_rfl)
def ti107 : TI := ⟨4, 40, .agg [.nilp, .nilp, .nilp, .str []], .struct [(0, 17), (1, 17), (2, 17), (3, 9)]⟩
theorem tiok107 : TIok Try.prog 107 ti107 := TIok.of Try.underlying107 ⟨_, rfl, rfl⟩ (z := .agg #[.pointer none, .pointer none, .pointer none, .string ⟨#[]⟩]) (by kernel_rfl) rfl (.inr fun _ => V.aggL (VL.cons (V.nilp) (VL.cons (V.nilp) (VL.cons (V.nilp) (VL.cons (V.str0 _) VL.nil))))) (fun F hF f hf => by cases hF; simp only [List.mem_cons, List.not_mem_nil, or_false] at hf; rcases hf with rfl | rfl | rfl | rfl <;> kernel_rfl)
def ti108 : TI := ⟨0, 0, .agg [], .array 0 16⟩
theorem tiok108 : TIok Try.prog 108 ti108 := TIok.of Try.underlying108 rfl (z := .agg #[]) (by kernel_rfl) rfl (.inr fun _ => V.aggL VL.nil) (fun F hF => by cases hF)
def ti109 : TI := ⟨0, 0, .agg [], .struct [(0, 108)]⟩
theorem tiok109 : TIok Try.prog 109 ti109 := TIok.of Try.underlying109 ⟨_, rfl, rfl⟩ (z := .agg #[]) (by kernel_rfl) rfl (.inr fun _ => V.aggL VL.nil) (fun F hF f hf => by cases hF; simp only [List.mem_cons, List.not_mem_nil, or_false] at hf; subst hf; kernel_rfl)
def ti110 : TI := ⟨0, 0, .agg [], .struct [(0, 108)]⟩
theorem tiok110 : TIok Try.prog 110 ti110 := TIok.of Try.underlying110 ⟨_, rfl, rfl⟩ (z := .agg #[]) (by kernel_rfl) rfl (.inr fun _ => V.aggL VL.nil) (fun F hF f hf => by cases hF; simp only [List.mem_cons, List.not_mem_nil, or_false] at hf; subst hf; kernel_rfl)
def ti112 : TI := ⟨1, 1, .int .u8 0, .int .u8⟩
theorem tiok112 : TIok Try.prog 112 ti112 := TIok.of Try.underlying112 rfl (z := .int .u8 0) (by kernel_rfl) rfl (.inr fun _ => V.int _ _) (fun F hF => by cases hF)
def ti113 : TI := ⟨1, 1, .int .u8 0, .int .u8⟩
theorem tiok113 : TIok Try.prog 113 ti113 := TIok.of Try.underlying113 rfl (z := .int .u8 0) (by kernel_rfl) rfl (.inr fun _ => V.int _ _) (fun F hF => by cases hF)
def ti115 : TI := ⟨1, 8, .nilp, .ptr 5⟩
theorem tiok115 : TIok Try.prog 115 ti115 := TIok.of Try.underlying115 rfl (z := .pointer none) (by kernel_rfl) rfl (.inr fun _ => V.nilp) (fun F hF => by cases hF)
def ti116 : TI := ⟨1, 4, .int .i32 0, .int .i32⟩
theorem tiok116 : TIok Try.prog 116 ti116 := TIok.of Try.underlying116 rfl (z := .int .i32 0) (by kernel_rfl) rfl (.inr fun _ => V.int _ _) (fun F hF => by cases hF)
def ti117 : TI := ⟨1, 4, .int .i32 0, .int .i32⟩
theorem tiok117 : TIok Try.prog 117 ti117 := TIok.of Try.underlying117 rfl (z := .int .i32 0) (by kernel_rfl) rfl (.inr fun _ => V.int _ _) (fun F hF => by cases hF)
def ti118 : TI := ⟨11, 48, .agg [.int .u64 0, .int .u64 0, .int .u32 0, .int .u8 0, .int .u8 0, .int .u8 0, .int .u8 0, .nilfn, .nilp, .int .i32 0, .int .i32 0], .struct [(0, 12), (1, 12), (2, 56), (3, 112), (4, 5), (5, 5), (6, 113), (7, 114), (8, 115), (9, 116), (10, 117)]⟩
theorem tiok118 : TIok Try.prog 118 ti118 := TIok.of Try.underlying118 ⟨_, rfl, rfl⟩ (z := .agg #[.int .u64 0, .int .u64 0, .int .u32 0, .int .u8 0, .int .u8 0, .int .u8 0, .int .u8 0, .nilFunc, .pointer none, .int .i32 0, .int .i32 0]) (by kernel_rfl) rfl (.inr fun _ => V.aggL (VL.cons (V.int _ _) (VL.cons (V.int _ _) (VL.cons (V.int _ _) (VL.cons (V.int _ _) (VL.cons (V.int _ _) (VL.cons (V.int _ _) (VL.cons (V.int _ _) (VL.cons (V.nilfn) (VL.cons (V.nilp) (VL.cons (V.int _ _) (VL.cons (V.int _ _) VL.nil)))))))))))) (fun F hF f hf => by cases hF; simp only [List.mem_cons, List.not_mem_nil, or_false] at hf; rcases hf with rfl | rfl | rfl | rfl | rfl | rfl | rfl | rfl | rfl | rfl | rfl <;> kernel_rfl)
def ti119 : TI := ⟨11, 48, .agg [.int .u64 0, .int .u64 0, .int .u32 0, .int .u8 0, .int .u8 0, .int .u8 0, .int .u8 0, .nilfn, .nilp, .int .i32 0, .int .i32 0], .struct [(0, 12), (1, 12), (2, 56), (3, 112), (4, 5), (5, 5), (6, 113), (7, 114), (8, 115), (9, 116), (10, 117)]⟩
theorem tiok119 : TIok Try.prog 119 ti119 := TIok.of Try.underlying119 ⟨_, rfl, rfl⟩ (z := .agg #[.int .u64 0, .int .u64 0, .int .u32 0, .int .u8 0, .int .u8 0, .int .u8 0, .int .u8 0, .nilFunc, .pointer none, .int .i32 0, .int .i32 0]) (by kernel_rfl) rfl (.inr fun _ => V.aggL (VL.cons (V.int _ _) (VL.cons (V.int _ _) (VL.cons (V.int _ _) (VL.cons (V.int _ _) (VL.cons (V.int _ _) (VL.cons (V.int _ _) (VL.cons (V.int _ _) (VL.cons (V.nilfn) (VL.cons (V.nilp) (VL.cons (V.int _ _) (VL.cons (V.int _ _) VL.nil)))))))))))) (fun F hF f hf => by cases hF; simp only [List.mem_cons, List.not_mem_nil, or_false] at hf; rcases hf with rfl | rfl | rfl | rfl | rfl | rfl | rfl | rfl | rfl | rfl | rfl <;> kernel_rfl)
def tt : TypeId → Option TI
  | 2 => some ti2
  | 3 => some ti3
  | 4 => some ti4
  | 5 => some ti5
  | 6 => some ti6
  | 7 => some ti7
  | 8 => some ti8
  | 9 => some ti9
  | 10 => some ti10
  | 11 => some ti11
  | 12 => some ti12
  | 13 => some ti13
  | 14 => some ti14
  | 15 => some ti15
  | 16 => some ti16
  | 17 => some ti17
  | 18 => some ti18
  | 19 => some ti19
  | 21 => some ti21
  | 22 => some ti22
  | 23 => some ti23
  | 24 => some ti24
  | 25 => some ti25
  | 26 => some ti26
  | 27 => some ti27
  | 28 => some ti28
  | 34 => some ti34
  | 44 => some ti44
  | 56 => some ti56
  | 57 => some ti57
  | 58 => some ti58
  | 59 => some ti59
  | 61 => some ti61
  | 62 => some ti62
  | 63 => some ti63
  | 72 => some ti72
  | 76 => some ti76
  | 106 => some ti106
  | 107 => some ti107
  | 108 => some ti108
  | 109 => some ti109
  | 110 => some ti110
  | 112 => some ti112
  | 113 => some ti113
  | 115 => some ti115
  | 116 => some ti116
  | 117 => some ti117
  | 118 => some ti118
  | 119 => some ti119
  | _ => none
theorem ttok : TTok Try.prog tt := by
  intro t i h
  unfold tt at h
  split at h <;> first | (cases h; done) | (cases h; first | exact tiok2 | exact tiok3 | exact tiok4 | exact tiok5 | exact tiok6 | exact tiok7 | exact tiok8 | exact tiok9 | exact tiok10 | exact tiok11 | exact tiok12 | exact tiok13 | exact tiok14 | exact tiok15 | exact tiok16 | exact tiok17 | exact tiok18 | exact tiok19 | exact tiok21 | exact tiok22 | exact tiok23 | exact tiok24 | exact tiok25 | exact tiok26 | exact tiok27 | exact tiok28 | exact tiok34 | exact tiok44 | exact tiok56 | exact tiok57 | exact tiok58 | exact tiok59 | exact tiok61 | exact tiok62 | exact tiok63 | exact tiok72 | exact tiok76 | exact tiok106 | exact tiok107 | exact tiok108 | exact tiok109 | exact tiok110 | exact tiok112 | exact tiok113 | exact tiok115 | exact tiok116 | exact tiok117 | exact tiok118 | exact tiok119)
end Go.Proofs.Ythbbollhojdjdaa
