/- The table of the types of this program (written by a program of ours, ty.lean), and what a walk steps with. -/
import Derived.Test.YtonbocppkanogaaProg
import Derived.Test.YtonbocppkanogaaB6
set_option linter.all false
namespace Go.Proofs.Abs
open Go Go.RowKit Go.Proofs

def ti3 : TI := ⟨.int .i64, Go.Value.int Go.IntKind.i64 0, 1, 8, false, [.v (.int .i64 0)], [], none⟩
def ti4 : TI := ⟨.bool, Go.Value.bool Bool.false, 1, 1, false, [.v (.bool false)], [], none⟩
def ti5 : TI := ⟨.int .u8, Go.Value.int Go.IntKind.u8 0, 1, 1, false, [.v (.int .u8 0)], [], none⟩
def ti22 : TI := ⟨.slice 79, Go.Value.slice Option.none 0 0, 1, 24, false, [.sl true 0 0 (fun _ => [])], [], some 79⟩
def ti23 : TI := ⟨.struct #[⟨ "C", 22, 0, false, "", "", 0⟩, ⟨ "Keep", 3, 1, false, "", "", 24⟩], Go.Value.agg #[Go.Value.slice Option.none 0 0, Go.Value.int Go.IntKind.i64 0], 2, 32, true, [.sl true 0 0 (fun _ => []), .v (.int .i64 0)], [(0, 1), (1, 1)], none⟩
def ti24 : TI := ⟨.struct #[⟨ "C", 22, 0, false, "", "", 0⟩, ⟨ "Keep", 3, 1, false, "", "", 24⟩], Go.Value.agg #[Go.Value.slice Option.none 0 0, Go.Value.int Go.IntKind.i64 0], 2, 32, true, [.sl true 0 0 (fun _ => []), .v (.int .i64 0)], [(0, 1), (1, 1)], none⟩
def ti25 : TI := ⟨.struct #[⟨ "K", 3, 0, false, "", "", 0⟩, ⟨ "V", 3, 1, false, "", "", 8⟩], Go.Value.agg #[Go.Value.int Go.IntKind.i64 0, Go.Value.int Go.IntKind.i64 0], 2, 16, true, [.v (.int .i64 0), .v (.int .i64 0)], [(0, 1), (1, 1)], none⟩
def ti26 : TI := ⟨.struct #[⟨ "K", 3, 0, false, "", "", 0⟩, ⟨ "V", 3, 1, false, "", "", 8⟩], Go.Value.agg #[Go.Value.int Go.IntKind.i64 0, Go.Value.int Go.IntKind.i64 0], 2, 16, true, [.v (.int .i64 0), .v (.int .i64 0)], [(0, 1), (1, 1)], none⟩
def ti27 : TI := ⟨.slice 26, Go.Value.slice Option.none 0 0, 1, 24, false, [.sl true 0 0 (fun _ => [])], [], some 26⟩
def ti28 : TI := ⟨.struct #[⟨ "H", 24, 0, false, "", "", 0⟩, ⟨ "Root", 3, 2, false, "", "", 32⟩, ⟨ "X", 26, 3, false, "", "", 40⟩, ⟨ "Deep", 4, 5, false, "", "", 56⟩, ⟨ "L", 27, 6, false, "", "", 64⟩], Go.Value.agg
  #[Go.Value.slice Option.none 0 0, Go.Value.int Go.IntKind.i64 0, Go.Value.int Go.IntKind.i64 0,
    Go.Value.int Go.IntKind.i64 0, Go.Value.int Go.IntKind.i64 0, Go.Value.bool Bool.false,
    Go.Value.slice Option.none 0 0], 7, 88, true, [.sl true 0 0 (fun _ => []), .v (.int .i64 0), .v (.int .i64 0), .v (.int .i64 0), .v (.int .i64 0), .v (.bool false), .sl true 0 0 (fun _ => [])], [(0, 2), (2, 1), (3, 2), (5, 1), (6, 1)], none⟩
def ti29 : TI := ⟨.struct #[⟨ "H", 24, 0, false, "", "", 0⟩, ⟨ "Root", 3, 2, false, "", "", 32⟩, ⟨ "X", 26, 3, false, "", "", 40⟩, ⟨ "Deep", 4, 5, false, "", "", 56⟩, ⟨ "L", 27, 6, false, "", "", 64⟩], Go.Value.agg
  #[Go.Value.slice Option.none 0 0, Go.Value.int Go.IntKind.i64 0, Go.Value.int Go.IntKind.i64 0,
    Go.Value.int Go.IntKind.i64 0, Go.Value.int Go.IntKind.i64 0, Go.Value.bool Bool.false,
    Go.Value.slice Option.none 0 0], 7, 88, true, [.sl true 0 0 (fun _ => []), .v (.int .i64 0), .v (.int .i64 0), .v (.int .i64 0), .v (.int .i64 0), .v (.bool false), .sl true 0 0 (fun _ => [])], [(0, 2), (2, 1), (3, 2), (5, 1), (6, 1)], none⟩
def ti32 : TI := ⟨.int .i64, Go.Value.int Go.IntKind.i64 0, 1, 8, false, [.v (.int .i64 0)], [], none⟩
def ti41 : TI := ⟨.slice 3, Go.Value.slice Option.none 0 0, 1, 24, false, [.sl true 0 0 (fun _ => [])], [], some 3⟩
def ti45 : TI := ⟨.struct #[⟨ "H", 24, 0, false, "", "", 0⟩, ⟨ "Root", 3, 2, false, "", "", 32⟩, ⟨ "X", 26, 3, false, "", "", 40⟩, ⟨ "Deep", 4, 5, false, "", "", 56⟩], Go.Value.agg
  #[Go.Value.slice Option.none 0 0, Go.Value.int Go.IntKind.i64 0, Go.Value.int Go.IntKind.i64 0,
    Go.Value.int Go.IntKind.i64 0, Go.Value.int Go.IntKind.i64 0, Go.Value.bool Bool.false], 6, 64, true, [.sl true 0 0 (fun _ => []), .v (.int .i64 0), .v (.int .i64 0), .v (.int .i64 0), .v (.int .i64 0), .v (.bool false)], [(0, 2), (2, 1), (3, 2), (5, 1)], none⟩
def ti46 : TI := ⟨.struct #[⟨ "H", 24, 0, false, "", "", 0⟩, ⟨ "Root", 3, 2, false, "", "", 32⟩, ⟨ "X", 26, 3, false, "", "", 40⟩, ⟨ "Deep", 4, 5, false, "", "", 56⟩], Go.Value.agg
  #[Go.Value.slice Option.none 0 0, Go.Value.int Go.IntKind.i64 0, Go.Value.int Go.IntKind.i64 0,
    Go.Value.int Go.IntKind.i64 0, Go.Value.int Go.IntKind.i64 0, Go.Value.bool Bool.false], 6, 64, true, [.sl true 0 0 (fun _ => []), .v (.int .i64 0), .v (.int .i64 0), .v (.int .i64 0), .v (.int .i64 0), .v (.bool false)], [(0, 2), (2, 1), (3, 2), (5, 1)], none⟩
def ti50 : TI := ⟨.struct #[⟨ "H", 24, 0, false, "", "", 0⟩, ⟨ "Root", 3, 2, false, "", "", 32⟩, ⟨ "X", 26, 3, false, "", "", 40⟩, ⟨ "Y", 26, 5, false, "", "", 56⟩], Go.Value.agg
  #[Go.Value.slice Option.none 0 0, Go.Value.int Go.IntKind.i64 0, Go.Value.int Go.IntKind.i64 0,
    Go.Value.int Go.IntKind.i64 0, Go.Value.int Go.IntKind.i64 0, Go.Value.int Go.IntKind.i64 0,
    Go.Value.int Go.IntKind.i64 0], 7, 72, true, [.sl true 0 0 (fun _ => []), .v (.int .i64 0), .v (.int .i64 0), .v (.int .i64 0), .v (.int .i64 0), .v (.int .i64 0), .v (.int .i64 0)], [(0, 2), (2, 1), (3, 2), (5, 2)], none⟩
def ti51 : TI := ⟨.struct #[⟨ "H", 24, 0, false, "", "", 0⟩, ⟨ "Root", 3, 2, false, "", "", 32⟩, ⟨ "X", 26, 3, false, "", "", 40⟩, ⟨ "Y", 26, 5, false, "", "", 56⟩], Go.Value.agg
  #[Go.Value.slice Option.none 0 0, Go.Value.int Go.IntKind.i64 0, Go.Value.int Go.IntKind.i64 0,
    Go.Value.int Go.IntKind.i64 0, Go.Value.int Go.IntKind.i64 0, Go.Value.int Go.IntKind.i64 0,
    Go.Value.int Go.IntKind.i64 0], 7, 72, true, [.sl true 0 0 (fun _ => []), .v (.int .i64 0), .v (.int .i64 0), .v (.int .i64 0), .v (.int .i64 0), .v (.int .i64 0), .v (.int .i64 0)], [(0, 2), (2, 1), (3, 2), (5, 2)], none⟩
def ti60 : TI := ⟨.struct #[⟨ "H", 24, 0, false, "", "", 0⟩, ⟨ "Root", 3, 2, false, "", "", 32⟩, ⟨ "Key", 3, 3, false, "", "", 40⟩, ⟨ "Lo", 3, 4, false, "", "", 48⟩, ⟨ "Hi", 3, 5, false, "", "", 56⟩, ⟨ "Most", 5, 6, false, "", "", 64⟩], Go.Value.agg
  #[Go.Value.slice Option.none 0 0, Go.Value.int Go.IntKind.i64 0, Go.Value.int Go.IntKind.i64 0,
    Go.Value.int Go.IntKind.i64 0, Go.Value.int Go.IntKind.i64 0, Go.Value.int Go.IntKind.i64 0,
    Go.Value.int Go.IntKind.u8 0], 7, 72, true, [.sl true 0 0 (fun _ => []), .v (.int .i64 0), .v (.int .i64 0), .v (.int .i64 0), .v (.int .i64 0), .v (.int .i64 0), .v (.int .u8 0)], [(0, 2), (2, 1), (3, 1), (4, 1), (5, 1), (6, 1)], none⟩
def ti61 : TI := ⟨.struct #[⟨ "H", 24, 0, false, "", "", 0⟩, ⟨ "Root", 3, 2, false, "", "", 32⟩, ⟨ "Key", 3, 3, false, "", "", 40⟩, ⟨ "Lo", 3, 4, false, "", "", 48⟩, ⟨ "Hi", 3, 5, false, "", "", 56⟩, ⟨ "Most", 5, 6, false, "", "", 64⟩], Go.Value.agg
  #[Go.Value.slice Option.none 0 0, Go.Value.int Go.IntKind.i64 0, Go.Value.int Go.IntKind.i64 0,
    Go.Value.int Go.IntKind.i64 0, Go.Value.int Go.IntKind.i64 0, Go.Value.int Go.IntKind.i64 0,
    Go.Value.int Go.IntKind.u8 0], 7, 72, true, [.sl true 0 0 (fun _ => []), .v (.int .i64 0), .v (.int .i64 0), .v (.int .i64 0), .v (.int .i64 0), .v (.int .i64 0), .v (.int .u8 0)], [(0, 2), (2, 1), (3, 1), (4, 1), (5, 1), (6, 1)], none⟩
def ti70 : TI := ⟨.struct #[⟨ "H", 24, 0, false, "", "", 0⟩, ⟨ "Root", 3, 2, false, "", "", 32⟩, ⟨ "Lo", 3, 3, false, "", "", 40⟩, ⟨ "Hi", 3, 4, false, "", "", 48⟩, ⟨ "Most", 5, 5, false, "", "", 56⟩], Go.Value.agg
  #[Go.Value.slice Option.none 0 0, Go.Value.int Go.IntKind.i64 0, Go.Value.int Go.IntKind.i64 0,
    Go.Value.int Go.IntKind.i64 0, Go.Value.int Go.IntKind.i64 0, Go.Value.int Go.IntKind.u8 0], 6, 64, true, [.sl true 0 0 (fun _ => []), .v (.int .i64 0), .v (.int .i64 0), .v (.int .i64 0), .v (.int .i64 0), .v (.int .u8 0)], [(0, 2), (2, 1), (3, 1), (4, 1), (5, 1)], none⟩
def ti71 : TI := ⟨.struct #[⟨ "H", 24, 0, false, "", "", 0⟩, ⟨ "Root", 3, 2, false, "", "", 32⟩, ⟨ "Lo", 3, 3, false, "", "", 40⟩, ⟨ "Hi", 3, 4, false, "", "", 48⟩, ⟨ "Most", 5, 5, false, "", "", 56⟩], Go.Value.agg
  #[Go.Value.slice Option.none 0 0, Go.Value.int Go.IntKind.i64 0, Go.Value.int Go.IntKind.i64 0,
    Go.Value.int Go.IntKind.i64 0, Go.Value.int Go.IntKind.i64 0, Go.Value.int Go.IntKind.u8 0], 6, 64, true, [.sl true 0 0 (fun _ => []), .v (.int .i64 0), .v (.int .i64 0), .v (.int .i64 0), .v (.int .i64 0), .v (.int .u8 0)], [(0, 2), (2, 1), (3, 1), (4, 1), (5, 1)], none⟩
def ti76 : TI := ⟨.struct #[⟨ "Leaf", 4, 0, false, "", "", 0⟩, ⟨ "It", 27, 1, false, "", "", 8⟩], Go.Value.agg #[Go.Value.bool Bool.false, Go.Value.slice Option.none 0 0], 2, 32, true, [.v (.bool false), .sl true 0 0 (fun _ => [])], [(0, 1), (1, 1)], none⟩
def ti77 : TI := ⟨.struct #[⟨ "Leaf", 4, 0, false, "", "", 0⟩, ⟨ "It", 27, 1, false, "", "", 8⟩], Go.Value.agg #[Go.Value.bool Bool.false, Go.Value.slice Option.none 0 0], 2, 32, true, [.v (.bool false), .sl true 0 0 (fun _ => [])], [(0, 1), (1, 1)], none⟩
def ti78 : TI := ⟨.struct #[⟨ "Ref", 3, 0, false, "", "", 0⟩, ⟨ "Pin", 4, 1, false, "", "", 8⟩, ⟨ "N", 77, 2, false, "", "", 16⟩], Go.Value.agg
  #[Go.Value.int Go.IntKind.i64 0, Go.Value.bool Bool.false, Go.Value.bool Bool.false, Go.Value.slice Option.none 0 0], 4, 48, true, [.v (.int .i64 0), .v (.bool false), .v (.bool false), .sl true 0 0 (fun _ => [])], [(0, 1), (1, 1), (2, 2)], none⟩
def ti79 : TI := ⟨.struct #[⟨ "Ref", 3, 0, false, "", "", 0⟩, ⟨ "Pin", 4, 1, false, "", "", 8⟩, ⟨ "N", 77, 2, false, "", "", 16⟩], Go.Value.agg
  #[Go.Value.int Go.IntKind.i64 0, Go.Value.bool Bool.false, Go.Value.bool Bool.false, Go.Value.slice Option.none 0 0], 4, 48, true, [.v (.int .i64 0), .v (.bool false), .v (.bool false), .sl true 0 0 (fun _ => [])], [(0, 1), (1, 1), (2, 2)], none⟩
def ti84 : TI := ⟨.pointer 86, Go.Value.pointer Option.none, 1, 8, false, [.v (.pointer none)], [], none⟩
def ti85 : TI := ⟨.struct #[⟨ "Heap", 24, 0, true, "", "", 0⟩], Go.Value.agg #[Go.Value.slice Option.none 0 0, Go.Value.int Go.IntKind.i64 0], 2, 32, true, [.sl true 0 0 (fun _ => []), .v (.int .i64 0)], [(0, 2)], none⟩
def ti86 : TI := ⟨.struct #[⟨ "Heap", 24, 0, true, "", "", 0⟩], Go.Value.agg #[Go.Value.slice Option.none 0 0, Go.Value.int Go.IntKind.i64 0], 2, 32, true, [.sl true 0 0 (fun _ => []), .v (.int .i64 0)], [(0, 2)], none⟩
def ti97 : TI := ⟨.slice 144, Go.Value.slice Option.none 0 0, 1, 24, false, [.sl true 0 0 (fun _ => [])], [], some 144⟩
def ti109 : TI := ⟨.struct #[⟨ "Lo", 3, 0, false, "", "", 0⟩, ⟨ "Hi", 3, 1, false, "", "", 8⟩, ⟨ "High", 3, 2, false, "", "", 16⟩, ⟨ "Is", 4, 3, false, "", "", 24⟩], Go.Value.agg
  #[Go.Value.int Go.IntKind.i64 0, Go.Value.int Go.IntKind.i64 0, Go.Value.int Go.IntKind.i64 0,
    Go.Value.bool Bool.false], 4, 32, true, [.v (.int .i64 0), .v (.int .i64 0), .v (.int .i64 0), .v (.bool false)], [(0, 1), (1, 1), (2, 1), (3, 1)], none⟩
def ti110 : TI := ⟨.struct #[⟨ "Lo", 3, 0, false, "", "", 0⟩, ⟨ "Hi", 3, 1, false, "", "", 8⟩, ⟨ "High", 3, 2, false, "", "", 16⟩, ⟨ "Is", 4, 3, false, "", "", 24⟩], Go.Value.agg
  #[Go.Value.int Go.IntKind.i64 0, Go.Value.int Go.IntKind.i64 0, Go.Value.int Go.IntKind.i64 0,
    Go.Value.bool Bool.false], 4, 32, true, [.v (.int .i64 0), .v (.int .i64 0), .v (.int .i64 0), .v (.bool false)], [(0, 1), (1, 1), (2, 1), (3, 1)], none⟩
def ti112 : TI := ⟨.slice 27, Go.Value.slice Option.none 0 0, 1, 24, false, [.sl true 0 0 (fun _ => [])], [], some 27⟩
def ti122 : TI := ⟨.pointer 127, Go.Value.pointer Option.none, 1, 8, false, [.v (.pointer none)], [], none⟩
def ti126 : TI := ⟨.struct #[⟨ "h", 24, 0, false, "", "assart/heap", 0⟩], Go.Value.agg #[Go.Value.slice Option.none 0 0, Go.Value.int Go.IntKind.i64 0], 2, 32, true, [.sl true 0 0 (fun _ => []), .v (.int .i64 0)], [(0, 2)], none⟩
def ti127 : TI := ⟨.struct #[⟨ "h", 24, 0, false, "", "assart/heap", 0⟩], Go.Value.agg #[Go.Value.slice Option.none 0 0, Go.Value.int Go.IntKind.i64 0], 2, 32, true, [.sl true 0 0 (fun _ => []), .v (.int .i64 0)], [(0, 2)], none⟩
def ti129 : TI := ⟨.slice 4, Go.Value.slice Option.none 0 0, 1, 24, false, [.sl true 0 0 (fun _ => [])], [], some 4⟩
def ti148 : TI := ⟨.int .u64, Go.Value.int Go.IntKind.u64 0, 1, 8, false, [.v (.int .u64 0)], [], none⟩
def ti149 : TI := ⟨.pointer 79, Go.Value.pointer Option.none, 1, 8, false, [.v (.pointer none)], [], none⟩
def tabL : List (Nat × TI) := [
(24, ti24), (3, ti3), (22, ti22), (77, ti77), (27, ti27), (79, ti79), (26, ti26), (4, ti4), (41, ti41), (110, ti110), (112, ti112), (97, ti97), (84, ti84), (122, ti122), (32, ti32), (129, ti129), (5, ti5), (23, ti23), (25, ti25), (28, ti28), (29, ti29), (45, ti45), (46, ti46), (50, ti50), (51, ti51), (60, ti60), (61, ti61), (70, ti70), (71, ti71), (76, ti76), (78, ti78), (85, ti85), (86, ti86), (109, ti109), (126, ti126), (127, ti127), (148, ti148), (149, ti149)]
theorem ty24 : TyOK Try.prog 24 ti24 := ⟨by kernel_rfl, by kernel_rfl, rfl, by (repeat' first | exact True.intro | exact And.intro rfl rfl | exact And.intro rfl (And.intro rfl rfl) | refine And.intro ?_ ?_), rfl, by (repeat' first | exact True.intro | rfl | exact And.intro rfl (And.intro (by decide) (by kernel_rfl)) | refine And.intro ?_ ?_), rfl⟩
theorem ty3 : TyOK Try.prog 3 ti3 := ⟨by kernel_rfl, by kernel_rfl, rfl, by (repeat' first | exact True.intro | exact And.intro rfl rfl | exact And.intro rfl (And.intro rfl rfl) | refine And.intro ?_ ?_), rfl, by (repeat' first | exact True.intro | rfl | exact And.intro rfl (And.intro (by decide) (by kernel_rfl)) | refine And.intro ?_ ?_), rfl⟩
theorem ty22 : TyOK Try.prog 22 ti22 := ⟨by kernel_rfl, by kernel_rfl, rfl, by (repeat' first | exact True.intro | exact And.intro rfl rfl | exact And.intro rfl (And.intro rfl rfl) | refine And.intro ?_ ?_), rfl, by (repeat' first | exact True.intro | rfl | exact And.intro rfl (And.intro (by decide) (by kernel_rfl)) | refine And.intro ?_ ?_), rfl⟩
theorem ty77 : TyOK Try.prog 77 ti77 := ⟨by kernel_rfl, by kernel_rfl, rfl, by (repeat' first | exact True.intro | exact And.intro rfl rfl | exact And.intro rfl (And.intro rfl rfl) | refine And.intro ?_ ?_), rfl, by (repeat' first | exact True.intro | rfl | exact And.intro rfl (And.intro (by decide) (by kernel_rfl)) | refine And.intro ?_ ?_), rfl⟩
theorem ty27 : TyOK Try.prog 27 ti27 := ⟨by kernel_rfl, by kernel_rfl, rfl, by (repeat' first | exact True.intro | exact And.intro rfl rfl | exact And.intro rfl (And.intro rfl rfl) | refine And.intro ?_ ?_), rfl, by (repeat' first | exact True.intro | rfl | exact And.intro rfl (And.intro (by decide) (by kernel_rfl)) | refine And.intro ?_ ?_), rfl⟩
theorem ty79 : TyOK Try.prog 79 ti79 := ⟨by kernel_rfl, by kernel_rfl, rfl, by (repeat' first | exact True.intro | exact And.intro rfl rfl | exact And.intro rfl (And.intro rfl rfl) | refine And.intro ?_ ?_), rfl, by (repeat' first | exact True.intro | rfl | exact And.intro rfl (And.intro (by decide) (by kernel_rfl)) | refine And.intro ?_ ?_), rfl⟩
theorem ty26 : TyOK Try.prog 26 ti26 := ⟨by kernel_rfl, by kernel_rfl, rfl, by (repeat' first | exact True.intro | exact And.intro rfl rfl | exact And.intro rfl (And.intro rfl rfl) | refine And.intro ?_ ?_), rfl, by (repeat' first | exact True.intro | rfl | exact And.intro rfl (And.intro (by decide) (by kernel_rfl)) | refine And.intro ?_ ?_), rfl⟩
theorem ty4 : TyOK Try.prog 4 ti4 := ⟨by kernel_rfl, by kernel_rfl, rfl, by (repeat' first | exact True.intro | exact And.intro rfl rfl | exact And.intro rfl (And.intro rfl rfl) | refine And.intro ?_ ?_), rfl, by (repeat' first | exact True.intro | rfl | exact And.intro rfl (And.intro (by decide) (by kernel_rfl)) | refine And.intro ?_ ?_), rfl⟩
theorem ty41 : TyOK Try.prog 41 ti41 := ⟨by kernel_rfl, by kernel_rfl, rfl, by (repeat' first | exact True.intro | exact And.intro rfl rfl | exact And.intro rfl (And.intro rfl rfl) | refine And.intro ?_ ?_), rfl, by (repeat' first | exact True.intro | rfl | exact And.intro rfl (And.intro (by decide) (by kernel_rfl)) | refine And.intro ?_ ?_), rfl⟩
theorem ty110 : TyOK Try.prog 110 ti110 := ⟨by kernel_rfl, by kernel_rfl, rfl, by (repeat' first | exact True.intro | exact And.intro rfl rfl | exact And.intro rfl (And.intro rfl rfl) | refine And.intro ?_ ?_), rfl, by (repeat' first | exact True.intro | rfl | exact And.intro rfl (And.intro (by decide) (by kernel_rfl)) | refine And.intro ?_ ?_), rfl⟩
theorem ty112 : TyOK Try.prog 112 ti112 := ⟨by kernel_rfl, by kernel_rfl, rfl, by (repeat' first | exact True.intro | exact And.intro rfl rfl | exact And.intro rfl (And.intro rfl rfl) | refine And.intro ?_ ?_), rfl, by (repeat' first | exact True.intro | rfl | exact And.intro rfl (And.intro (by decide) (by kernel_rfl)) | refine And.intro ?_ ?_), rfl⟩
theorem ty97 : TyOK Try.prog 97 ti97 := ⟨by kernel_rfl, by kernel_rfl, rfl, by (repeat' first | exact True.intro | exact And.intro rfl rfl | exact And.intro rfl (And.intro rfl rfl) | refine And.intro ?_ ?_), rfl, by (repeat' first | exact True.intro | rfl | exact And.intro rfl (And.intro (by decide) (by kernel_rfl)) | refine And.intro ?_ ?_), rfl⟩
theorem ty84 : TyOK Try.prog 84 ti84 := ⟨by kernel_rfl, by kernel_rfl, rfl, by (repeat' first | exact True.intro | exact And.intro rfl rfl | exact And.intro rfl (And.intro rfl rfl) | refine And.intro ?_ ?_), rfl, by (repeat' first | exact True.intro | rfl | exact And.intro rfl (And.intro (by decide) (by kernel_rfl)) | refine And.intro ?_ ?_), rfl⟩
theorem ty122 : TyOK Try.prog 122 ti122 := ⟨by kernel_rfl, by kernel_rfl, rfl, by (repeat' first | exact True.intro | exact And.intro rfl rfl | exact And.intro rfl (And.intro rfl rfl) | refine And.intro ?_ ?_), rfl, by (repeat' first | exact True.intro | rfl | exact And.intro rfl (And.intro (by decide) (by kernel_rfl)) | refine And.intro ?_ ?_), rfl⟩
theorem ty32 : TyOK Try.prog 32 ti32 := ⟨by kernel_rfl, by kernel_rfl, rfl, by (repeat' first | exact True.intro | exact And.intro rfl rfl | exact And.intro rfl (And.intro rfl rfl) | refine And.intro ?_ ?_), rfl, by (repeat' first | exact True.intro | rfl | exact And.intro rfl (And.intro (by decide) (by kernel_rfl)) | refine And.intro ?_ ?_), rfl⟩
theorem ty129 : TyOK Try.prog 129 ti129 := ⟨by kernel_rfl, by kernel_rfl, rfl, by (repeat' first | exact True.intro | exact And.intro rfl rfl | exact And.intro rfl (And.intro rfl rfl) | refine And.intro ?_ ?_), rfl, by (repeat' first | exact True.intro | rfl | exact And.intro rfl (And.intro (by decide) (by kernel_rfl)) | refine And.intro ?_ ?_), rfl⟩
theorem ty5 : TyOK Try.prog 5 ti5 := ⟨by kernel_rfl, by kernel_rfl, rfl, by (repeat' first | exact True.intro | exact And.intro rfl rfl | exact And.intro rfl (And.intro rfl rfl) | refine And.intro ?_ ?_), rfl, by (repeat' first | exact True.intro | rfl | exact And.intro rfl (And.intro (by decide) (by kernel_rfl)) | refine And.intro ?_ ?_), rfl⟩
theorem ty23 : TyOK Try.prog 23 ti23 := ⟨by kernel_rfl, by kernel_rfl, rfl, by (repeat' first | exact True.intro | exact And.intro rfl rfl | exact And.intro rfl (And.intro rfl rfl) | refine And.intro ?_ ?_), rfl, by (repeat' first | exact True.intro | rfl | exact And.intro rfl (And.intro (by decide) (by kernel_rfl)) | refine And.intro ?_ ?_), rfl⟩
theorem ty25 : TyOK Try.prog 25 ti25 := ⟨by kernel_rfl, by kernel_rfl, rfl, by (repeat' first | exact True.intro | exact And.intro rfl rfl | exact And.intro rfl (And.intro rfl rfl) | refine And.intro ?_ ?_), rfl, by (repeat' first | exact True.intro | rfl | exact And.intro rfl (And.intro (by decide) (by kernel_rfl)) | refine And.intro ?_ ?_), rfl⟩
theorem ty28 : TyOK Try.prog 28 ti28 := ⟨by kernel_rfl, by kernel_rfl, rfl, by (repeat' first | exact True.intro | exact And.intro rfl rfl | exact And.intro rfl (And.intro rfl rfl) | refine And.intro ?_ ?_), rfl, by (repeat' first | exact True.intro | rfl | exact And.intro rfl (And.intro (by decide) (by kernel_rfl)) | refine And.intro ?_ ?_), rfl⟩
theorem ty29 : TyOK Try.prog 29 ti29 := ⟨by kernel_rfl, by kernel_rfl, rfl, by (repeat' first | exact True.intro | exact And.intro rfl rfl | exact And.intro rfl (And.intro rfl rfl) | refine And.intro ?_ ?_), rfl, by (repeat' first | exact True.intro | rfl | exact And.intro rfl (And.intro (by decide) (by kernel_rfl)) | refine And.intro ?_ ?_), rfl⟩
theorem ty45 : TyOK Try.prog 45 ti45 := ⟨by kernel_rfl, by kernel_rfl, rfl, by (repeat' first | exact True.intro | exact And.intro rfl rfl | exact And.intro rfl (And.intro rfl rfl) | refine And.intro ?_ ?_), rfl, by (repeat' first | exact True.intro | rfl | exact And.intro rfl (And.intro (by decide) (by kernel_rfl)) | refine And.intro ?_ ?_), rfl⟩
theorem ty46 : TyOK Try.prog 46 ti46 := ⟨by kernel_rfl, by kernel_rfl, rfl, by (repeat' first | exact True.intro | exact And.intro rfl rfl | exact And.intro rfl (And.intro rfl rfl) | refine And.intro ?_ ?_), rfl, by (repeat' first | exact True.intro | rfl | exact And.intro rfl (And.intro (by decide) (by kernel_rfl)) | refine And.intro ?_ ?_), rfl⟩
theorem ty50 : TyOK Try.prog 50 ti50 := ⟨by kernel_rfl, by kernel_rfl, rfl, by (repeat' first | exact True.intro | exact And.intro rfl rfl | exact And.intro rfl (And.intro rfl rfl) | refine And.intro ?_ ?_), rfl, by (repeat' first | exact True.intro | rfl | exact And.intro rfl (And.intro (by decide) (by kernel_rfl)) | refine And.intro ?_ ?_), rfl⟩
theorem ty51 : TyOK Try.prog 51 ti51 := ⟨by kernel_rfl, by kernel_rfl, rfl, by (repeat' first | exact True.intro | exact And.intro rfl rfl | exact And.intro rfl (And.intro rfl rfl) | refine And.intro ?_ ?_), rfl, by (repeat' first | exact True.intro | rfl | exact And.intro rfl (And.intro (by decide) (by kernel_rfl)) | refine And.intro ?_ ?_), rfl⟩
theorem ty60 : TyOK Try.prog 60 ti60 := ⟨by kernel_rfl, by kernel_rfl, rfl, by (repeat' first | exact True.intro | exact And.intro rfl rfl | exact And.intro rfl (And.intro rfl rfl) | refine And.intro ?_ ?_), rfl, by (repeat' first | exact True.intro | rfl | exact And.intro rfl (And.intro (by decide) (by kernel_rfl)) | refine And.intro ?_ ?_), rfl⟩
theorem ty61 : TyOK Try.prog 61 ti61 := ⟨by kernel_rfl, by kernel_rfl, rfl, by (repeat' first | exact True.intro | exact And.intro rfl rfl | exact And.intro rfl (And.intro rfl rfl) | refine And.intro ?_ ?_), rfl, by (repeat' first | exact True.intro | rfl | exact And.intro rfl (And.intro (by decide) (by kernel_rfl)) | refine And.intro ?_ ?_), rfl⟩
theorem ty70 : TyOK Try.prog 70 ti70 := ⟨by kernel_rfl, by kernel_rfl, rfl, by (repeat' first | exact True.intro | exact And.intro rfl rfl | exact And.intro rfl (And.intro rfl rfl) | refine And.intro ?_ ?_), rfl, by (repeat' first | exact True.intro | rfl | exact And.intro rfl (And.intro (by decide) (by kernel_rfl)) | refine And.intro ?_ ?_), rfl⟩
theorem ty71 : TyOK Try.prog 71 ti71 := ⟨by kernel_rfl, by kernel_rfl, rfl, by (repeat' first | exact True.intro | exact And.intro rfl rfl | exact And.intro rfl (And.intro rfl rfl) | refine And.intro ?_ ?_), rfl, by (repeat' first | exact True.intro | rfl | exact And.intro rfl (And.intro (by decide) (by kernel_rfl)) | refine And.intro ?_ ?_), rfl⟩
theorem ty76 : TyOK Try.prog 76 ti76 := ⟨by kernel_rfl, by kernel_rfl, rfl, by (repeat' first | exact True.intro | exact And.intro rfl rfl | exact And.intro rfl (And.intro rfl rfl) | refine And.intro ?_ ?_), rfl, by (repeat' first | exact True.intro | rfl | exact And.intro rfl (And.intro (by decide) (by kernel_rfl)) | refine And.intro ?_ ?_), rfl⟩
theorem ty78 : TyOK Try.prog 78 ti78 := ⟨by kernel_rfl, by kernel_rfl, rfl, by (repeat' first | exact True.intro | exact And.intro rfl rfl | exact And.intro rfl (And.intro rfl rfl) | refine And.intro ?_ ?_), rfl, by (repeat' first | exact True.intro | rfl | exact And.intro rfl (And.intro (by decide) (by kernel_rfl)) | refine And.intro ?_ ?_), rfl⟩
theorem ty85 : TyOK Try.prog 85 ti85 := ⟨by kernel_rfl, by kernel_rfl, rfl, by (repeat' first | exact True.intro | exact And.intro rfl rfl | exact And.intro rfl (And.intro rfl rfl) | refine And.intro ?_ ?_), rfl, by (repeat' first | exact True.intro | rfl | exact And.intro rfl (And.intro (by decide) (by kernel_rfl)) | refine And.intro ?_ ?_), rfl⟩
theorem ty86 : TyOK Try.prog 86 ti86 := ⟨by kernel_rfl, by kernel_rfl, rfl, by (repeat' first | exact True.intro | exact And.intro rfl rfl | exact And.intro rfl (And.intro rfl rfl) | refine And.intro ?_ ?_), rfl, by (repeat' first | exact True.intro | rfl | exact And.intro rfl (And.intro (by decide) (by kernel_rfl)) | refine And.intro ?_ ?_), rfl⟩
theorem ty109 : TyOK Try.prog 109 ti109 := ⟨by kernel_rfl, by kernel_rfl, rfl, by (repeat' first | exact True.intro | exact And.intro rfl rfl | exact And.intro rfl (And.intro rfl rfl) | refine And.intro ?_ ?_), rfl, by (repeat' first | exact True.intro | rfl | exact And.intro rfl (And.intro (by decide) (by kernel_rfl)) | refine And.intro ?_ ?_), rfl⟩
theorem ty126 : TyOK Try.prog 126 ti126 := ⟨by kernel_rfl, by kernel_rfl, rfl, by (repeat' first | exact True.intro | exact And.intro rfl rfl | exact And.intro rfl (And.intro rfl rfl) | refine And.intro ?_ ?_), rfl, by (repeat' first | exact True.intro | rfl | exact And.intro rfl (And.intro (by decide) (by kernel_rfl)) | refine And.intro ?_ ?_), rfl⟩
theorem ty127 : TyOK Try.prog 127 ti127 := ⟨by kernel_rfl, by kernel_rfl, rfl, by (repeat' first | exact True.intro | exact And.intro rfl rfl | exact And.intro rfl (And.intro rfl rfl) | refine And.intro ?_ ?_), rfl, by (repeat' first | exact True.intro | rfl | exact And.intro rfl (And.intro (by decide) (by kernel_rfl)) | refine And.intro ?_ ?_), rfl⟩
theorem ty148 : TyOK Try.prog 148 ti148 := ⟨by kernel_rfl, by kernel_rfl, rfl, by (repeat' first | exact True.intro | exact And.intro rfl rfl | exact And.intro rfl (And.intro rfl rfl) | refine And.intro ?_ ?_), rfl, by (repeat' first | exact True.intro | rfl | exact And.intro rfl (And.intro (by decide) (by kernel_rfl)) | refine And.intro ?_ ?_), rfl⟩
theorem ty149 : TyOK Try.prog 149 ti149 := ⟨by kernel_rfl, by kernel_rfl, rfl, by (repeat' first | exact True.intro | exact And.intro rfl rfl | exact And.intro rfl (And.intro rfl rfl) | refine And.intro ?_ ?_), rfl, by (repeat' first | exact True.intro | rfl | exact And.intro rfl (And.intro (by decide) (by kernel_rfl)) | refine And.intro ?_ ?_), rfl⟩
-- 38
theorem tabL_ok : ∀ p, p ∈ tabL → TyOK Try.prog p.1 p.2 := by
  intro p hp
  simp only [tabL, List.mem_cons, List.not_mem_nil, or_false] at hp
  rcases hp with rfl | rfl | rfl | rfl | rfl | rfl | rfl | rfl | rfl | rfl | rfl | rfl | rfl | rfl | rfl | rfl | rfl | rfl | rfl | rfl | rfl | rfl | rfl | rfl | rfl | rfl | rfl | rfl | rfl | rfl | rfl | rfl | rfl | rfl | rfl | rfl | rfl | rfl
  · exact ty24
  · exact ty3
  · exact ty22
  · exact ty77
  · exact ty27
  · exact ty79
  · exact ty26
  · exact ty4
  · exact ty41
  · exact ty110
  · exact ty112
  · exact ty97
  · exact ty84
  · exact ty122
  · exact ty32
  · exact ty129
  · exact ty5
  · exact ty23
  · exact ty25
  · exact ty28
  · exact ty29
  · exact ty45
  · exact ty46
  · exact ty50
  · exact ty51
  · exact ty60
  · exact ty61
  · exact ty70
  · exact ty71
  · exact ty76
  · exact ty78
  · exact ty85
  · exact ty86
  · exact ty109
  · exact ty126
  · exact ty127
  · exact ty148
  · exact ty149

def findT : List (Nat × TI) → Nat → Option TI
  | [], _ => none
  | (k, i) :: r, t => match Nat.beq k t with
    | true => some i
    | false => findT r t

theorem findT_mem : ∀ {l : List (Nat × TI)} {t : Nat} {i : TI}, findT l t = some i → (t, i) ∈ l
  | [], _, _, h => by cases h
  | (k, j) :: r, t, i, h => by
    unfold findT at h
    split at h
    · rename_i hk
      injection h with h
      subst h
      obtain rfl := Nat.eq_of_beq_eq_true hk
      exact List.mem_cons_self
    · exact List.mem_cons_of_mem _ (findT_mem h)

def tab : Tab := findT tabL
theorem tab_ok : TabOK Try.prog tab := fun t i h => tabL_ok (t, i) (findT_mem h)
theorem mixed : Try.prog.follows .mixedOrders = true := by kernel_rfl

end Go.Proofs.Abs
