/-
  the types, and what a function's proof begins with.
-/
import Derived.Test.YtmkjebpdcclfdaaFb
import Derived.Test.YtmkjebpdcclfdaaProg
import Derived.Test.YtmkjebpdcclfdaaFh
import Derived.Test.YtmkjebpdcclfdaaFi
set_option linter.unusedSectionVars false
namespace Go.Lk
open Go
def tt0 : TT := (.node 16 ⟨.ptr 91, 1, 8, [.nilp]⟩ (.node 9 ⟨.str, 1, 16, [.str .empty]⟩ (.node 4 ⟨.bool, 1, 1, [.bool false]⟩ (.node 3 ⟨.int .i64, 1, 8, [.int .i64 0]⟩ (.node 2 ⟨.int .i64, 1, 8, [.int .i64 0]⟩ .leaf .leaf) .leaf) (.node 6 ⟨.int .u8, 1, 1, [.int .u8 0]⟩ (.node 5 ⟨.int .u8, 1, 1, [.int .u8 0]⟩ .leaf .leaf) .leaf)) (.node 12 ⟨.int .u64, 1, 8, [.int .u64 0]⟩ (.node 11 ⟨.str, 1, 16, [.str .empty]⟩ (.node 10 ⟨.str, 1, 16, [.str .empty]⟩ .leaf .leaf) .leaf) (.node 15 ⟨.ptr 88, 1, 8, [.nilp]⟩ .leaf .leaf))) (.node 25 ⟨.slice 52, 1, 24, [.lst []]⟩ (.node 22 ⟨.slice 41, 1, 24, [.lst []]⟩ (.node 21 ⟨.int .i32, 1, 4, [.int .i32 0]⟩ (.node 17 ⟨.ptr 101, 1, 8, [.nilp]⟩ .leaf .leaf) .leaf) (.node 24 ⟨.struct [(0, 22)], 1, 24, [.lst []]⟩ (.node 23 ⟨.struct [(0, 22)], 1, 24, [.lst []]⟩ .leaf .leaf) .leaf)) (.node 38 ⟨.struct [(0, 3), (1, 3), (2, 9)], 3, 32, [.int .i64 0, .int .i64 0, .str .empty]⟩ (.node 31 ⟨.int .i64, 1, 8, [.int .i64 0]⟩ (.node 29 ⟨.slice 43, 1, 24, [.lst []]⟩ .leaf .leaf) .leaf) (.node 39 ⟨.struct [(0, 3), (1, 3), (2, 9)], 3, 32, [.int .i64 0, .int .i64 0, .str .empty]⟩ .leaf .leaf))))
def tt1 : TT := (.node 63 ⟨.struct [(0, 3), (1, 41)], 4, 40, [.int .i64 0, .int .i64 0, .int .i64 0, .str .empty]⟩ (.node 50 ⟨.struct [(0, 3), (1, 3), (2, 9)], 3, 32, [.int .i64 0, .int .i64 0, .str .empty]⟩ (.node 43 ⟨.struct [(0, 3), (1, 39), (4, 3), (5, 41), (8, 3), (9, 3), (10, 3)], 11, 104, [.int .i64 0, .int .i64 0, .int .i64 0, .str .empty, .int .i64 0, .int .i64 0, .int .i64 0, .str .empty, .int .i64 0, .int .i64 0, .int .i64 0]⟩ (.node 42 ⟨.struct [(0, 3), (1, 39), (4, 3), (5, 41), (8, 3), (9, 3), (10, 3)], 11, 104, [.int .i64 0, .int .i64 0, .int .i64 0, .str .empty, .int .i64 0, .int .i64 0, .int .i64 0, .str .empty, .int .i64 0, .int .i64 0, .int .i64 0]⟩ (.node 41 ⟨.struct [(0, 3), (1, 3), (2, 9)], 3, 32, [.int .i64 0, .int .i64 0, .str .empty]⟩ .leaf .leaf) .leaf) (.node 49 ⟨.struct [(0, 31), (1, 41)], 4, 40, [.int .i64 0, .int .i64 0, .int .i64 0, .str .empty]⟩ (.node 48 ⟨.struct [(0, 31), (1, 41)], 4, 40, [.int .i64 0, .int .i64 0, .int .i64 0, .str .empty]⟩ .leaf .leaf) .leaf)) (.node 55 ⟨.slice 50, 1, 24, [.lst []]⟩ (.node 52 ⟨.struct [(0, 3), (1, 50), (4, 49), (8, 3), (9, 3), (10, 3)], 11, 104, [.int .i64 0, .int .i64 0, .int .i64 0, .str .empty, .int .i64 0, .int .i64 0, .int .i64 0, .str .empty, .int .i64 0, .int .i64 0, .int .i64 0]⟩ (.node 51 ⟨.struct [(0, 3), (1, 50), (4, 49), (8, 3), (9, 3), (10, 3)], 11, 104, [.int .i64 0, .int .i64 0, .int .i64 0, .str .empty, .int .i64 0, .int .i64 0, .int .i64 0, .str .empty, .int .i64 0, .int .i64 0, .int .i64 0]⟩ .leaf .leaf) .leaf) (.node 57 ⟨.slice 49, 1, 24, [.lst []]⟩ .leaf .leaf))) (.node 94 ⟨.int .u8, 1, 1, [.int .u8 0]⟩ (.node 80 ⟨.slice 3, 1, 24, [.lst []]⟩ (.node 77 ⟨.arr 17 41, 51, 544, [.int .i64 0, .int .i64 0, .str .empty, .int .i64 0, .int .i64 0, .str .empty, .int .i64 0, .int .i64 0, .str .empty, .int .i64 0, .int .i64 0, .str .empty, .int .i64 0, .int .i64 0, .str .empty, .int .i64 0, .int .i64 0, .str .empty, .int .i64 0, .int .i64 0, .str .empty, .int .i64 0, .int .i64 0, .str .empty, .int .i64 0, .int .i64 0, .str .empty, .int .i64 0, .int .i64 0, .str .empty, .int .i64 0, .int .i64 0, .str .empty, .int .i64 0, .int .i64 0, .str .empty, .int .i64 0, .int .i64 0, .str .empty, .int .i64 0, .int .i64 0, .str .empty, .int .i64 0, .int .i64 0, .str .empty, .int .i64 0, .int .i64 0, .str .empty, .int .i64 0, .int .i64 0, .str .empty]⟩ (.node 64 ⟨.struct [(0, 3), (1, 41)], 4, 40, [.int .i64 0, .int .i64 0, .int .i64 0, .str .empty]⟩ .leaf .leaf) .leaf) (.node 93 ⟨.int .u32, 1, 4, [.int .u32 0]⟩ (.node 84 ⟨.int .u64, 1, 8, [.int .u64 0]⟩ .leaf .leaf) .leaf)) (.node 98 ⟨.int .i32, 1, 4, [.int .i32 0]⟩ (.node 97 ⟨.ptr 5, 1, 8, [.nilp]⟩ (.node 95 ⟨.int .u8, 1, 1, [.int .u8 0]⟩ .leaf .leaf) .leaf) (.node 99 ⟨.int .i32, 1, 4, [.int .i32 0]⟩ .leaf .leaf))))
def tt : TT := (.node 40 ⟨.struct [(0, 3), (1, 3), (2, 9)], 3, 32, [.int .i64 0, .int .i64 0, .str .empty]⟩ tt0 tt1)
def T : Tab := fun t => tt.get t
theorem tabOk : TabOk Go.Proofs.Try.prog T := tabOk_of (by kernel_rfl)
end Go.Lk

set_option linter.unusedVariables false
namespace Go.Lk
open Go Go.Proofs Go.RowKit
theorem mixed : Try.prog.follows .mixedOrders = true := by kernel_rfl
theorem acall_of {f : FuncId} {fn : Func} {args : List D} {d : D} (hf : Try.prog.funcs[f]? = some fn) (n : Nat) (hn : args.length = n) (hc : fnChk fn n = true) (h : AFn T Try.prog fn args d) : ACall Try.prog f args d :=
  acall_sound tabOk mixed hf (by subst hn; exact hc) h
theorem ocall_of {f : FuncId} {fn : Func} {args : List D} {l : List (List D)} {sz : Nat} (hf : Try.prog.funcs[f]? = some fn) (n : Nat) (hn : args.length = n) (hc : fnChk fn n = true) (h : AFnO T Try.prog fn args l sz) : OCall Try.prog f args l sz :=
  ocall_sound tabOk mixed hf (by subst hn; exact hc) h
theorem scall_of {f : FuncId} {fn : Func} {args : List D} {cs : List SC} (hf : Try.prog.funcs[f]? = some fn) (n : Nat) (hn : args.length = n) (hc : fnChk fn n = true) (h : AFnS T Try.prog fn args cs) : SCall Try.prog f args cs :=
  scall_sound tabOk mixed hf (by subst hn; exact hc) h
theorem hcall_of {f : FuncId} {fn : Func} {args : List AV} {pre post : List (Nat × Blk)} {d : D} (hf : Try.prog.funcs[f]? = some fn) (n : Nat) (hn : args.length = n) (hc : fnChk fn n = true)
    (hpl : (plainVs args && (plainH pre && (sameN pre post && nodupN post))) = true) (h : AFnH T Try.prog fn args pre post d) : HCall Try.prog f args pre post d :=
  hcall_sound tabOk mixed hf (by subst hn; exact hc) hpl h
theorem wcall_of {f : FuncId} {fn : Func} {l l' : List (List D)} {sz : Nat} {rest : List AV} {pre post : List (Nat × Blk)} (hf : Try.prog.funcs[f]? = some fn) (n : Nat) (hn : rest.length + 1 = n) (hc : fnChk fn n = true)
    (hpl : (plainVs rest && (!killV.parts 1000004 rest && (plainH ((1000004, .row l sz false) :: pre) && (sameN pre post && (nodupN ((1000004, .row l' sz false) :: post) && (rowsH pre && rowsH post)))))) = true) (h : AFnW T Try.prog fn l sz rest pre post l') : WCall Try.prog f l sz rest pre post l' :=
  wcall_sound tabOk mixed hf (by subst hn; exact hc) hpl h
end Go.Lk

