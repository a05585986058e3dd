/-
  What is proved here: what functions of the program compute, and what follows; no condition beyond each theorem's own.
-/
import Derived.Test.YtfpmffadpjoogaaGreatBAa
import Derived.Test.YtfpmffadpjoogaaGreatProg
import Derived.Test.YtfpmffadpjoogaaGreatBAd
import Derived.Shelf.Strings.Repeat
import Derived.RangeFuncNested
import Derived.RangeFuncBound
import Derived.RangeFuncCalls
import Derived.RangeFuncLeaves
import Derived.RangeFuncBox
import Derived.Shelf.Abstract
import Derived.Shelf.RegionOpen
import Derived.WalkKit
import Derived.OwnWalkIn
import Derived.TacticsInMore
import Derived.LoopNIn
import Derived.LoopIn
set_option linter.unusedSimpArgs false
set_option linter.unusedVariables false
set_option linter.unnecessarySimpa false
set_option linter.unusedSectionVars false
namespace Go.Lk
open Go
def tt0 : TT := (.node 16 ⟨.ptr 262, 1, 8, [.nilp]⟩ (.node 9 ⟨.str, 1, 16, [.str .empty]⟩ (.node 4 ⟨.bool, 1, 1, [.bool false]⟩ (.node 3 ⟨.int .i64, 1, 8, [.int .i64 0]⟩ (.node 2 ⟨.int .i64, 1, 8, [.int .i64 0]⟩ .leaf .leaf) .leaf) (.node 6 ⟨.int .u8, 1, 1, [.int .u8 0]⟩ (.node 5 ⟨.int .u8, 1, 1, [.int .u8 0]⟩ .leaf .leaf) .leaf)) (.node 12 ⟨.int .u64, 1, 8, [.int .u64 0]⟩ (.node 11 ⟨.str, 1, 16, [.str .empty]⟩ (.node 10 ⟨.str, 1, 16, [.str .empty]⟩ .leaf .leaf) .leaf) (.node 15 ⟨.ptr 259, 1, 8, [.nilp]⟩ .leaf .leaf))) (.node 26 ⟨.struct [(0, 25), (1, 3)], 2, 32, [.lst [], .int .i64 0]⟩ (.node 22 ⟨.slice 54, 1, 24, [.lst []]⟩ (.node 21 ⟨.int .i32, 1, 4, [.int .i32 0]⟩ (.node 17 ⟨.ptr 269, 1, 8, [.nilp]⟩ .leaf .leaf) .leaf) (.node 25 ⟨.slice 128, 1, 24, [.lst []]⟩ .leaf .leaf)) (.node 29 ⟨.struct [(0, 28)], 1, 24, [.lst []]⟩ (.node 28 ⟨.slice 164, 1, 24, [.lst []]⟩ (.node 27 ⟨.struct [(0, 25), (1, 3)], 2, 32, [.lst [], .int .i64 0]⟩ .leaf .leaf) .leaf) (.node 30 ⟨.struct [(0, 28)], 1, 24, [.lst []]⟩ .leaf .leaf))))
def tt1 : TT := (.node 41 ⟨.struct [(0, 3), (1, 3), (2, 9)], 3, 32, [.int .i64 0, .int .i64 0, .str .empty]⟩ (.node 36 ⟨.slice 117, 1, 24, [.lst []]⟩ (.node 34 ⟨.struct [(0, 27), (2, 30), (3, 31), (4, 32)], 5, 104, [.lst [], .int .i64 0, .lst [], .lst [], .lst []]⟩ (.node 33 ⟨.struct [(0, 27), (2, 30), (3, 31), (4, 32)], 5, 104, [.lst [], .int .i64 0, .lst [], .lst [], .lst []]⟩ (.node 32 ⟨.slice 76, 1, 24, [.lst []]⟩ .leaf .leaf) .leaf) (.node 35 ⟨.slice 9, 1, 24, [.lst []]⟩ .leaf .leaf)) (.node 39 ⟨.struct [(0, 34), (5, 38), (7, 3)], 8, 160, [.lst [], .int .i64 0, .lst [], .lst [], .lst [], .lst [], .lst [], .int .i64 0]⟩ (.node 38 ⟨.struct [(0, 35), (1, 36)], 2, 48, [.lst [], .lst []]⟩ (.node 37 ⟨.struct [(0, 35), (1, 36)], 2, 48, [.lst [], .lst []]⟩ .leaf .leaf) .leaf) (.node 40 ⟨.struct [(0, 34), (5, 38), (7, 3)], 8, 160, [.lst [], .int .i64 0, .lst [], .lst [], .lst [], .lst [], .lst [], .int .i64 0]⟩ .leaf .leaf))) (.node 46 ⟨.struct [(0, 43), (51, 44), (68, 3)], 69, 688, [.int .i64 0, .int .i64 0, .str .empty, .int .i64 0, .int .i64 0, .str .empty, .int .i64 0, .int .i64 0, .str .empty, .int .i64 0, .int .i64 0, .str .empty, .int .i64 0, .int .i64 0, .str .empty, .int .i64 0, .int .i64 0, .str .empty, .int .i64 0, .int .i64 0, .str .empty, .int .i64 0, .int .i64 0, .str .empty, .int .i64 0, .int .i64 0, .str .empty, .int .i64 0, .int .i64 0, .str .empty, .int .i64 0, .int .i64 0, .str .empty, .int .i64 0, .int .i64 0, .str .empty, .int .i64 0, .int .i64 0, .str .empty, .int .i64 0, .int .i64 0, .str .empty, .int .i64 0, .int .i64 0, .str .empty, .int .i64 0, .int .i64 0, .str .empty, .int .i64 0, .int .i64 0, .str .empty, .int .i64 0, .int .i64 0, .int .i64 0, .int .i64 0, .int .i64 0, .int .i64 0, .int .i64 0, .int .i64 0, .int .i64 0, .int .i64 0, .int .i64 0, .int .i64 0, .int .i64 0, .int .i64 0, .int .i64 0, .int .i64 0, .int .i64 0, .int .i64 0]⟩ (.node 44 ⟨.arr 17 3, 17, 136, [.int .i64 0, .int .i64 0, .int .i64 0, .int .i64 0, .int .i64 0, .int .i64 0, .int .i64 0, .int .i64 0, .int .i64 0, .int .i64 0, .int .i64 0, .int .i64 0, .int .i64 0, .int .i64 0, .int .i64 0, .int .i64 0, .int .i64 0]⟩ (.node 43 ⟨.arr 17 42, 51, 544, [.int .i64 0, .int .i64 0, .str .empty, .int .i64 0, .int .i64 0, .str .empty, .int .i64 0, .int .i64 0, .str .empty, .int .i64 0, .int .i64 0, .str .empty, .int .i64 0, .int .i64 0, .str .empty, .int .i64 0, .int .i64 0, .str .empty, .int .i64 0, .int .i64 0, .str .empty, .int .i64 0, .int .i64 0, .str .empty, .int .i64 0, .int .i64 0, .str .empty, .int .i64 0, .int .i64 0, .str .empty, .int .i64 0, .int .i64 0, .str .empty, .int .i64 0, .int .i64 0, .str .empty, .int .i64 0, .int .i64 0, .str .empty, .int .i64 0, .int .i64 0, .str .empty, .int .i64 0, .int .i64 0, .str .empty, .int .i64 0, .int .i64 0, .str .empty, .int .i64 0, .int .i64 0, .str .empty]⟩ (.node 42 ⟨.struct [(0, 3), (1, 3), (2, 9)], 3, 32, [.int .i64 0, .int .i64 0, .str .empty]⟩ .leaf .leaf) .leaf) (.node 45 ⟨.struct [(0, 43), (51, 44), (68, 3)], 69, 688, [.int .i64 0, .int .i64 0, .str .empty, .int .i64 0, .int .i64 0, .str .empty, .int .i64 0, .int .i64 0, .str .empty, .int .i64 0, .int .i64 0, .str .empty, .int .i64 0, .int .i64 0, .str .empty, .int .i64 0, .int .i64 0, .str .empty, .int .i64 0, .int .i64 0, .str .empty, .int .i64 0, .int .i64 0, .str .empty, .int .i64 0, .int .i64 0, .str .empty, .int .i64 0, .int .i64 0, .str .empty, .int .i64 0, .int .i64 0, .str .empty, .int .i64 0, .int .i64 0, .str .empty, .int .i64 0, .int .i64 0, .str .empty, .int .i64 0, .int .i64 0, .str .empty, .int .i64 0, .int .i64 0, .str .empty, .int .i64 0, .int .i64 0, .str .empty, .int .i64 0, .int .i64 0, .str .empty, .int .i64 0, .int .i64 0, .int .i64 0, .int .i64 0, .int .i64 0, .int .i64 0, .int .i64 0, .int .i64 0, .int .i64 0, .int .i64 0, .int .i64 0, .int .i64 0, .int .i64 0, .int .i64 0, .int .i64 0, .int .i64 0, .int .i64 0, .int .i64 0]⟩ .leaf .leaf)) (.node 53 ⟨.struct [(0, 3), (1, 3), (2, 9)], 3, 32, [.int .i64 0, .int .i64 0, .str .empty]⟩ (.node 50 ⟨.int .i64, 1, 8, [.int .i64 0]⟩ (.node 49 ⟨.slice 133, 1, 24, [.lst []]⟩ .leaf .leaf) .leaf) (.node 54 ⟨.struct [(0, 3), (1, 3), (2, 9)], 3, 32, [.int .i64 0, .int .i64 0, .str .empty]⟩ .leaf .leaf))))
def tt2 : TT := (.node 90 ⟨.struct [(0, 79), (11, 46), (80, 89)], 97, 1272, [.lst [], .int .i64 0, .lst [], .lst [], .lst [], .lst [], .lst [], .int .i64 0, .int .i64 0, .bool false, .bool false, .int .i64 0, .int .i64 0, .str .empty, .int .i64 0, .int .i64 0, .str .empty, .int .i64 0, .int .i64 0, .str .empty, .int .i64 0, .int .i64 0, .str .empty, .int .i64 0, .int .i64 0, .str .empty, .int .i64 0, .int .i64 0, .str .empty, .int .i64 0, .int .i64 0, .str .empty, .int .i64 0, .int .i64 0, .str .empty, .int .i64 0, .int .i64 0, .str .empty, .int .i64 0, .int .i64 0, .str .empty, .int .i64 0, .int .i64 0, .str .empty, .int .i64 0, .int .i64 0, .str .empty, .int .i64 0, .int .i64 0, .str .empty, .int .i64 0, .int .i64 0, .str .empty, .int .i64 0, .int .i64 0, .str .empty, .int .i64 0, .int .i64 0, .str .empty, .int .i64 0, .int .i64 0, .str .empty, .int .i64 0, .int .i64 0, .int .i64 0, .int .i64 0, .int .i64 0, .int .i64 0, .int .i64 0, .int .i64 0, .int .i64 0, .int .i64 0, .int .i64 0, .int .i64 0, .int .i64 0, .int .i64 0, .int .i64 0, .int .i64 0, .int .i64 0, .int .i64 0, .lst [], .lst [], .lst [], .lst [], .lst [], .lst [], .lst [], .lst [], .lst [], .lst [], .lst [], .lst [], .lst [], .lst [], .lst [], .lst [], .lst []]⟩ (.node 79 ⟨.struct [(0, 40), (8, 3), (9, 4), (10, 4)], 11, 176, [.lst [], .int .i64 0, .lst [], .lst [], .lst [], .lst [], .lst [], .int .i64 0, .int .i64 0, .bool false, .bool false]⟩ (.node 76 ⟨.struct [(0, 3), (1, 3)], 2, 16, [.int .i64 0, .int .i64 0]⟩ (.node 75 ⟨.struct [(0, 3), (1, 3)], 2, 16, [.int .i64 0, .int .i64 0]⟩ (.node 74 ⟨.arr 17 4, 17, 17, [.bool false, .bool false, .bool false, .bool false, .bool false, .bool false, .bool false, .bool false, .bool false, .bool false, .bool false, .bool false, .bool false, .bool false, .bool false, .bool false, .bool false]⟩ .leaf .leaf) .leaf) (.node 78 ⟨.struct [(0, 40), (8, 3), (9, 4), (10, 4)], 11, 176, [.lst [], .int .i64 0, .lst [], .lst [], .lst [], .lst [], .lst [], .int .i64 0, .int .i64 0, .bool false, .bool false]⟩ .leaf .leaf)) (.node 88 ⟨.struct [(0, 87)], 17, 408, [.lst [], .lst [], .lst [], .lst [], .lst [], .lst [], .lst [], .lst [], .lst [], .lst [], .lst [], .lst [], .lst [], .lst [], .lst [], .lst [], .lst []]⟩ (.node 87 ⟨.arr 17 31, 17, 408, [.lst [], .lst [], .lst [], .lst [], .lst [], .lst [], .lst [], .lst [], .lst [], .lst [], .lst [], .lst [], .lst [], .lst [], .lst [], .lst [], .lst []]⟩ (.node 86 ⟨.slice 3, 1, 24, [.lst []]⟩ .leaf .leaf) .leaf) (.node 89 ⟨.struct [(0, 87)], 17, 408, [.lst [], .lst [], .lst [], .lst [], .lst [], .lst [], .lst [], .lst [], .lst [], .lst [], .lst [], .lst [], .lst [], .lst [], .lst [], .lst [], .lst []]⟩ .leaf .leaf))) (.node 116 ⟨.struct [(0, 3), (1, 9)], 2, 24, [.int .i64 0, .str .empty]⟩ (.node 101 ⟨.struct [(0, 3), (1, 3), (2, 54), (5, 86), (6, 86)], 7, 96, [.int .i64 0, .int .i64 0, .int .i64 0, .int .i64 0, .str .empty, .lst [], .lst []]⟩ (.node 99 ⟨.slice 102, 1, 24, [.lst []]⟩ (.node 91 ⟨.struct [(0, 79), (11, 46), (80, 89)], 97, 1272, [.lst [], .int .i64 0, .lst [], .lst [], .lst [], .lst [], .lst [], .int .i64 0, .int .i64 0, .bool false, .bool false, .int .i64 0, .int .i64 0, .str .empty, .int .i64 0, .int .i64 0, .str .empty, .int .i64 0, .int .i64 0, .str .empty, .int .i64 0, .int .i64 0, .str .empty, .int .i64 0, .int .i64 0, .str .empty, .int .i64 0, .int .i64 0, .str .empty, .int .i64 0, .int .i64 0, .str .empty, .int .i64 0, .int .i64 0, .str .empty, .int .i64 0, .int .i64 0, .str .empty, .int .i64 0, .int .i64 0, .str .empty, .int .i64 0, .int .i64 0, .str .empty, .int .i64 0, .int .i64 0, .str .empty, .int .i64 0, .int .i64 0, .str .empty, .int .i64 0, .int .i64 0, .str .empty, .int .i64 0, .int .i64 0, .str .empty, .int .i64 0, .int .i64 0, .str .empty, .int .i64 0, .int .i64 0, .str .empty, .int .i64 0, .int .i64 0, .int .i64 0, .int .i64 0, .int .i64 0, .int .i64 0, .int .i64 0, .int .i64 0, .int .i64 0, .int .i64 0, .int .i64 0, .int .i64 0, .int .i64 0, .int .i64 0, .int .i64 0, .int .i64 0, .int .i64 0, .int .i64 0, .lst [], .lst [], .lst [], .lst [], .lst [], .lst [], .lst [], .lst [], .lst [], .lst [], .lst [], .lst [], .lst [], .lst [], .lst [], .lst [], .lst []]⟩ .leaf .leaf) .leaf) (.node 102 ⟨.struct [(0, 3), (1, 3), (2, 54), (5, 86), (6, 86)], 7, 96, [.int .i64 0, .int .i64 0, .int .i64 0, .int .i64 0, .str .empty, .lst [], .lst []]⟩ .leaf .leaf)) (.node 119 ⟨.struct [(0, 4), (1, 117)], 3, 32, [.bool false, .int .i64 0, .str .empty]⟩ (.node 118 ⟨.struct [(0, 4), (1, 117)], 3, 32, [.bool false, .int .i64 0, .str .empty]⟩ (.node 117 ⟨.struct [(0, 3), (1, 9)], 2, 24, [.int .i64 0, .str .empty]⟩ .leaf .leaf) .leaf) (.node 127 ⟨.struct [(0, 3), (1, 3), (2, 4)], 3, 24, [.int .i64 0, .int .i64 0, .bool false]⟩ .leaf .leaf))))
def tt3 : TT := (.node 213 ⟨.int .u64, 1, 8, [.int .u64 0]⟩ (.node 164 ⟨.struct [(0, 3), (1, 3)], 2, 16, [.int .i64 0, .int .i64 0]⟩ (.node 162 ⟨.arr 3 3, 3, 24, [.int .i64 0, .int .i64 0, .int .i64 0]⟩ (.node 160 ⟨.slice 5, 1, 24, [.lst []]⟩ (.node 133 ⟨.struct [(0, 4), (1, 117)], 3, 32, [.bool false, .int .i64 0, .str .empty]⟩ .leaf .leaf) .leaf) (.node 163 ⟨.struct [(0, 3), (1, 3)], 2, 16, [.int .i64 0, .int .i64 0]⟩ .leaf .leaf)) (.node 179 ⟨.ptr 181, 1, 8, [.nilp]⟩ (.node 175 ⟨.int .u64, 1, 8, [.int .u64 0]⟩ (.node 171 ⟨.slice 4, 1, 24, [.lst []]⟩ .leaf .leaf) .leaf) (.node 210 ⟨.int .u32, 1, 4, [.int .u32 0]⟩ .leaf .leaf))) (.node 254 ⟨.ptr 246, 1, 8, [.nilp]⟩ (.node 246 ⟨.int .u64, 1, 8, [.int .u64 0]⟩ (.node 231 ⟨.int .i64, 1, 8, [.int .i64 0]⟩ (.node 216 ⟨.ptr 5, 1, 8, [.nilp]⟩ .leaf .leaf) .leaf) (.node 250 ⟨.ptr 3, 1, 8, [.nilp]⟩ .leaf .leaf)) (.node 266 ⟨.int .i32, 1, 4, [.int .i32 0]⟩ (.node 264 ⟨.int .u8, 1, 1, [.int .u8 0]⟩ (.node 263 ⟨.int .u8, 1, 1, [.int .u8 0]⟩ .leaf .leaf) .leaf) (.node 267 ⟨.int .i32, 1, 4, [.int .i32 0]⟩ .leaf .leaf))))
def tt : TT := (.node 63 ⟨.slice 119, 1, 24, [.lst []]⟩ (.node 31 ⟨.slice 42, 1, 24, [.lst []]⟩ tt0 tt1) (.node 128 ⟨.struct [(0, 3), (1, 3), (2, 4)], 3, 24, [.int .i64 0, .int .i64 0, .bool false]⟩ tt2 tt3))
def T : Tab := fun t => tt.get t
theorem tabOk : TabOk Go.Proofs.Tryz.prog T := tabOk_of (by kernel_rfl)
end Go.Lk

namespace Go.Lk
open Go Go.Proofs Go.RowKit
theorem mixed : Tryz.prog.follows .mixedOrders = true := by kernel_rfl
theorem acall_of {f : FuncId} {fn : Func} {args : List D} {d : D} (hf : Tryz.prog.funcs[f]? = some fn) (n : Nat) (hn : args.length = n) (hc : fnChk fn n = true) (h : AFn T Tryz.prog fn args d) : ACall Tryz.prog f args d :=
  acall_sound tabOk mixed hf (by subst hn; exact hc) h
theorem ocall_of {f : FuncId} {fn : Func} {args : List D} {l : List (List D)} {sz : Nat} (hf : Tryz.prog.funcs[f]? = some fn) (n : Nat) (hn : args.length = n) (hc : fnChk fn n = true) (h : AFnO T Tryz.prog fn args l sz) : OCall Tryz.prog f args l sz :=
  ocall_sound tabOk mixed hf (by subst hn; exact hc) h
theorem scall_of {f : FuncId} {fn : Func} {args : List D} {cs : List SC} (hf : Tryz.prog.funcs[f]? = some fn) (n : Nat) (hn : args.length = n) (hc : fnChk fn n = true) (h : AFnS T Tryz.prog fn args cs) : SCall Tryz.prog f args cs :=
  scall_sound tabOk mixed hf (by subst hn; exact hc) h
end Go.Lk

namespace Go.Lk
open Go Go.RowKit

/-! ### the sum: by a table, or bit by bit -/
abbrev W32 := BitVec 32
def turner : W32 := 0xEDB88320#32
def stp (x : W32) : W32 := (x >>> 1) ^^^ (if x.getLsbD 0 then turner else 0#32)
def stp8 (x : W32) : W32 := stp (stp (stp (stp (stp (stp (stp (stp x)))))))
theorem stp_xor (a b : W32) : stp (a ^^^ b) = stp a ^^^ stp b := by
  unfold stp
  rw [BitVec.getLsbD_xor, BitVec.ushiftRight_xor_distrib]
  cases a.getLsbD 0 <;> cases b.getLsbD 0 <;> simp
  · rw [BitVec.xor_assoc]
  · rw [BitVec.xor_assoc, BitVec.xor_assoc, BitVec.xor_comm (b >>> 1)]
  · rw [BitVec.xor_assoc, BitVec.xor_comm turner, BitVec.xor_assoc, BitVec.xor_self, BitVec.xor_zero]
theorem stp8_xor (a b : W32) : stp8 (a ^^^ b) = stp8 a ^^^ stp8 b := by
  unfold stp8
  simp only [stp_xor]
theorem stp_shl (x : W32) (k : Nat) (h : x.toNat * 2 ^ (k + 1) < 4294967296) : stp (x <<< (k + 1)) = x <<< k := by
  have e0 : (x <<< (k + 1)).getLsbD 0 = false := by simp
  unfold stp
  rw [e0]
  simp only [Bool.false_eq_true, if_false, BitVec.xor_zero]
  apply BitVec.eq_of_toNat_eq
  have h2 : x.toNat * 2 ^ k < 4294967296 := by
    have : x.toNat * 2 ^ k ≤ x.toNat * 2 ^ (k + 1) := Nat.mul_le_mul_left _ (Nat.pow_le_pow_right (by decide) (by omega))
    omega
  rw [BitVec.toNat_ushiftRight, BitVec.toNat_shiftLeft, BitVec.toNat_shiftLeft, Nat.shiftLeft_eq, Nat.shiftLeft_eq, Nat.shiftRight_eq_div_pow]
  rw [Nat.mod_eq_of_lt (show x.toNat * 2 ^ (k + 1) < 2 ^ 32 by simpa using h), Nat.mod_eq_of_lt (show x.toNat * 2 ^ k < 2 ^ 32 by simpa using h2)]
  rw [Nat.pow_succ, ← Nat.mul_assoc, Nat.pow_one, Nat.mul_div_cancel _ (by decide)]
theorem stp8_shl (x : W32) (h : x.toNat < 16777216) : stp8 (x <<< 8) = x := by
  unfold stp8
  rw [stp_shl x 7 (by omega), stp_shl x 6 (by omega), stp_shl x 5 (by omega), stp_shl x 4 (by omega), stp_shl x 3 (by omega), stp_shl x 2 (by omega), stp_shl x 1 (by omega), stp_shl x 0 (by omega)]
  simp
/-- a byte more: by its table's entry, or bit by bit -/
def ent (i : Nat) : W32 := stp8 (BitVec.ofNat 32 i)
theorem stp8_byte (n : W32) (b : Nat) (hb : b < 256) : stp8 (n ^^^ BitVec.ofNat 32 b) = ent ((n.toNat % 256) ^^^ b) ^^^ (n >>> 8) := by
  have e1 : n ^^^ BitVec.ofNat 32 b = BitVec.ofNat 32 ((n.toNat % 256) ^^^ b) ^^^ ((n >>> 8) <<< 8) := by
    apply BitVec.eq_of_toNat_eq
    apply Nat.eq_of_testBit_eq
    intro i
    simp only [BitVec.toNat_xor, BitVec.toNat_ofNat, BitVec.toNat_shiftLeft, BitVec.toNat_ushiftRight, Nat.testBit_xor, Nat.testBit_mod_two_pow, Nat.testBit_shiftLeft, Nat.testBit_shiftRight, show (256 : Nat) = 2 ^ 8 from rfl]
    by_cases h32 : i < 32
    · by_cases h8 : i < 8
      · simp [h32, h8, show ¬ 8 ≤ i by omega]
      · simp [h32, h8, show 8 ≤ i by omega, show 8 + (i - 8) = i by omega, Bool.xor_comm]
    · have : n.toNat.testBit i = false := Nat.testBit_lt_two_pow (Nat.lt_of_lt_of_le n.isLt (Nat.pow_le_pow_right (by decide) (by omega)))
      simp [h32, this]
  rw [e1, stp8_xor, stp8_shl]
  · rfl
  · rw [BitVec.toNat_ushiftRight, Nat.shiftRight_eq_div_pow]
    have := n.isLt
    omega
end Go.Lk

namespace Go.Lk
open Go Go.RowKit

/-! ### the machine's bits -/
theorem wrap32 {n : Int} : IntKind.u32.wrap n = n % 4294967296 := by simp [IntKind.wrap, IntKind.bits, IntKind.signed]
theorem wrap8 {n : Int} : IntKind.u8.wrap n = n % 256 := by simp [IntKind.wrap, IntKind.bits, IntKind.signed]
theorem u32in {n : Int} (h0 : 0 ≤ n) (h1 : n ≤ 4294967295) : IntKind.u32.wrap n = n := by rw [wrap32]; omega
theorem u8in {n : Int} (h0 : 0 ≤ n) (h1 : n ≤ 255) : IntKind.u8.wrap n = n := by rw [wrap8]; omega
theorem lt32 (a : W32) : (a.toNat : Int) ≤ 4294967295 := by have := a.isLt; omega
theorem ofInt32 (a : W32) : BitVec.ofInt 32 (a.toNat : Int) = a := by
  apply BitVec.eq_of_toNat_eq
  rw [BitVec.toNat_ofInt]
  have := a.isLt
  omega
theorem bx32 (a b : W32) : bitsV .xor .u32 (a.toNat : Int) (b.toNat : Int) = ((a ^^^ b).toNat : Int) := by
  show IntKind.u32.wrap (((BitVec.ofInt 32 (a.toNat : Int) ^^^ BitVec.ofInt 32 (b.toNat : Int)).toNat : Nat) : Int) = _
  rw [ofInt32, ofInt32, u32in (by omega) (lt32 _)]
theorem bo32 (a b : W32) : bitsV .or .u32 (a.toNat : Int) (b.toNat : Int) = ((a ||| b).toNat : Int) := by
  show IntKind.u32.wrap (((BitVec.ofInt 32 (a.toNat : Int) ||| BitVec.ofInt 32 (b.toNat : Int)).toNat : Nat) : Int) = _
  rw [ofInt32, ofInt32, u32in (by omega) (lt32 _)]
theorem ba32 (a b : W32) : bitsV .and .u32 (a.toNat : Int) (b.toNat : Int) = ((a &&& b).toNat : Int) := by
  show IntKind.u32.wrap (((BitVec.ofInt 32 (a.toNat : Int) &&& BitVec.ofInt 32 (b.toNat : Int)).toNat : Nat) : Int) = _
  rw [ofInt32, ofInt32, u32in (by omega) (lt32 _)]
theorem not32 (a : W32) : bitsV .xor .u32 4294967295 (a.toNat : Int) = ((~~~ a).toNat : Int) := by
  have := bx32 (BitVec.allOnes 32) a
  rw [show ((BitVec.allOnes 32).toNat : Int) = 4294967295 from rfl] at this
  rw [this]
  congr 1
theorem odd32 (a : W32) : decide (bitsV .and .u32 (a.toNat : Int) 1 = 1) = a.getLsbD 0 := by
  have := ba32 a 1#32
  rw [show (((1#32 : W32)).toNat : Int) = 1 from rfl] at this
  rw [this]
  have e : (a &&& 1#32).toNat = (a.getLsbD 0).toNat := by
    rw [BitVec.toNat_and, BitVec.getLsbD, Nat.testBit_zero]
    show a.toNat &&& 1 = _
    rw [Nat.and_one_is_mod]
    rcases Nat.mod_two_eq_zero_or_one a.toNat with h | h <;> rw [h] <;> rfl
  rw [e]
  cases a.getLsbD 0 <;> rfl
theorem odd32' (a : W32) : decide ((a.toNat : Int) % 2 = 1) = a.getLsbD 0 := by
  rw [BitVec.getLsbD, Nat.testBit_zero]
  rcases Nat.mod_two_eq_zero_or_one a.toNat with h | h
  · rw [h]; simp; omega
  · rw [h]; simp; omega
theorem shr32 (a : W32) (k : Nat) : (a.toNat : Int).fdiv (2 ^ k) = ((a >>> k).toNat : Int) := by
  rw [BitVec.toNat_ushiftRight, Nat.shiftRight_eq_div_pow, Int.fdiv_eq_ediv_of_nonneg _ (by exact Int.pow_nonneg (by decide))]
  simp
theorem half32 (a : W32) : (a.toNat : Int) / 2 = ((a >>> 1).toNat : Int) := by
  rw [BitVec.toNat_ushiftRight, Nat.shiftRight_eq_div_pow]; simp
theorem div32 (a : W32) : (a.toNat : Int) / 256 = ((a >>> 8).toNat : Int) := by
  rw [BitVec.toNat_ushiftRight, Nat.shiftRight_eq_div_pow]; simp
theorem bx8 {a b : Nat} (ha : a < 256) (hb : b < 256) : bitsV .xor .u8 (a : Int) (b : Int) = ((a ^^^ b : Nat) : Int) := by
  show IntKind.u8.wrap (((BitVec.ofInt 8 (a : Int) ^^^ BitVec.ofInt 8 (b : Int)).toNat : Nat) : Int) = _
  have h : a ^^^ b < 2 ^ 8 := Nat.xor_lt_two_pow (by omega) (by omega)
  rw [BitVec.toNat_xor, BitVec.toNat_ofInt, BitVec.toNat_ofInt]
  rw [show ((a : Int) % ((2 ^ 8 : Nat) : Int)).toNat = a by omega, show ((b : Int) % ((2 ^ 8 : Nat) : Int)).toNat = b by omega]
  exact u8in (by omega) (by omega)
theorem stp_t {a : W32} (h : a.getLsbD 0 = true) : stp a = (a >>> 1) ^^^ turner := by rw [stp, h]; rfl
theorem stp_f {a : W32} (h : a.getLsbD 0 = false) : stp a = a >>> 1 := by rw [stp, h]; simp

/-- so many steps -/
def stpN : Nat → W32 → W32
  | 0, x => x
  | k + 1, x => stp (stpN k x)
theorem stpN_8 (x : W32) : stpN 8 x = stp8 x := rfl
/-- bytes, one behind the other -/
def crcS (n : W32) (b : UInt8) : W32 := stp8 (n ^^^ BitVec.ofNat 32 b.toNat)
def crcL (l : List UInt8) : W32 := l.foldl crcS (BitVec.allOnes 32)
def crcB (s : ByteArray) : W32 := ~~~ crcL s.data.toList
theorem crcL_snoc (l : List UInt8) (b : UInt8) : crcL (l ++ [b]) = crcS (crcL l) b := by simp [crcL]
theorem crcS_tab (n : W32) (b : UInt8) : crcS n b = ent ((n.toNat % 256) ^^^ b.toNat) ^^^ (n >>> 8) := stp8_byte n b.toNat b.toNat_lt
end Go.Lk

namespace Go.Lk
open Go Go.Proofs Go.RowKit

/-! ### numbers in four bytes -/
def fourB (n : Nat) : ByteArray := bstr [((n % 256 : Nat) : Int), ((n / 256 % 256 : Nat) : Int), ((n / 65536 % 256 : Nat) : Int), ((n / 16777216 % 256 : Nat) : Int)]
theorem shrN (n k : Nat) : ((n : Int)).fdiv (2 ^ k) = ((n / 2 ^ k : Nat) : Int) := by
  rw [Int.fdiv_eq_ediv_of_nonneg _ (by exact Int.pow_nonneg (by decide))]; simp
theorem four_ok (n : Nat) (hn : n < 4294967296) : ACall Tryz.prog 153 [.int .i64 n] (.str (fourB n)) := by
  refine acall_of Tryz.func153 1 rfl (by kernel_rfl) ?_
  conv => whnf
  refine wrapK_in (u32in (by omega) (by omega)) ?_
  conv => whnf
  repeat ((first | refine bF ?_ | refine bT ?_ | refine dK ?_ | refine cR ?_ | refine cK ?_ | refine wK ?_); conv => whnf)
  refine wrapK_raw ?_
  conv => whnf
  repeat ((first | refine bF ?_ | refine bT ?_ | refine dK ?_ | refine cR ?_ | refine cK ?_ | refine wK ?_); conv => whnf)
  refine wrapK_raw ?_
  conv => whnf
  repeat ((first | refine bF ?_ | refine bT ?_ | refine dK ?_ | refine cR ?_ | refine cK ?_ | refine wK ?_); conv => whnf)
  refine wrapK_raw ?_
  conv => whnf
  repeat ((first | refine bF ?_ | refine bT ?_ | refine dK ?_ | refine cR ?_ | refine cK ?_ | refine wK ?_); conv => whnf)
  refine wrapK_raw ?_
  conv => whnf
  repeat ((first | refine bF ?_ | refine bT ?_ | refine dK ?_ | refine cR ?_ | refine cK ?_ | refine wK ?_); conv => whnf)
  refine ret_of rfl (congrArg D.str ?_)
  show bstr [IntKind.u8.wrap (n : Int), IntKind.u8.wrap ((n : Int).fdiv (2 ^ 8)), IntKind.u8.wrap ((n : Int).fdiv (2 ^ 16)), IntKind.u8.wrap ((n : Int).fdiv (2 ^ 24))] = fourB n
  simp only [shrN, wrap8]
  rfl
/-- what four bytes tell -/
def numB (s : ByteArray) (i : Nat) : Nat := (s.data.getD i 0).toNat + 256 * (s.data.getD (i + 1) 0).toNat + 65536 * (s.data.getD (i + 2) 0).toNat + 16777216 * (s.data.getD (i + 3) 0).toNat
/-- so many of the bytes -/
def numK (s : ByteArray) (i : Nat) : Nat → Nat
  | 0 => 0
  | k + 1 => numK s i k + (s.data.getD (i + k) 0).toNat * 2 ^ (8 * k)
theorem numK_4 (s : ByteArray) (i : Nat) : numK s i 4 = numB s i := by
  simp only [numK, numB, Nat.add_zero]
  omega
theorem numK_lt (s : ByteArray) (i : Nat) : ∀ k, numK s i k < 2 ^ (8 * k)
  | 0 => by simp [numK]
  | k + 1 => by
    have h1 := numK_lt s i k
    have h2 := (s.data.getD (i + k) 0).toNat_lt
    have h3 : (s.data.getD (i + k) 0).toNat * 2 ^ (8 * k) ≤ 255 * 2 ^ (8 * k) := Nat.mul_le_mul_right _ (by omega)
    have h4 : 2 ^ (8 * (k + 1)) = 256 * 2 ^ (8 * k) := by rw [show 8 * (k + 1) = 8 + 8 * k by omega, Nat.pow_add]
    simp only [numK]
    omega
theorem or32 {x y : Nat} {m : Nat} (hx : x < 2 ^ m) (hs : x + y * 2 ^ m < 4294967296) : bitsV .or .u32 (x : Int) ((y * 2 ^ m : Nat) : Int) = ((x + y * 2 ^ m : Nat) : Int) := by
  have := bo32 (BitVec.ofNat 32 x) (BitVec.ofNat 32 (y * 2 ^ m))
  rw [BitVec.toNat_or, BitVec.toNat_ofNat, BitVec.toNat_ofNat, Nat.mod_eq_of_lt (by omega), Nat.mod_eq_of_lt (by omega)] at this
  rw [this, Nat.or_comm, Nat.mul_comm, ← Nat.two_pow_add_eq_or_of_lt hx, Nat.add_comm]
theorem number_ok (s : ByteArray) (i : Nat) (hs : i + 4 ≤ s.size) (h1 : s.size ≤ 1000) : ACall Tryz.prog 146 [.str s, .int .i64 i] (.int .i64 (numB s i)) := by
  refine acall_of Tryz.func146 2 rfl (by kernel_rfl) ?_
  conv => whnf
  refine aloop (ι := Nat) (fun k => [(0, .d (.str s)), (1, .d (.int .i64 i)), (5, .d (.int .u32 (numK s i k))), (7, .d (.int .i64 k))]) (fun _ => [])
    (fun k => k ≤ 4) (fun k => 4 - k) 0 (by omega) (le0 (le_of_cov ⟨rfl, rfl, rfl, rfl, trivial⟩ trivial ⟨rfl, rfl, rfl, rfl⟩)) ?_
  intro k hk
  conv => whnf
  refine bcase_p (fun h5 => ?_) (fun h5 => ?_) <;> conv => whnf
  · have hk2 : k < 4 := by omega
    repeat ((first | refine bF ?_ | refine bT ?_ | refine dK ?_ | refine cR ?_ | refine cK ?_ | refine wK ?_); conv => whnf)
    rw [show (i : Int) + (k : Int) = ((i + k : Nat) : Int) by omega]
    refine idxK_nat (by omega) ?_
    conv => whnf
    obtain ⟨b, hb, hb2⟩ : ∃ b : Nat, (s.data.getD (i + k) 0).toNat = b ∧ b < 256 := ⟨_, rfl, (s.data.getD (i + k) 0).toNat_lt⟩
    rw [hb]
    refine wrapK_in (u32in (by omega) (by omega)) ?_
    conv => whnf
    repeat ((first | refine bF ?_ | refine bT ?_ | refine dK ?_ | refine cR ?_ | refine cK ?_ | refine wK ?_); conv => whnf)
    have hlt := numK_lt s i (k + 1)
    have hlt0 := numK_lt s i k
    have he : numK s i (k + 1) = numK s i k + b * 2 ^ (8 * k) := by rw [numK, hb]
    have hp : 2 ^ (8 * (k + 1)) ≤ 4294967296 := Nat.le_trans (Nat.pow_le_pow_right (by decide) (show 8 * (k + 1) ≤ 32 by omega)) (by decide)
    have em : (b : Int) * 2 ^ (min (8 * (k : Int)).toNat IntKind.u32.bits) = ((b * 2 ^ (8 * k) : Nat) : Int) := by
      rw [show min (8 * (k : Int)).toNat IntKind.u32.bits = 8 * k by show min _ 32 = _; omega]
      simp
    rw [em]
    refine wrapK_in (u32in (by omega) (by omega)) ?_
    conv => whnf
    rw [or32 hlt0 (by omega), ← he]
    repeat ((first | refine bF ?_ | refine bT ?_ | refine dK ?_ | refine cR ?_ | refine cK ?_ | refine wK ?_); conv => whnf)
    exact ⟨k + 1, by omega, by omega, (le0 (le_of_cov ⟨rfl, rfl, rfl, rfl, trivial⟩ trivial ⟨rfl, rfl, rfl, rfl⟩))⟩
  · repeat ((first | refine bF ?_ | refine bT ?_ | refine dK ?_ | refine cR ?_ | refine cK ?_ | refine wK ?_); conv => whnf)
    have ek : k = 4 := by omega
    subst ek
    have hb : numB s i < 4294967296 := by have := numK_lt s i 4; rw [numK_4] at this; simpa using this
    rw [numK_4]
    refine wrapK_in (w64 (by omega) (by omega)) ?_
    conv => whnf
    exact ret_of rfl rfl
end Go.Lk

namespace Go.Lk
open Go Go.Proofs Go.RowKit

/-! ### the table, and the sum by it -/
def rowT (i j : Nat) : List D := [.int .i64 (if j < i then ((ent j).toNat : Int) else 0)]
def tabL (i : Nat) : List (List D) := (List.range 256).map (rowT i)
theorem tabL_len (i : Nat) : (tabL i).length = 256 := by simp [tabL]
theorem tabL_0 : List.replicate 256 [D.int .i64 0] = tabL 0 := by
  apply List.ext_getElem
  · rw [List.length_replicate, tabL, List.length_map, List.length_range]
  · intro j h1 h2
    rw [List.getElem_replicate]
    simp only [tabL, List.getElem_map, List.getElem_range, rowT]
    rw [if_neg (by omega)]
theorem tabL_get {i j : Nat} (hj : j < 256) : (tabL i)[j]? = some (rowT i j) := by simp [tabL, hj]
theorem tabL_set {i : Nat} (hi : i < 256) : (tabL i).set i [.int .i64 ((ent i).toNat : Int)] = tabL (i + 1) := by
  apply List.ext_getElem
  · simp [tabL]
  · intro j h1 h2
    rw [List.getElem_set]
    simp only [tabL, List.getElem_map, List.getElem_range, rowT]
    by_cases e : i = j
    · subst e
      rw [if_pos rfl, if_pos (by omega)]
    · rw [if_neg e]
      by_cases h : j < i
      · rw [if_pos h, if_pos (by omega)]
      · rw [if_neg h, if_neg (by omega)]
theorem table_ok : OCall Tryz.prog 155 [] (tabL 256) 1 := by
  refine ocall_of Tryz.func155 0 rfl (by kernel_rfl) ?_
  conv => whnf
  repeat ((first | refine bF ?_ | refine bT ?_ | refine dK ?_ | refine cR ?_ | refine cK ?_ | refine wK ?_); conv => whnf)
  refine roomK_le 1000 1000 (by decide) (by decide) (by decide) (by decide) ?_
  conv => whnf
  repeat ((first | refine bF ?_ | refine bT ?_ | refine dK ?_ | refine cR ?_ | refine cK ?_ | refine wK ?_); conv => whnf)
  rw [show List.replicate (256 : Int).toNat (T 3).zero = tabL 0 from tabL_0]
  refine aloop (ι := Nat) (fun i => [(1, .own 5), (7, .d (.int .i64 256)), (8, .d (.int .i64 i))]) (fun i => [(5, .row (tabL i) 1 false)])
    (fun i => i ≤ 256) (fun i => 256 - i) 0 (by omega) (le0 (le_of_cov ⟨rfl, by kernel_rfl, rfl, trivial⟩ ⟨rfl, trivial⟩ ⟨rfl, rfl, rfl, rfl⟩)) ?_
  intro i hi
  conv => whnf
  refine bcase_p (fun h5 => ?_) (fun h5 => ?_) <;> conv => whnf
  · have hi2 : i < 256 := by omega
    repeat ((first | refine bF ?_ | refine bT ?_ | refine dK ?_ | refine cR ?_ | refine cK ?_ | refine wK ?_); conv => whnf)
    refine wrapK_in (u32in (by omega) (by omega)) ?_
    conv => whnf
    repeat ((first | refine bF ?_ | refine bT ?_ | refine dK ?_ | refine cR ?_ | refine cK ?_ | refine wK ?_); conv => whnf)
    refine aloop (ι := Nat) (fun k => [(1, .own 5), (2, .d (.int .i64 i)), (3, .d (.int .u32 (stpN k (BitVec.ofNat 32 i)).toNat)), (7, .d (.int .i64 256)), (8, .d (.int .i64 i)), (13, .d (.int .i64 k))]) (fun k => [(5, .row (tabL i) 1 false)])
      (fun k => k ≤ 8) (fun k => 8 - k) 0 (by omega) (le0 (le_of_cov ⟨rfl, rfl, ?_, rfl, rfl, rfl, trivial⟩ ⟨rfl, trivial⟩ ⟨rfl, rfl, rfl, rfl⟩)) ?_
    · show _ = AV.d (.int .u32 (((BitVec.ofNat 32 i).toNat : Nat) : Int))
      rw [BitVec.toNat_ofNat, Nat.mod_eq_of_lt (by omega)]
      rfl
    intro k hk
    obtain ⟨x, hx⟩ : ∃ x, stpN k (BitVec.ofNat 32 i) = x := ⟨_, rfl⟩
    simp only [hx]
    conv => whnf
    refine bcase_p (fun h6 => ?_) (fun h6 => ?_) <;> conv => whnf
    · repeat ((first | refine bF ?_ | refine bT ?_ | refine dK ?_ | refine cR ?_ | refine cK ?_ | refine wK ?_); conv => whnf)
      rw [odd32 x]
      refine bcase_intro (fun h => ?_) (fun h => ?_) <;> conv => whnf
      · repeat ((first | refine bF ?_ | refine bT ?_ | refine dK ?_ | refine cR ?_ | refine cK ?_ | refine wK ?_); conv => whnf)
        have e1 : stpN (k + 1) (BitVec.ofNat 32 i) = (x >>> 1) ^^^ turner := by rw [stpN, hx, stp_t h]
        have e2 : bitsV .xor .u32 ((x.toNat : Int).fdiv (2 ^ min (1 : Int).toNat IntKind.u32.bits)) 3988292384 = (((x >>> 1) ^^^ turner).toNat : Int) := by
          rw [show (x.toNat : Int).fdiv (2 ^ min (1 : Int).toNat IntKind.u32.bits) = ((x >>> 1).toNat : Int) from shr32 x 1]
          exact bx32 _ turner
        rw [e2, ← e1]
        exact ⟨k + 1, by omega, by omega, (le0 (le_of_cov ⟨rfl, rfl, rfl, rfl, rfl, rfl, trivial⟩ ⟨rfl, trivial⟩ ⟨rfl, rfl, rfl, rfl⟩))⟩
      · repeat ((first | refine bF ?_ | refine bT ?_ | refine dK ?_ | refine cR ?_ | refine cK ?_ | refine wK ?_); conv => whnf)
        have e1 : stpN (k + 1) (BitVec.ofNat 32 i) = x >>> 1 := by rw [stpN, hx, stp_f h]
        rw [show (x.toNat : Int).fdiv (2 ^ min (1 : Int).toNat IntKind.u32.bits) = ((x >>> 1).toNat : Int) from shr32 x 1, ← e1]
        exact ⟨k + 1, by omega, by omega, (le0 (le_of_cov ⟨rfl, rfl, rfl, rfl, rfl, rfl, trivial⟩ ⟨rfl, trivial⟩ ⟨rfl, rfl, rfl, rfl⟩))⟩
    · repeat ((first | refine bF ?_ | refine bT ?_ | refine dK ?_ | refine cR ?_ | refine cK ?_ | refine wK ?_); conv => whnf)
      have ek : k = 8 := by omega
      subst ek
      have ex : x = ent i := hx.symm
      subst ex
      refine idxK_nat (by rw [tabL_len]; omega) ?_
      conv => whnf
      refine getRow_of (x := rowT i i) (by exact tabL_get hi2) ?_
      conv => whnf
      repeat ((first | refine bF ?_ | refine bT ?_ | refine dK ?_ | refine cR ?_ | refine cK ?_ | refine wK ?_); conv => whnf)
      refine ⟨i + 1, by omega, by omega, le0 (le_of_cov ⟨rfl, by kernel_rfl, rfl, trivial⟩ ⟨?_, trivial⟩ ⟨rfl, rfl, rfl, rfl⟩)⟩
      rw [← tabL_set hi2]
      rfl
  · repeat ((first | refine bF ?_ | refine bT ?_ | refine dK ?_ | refine cR ?_ | refine cK ?_ | refine wK ?_); conv => whnf)
    have ei : i = 256 := by omega
    subst ei
    exact ⟨0, rfl, .inl ⟨5, rfl, rfl⟩⟩
/-- the sum of so many bytes -/
def crcK (s : ByteArray) (k : Nat) : W32 := crcL (s.data.toList.take k)
theorem crcK_succ {s : ByteArray} {k : Nat} (hk : k < s.size) : crcK s (k + 1) = crcS (crcK s k) (s.data.getD k 0) := by
  have hk2 : k < s.data.toList.length := by simpa using hk
  rw [crcK, take_snoc hk2, crcL_snoc]
  have : s.data.getD k 0 = s.data.toList[k] := by
    rw [Array.getD_eq_getD_getElem?, Array.getElem?_eq_getElem (by simpa using hk)]
    simp
  rw [this]; rfl
theorem crcK_end {s : ByteArray} {k : Nat} (hk : s.size ≤ k) : ~~~ crcK s k = crcB s := by
  rw [crcK, List.take_of_length_le (by simpa using hk)]; rfl
theorem sum_ok (s : ByteArray) (hs : s.size ≤ 1000) : ACall Tryz.prog 154 [.lst (tabL 256), .str s] (.tup [.int .i64 (crcB s).toNat, .bool true]) := by
  obtain ⟨tb, htb⟩ : ∃ tb, tabL 256 = tb := ⟨_, rfl⟩
  have htl : tb.length = 256 := by rw [← htb, tabL_len]
  have htg : ∀ j, j < 256 → tb[j]? = some (rowT 256 j) := fun j hj => htb ▸ tabL_get hj
  rw [htb]
  refine acall_of Tryz.func154 2 rfl (by kernel_rfl) ?_
  conv => whnf
  refine bcase_f (by rw [htl]; rfl) ?_
  conv => whnf
  repeat ((first | refine bF ?_ | refine bT ?_ | refine dK ?_ | refine cR ?_ | refine cK ?_ | refine wK ?_); conv => whnf)
  refine aloop (ι := Nat) (fun k => [(0, .d (.lst tb)), (1, .d (.str s)), (6, .d (.int .u32 (crcK s k).toNat)), (7, .d (.int .i64 k))]) (fun _ => [])
    (fun k => k ≤ s.size) (fun k => s.size - k) 0 (by omega) (le0 (le_of_cov ⟨rfl, rfl, by kernel_rfl, rfl, trivial⟩ trivial ⟨rfl, rfl, rfl, rfl⟩)) ?_
  intro k hk
  obtain ⟨x, hx⟩ : ∃ x, crcK s k = x := ⟨_, rfl⟩
  simp only [hx]
  conv => whnf
  refine bcase_p (fun h5 => ?_) (fun h5 => ?_) <;> conv => whnf
  · have hk2 : k < s.size := by omega
    repeat ((first | refine bF ?_ | refine bT ?_ | refine dK ?_ | refine cR ?_ | refine cK ?_ | refine wK ?_); conv => whnf)
    refine wrapK_raw ?_
    conv => whnf
    repeat ((first | refine bF ?_ | refine bT ?_ | refine dK ?_ | refine cR ?_ | refine cK ?_ | refine wK ?_); conv => whnf)
    refine idxK_nat (by omega) ?_
    conv => whnf
    obtain ⟨c, hc⟩ : ∃ c : UInt8, s.data.getD k 0 = c := ⟨_, rfl⟩
    have hc2 := c.toNat_lt
    rw [hc]
    have e1 : bitsV .xor .u8 (IntKind.u8.wrap (x.toNat : Int)) (c.toNat : Int) = (((x.toNat % 256) ^^^ c.toNat : Nat) : Int) := by
      rw [wrap8, show (x.toNat : Int) % 256 = ((x.toNat % 256 : Nat) : Int) by omega]
      exact bx8 (Nat.mod_lt _ (by decide)) (by omega)
    have hj : (x.toNat % 256) ^^^ c.toNat < 256 := Nat.xor_lt_two_pow (n := 8) (Nat.mod_lt _ (by decide)) (by omega)
    rw [e1]
    refine idxK_nat (by omega) ?_
    conv => whnf
    refine getRow_of (x := rowT 256 ((x.toNat % 256) ^^^ c.toNat)) (by exact htg _ hj) ?_
    conv => whnf
    obtain ⟨y, hy⟩ : ∃ y, ent ((x.toNat % 256) ^^^ c.toNat) = y := ⟨_, rfl⟩
    have e2 : crcK s (k + 1) = y ^^^ (x >>> 8) := by rw [crcK_succ hk2, hx, hc, crcS_tab, hy]
    rw [if_pos hj, hy]
    refine wrapK_in (u32in (by omega) (lt32 y)) ?_
    conv => whnf
    repeat ((first | refine bF ?_ | refine bT ?_ | refine dK ?_ | refine cR ?_ | refine cK ?_ | refine wK ?_); conv => whnf)
    rw [show (x.toNat : Int).fdiv (2 ^ min (8 : Int).toNat IntKind.u32.bits) = ((x >>> 8).toNat : Int) from shr32 x 8, bx32, ← e2]
    repeat ((first | refine bF ?_ | refine bT ?_ | refine dK ?_ | refine cR ?_ | refine cK ?_ | refine wK ?_); conv => whnf)
    exact ⟨k + 1, by omega, by omega, (le0 (le_of_cov ⟨rfl, rfl, rfl, rfl, trivial⟩ trivial ⟨rfl, rfl, rfl, rfl⟩))⟩
  · repeat ((first | refine bF ?_ | refine bT ?_ | refine dK ?_ | refine cR ?_ | refine cK ?_ | refine wK ?_); conv => whnf)
    rw [show (if IntKind.u32.signed = true then (-1 : Int) else IntKind.u32.max) = 4294967295 from rfl, not32]
    refine wrapK_in (w64 (by omega) (by have := lt32 (~~~ x); omega)) ?_
    conv => whnf
    repeat ((first | refine bF ?_ | refine bT ?_ | refine dK ?_ | refine cR ?_ | refine cK ?_ | refine wK ?_); conv => whnf)
    have e : ~~~ x = crcB s := by rw [← hx]; exact crcK_end (by omega)
    rw [e]
    exact ret_of rfl rfl
end Go.Lk

namespace Go.Lk
open Go Go.Proofs Go.Shelf Go.RowKit
def repRen : Ren :=
{
  f := fun x =>
    match x with
    | 105 => 72
    | 212 => 112
    | 99 => 113
    | 165 => 114
    | 166 => 115
    | 170 => 116
    | 169 => 117
    | 263 => 139
    | 264 => 140
    | 206 => 141
    | 240 => 142
    | 241 => 143
    | 276 => 168
    | 277 => 169
    | n => n,
  t := fun x =>
    match x with
    | 9 => 9
    | 3 => 3
    | 4 => 4
    | 20 => 20
    | 0 => 0
    | 46 => 175
    | 109 => 176
    | 5 => 5
    | 72 => 181
    | 76 => 185
    | 51 => 210
    | 146 => 211
    | 53 => 213
    | 148 => 214
    | 70 => 179
    | 37 => 160
    | 75 => 184
    | 127 => 216
    | 164 => 239
    | 80 => 142
    | n => n,
  g := fun x =>
    x }

theorem repLays : Lays.n105 Tryz.prog repRen :=
{ mixed := by kernel_rfl,
  f99 :=
    Eq.trans Tryz.func113 (congrArg some (by kernel_rfl)),
  f105 :=
    Eq.trans Tryz.func72 (congrArg some (by kernel_rfl)),
  f165 :=
    Eq.trans Tryz.func114 (congrArg some (by kernel_rfl)),
  f166 :=
    Eq.trans Tryz.func115 (congrArg some (by kernel_rfl)),
  f169 :=
    Eq.trans Tryz.func117 (congrArg some (by kernel_rfl)),
  f170 :=
    Eq.trans Tryz.func116 (congrArg some (by kernel_rfl)),
  f206 :=
    Eq.trans Tryz.func141 (congrArg some (by kernel_rfl)),
  f212 :=
    Eq.trans Tryz.func112 (congrArg some (by kernel_rfl)),
  f240 :=
    Eq.trans Tryz.func142 (congrArg some (by kernel_rfl)),
  f241 :=
    Eq.trans Tryz.func143 (congrArg some (by kernel_rfl)),
  f263 :=
    Eq.trans Tryz.func139 (congrArg some (by kernel_rfl)),
  f264 :=
    Eq.trans Tryz.func140 (congrArg some (by kernel_rfl)),
  f276 :=
    Eq.trans Tryz.func168 (congrArg some (by kernel_rfl)),
  f277 :=
    Eq.trans Tryz.func169 (congrArg some (by kernel_rfl)),
  t0 := Tryz.underlying0, a0 := Tryz.isAgg0, z0 := Tryz.sizeOf0,
  v0 := Tryz.zeroValue0, t3 := Tryz.underlying3, a3 := Tryz.isAgg3,
  z3 := Tryz.sizeOf3, v3 := Tryz.zeroValue3, t4 := Tryz.underlying4,
  a4 := Tryz.isAgg4, z4 := Tryz.sizeOf4, v4 := Tryz.zeroValue4,
  t5 := Tryz.underlying5, a5 := Tryz.isAgg5, z5 := Tryz.sizeOf5,
  v5 := Tryz.zeroValue5, t9 := Tryz.underlying9, a9 := Tryz.isAgg9,
  z9 := Tryz.sizeOf9, v9 := Tryz.zeroValue9, t20 := Tryz.underlying20,
  a20 := Tryz.isAgg20, z20 := Tryz.sizeOf20, v20 := Tryz.zeroValue20,
  t37 := Tryz.underlying160, a37 := Tryz.isAgg160, z37 := Tryz.sizeOf160,
  v37 := Tryz.zeroValue160, t46 := Tryz.underlying175, a46 := Tryz.isAgg175,
  z46 := Tryz.sizeOf175, v46 := Tryz.zeroValue175, t51 := Tryz.underlying210,
  a51 := Tryz.isAgg210, z51 := Tryz.sizeOf210, v51 := Tryz.zeroValue210,
  t53 := Tryz.underlying213, a53 := Tryz.isAgg213, z53 := Tryz.sizeOf213,
  v53 := Tryz.zeroValue213, t70 := Tryz.underlying179, a70 := Tryz.isAgg179,
  z70 := Tryz.sizeOf179, v70 := Tryz.zeroValue179, t72 := Tryz.underlying181,
  a72 := Tryz.isAgg181, z72 := Tryz.sizeOf181, v72 := Tryz.zeroValue181,
  t75 := Tryz.underlying184, a75 := Tryz.isAgg184, z75 := Tryz.sizeOf184,
  v75 := Tryz.zeroValue184, t76 := Tryz.underlying185, a76 := Tryz.isAgg185,
  z76 := Tryz.sizeOf185, v76 := Tryz.zeroValue185, t109 := Tryz.underlying176,
  a109 := Tryz.isAgg176, z109 := Tryz.sizeOf176, v109 := Tryz.zeroValue176,
  t127 := Tryz.underlying216, a127 := Tryz.isAgg216, z127 := Tryz.sizeOf216,
  v127 := Tryz.zeroValue216, t146 := Tryz.underlying211, a146 := Tryz.isAgg211,
  z146 := Tryz.sizeOf211, v146 := Tryz.zeroValue211, t148 := Tryz.underlying214,
  a148 := Tryz.isAgg214, z148 := Tryz.sizeOf214, v148 := Tryz.zeroValue214,
  t164 := Tryz.underlying239, a164 := Tryz.isAgg239, z164 := Tryz.sizeOf239,
  v164 := Tryz.zeroValue239 }

theorem repExtra : Builder.Extra Tryz.prog repRen where
  sizeBuilder := by kernel_rfl
  liesBuilder := by kernel_rfl
  t5 := repLays.t5
  a5 := repLays.a5
  z5 := repLays.z5
  v5 := repLays.v5
  infoByte := by kernel_rfl
  cellsByte := by kernel_rfl
  sizeByte := by kernel_rfl
  neB5 := by decide
theorem blk_lt {w : World} {b o : Nat} {v : Value} (h : w.cell? ⟨b, o, none⟩ = some v) : b < w.heap.size := by
  refine Classical.byContradiction fun hn => ?_
  have : w.heap[b]? = none := Array.getElem?_eq_none (by omega)
  simp [World.cell?, this] at h
def rep (s : ByteArray) (c : Nat) : ByteArray := ⟨(Lib.repeatL s.data.toList c).toArray⟩
theorem repeat_ok (s : ByteArray) (c : Nat) (hc : c ≤ 1000) (hs : s.size ≤ 1000) : ACall Tryz.prog 72 [.str s, .int .i64 c] (.str (rep s c)) := by
  refine ⟨⟨Tryz.f72, Tryz.func72, rfl, by kernel_rfl⟩, fun w M vs hA hd => ?_⟩
  have hv : vs = #[.string s, .int .i64 c] := by
    obtain ⟨l⟩ := vs
    match l, hd with
    | [], hd => exact absurd hd.1 (by simp)
    | [_], hd => exact absurd hd.1 (by simp)
    | [u1, u2], hd =>
      have q1 := hd.2 0 _ u1 rfl rfl
      have q2 := hd.2 1 _ u2 rfl rfl
      cases q1
      cases q2
      rfl
    | _ :: _ :: _ :: _, hd => exact absurd hd.1 (by simp)
  subst hv
  refine (Any.strings_Repeat repLays repExtra s c w (by omega) (Nat.le_trans (Nat.mul_le_mul hs hc) (by decide))).mono fun e w' ⟨he, hb⟩ => ?_
  exact ⟨_, M, he, hb, Sub.refl M, fun b o v h => (hb.cell (p := ⟨b, o, none⟩) (blk_lt (hA b o v h))).trans (hA b o v h), fun b o v h => .inl h, .str _⟩
end Go.Lk

namespace Go.Lk
open Go Go.Proofs Go.RowKit Go.Lk

abbrev Fr := Int × Int × Bool
abbrev Pg := Int × Int × ByteArray
def encF (x : Fr) : List D := [.int .i64 x.1, .int .i64 x.2.1, .bool x.2.2]
def encP (x : Pg) : List D := [.int .i64 x.1, .int .i64 x.2.1, .str x.2.2]
def encC (l : List Fr) (h : Int) : D := .agg [.lst (l.map encF), .int .i64 h]
theorem encF_ok : ∀ (l : List Fr), okRows 3 (l.map encF) = true
  | [] => rfl
  | _ :: r => encF_ok r
theorem encP_ok : ∀ (l : List Pg), okRows 3 (l.map encP) = true
  | [] => rfl
  | _ :: r => encP_ok r

def pgR (x : Pg) : Bool := decide (1 ≤ x.1) && (decide (x.1 ≤ 16) && (decide (1 ≤ x.2.1) && (decide (x.2.1 ≤ 2147483647) && decide (x.2.2.size ≤ 16))))
theorem pgR_out {x : Pg} : pgR x = true ↔ 1 ≤ x.1 ∧ x.1 ≤ 16 ∧ 1 ≤ x.2.1 ∧ x.2.1 ≤ 2147483647 ∧ x.2.2.size ≤ 16 := by simp [pgR]
theorem pageRight_ok (x : Pg) : ACall Tryz.prog 61 [.agg (encP x)] (.bool (pgR x)) := by
  refine acall_of Tryz.func61 1 rfl (by kernel_rfl) ?_
  conv => whnf
  repeat ((first | refine bF ?_ | refine bT ?_ | refine dK ?_ | refine cR ?_ | refine cK ?_ | refine wK ?_); conv => whnf)
  refine bcase_p (fun h1 => ?_) (fun h1 => ?_) <;> conv => whnf
  · exact ret_of rfl (congrArg D.bool (by simp [pgR]; omega))
  repeat ((first | refine bF ?_ | refine bT ?_ | refine dK ?_ | refine cR ?_ | refine cK ?_ | refine wK ?_); conv => whnf)
  refine bcase_p (fun h2 => ?_) (fun h2 => ?_) <;> conv => whnf
  · exact ret_of rfl (congrArg D.bool (by simp [pgR]; omega))
  repeat ((first | refine bF ?_ | refine bT ?_ | refine dK ?_ | refine cR ?_ | refine cK ?_ | refine wK ?_); conv => whnf)
  refine bcase_p (fun h3 => ?_) (fun h3 => ?_) <;> conv => whnf
  · exact ret_of rfl (congrArg D.bool (by simp [pgR]; omega))
  repeat ((first | refine bF ?_ | refine bT ?_ | refine dK ?_ | refine cR ?_ | refine cK ?_ | refine wK ?_); conv => whnf)
  refine bcase_p (fun h4 => ?_) (fun h4 => ?_) <;> conv => whnf
  · exact ret_of rfl (congrArg D.bool (by simp [pgR]; omega))
  repeat ((first | refine bF ?_ | refine bT ?_ | refine dK ?_ | refine cR ?_ | refine cK ?_ | refine wK ?_); conv => whnf)
  exact ret_of rfl (congrArg D.bool (by
    have e1 : decide (1 ≤ x.1) = true := by simp; omega
    have e2 : decide (x.1 ≤ 16) = true := by simp; omega
    have e3 : decide (1 ≤ x.2.1) = true := by simp; omega
    have e4 : decide (x.2.1 ≤ 2147483647) = true := by simp; omega
    rw [pgR, e1, e2, e3, e4]; simp; omega))
theorem rpageRight_ok (x : Pg) : ACall Tryz.prog 75 [.agg (encP x)] (.bool (pgR x)) := by
  refine acall_of Tryz.func75 1 rfl (by kernel_rfl) ?_
  conv => whnf
  repeat ((first | refine bF ?_ | refine bT ?_ | refine dK ?_ | refine cR ?_ | refine cK ?_ | refine wK ?_); conv => whnf)
  refine bcase_p (fun h1 => ?_) (fun h1 => ?_) <;> conv => whnf
  rotate_left
  · repeat ((first | refine bF ?_ | refine bT ?_ | refine dK ?_ | refine cR ?_ | refine cK ?_ | refine wK ?_); conv => whnf)
    exact ret_of rfl (congrArg D.bool (by simp [pgR]; omega))
  repeat ((first | refine bF ?_ | refine bT ?_ | refine dK ?_ | refine cR ?_ | refine cK ?_ | refine wK ?_); conv => whnf)
  refine bcase_p (fun h2 => ?_) (fun h2 => ?_) <;> conv => whnf
  rotate_left
  · repeat ((first | refine bF ?_ | refine bT ?_ | refine dK ?_ | refine cR ?_ | refine cK ?_ | refine wK ?_); conv => whnf)
    exact ret_of rfl (congrArg D.bool (by simp [pgR]; omega))
  repeat ((first | refine bF ?_ | refine bT ?_ | refine dK ?_ | refine cR ?_ | refine cK ?_ | refine wK ?_); conv => whnf)
  refine bcase_p (fun h3 => ?_) (fun h3 => ?_) <;> conv => whnf
  rotate_left
  · repeat ((first | refine bF ?_ | refine bT ?_ | refine dK ?_ | refine cR ?_ | refine cK ?_ | refine wK ?_); conv => whnf)
    exact ret_of rfl (congrArg D.bool (by simp [pgR]; omega))
  repeat ((first | refine bF ?_ | refine bT ?_ | refine dK ?_ | refine cR ?_ | refine cK ?_ | refine wK ?_); conv => whnf)
  refine bcase_p (fun h4 => ?_) (fun h4 => ?_) <;> conv => whnf
  rotate_left
  · repeat ((first | refine bF ?_ | refine bT ?_ | refine dK ?_ | refine cR ?_ | refine cK ?_ | refine wK ?_); conv => whnf)
    exact ret_of rfl (congrArg D.bool (by simp [pgR]; omega))
  repeat ((first | refine bF ?_ | refine bT ?_ | refine dK ?_ | refine cR ?_ | refine cK ?_ | refine wK ?_); conv => whnf)
  exact ret_of rfl (congrArg D.bool (by
    have e1 : decide (1 ≤ x.1) = true := by simp; omega
    have e2 : decide (x.1 ≤ 16) = true := by simp; omega
    have e3 : decide (1 ≤ x.2.1) = true := by simp; omega
    have e4 : decide (x.2.1 ≤ 2147483647) = true := by simp; omega
    rw [pgR, e1, e2, e3, e4]; simp; omega))

def frOk (x : Fr) : Bool := decide (0 ≤ x.1) && (decide (x.1 ≤ 16) && (decide (0 ≤ x.2.1) && decide (x.2.1 ≤ 2147483647)))
theorem frOk_out {x : Fr} : frOk x = true ↔ 0 ≤ x.1 ∧ x.1 ≤ 16 ∧ 0 ≤ x.2.1 ∧ x.2.1 ≤ 2147483647 := by simp [frOk]
structure CRight (l : List Fr) (h : Int) : Prop where
  one : 1 ≤ l.length
  most : l.length ≤ 8
  h0 : 0 ≤ h
  h1 : h < l.length
  all : ∀ i, (hi : i < l.length) → frOk l[i] = true
open Classical in
noncomputable def clockB (l : List Fr) (h : Int) : Bool := decide (CRight l h)
theorem clockB_t {l : List Fr} {h : Int} : clockB l h = true ↔ CRight l h := by simp [clockB]
theorem clockB_f {l : List Fr} {h : Int} : clockB l h = false ↔ ¬ CRight l h := by simp [clockB]
theorem noFr {l : List Fr} {h : Int} {k : Nat} (hk : k < l.length) (hf : ¬ (0 ≤ l[k].1 ∧ l[k].1 ≤ 16 ∧ 0 ≤ l[k].2.1 ∧ l[k].2.1 ≤ 2147483647)) : D.bool false = D.bool (clockB l h) :=
  congrArg D.bool (clockB_f.2 fun hR => hf (frOk_out.1 (hR.all k hk))).symm

theorem clockRight_ok (l : List Fr) (h : Int) : ACall Tryz.prog 58 [encC l h] (.bool (clockB l h)) := by
  refine acall_of Tryz.func58 1 rfl (by kernel_rfl) ?_
  conv => whnf
  have hm : (l.map encF).length = l.length := List.length_map ..
  repeat ((first | refine bF ?_ | refine bT ?_ | refine dK ?_ | refine cR ?_ | refine cK ?_ | refine wK ?_); conv => whnf)
  refine bcase_p (fun h1 => ?_) (fun h1 => ?_) <;> conv => whnf
  · exact ret_of rfl (congrArg D.bool (clockB_f.2 fun hR => by have := hR.one; omega).symm)
  repeat ((first | refine bF ?_ | refine bT ?_ | refine dK ?_ | refine cR ?_ | refine cK ?_ | refine wK ?_); conv => whnf)
  refine bcase_p (fun h2 => ?_) (fun h2 => ?_) <;> conv => whnf
  · exact ret_of rfl (congrArg D.bool (clockB_f.2 fun hR => by have := hR.most; omega).symm)
  repeat ((first | refine bF ?_ | refine bT ?_ | refine dK ?_ | refine cR ?_ | refine cK ?_ | refine wK ?_); conv => whnf)
  refine bcase_p (fun h3 => ?_) (fun h3 => ?_) <;> conv => whnf
  · exact ret_of rfl (congrArg D.bool (clockB_f.2 fun hR => by have := hR.h0; omega).symm)
  repeat ((first | refine bF ?_ | refine bT ?_ | refine dK ?_ | refine cR ?_ | refine cK ?_ | refine wK ?_); conv => whnf)
  refine bcase_p (fun h4 => ?_) (fun h4 => ?_) <;> conv => whnf
  · exact ret_of rfl (congrArg D.bool (clockB_f.2 fun hR => by have := hR.h1; omega).symm)
  repeat ((first | refine bF ?_ | refine bT ?_ | refine dK ?_ | refine cR ?_ | refine cK ?_ | refine wK ?_); conv => whnf)
  refine aloop (ι := Nat) (fun k => [(27, .d (.lst (l.map encF))), (28, .d (.int .i64 (l.map encF).length)), (29, .d (.int .i64 k))]) (fun _ => [])
    (fun k => k ≤ l.length ∧ ∀ i, i < k → (hi : i < l.length) → frOk l[i] = true) (fun k => l.length - k) 0 ⟨Nat.zero_le _, fun j h => absurd h (Nat.not_lt_zero _)⟩ (le0 (le_of_cov ⟨rfl, rfl, rfl, trivial⟩ trivial ⟨rfl, rfl, rfl, rfl⟩)) ?_
  rintro k ⟨hk, hR⟩
  conv => whnf
  refine bcase_p (fun h5 => ?_) (fun h5 => ?_) <;> conv => whnf
  · have hk2 : k < l.length := by omega
    refine idxK_nat (by omega) ?_
    conv => whnf
    refine getRow_of (x := encF l[k]) (by simp [hk2]) ?_
    conv => whnf
    repeat ((first | refine bF ?_ | refine bT ?_ | refine dK ?_ | refine cR ?_ | refine cK ?_ | refine wK ?_); conv => whnf)
    refine bcase_p (fun g1 => ?_) (fun g1 => ?_) <;> conv => whnf
    · exact ret_of rfl (noFr hk2 (by omega))
    repeat ((first | refine bF ?_ | refine bT ?_ | refine dK ?_ | refine cR ?_ | refine cK ?_ | refine wK ?_); conv => whnf)
    refine bcase_p (fun g2 => ?_) (fun g2 => ?_) <;> conv => whnf
    · exact ret_of rfl (noFr hk2 (by omega))
    repeat ((first | refine bF ?_ | refine bT ?_ | refine dK ?_ | refine cR ?_ | refine cK ?_ | refine wK ?_); conv => whnf)
    refine bcase_p (fun g3 => ?_) (fun g3 => ?_) <;> conv => whnf
    · exact ret_of rfl (noFr hk2 (by omega))
    repeat ((first | refine bF ?_ | refine bT ?_ | refine dK ?_ | refine cR ?_ | refine cK ?_ | refine wK ?_); conv => whnf)
    refine bcase_p (fun g4 => ?_) (fun g4 => ?_) <;> conv => whnf
    · exact ret_of rfl (noFr hk2 (by omega))
    repeat ((first | refine bF ?_ | refine bT ?_ | refine dK ?_ | refine cR ?_ | refine cK ?_ | refine wK ?_); conv => whnf)
    exact ⟨k + 1, ⟨by omega, fun i hi hi2 => (Nat.lt_succ_iff_lt_or_eq.1 hi).elim (fun h => hR i h hi2) (fun e => by subst e; exact frOk_out.2 (by omega))⟩, by omega, le0 (le_of_cov ⟨rfl, rfl, rfl, trivial⟩ trivial ⟨rfl, rfl, rfl, rfl⟩)⟩
  · exact ret_of rfl (congrArg D.bool (clockB_t.2 ⟨by omega, by omega, by omega, by omega, fun i hi => hR i (by omega) hi⟩).symm)

theorem cloneF_ok (l : List Fr) (hl : l.length ≤ 1000000) : OCall Tryz.prog 144 [.lst (l.map encF)] (l.map encF) 3 := by
  refine ocall_of Tryz.func144 1 rfl (by kernel_rfl) ?_
  conv => whnf
  refine nilK_of ?_
  conv => whnf
  intro r hr
  conv => whnf
  refine bcase_intro (fun h => ?_) (fun h => ?_) <;> conv => whnf
  · have := hr h
    exact ⟨2, rfl, .inr ⟨rfl, this⟩⟩
  · repeat ((first | refine bF ?_ | refine bT ?_ | refine dK ?_ | refine cR ?_ | refine cK ?_ | refine wK ?_); conv => whnf)
    refine condK_of (encF_ok l) ?_
    conv => whnf
    refine roomK_le 1000100 100 (by show 0 + List.length _ ≤ 1000100; simp; omega) (by decide) (by decide) (by decide) ?_
    conv => whnf
    exact ⟨2, rfl, .inl ⟨5, rfl, rfl⟩⟩
theorem cloneP_ok (l : List Pg) (hl : l.length ≤ 1000000) : OCall Tryz.prog 145 [.lst (l.map encP)] (l.map encP) 3 := by
  refine ocall_of Tryz.func145 1 rfl (by kernel_rfl) ?_
  conv => whnf
  refine nilK_of ?_
  conv => whnf
  intro r hr
  conv => whnf
  refine bcase_intro (fun h => ?_) (fun h => ?_) <;> conv => whnf
  · have := hr h
    exact ⟨2, rfl, .inr ⟨rfl, this⟩⟩
  · repeat ((first | refine bF ?_ | refine bT ?_ | refine dK ?_ | refine cR ?_ | refine cK ?_ | refine wK ?_); conv => whnf)
    refine condK_of (encP_ok l) ?_
    conv => whnf
    refine roomK_le 1000100 100 (by show 0 + List.length _ ≤ 1000100; simp; omega) (by decide) (by decide) (by decide) ?_
    conv => whnf
    exact ⟨2, rfl, .inl ⟨5, rfl, rfl⟩⟩

/-! ### who has no pins -/
theorem loose_ok (x : Fr) : ACall Tryz.prog 179 [.agg (encF x)] (.bool (decide (x.2.1 = 0))) := by
  refine acall_of Tryz.func179 1 rfl (by kernel_rfl) ?_
  conv => whnf
  repeat ((first | refine bF ?_ | refine bT ?_ | refine dK ?_ | refine cR ?_ | refine cK ?_ | refine wK ?_); conv => whnf)
  exact ret_of rfl rfl
def looseAt (l : List Fr) (k : Nat) : Int :=
  match l with
  | [] => -1
  | x :: r => if x.2.1 = 0 then (k : Int) else looseAt r (k + 1)
theorem indexFunc_ok (l : List Fr) (hl : l.length ≤ 1000000) : ACall Tryz.prog 182 [.lst (l.map encF), .fn 179 []] (.int .i64 (looseAt l 0)) := by
  refine acall_of Tryz.func182 2 rfl (by kernel_rfl) ?_
  conv => whnf
  refine aloop (ι := Nat) (fun k => [(0, .d (.lst (l.map encF))), (1, .d (.fn 179 [])), (7, .d (.int .i64 (l.map encF).length)), (8, .d (.int .i64 k))]) (fun _ => [])
    (fun k => k ≤ l.length ∧ looseAt (l.drop k) k = looseAt l 0) (fun k => l.length - k) 0 ⟨Nat.zero_le _, rfl⟩ (le0 (le_of_cov ⟨rfl, rfl, rfl, rfl, trivial⟩ trivial ⟨rfl, rfl, rfl, rfl⟩)) ?_
  rintro k ⟨hk, hR⟩
  conv => whnf
  refine bcase_p (fun h => ?_) (fun h => ?_) <;> conv => whnf
  · have hk2 : k < l.length := by simpa using h
    refine idxK_nat (by simpa using hk2) ?_
    conv => whnf
    refine getRow_of (x := encF l[k]) (by simp [hk2]) ?_
    conv => whnf
    repeat ((first | refine bF ?_ | refine bT ?_ | refine dK ?_ | refine cR ?_ | refine cK ?_ | refine wK ?_); conv => whnf)
    rw [drop_cons hk2, looseAt] at hR
    refine callX_pure (loose_ok l[k]) ?_
    conv => whnf
    refine bcase_p (fun h2 => ?_) (fun h2 => ?_) <;> conv => whnf
    · rw [if_pos h2] at hR
      exact ret_of rfl (by rw [← hR]; rfl)
    · rw [if_neg h2] at hR
      repeat ((first | refine bF ?_ | refine bT ?_ | refine dK ?_ | refine cR ?_ | refine cK ?_ | refine wK ?_); conv => whnf)
      exact ⟨k + 1, ⟨by omega, hR⟩, by omega, le0 (le_of_cov ⟨rfl, rfl, rfl, rfl, trivial⟩ trivial ⟨rfl, rfl, rfl, rfl⟩)⟩
  · have : k = l.length := by simp at h; omega
    subst this
    simp [looseAt] at hR
    exact ret_of rfl (by rw [← hR]; rfl)
theorem containsFunc_ok (l : List Fr) (hl : l.length ≤ 1000000) : ACall Tryz.prog 180 [.lst (l.map encF), .fn 179 []] (.bool (decide (0 ≤ looseAt l 0))) := by
  refine acall_of Tryz.func180 2 rfl (by kernel_rfl) ?_
  conv => whnf
  refine callX_pure (indexFunc_ok l hl) ?_
  conv => whnf
  exact ret_of rfl rfl
end Go.Lk

namespace Go.Lk
open Go Go.Proofs Go.RowKit

/-! ### a page's bytes -/
theorem bstr_fold (ns : List Int) : ∀ s : ByteArray, (ns.foldl (fun r n => r.push (UInt8.ofNat n.toNat)) s).data.toList = s.data.toList ++ ns.map fun n => UInt8.ofNat n.toNat := by
  induction ns with
  | nil => intro s; simp
  | cons n r ih => intro s; rw [List.foldl_cons, ih]; simp [ByteArray.push]
theorem bstr_list (ns : List Int) : (bstr ns).data.toList = ns.map fun n => UInt8.ofNat n.toNat := by
  rw [bstr, bstr_fold]; exact List.nil_append _
theorem size_list (s : ByteArray) : s.size = s.data.toList.length := (Array.length_toList).symm
theorem bstr_size (ns : List Int) : (bstr ns).size = ns.length := by rw [size_list, bstr_list, List.length_map]
theorem fourB_size (n : Nat) : (fourB n).size = 4 := bstr_size _
def zero1 : ByteArray := ⟨#[0]⟩
def nulB (n : Nat) : ByteArray := rep zero1 n
theorem nulB_list (n : Nat) : (nulB n).data.toList = List.replicate n 0 := by
  show (Lib.repeatL [0] n) = _
  have := Lib.repeatL_replicate 0 1 n
  simpa using this
theorem nulB_size (n : Nat) : (nulB n).size = n := by rw [size_list, nulB_list, List.length_replicate]
def headB (x : Pg) : ByteArray := fourB x.1.toNat ++ fourB x.2.1.toNat ++ fourB x.2.2.size
def tailB (x : Pg) : ByteArray := x.2.2 ++ nulB (16 - x.2.2.size)
def putB (x : Pg) : ByteArray := headB x ++ fourB (crcB (headB x ++ tailB x)).toNat ++ tailB x
theorem headB_size (x : Pg) : (headB x).size = 12 := by
  simp only [headB, ByteArray.size_append, fourB_size]
theorem tailB_size {x : Pg} (h : x.2.2.size ≤ 16) : (tailB x).size = 16 := by
  simp only [tailB, ByteArray.size_append, nulB_size]; omega
theorem putB_size {x : Pg} (h : x.2.2.size ≤ 16) : (putB x).size = 32 := by
  simp only [putB, ByteArray.size_append, headB_size, tailB_size h, fourB_size]
theorem put_ok (x : Pg) : ACall Tryz.prog 129 [.agg (encP x)] (if pgR x = true then .tup [.str (putB x), .int .i64 0] else .tup [.str ByteArray.empty, .int .i64 1]) := by
  refine acall_of Tryz.func129 1 rfl (by kernel_rfl) ?_
  conv => whnf
  repeat ((first | refine bF ?_ | refine bT ?_ | refine dK ?_ | refine cR ?_ | refine cK ?_ | refine wK ?_); conv => whnf)
  refine callX_pure (pageRight_ok x) ?_
  conv => whnf
  repeat ((first | refine bF ?_ | refine bT ?_ | refine dK ?_ | refine cR ?_ | refine cK ?_ | refine wK ?_); conv => whnf)
  refine bcase_intro (fun h1 => ?_) (fun h1 => ?_) <;> conv => whnf
  · repeat ((first | refine bF ?_ | refine bT ?_ | refine dK ?_ | refine cR ?_ | refine cK ?_ | refine wK ?_); conv => whnf)
    rw [if_neg (by simpa using h1)]
    exact ret_of rfl rfl
  have hR : pgR x = true := by simpa using h1
  have hv := pgR_out.1 hR
  rw [if_pos hR]
  repeat ((first | refine bF ?_ | refine bT ?_ | refine dK ?_ | refine cR ?_ | refine cK ?_ | refine wK ?_); conv => whnf)
  obtain ⟨a, ha⟩ : ∃ a : Nat, x.1 = a := ⟨x.1.toNat, by omega⟩
  obtain ⟨b, hb⟩ : ∃ b : Nat, x.2.1 = b := ⟨x.2.1.toNat, by omega⟩
  rw [ha, hb]
  refine callX_pure (four_ok a (by omega)) ?_
  conv => whnf
  repeat ((first | refine bF ?_ | refine bT ?_ | refine dK ?_ | refine cR ?_ | refine cK ?_ | refine wK ?_); conv => whnf)
  refine callX_pure (four_ok b (by omega)) ?_
  conv => whnf
  repeat ((first | refine bF ?_ | refine bT ?_ | refine dK ?_ | refine cR ?_ | refine cK ?_ | refine wK ?_); conv => whnf)
  have hz := fourB_size
  refine condK_of (by rw [hz, hz]; decide) ?_
  conv => whnf
  repeat ((first | refine bF ?_ | refine bT ?_ | refine dK ?_ | refine cR ?_ | refine cK ?_ | refine wK ?_); conv => whnf)
  refine callX_pure (four_ok x.2.2.size (by omega)) ?_
  conv => whnf
  repeat ((first | refine bF ?_ | refine bT ?_ | refine dK ?_ | refine cR ?_ | refine cK ?_ | refine wK ?_); conv => whnf)
  refine condK_of (by rw [ByteArray.size_append, hz, hz, hz]; decide) ?_
  conv => whnf
  repeat ((first | refine bF ?_ | refine bT ?_ | refine dK ?_ | refine cR ?_ | refine cK ?_ | refine wK ?_); conv => whnf)
  rw [show (16 : Int) - (x.2.2.size : Int) = ((16 - x.2.2.size : Nat) : Int) by omega]
  refine callX_pure (repeat_ok zero1 (16 - x.2.2.size) (by omega) (by decide)) ?_
  conv => whnf
  repeat ((first | refine bF ?_ | refine bT ?_ | refine dK ?_ | refine cR ?_ | refine cK ?_ | refine wK ?_); conv => whnf)
  refine condK_of (by rw [show (rep zero1 (16 - x.2.2.size)).size = _ from nulB_size _]; omega) ?_
  conv => whnf
  repeat ((first | refine bF ?_ | refine bT ?_ | refine dK ?_ | refine cR ?_ | refine cK ?_ | refine wK ?_); conv => whnf)
  have hh1 : fourB a ++ fourB b ++ fourB x.2.2.size = headB x := by rw [headB, ha, hb]; rfl
  have ht1 : x.2.2 ++ rep zero1 (16 - x.2.2.size) = tailB x := rfl
  rw [hh1, ht1]
  refine callX_own table_ok ?_
  conv => whnf
  repeat ((first | refine bF ?_ | refine bT ?_ | refine dK ?_ | refine cR ?_ | refine cK ?_ | refine wK ?_); conv => whnf)
  have h12 := headB_size x
  have h16 := tailB_size hv.2.2.2.2
  refine condK_of (by rw [h12, h16]; decide) ?_
  conv => whnf
  repeat ((first | refine bF ?_ | refine bT ?_ | refine dK ?_ | refine cR ?_ | refine cK ?_ | refine wK ?_); conv => whnf)
  refine callX_pure (sum_ok (headB x ++ tailB x) (by rw [ByteArray.size_append, h12, h16]; decide)) ?_
  conv => whnf
  repeat ((first | refine bF ?_ | refine bT ?_ | refine dK ?_ | refine cR ?_ | refine cK ?_ | refine wK ?_); conv => whnf)
  obtain ⟨c, hc⟩ : ∃ c, (crcB (headB x ++ tailB x)).toNat = c := ⟨_, rfl⟩
  have hc2 : c < 4294967296 := by rw [← hc]; exact (crcB (headB x ++ tailB x)).isLt
  rw [hc]
  refine callX_pure (four_ok c hc2) ?_
  conv => whnf
  repeat ((first | refine bF ?_ | refine bT ?_ | refine dK ?_ | refine cR ?_ | refine cK ?_ | refine wK ?_); conv => whnf)
  refine condK_of (by rw [h12, hz]; decide) ?_
  conv => whnf
  repeat ((first | refine bF ?_ | refine bT ?_ | refine dK ?_ | refine cR ?_ | refine cK ?_ | refine wK ?_); conv => whnf)
  refine condK_of (by rw [ByteArray.size_append, h12, hz, h16]; decide) ?_
  conv => whnf
  repeat ((first | refine bF ?_ | refine bT ?_ | refine dK ?_ | refine cR ?_ | refine cK ?_ | refine wK ?_); conv => whnf)
  have e : headB x ++ fourB c ++ tailB x = putB x := by rw [putB, hc]
  rw [e]
  exact ret_of rfl rfl
end Go.Lk

namespace Go.Lk
open Go Go.Proofs Go.RowKit

/-! ### a page of bytes -/
def zP : Pg := (0, 0, ByteArray.empty)
def gotP (s : ByteArray) : Pg := (((numB s 0 : Nat) : Int), ((numB s 4 : Nat) : Int), s.extract 16 (16 + numB s 8))
noncomputable def takeM (s : ByteArray) : Pg × Int :=
  if s.size ≠ 32 then (zP, 2) else if s = nulB 32 then (zP, 3) else if 16 < numB s 8 then (zP, 9) else
  if pgR (gotP s) = true ∧ putB (gotP s) = s then (gotP s, 0) else (zP, 9)
theorem take_ok (s : ByteArray) : ACall Tryz.prog 123 [.str s] (.tup [.agg (encP (takeM s).1), .int .i64 (takeM s).2]) := by
  refine acall_of Tryz.func123 1 rfl (by kernel_rfl) ?_
  conv => whnf
  repeat ((first | refine bF ?_ | refine bT ?_ | refine dK ?_ | refine cR ?_ | refine cK ?_ | refine wK ?_); conv => whnf)
  refine bcase_n (fun h1 => ?_) (fun h1 => ?_) <;> conv => whnf
  · repeat ((first | refine bF ?_ | refine bT ?_ | refine dK ?_ | refine cR ?_ | refine cK ?_ | refine wK ?_); conv => whnf)
    have e : takeM s = (zP, 2) := if_pos (by omega)
    rw [e]
    exact ret_of rfl rfl
  have hs : s.size = 32 := by omega
  have e0 : takeM s = if s = nulB 32 then (zP, 3) else if 16 < numB s 8 then (zP, 9) else if pgR (gotP s) = true ∧ putB (gotP s) = s then (gotP s, 0) else (zP, 9) := if_neg (by omega)
  rw [e0]
  repeat ((first | refine bF ?_ | refine bT ?_ | refine dK ?_ | refine cR ?_ | refine cK ?_ | refine wK ?_); conv => whnf)
  refine callX_pure (repeat_ok zero1 32 (by decide) (by decide)) ?_
  conv => whnf
  repeat ((first | refine bF ?_ | refine bT ?_ | refine dK ?_ | refine cR ?_ | refine cK ?_ | refine wK ?_); conv => whnf)
  refine bcase_p (fun h2 => ?_) (fun h2 => ?_) <;> conv => whnf
  · repeat ((first | refine bF ?_ | refine bT ?_ | refine dK ?_ | refine cR ?_ | refine cK ?_ | refine wK ?_); conv => whnf)
    rw [if_pos (show s = nulB 32 from h2)]
    exact ret_of rfl rfl
  rw [if_neg (show ¬ s = nulB 32 from h2)]
  repeat ((first | refine bF ?_ | refine bT ?_ | refine dK ?_ | refine cR ?_ | refine cK ?_ | refine wK ?_); conv => whnf)
  refine callX_pure (number_ok s 8 (by omega) (by omega)) ?_
  conv => whnf
  repeat ((first | refine bF ?_ | refine bT ?_ | refine dK ?_ | refine cR ?_ | refine cK ?_ | refine wK ?_); conv => whnf)
  refine bcase_p (fun h3 => ?_) (fun h3 => ?_) <;> conv => whnf
  · repeat ((first | refine bF ?_ | refine bT ?_ | refine dK ?_ | refine cR ?_ | refine cK ?_ | refine wK ?_); conv => whnf)
    rw [if_pos (by omega)]
    exact ret_of rfl rfl
  rw [if_neg (by omega)]
  repeat ((first | refine bF ?_ | refine bT ?_ | refine dK ?_ | refine cR ?_ | refine cK ?_ | refine wK ?_); conv => whnf)
  refine callX_pure (number_ok s 0 (by omega) (by omega)) ?_
  conv => whnf
  repeat ((first | refine bF ?_ | refine bT ?_ | refine dK ?_ | refine cR ?_ | refine cK ?_ | refine wK ?_); conv => whnf)
  refine callX_pure (number_ok s 4 (by omega) (by omega)) ?_
  conv => whnf
  repeat ((first | refine bF ?_ | refine bT ?_ | refine dK ?_ | refine cR ?_ | refine cK ?_ | refine wK ?_); conv => whnf)
  obtain ⟨n, hn⟩ : ∃ n, numB s 8 = n := ⟨_, rfl⟩
  rw [hn] at h3
  rw [hn]
  repeat ((first | refine bF ?_ | refine bT ?_ | refine dK ?_ | refine cR ?_ | refine cK ?_ | refine wK ?_); conv => whnf)
  rw [show (16 : Int) + (n : Int) = ((16 + n : Nat) : Int) by omega]
  refine sliceK_lohi (l := 16) (by omega) (by omega) ?_
  conv => whnf
  repeat ((first | refine bF ?_ | refine bT ?_ | refine dK ?_ | refine cR ?_ | refine cK ?_ | refine wK ?_); conv => whnf)
  have eg : gotP s = (((numB s 0 : Nat) : Int), ((numB s 4 : Nat) : Int), s.extract 16 (16 + n)) := by rw [gotP, hn]
  rw [eg]
  have hput := put_ok (((numB s 0 : Nat) : Int), ((numB s 4 : Nat) : Int), s.extract 16 (16 + n))
  by_cases hR : pgR (((numB s 0 : Nat) : Int), ((numB s 4 : Nat) : Int), s.extract 16 (16 + n)) = true
  · rw [if_pos hR] at hput
    refine callX_pure hput ?_
    conv => whnf
    repeat ((first | refine bF ?_ | refine bT ?_ | refine dK ?_ | refine cR ?_ | refine cK ?_ | refine wK ?_); conv => whnf)
    refine bcase_n (fun h4 => ?_) (fun h4 => ?_) <;> conv => whnf
    · repeat ((first | refine bF ?_ | refine bT ?_ | refine dK ?_ | refine cR ?_ | refine cK ?_ | refine wK ?_); conv => whnf)
      rw [if_neg (fun q => h4 q.2)]
      exact ret_of rfl rfl
    · repeat ((first | refine bF ?_ | refine bT ?_ | refine dK ?_ | refine cR ?_ | refine cK ?_ | refine wK ?_); conv => whnf)
      rw [if_pos ⟨hR, h4⟩]
      exact ret_of rfl rfl
  · rw [if_neg hR] at hput
    refine callX_pure hput ?_
    conv => whnf
    repeat ((first | refine bF ?_ | refine bT ?_ | refine dK ?_ | refine cR ?_ | refine cK ?_ | refine wK ?_); conv => whnf)
    rw [if_neg (fun q => hR q.1)]
    exact ret_of rfl rfl
end Go.Lk

namespace Go.Lk
open Go Go.Proofs Go.RowKit

/-! ### what is put is what is taken -/
def bl (s : ByteArray) : List UInt8 := s.data.toList
theorem bl_ext {s t : ByteArray} (h : bl s = bl t) : s = t := by
  cases s; cases t
  simp only [bl] at h
  congr 1
  exact Array.toList_inj.1 h
theorem bl_app (s t : ByteArray) : bl (s ++ t) = bl s ++ bl t := by simp [bl, ByteArray.toList_data_append]
theorem bl_len (s : ByteArray) : (bl s).length = s.size := Array.length_toList
theorem bl_extract (s : ByteArray) (a b : Nat) : bl (s.extract a b) = ((bl s).drop a).take (b - a) := by
  simp only [bl, ByteArray.data_extract, Array.toList_extract, List.extract]
theorem bl_four (n : Nat) : bl (fourB n) = [UInt8.ofNat (n % 256), UInt8.ofNat (n / 256 % 256), UInt8.ofNat (n / 65536 % 256), UInt8.ofNat (n / 16777216 % 256)] := by
  show (bstr _).data.toList = _
  rw [bstr_list]; rfl
theorem getD_bl (s : ByteArray) (j : Nat) : s.data.getD j 0 = (bl s)[j]?.getD 0 := by
  rw [Array.getD_eq_getD_getElem?, bl, Array.getElem?_toList]
theorem numB_at {s : ByteArray} {A B : List UInt8} {n i : Nat} (h : bl s = A ++ (bl (fourB n) ++ B)) (hi : A.length = i) (hn : n < 4294967296) : numB s i = n := by
  have get : ∀ j, j < 4 → (s.data.getD (i + j) 0) = (bl (fourB n))[j]?.getD 0 := fun j hj => by
    rw [getD_bl, h, List.getElem?_append_right (by omega), show i + j - A.length = j by omega, List.getElem?_append_left (by rw [bl_four]; exact hj)]
  have g0 := get 0 (by decide)
  rw [Nat.add_zero] at g0
  rw [numB, g0, get 1 (by decide), get 2 (by decide), get 3 (by decide), bl_four]
  simp only [List.getElem?_cons_zero, List.getElem?_cons_succ, Option.getD_some, UInt8.toNat_ofNat']
  omega
theorem gotP_put {x : Pg} (h : pgR x = true) : gotP (putB x) = x := by
  have hv := pgR_out.1 h
  have e : ∀ a b c d : ByteArray, ∀ t : ByteArray, bl (a ++ b ++ c ++ d ++ t) = bl a ++ (bl b ++ (bl c ++ (bl d ++ bl t))) := fun a b c d t => by simp only [bl_app, List.append_assoc]
  have e0 : bl (putB x) = bl (fourB x.1.toNat) ++ (bl (fourB x.2.1.toNat) ++ (bl (fourB x.2.2.size) ++ (bl (fourB (crcB (headB x ++ tailB x)).toNat) ++ bl (tailB x)))) := e _ _ _ _ _
  have l4 : ∀ n, (bl (fourB n)).length = 4 := fun n => by rw [bl_four]; rfl
  have n0 : numB (putB x) 0 = x.1.toNat := numB_at (A := []) (by rw [e0]; rfl) rfl (by omega)
  have n4 : numB (putB x) 4 = x.2.1.toNat := numB_at (A := bl (fourB x.1.toNat)) e0 (l4 _) (by omega)
  have n8 : numB (putB x) 8 = x.2.2.size := numB_at (A := bl (fourB x.1.toNat) ++ bl (fourB x.2.1.toNat)) (by rw [e0, List.append_assoc]) (by rw [List.length_append, l4, l4]) (by omega)
  rw [gotP, n0, n4, n8]
  refine Prod.ext ?_ (Prod.ext ?_ ?_)
  · show ((x.1.toNat : Nat) : Int) = x.1; omega
  · show ((x.2.1.toNat : Nat) : Int) = x.2.1; omega
  · show (putB x).extract 16 (16 + x.2.2.size) = x.2.2
    apply bl_ext
    rw [bl_extract, e0, show 16 + x.2.2.size - 16 = x.2.2.size by omega]
    rw [show bl (fourB x.1.toNat) ++ (bl (fourB x.2.1.toNat) ++ (bl (fourB x.2.2.size) ++ (bl (fourB (crcB (headB x ++ tailB x)).toNat) ++ bl (tailB x)))) = (bl (fourB x.1.toNat) ++ bl (fourB x.2.1.toNat) ++ bl (fourB x.2.2.size) ++ bl (fourB (crcB (headB x ++ tailB x)).toNat)) ++ bl (tailB x) by simp only [List.append_assoc]]
    rw [List.drop_append_of_le_length (by simp only [List.length_append, l4]; omega), List.drop_of_length_le (by simp only [List.length_append, l4]; omega), List.nil_append, tailB, bl_app, ← bl_len, List.take_left]
theorem take_put {x : Pg} (h : pgR x = true) : takeM (putB x) = (x, 0) := by
  have hv := pgR_out.1 h
  have g := gotP_put h
  have n8 : numB (putB x) 8 = x.2.2.size := by
    have := congrArg (fun y : Pg => y.2.2.size) g
    have l4 : ∀ n, (bl (fourB n)).length = 4 := fun n => by rw [bl_four]; rfl
    have e : ∀ a b c d : ByteArray, ∀ t : ByteArray, bl (a ++ b ++ c ++ d ++ t) = bl a ++ (bl b ++ (bl c ++ (bl d ++ bl t))) := fun a b c d t => by simp only [bl_app, List.append_assoc]
    exact numB_at (A := bl (fourB x.1.toNat) ++ bl (fourB x.2.1.toNat)) (by rw [List.append_assoc]; exact e _ _ _ _ _) (by rw [List.length_append, l4, l4]) (by omega)
  have hz : ¬ putB x = nulB 32 := fun q => by
    have n0 : numB (putB x) 0 = x.1.toNat := by
      have := congrArg (fun y : Pg => y.1) g
      simp only [gotP] at this
      omega
    rw [q, numB] at n0
    have z : ∀ j, (nulB 32).data.getD j 0 = 0 := fun j => by
      rw [getD_bl, show bl (nulB 32) = _ from nulB_list 32, List.getElem?_replicate]
      split <;> rfl
    rw [z, z, z, z] at n0
    have : (0 : UInt8).toNat = 0 := rfl
    omega
  rw [takeM, if_neg (by rw [putB_size hv.2.2.2.2]; decide), if_neg hz, if_neg (by rw [n8]; omega), g, if_pos ⟨h, rfl⟩]
theorem take_nul : takeM (nulB 32) = (zP, 3) := by
  rw [takeM, if_neg (by rw [nulB_size]; decide), if_pos rfl]
end Go.Lk

namespace Go.Lk
open Go Go.Proofs Go.RowKit

/-! ### the document's sum, and its page -/
theorem quo32 (x : W32) : IntKind.u32.wrap ((x.toNat : Int).tdiv 2) = ((x >>> 1).toNat : Int) := by
  rw [Int.tdiv_eq_ediv_of_nonneg (by omega), BitVec.toNat_ushiftRight, Nat.shiftRight_eq_div_pow, wrap32]
  have := x.isLt
  omega
theorem rsum_ok (s : ByteArray) (hs : s.size ≤ 1000) : ACall Tryz.prog 119 [.str s] (.int .i64 (crcB s).toNat) := by
  refine acall_of Tryz.func119 1 rfl (by kernel_rfl) ?_
  conv => whnf
  refine aloop (ι := Nat) (fun k => [(0, .d (.str s)), (3, .d (.int .u32 (crcK s k).toNat)), (4, .d (.int .i64 k))]) (fun _ => [])
    (fun k => k ≤ s.size) (fun k => s.size - k) 0 (by omega) (le0 (le_of_cov ⟨rfl, by kernel_rfl, rfl, trivial⟩ trivial ⟨rfl, rfl, rfl, rfl⟩)) ?_
  intro k hk
  obtain ⟨x, hx⟩ : ∃ x, crcK s k = x := ⟨_, rfl⟩
  simp only [hx]
  conv => whnf
  refine bcase_p (fun h5 => ?_) (fun h5 => ?_) <;> conv => whnf
  · have hk2 : k < s.size := by omega
    repeat ((first | refine bF ?_ | refine bT ?_ | refine dK ?_ | refine cR ?_ | refine cK ?_ | refine wK ?_); conv => whnf)
    refine idxK_nat (by omega) ?_
    conv => whnf
    obtain ⟨c, hc⟩ : ∃ c : UInt8, s.data.getD k 0 = c := ⟨_, rfl⟩
    have hc2 := c.toNat_lt
    rw [hc]
    refine wrapK_in (u32in (by omega) (by omega)) ?_
    conv => whnf
    have e1 : bitsV .xor .u32 (x.toNat : Int) (c.toNat : Int) = ((x ^^^ BitVec.ofNat 32 c.toNat).toNat : Int) := by
      have := bx32 x (BitVec.ofNat 32 c.toNat)
      rw [BitVec.toNat_ofNat, Nat.mod_eq_of_lt (by omega)] at this
      exact this
    rw [e1]
    repeat ((first | refine bF ?_ | refine bT ?_ | refine dK ?_ | refine cR ?_ | refine cK ?_ | refine wK ?_); conv => whnf)
    refine aloop (ι := Nat) (fun j => [(0, .d (.str s)), (3, .d (.int .u32 (stpN j (x ^^^ BitVec.ofNat 32 c.toNat)).toNat)), (4, .d (.int .i64 k)), (5, .d (.int .i64 j))]) (fun _ => [])
      (fun j => j ≤ 8) (fun j => 8 - j) 0 (by omega) (le0 (le_of_cov ⟨rfl, rfl, rfl, rfl, trivial⟩ trivial ⟨rfl, rfl, rfl, rfl⟩)) ?_
    intro j hj
    obtain ⟨y, hy⟩ : ∃ y, stpN j (x ^^^ BitVec.ofNat 32 c.toNat) = y := ⟨_, rfl⟩
    simp only [hy]
    conv => whnf
    refine bcase_p (fun h6 => ?_) (fun h6 => ?_) <;> conv => whnf
    · repeat ((first | refine bF ?_ | refine bT ?_ | refine dK ?_ | refine cR ?_ | refine cK ?_ | refine wK ?_); conv => whnf)
      refine divK_rem (by decide) (by omega) ?_
      conv => whnf
      rw [odd32' y]
      refine bcase_intro (fun h => ?_) (fun h => ?_) <;> conv => whnf
      · refine divK_raw (by decide) ?_
        conv => whnf
        have e1 : stpN (j + 1) (x ^^^ BitVec.ofNat 32 c.toNat) = (y >>> 1) ^^^ turner := by rw [stpN, hy, stp_t h]
        have e2 : bitsV .xor .u32 (IntKind.u32.wrap ((y.toNat : Int).tdiv 2)) 3988292384 = (((y >>> 1) ^^^ turner).toNat : Int) := by
          rw [quo32]
          exact bx32 _ turner
        rw [show (if true = true then IntKind.u32.wrap ((y.toNat : Int).tdiv 2) else (y.toNat : Int).tmod 2) = IntKind.u32.wrap ((y.toNat : Int).tdiv 2) from rfl, e2, ← e1]
        repeat ((first | refine bF ?_ | refine bT ?_ | refine dK ?_ | refine cR ?_ | refine cK ?_ | refine wK ?_); conv => whnf)
        exact ⟨j + 1, by omega, by omega, (le0 (le_of_cov ⟨rfl, rfl, rfl, rfl, trivial⟩ trivial ⟨rfl, rfl, rfl, rfl⟩))⟩
      · refine divK_raw (by decide) ?_
        conv => whnf
        have e1 : stpN (j + 1) (x ^^^ BitVec.ofNat 32 c.toNat) = y >>> 1 := by rw [stpN, hy, stp_f h]
        rw [show (if true = true then IntKind.u32.wrap ((y.toNat : Int).tdiv 2) else (y.toNat : Int).tmod 2) = IntKind.u32.wrap ((y.toNat : Int).tdiv 2) from rfl, quo32, ← e1]
        repeat ((first | refine bF ?_ | refine bT ?_ | refine dK ?_ | refine cR ?_ | refine cK ?_ | refine wK ?_); conv => whnf)
        exact ⟨j + 1, by omega, by omega, (le0 (le_of_cov ⟨rfl, rfl, rfl, rfl, trivial⟩ trivial ⟨rfl, rfl, rfl, rfl⟩))⟩
    · repeat ((first | refine bF ?_ | refine bT ?_ | refine dK ?_ | refine cR ?_ | refine cK ?_ | refine wK ?_); conv => whnf)
      have ej : j = 8 := by omega
      subst ej
      have e2 : crcK s (k + 1) = y := by rw [crcK_succ hk2, hx, hc, ← hy, stpN_8]; rfl
      rw [← e2]
      exact ⟨k + 1, by omega, by omega, (le0 (le_of_cov ⟨rfl, rfl, rfl, trivial⟩ trivial ⟨rfl, rfl, rfl, rfl⟩))⟩
  · repeat ((first | refine bF ?_ | refine bT ?_ | refine dK ?_ | refine cR ?_ | refine cK ?_ | refine wK ?_); conv => whnf)
    rw [show (if IntKind.u32.signed = true then (-1 : Int) else IntKind.u32.max) = 4294967295 from rfl, not32]
    refine wrapK_in (w64 (by omega) (by have := lt32 (~~~ x); omega)) ?_
    conv => whnf
    repeat ((first | refine bF ?_ | refine bT ?_ | refine dK ?_ | refine cR ?_ | refine cK ?_ | refine wK ?_); conv => whnf)
    have e : ~~~ x = crcB s := by rw [← hx]; exact crcK_end (by omega)
    rw [e]
    exact ret_of rfl rfl
theorem rfour_ok (n : Nat) (hn : n < 4294967296) : ACall Tryz.prog 118 [.int .i64 n] (.str (fourB n)) := by
  refine acall_of Tryz.func118 1 rfl (by kernel_rfl) ?_
  conv => whnf
  have q : ∀ k : Int, 0 < k → k ≤ 16777216 → (if true = true then IntKind.i64.wrap ((n : Int).tdiv k) else (n : Int).tmod k) = (n : Int) / k := fun k hk hk2 => by
    rw [if_pos rfl, Int.tdiv_eq_ediv_of_nonneg (by omega)]
    have h1 : 0 ≤ (n : Int) / k := Int.ediv_nonneg (by omega) (by omega)
    have h2 : (n : Int) / k ≤ n := Int.ediv_le_self _ (by omega)
    exact w64 (by omega) (by omega)
  refine divK_rem (by decide) (by omega) ?_
  conv => whnf
  refine wrapK_raw ?_
  conv => whnf
  refine divK_raw (by decide) ?_
  conv => whnf
  rw [q 256 (by decide) (by decide)]
  refine divK_rem (by decide) (by omega) ?_
  conv => whnf
  refine wrapK_raw ?_
  conv => whnf
  refine divK_raw (by decide) ?_
  conv => whnf
  rw [q 65536 (by decide) (by decide)]
  refine divK_rem (by decide) (by omega) ?_
  conv => whnf
  refine wrapK_raw ?_
  conv => whnf
  refine divK_raw (by decide) ?_
  conv => whnf
  rw [q 16777216 (by decide) (by decide)]
  refine wrapK_raw ?_
  conv => whnf
  repeat ((first | refine bF ?_ | refine bT ?_ | refine dK ?_ | refine cR ?_ | refine cK ?_ | refine wK ?_); conv => whnf)
  refine ret_of rfl (congrArg D.str ?_)
  show bstr [IntKind.u8.wrap ((n : Int) % 256), IntKind.u8.wrap ((n : Int) / 256 % 256), IntKind.u8.wrap ((n : Int) / 65536 % 256), IntKind.u8.wrap ((n : Int) / 16777216)] = fourB n
  rw [fourB]
  simp only [wrap8]
  congr 1
  simp only [List.cons.injEq, and_true]
  omega
theorem nul_snoc (n : Nat) : nulB n ++ bstr [0] = nulB (n + 1) := by
  apply bl_ext
  rw [bl_app, show bl (nulB n) = _ from nulB_list n, show bl (nulB (n + 1)) = _ from nulB_list (n + 1), List.replicate_succ']
  rfl
theorem nul_0 : nulB 0 = ByteArray.empty := bl_ext rfl
theorem rput_ok (x : Pg) (hR : pgR x = true) : ACall Tryz.prog 76 [.agg (encP x)] (.str (putB x)) := by
  have hv := pgR_out.1 hR
  refine acall_of Tryz.func76 1 rfl (by kernel_rfl) ?_
  conv => whnf
  repeat ((first | refine bF ?_ | refine bT ?_ | refine dK ?_ | refine cR ?_ | refine cK ?_ | refine wK ?_); conv => whnf)
  obtain ⟨a, ha⟩ : ∃ a : Nat, x.1 = a := ⟨x.1.toNat, by omega⟩
  obtain ⟨b, hb⟩ : ∃ b : Nat, x.2.1 = b := ⟨x.2.1.toNat, by omega⟩
  have hh1 : fourB a ++ fourB b ++ fourB x.2.2.size = headB x := by rw [headB, ha, hb]; rfl
  rw [ha, hb]
  have hz := fourB_size
  have h12 := headB_size x
  have h16 := tailB_size hv.2.2.2.2
  refine callX_pure (rfour_ok a (by omega)) ?_
  conv => whnf
  repeat ((first | refine bF ?_ | refine bT ?_ | refine dK ?_ | refine cR ?_ | refine cK ?_ | refine wK ?_); conv => whnf)
  refine callX_pure (rfour_ok b (by omega)) ?_
  conv => whnf
  repeat ((first | refine bF ?_ | refine bT ?_ | refine dK ?_ | refine cR ?_ | refine cK ?_ | refine wK ?_); conv => whnf)
  refine condK_of (by rw [hz, hz]; decide) ?_
  conv => whnf
  repeat ((first | refine bF ?_ | refine bT ?_ | refine dK ?_ | refine cR ?_ | refine cK ?_ | refine wK ?_); conv => whnf)
  refine callX_pure (rfour_ok x.2.2.size (by omega)) ?_
  conv => whnf
  repeat ((first | refine bF ?_ | refine bT ?_ | refine dK ?_ | refine cR ?_ | refine cK ?_ | refine wK ?_); conv => whnf)
  refine condK_of (by rw [ByteArray.size_append, hz, hz, hz]; decide) ?_
  conv => whnf
  repeat ((first | refine bF ?_ | refine bT ?_ | refine dK ?_ | refine cR ?_ | refine cK ?_ | refine wK ?_); conv => whnf)
  rw [hh1]
  refine aloop (ι := Nat) (fun k => [(3, .d (.str (headB x))), (4, .d (.str (x.2.2 ++ nulB k)))]) (fun _ => [])
    (fun k => x.2.2.size + k ≤ 16) (fun k => 16 - k) 0 (by omega) (le0 (le_of_cov ⟨rfl, ?_, trivial⟩ trivial ⟨rfl, rfl, rfl, rfl⟩)) ?_
  · show AV.d (.str x.2.2) = _
    rw [nul_0]
    congr 2
    apply bl_ext
    rw [bl_app]
    exact (List.append_nil _).symm
  intro k hk
  have hsz : (x.2.2 ++ nulB k).size = x.2.2.size + k := by rw [ByteArray.size_append, nulB_size]
  conv => whnf
  refine bcase_p (fun h5 => ?_) (fun h5 => ?_) <;> conv => whnf
  · have hk2 : x.2.2.size + k < 16 := by omega
    repeat ((first | refine bF ?_ | refine bT ?_ | refine dK ?_ | refine cR ?_ | refine cK ?_ | refine wK ?_); conv => whnf)
    refine condK_of (by rw [hsz, bstr_size]; simp; omega) ?_
    conv => whnf
    repeat ((first | refine bF ?_ | refine bT ?_ | refine dK ?_ | refine cR ?_ | refine cK ?_ | refine wK ?_); conv => whnf)
    have e : x.2.2 ++ nulB k ++ bstr [0] = x.2.2 ++ nulB (k + 1) := by
      rw [← nul_snoc]
      apply bl_ext
      simp only [bl_app, List.append_assoc]
    rw [e]
    exact ⟨k + 1, by omega, by omega, (le0 (le_of_cov ⟨rfl, rfl, trivial⟩ trivial ⟨rfl, rfl, rfl, rfl⟩))⟩
  · repeat ((first | refine bF ?_ | refine bT ?_ | refine dK ?_ | refine cR ?_ | refine cK ?_ | refine wK ?_); conv => whnf)
    have ek : k = 16 - x.2.2.size := by omega
    subst ek
    rw [show x.2.2 ++ nulB (16 - x.2.2.size) = tailB x from rfl]
    refine callX_pure (rsum_ok (headB x ++ tailB x) (by rw [ByteArray.size_append, h12, h16]; decide)) ?_
    conv => whnf
    repeat ((first | refine bF ?_ | refine bT ?_ | refine dK ?_ | refine cR ?_ | refine cK ?_ | refine wK ?_); conv => whnf)
    obtain ⟨c, hc⟩ : ∃ c, (crcB (headB x ++ tailB x)).toNat = c := ⟨_, rfl⟩
    have hc2 : c < 4294967296 := by rw [← hc]; exact (crcB (headB x ++ tailB x)).isLt
    rw [hc]
    refine callX_pure (rfour_ok c hc2) ?_
    conv => whnf
    repeat ((first | refine bF ?_ | refine bT ?_ | refine dK ?_ | refine cR ?_ | refine cK ?_ | refine wK ?_); conv => whnf)
    refine condK_of (by rw [h12, hz]; decide) ?_
    conv => whnf
    repeat ((first | refine bF ?_ | refine bT ?_ | refine dK ?_ | refine cR ?_ | refine cK ?_ | refine wK ?_); conv => whnf)
    refine condK_of (by rw [ByteArray.size_append, h12, hz, h16]; decide) ?_
    conv => whnf
    repeat ((first | refine bF ?_ | refine bT ?_ | refine dK ?_ | refine cR ?_ | refine cK ?_ | refine wK ?_); conv => whnf)
    have e : headB x ++ fourB c ++ tailB x = putB x := by rw [putB, hc]
    rw [e]
    exact ret_of rfl rfl
end Go.Lk

namespace Go.Lk
open Go Go.Proofs Go.RowKit

theorem rright02_ok (x : Pg) : ACall Tryz.prog 75 [.agg (encP x)] (.bool (pgR x)) := by
  refine acall_of Tryz.func75 1 rfl (by kernel_rfl) ?_
  conv => whnf
  repeat ((first | refine bF ?_ | refine bT ?_ | refine dK ?_ | refine cR ?_ | refine cK ?_ | refine wK ?_); conv => whnf)
  refine bcase_p (fun h1 => ?_) (fun h1 => ?_) <;> conv => whnf
  rotate_left
  · repeat ((first | refine bF ?_ | refine bT ?_ | refine dK ?_ | refine cR ?_ | refine cK ?_ | refine wK ?_); conv => whnf)
    exact ret_of rfl (congrArg D.bool (by symm; rw [← Bool.not_eq_true, pgR_out]; omega))
  repeat ((first | refine bF ?_ | refine bT ?_ | refine dK ?_ | refine cR ?_ | refine cK ?_ | refine wK ?_); conv => whnf)
  refine bcase_p (fun h2 => ?_) (fun h2 => ?_) <;> conv => whnf
  rotate_left
  · repeat ((first | refine bF ?_ | refine bT ?_ | refine dK ?_ | refine cR ?_ | refine cK ?_ | refine wK ?_); conv => whnf)
    exact ret_of rfl (congrArg D.bool (by symm; rw [← Bool.not_eq_true, pgR_out]; omega))
  repeat ((first | refine bF ?_ | refine bT ?_ | refine dK ?_ | refine cR ?_ | refine cK ?_ | refine wK ?_); conv => whnf)
  refine bcase_p (fun h3 => ?_) (fun h3 => ?_) <;> conv => whnf
  rotate_left
  · repeat ((first | refine bF ?_ | refine bT ?_ | refine dK ?_ | refine cR ?_ | refine cK ?_ | refine wK ?_); conv => whnf)
    exact ret_of rfl (congrArg D.bool (by symm; rw [← Bool.not_eq_true, pgR_out]; omega))
  repeat ((first | refine bF ?_ | refine bT ?_ | refine dK ?_ | refine cR ?_ | refine cK ?_ | refine wK ?_); conv => whnf)
  refine bcase_p (fun h4 => ?_) (fun h4 => ?_) <;> conv => whnf
  rotate_left
  · repeat ((first | refine bF ?_ | refine bT ?_ | refine dK ?_ | refine cR ?_ | refine cK ?_ | refine wK ?_); conv => whnf)
    exact ret_of rfl (congrArg D.bool (by symm; rw [← Bool.not_eq_true, pgR_out]; omega))
  repeat ((first | refine bF ?_ | refine bT ?_ | refine dK ?_ | refine cR ?_ | refine cK ?_ | refine wK ?_); conv => whnf)
  refine ret_of rfl (congrArg D.bool ?_)
  by_cases h5 : (x.2.2.size : Int) < 17
  · rw [decide_eq_true h5]; symm; rw [pgR_out]; omega
  · rw [decide_eq_false h5]; symm; rw [← Bool.not_eq_true, pgR_out]; omega
theorem nul_iff {s : ByteArray} : (∀ i, i < s.size → s.data.getD i 0 = 0) ↔ s = nulB s.size := by
  constructor
  · intro h
    apply bl_ext
    rw [show bl (nulB s.size) = _ from nulB_list s.size]
    apply List.ext_getElem
    · rw [bl_len, List.length_replicate]
    · intro i h1 h2
      have hi : i < s.size := by rw [← bl_len]; exact h1
      have := h i hi
      rw [getD_bl, List.getElem?_eq_getElem h1, Option.getD_some] at this
      rw [this, List.getElem_replicate]
  · intro h i hi
    rw [h, getD_bl, show bl (nulB s.size) = _ from nulB_list s.size, List.getElem?_replicate]
    split <;> rfl
theorem noughts_ok (s : ByteArray) (hs : s.size ≤ 1000) : ACall Tryz.prog 95 [.str s] (.bool (decide (s = nulB s.size))) := by
  refine acall_of Tryz.func95 1 rfl (by kernel_rfl) ?_
  conv => whnf
  refine aloop (ι := Nat) (fun k => [(0, .d (.str s)), (3, .d (.int .i64 k))]) (fun _ => [])
    (fun k => k ≤ s.size ∧ ∀ i, i < k → s.data.getD i 0 = 0) (fun k => s.size - k) 0 ⟨by omega, by omega⟩ (le0 (le_of_cov ⟨rfl, rfl, trivial⟩ trivial ⟨rfl, rfl, rfl, rfl⟩)) ?_
  rintro k ⟨hk, hR⟩
  conv => whnf
  refine bcase_p (fun h5 => ?_) (fun h5 => ?_) <;> conv => whnf
  · have hk2 : k < s.size := by omega
    repeat ((first | refine bF ?_ | refine bT ?_ | refine dK ?_ | refine cR ?_ | refine cK ?_ | refine wK ?_); conv => whnf)
    refine idxK_nat (by omega) ?_
    conv => whnf
    refine bcase_n (fun h6 => ?_) (fun h6 => ?_) <;> conv => whnf
    · repeat ((first | refine bF ?_ | refine bT ?_ | refine dK ?_ | refine cR ?_ | refine cK ?_ | refine wK ?_); conv => whnf)
      refine ret_of rfl (congrArg D.bool ?_)
      symm; rw [decide_eq_false_iff_not]
      intro e
      have := nul_iff.2 e k hk2
      rw [this] at h6
      exact h6 rfl
    · repeat ((first | refine bF ?_ | refine bT ?_ | refine dK ?_ | refine cR ?_ | refine cK ?_ | refine wK ?_); conv => whnf)
      have e0 : s.data.getD k 0 = 0 := by
        apply UInt8.toNat.inj
        have : (0 : UInt8).toNat = 0 := rfl
        omega
      exact ⟨k + 1, ⟨by omega, fun i hi => by
        by_cases e : i = k
        · subst e; exact e0
        · exact hR i (by omega)⟩, by omega, (le0 (le_of_cov ⟨rfl, rfl, trivial⟩ trivial ⟨rfl, rfl, rfl, rfl⟩))⟩
  · repeat ((first | refine bF ?_ | refine bT ?_ | refine dK ?_ | refine cR ?_ | refine cK ?_ | refine wK ?_); conv => whnf)
    refine ret_of rfl (congrArg D.bool ?_)
    symm; rw [decide_eq_true_eq]
    exact nul_iff.1 fun i hi => hR i (by omega)
def i64c (n : Int) : AV := .d (.int .i64 n)
def arr3 (s : ByteArray) : Nat → List AV
  | 0 => [.d (.int .i64 0), .d (.int .i64 0), .d (.int .i64 0)]
  | 1 => [.d (.int .i64 (numB s 0)), .d (.int .i64 0), .d (.int .i64 0)]
  | 2 => [.d (.int .i64 (numB s 0)), .d (.int .i64 (numB s 4)), .d (.int .i64 0)]
  | _ => [.d (.int .i64 (numB s 0)), .d (.int .i64 (numB s 4)), .d (.int .i64 (numB s 8))]
theorem rtake_ok (s : ByteArray) : ACall Tryz.prog 56 [.str s] (.tup [.agg (encP (takeM s).1), .int .i64 (takeM s).2]) := by
  refine acall_of Tryz.func56 1 rfl (by kernel_rfl) ?_
  conv => whnf
  repeat ((first | refine bF ?_ | refine bT ?_ | refine dK ?_ | refine cR ?_ | refine cK ?_ | refine wK ?_); conv => whnf)
  refine bcase_n (fun h1 => ?_) (fun h1 => ?_) <;> conv => whnf
  · repeat ((first | refine bF ?_ | refine bT ?_ | refine dK ?_ | refine cR ?_ | refine cK ?_ | refine wK ?_); conv => whnf)
    have e : takeM s = (zP, 2) := if_pos (by omega)
    rw [e]
    exact ret_of rfl rfl
  have hs : s.size = 32 := by omega
  have e0 : takeM s = if s = nulB 32 then (zP, 3) else if 16 < numB s 8 then (zP, 9) else if pgR (gotP s) = true ∧ putB (gotP s) = s then (gotP s, 0) else (zP, 9) := if_neg (by omega)
  rw [e0]
  repeat ((first | refine bF ?_ | refine bT ?_ | refine dK ?_ | refine cR ?_ | refine cK ?_ | refine wK ?_); conv => whnf)
  refine callX_pure (noughts_ok s (by omega)) ?_
  conv => whnf
  repeat ((first | refine bF ?_ | refine bT ?_ | refine dK ?_ | refine cR ?_ | refine cK ?_ | refine wK ?_); conv => whnf)
  rw [hs]
  refine bcase_p (fun h2 => ?_) (fun h2 => ?_) <;> conv => whnf
  · repeat ((first | refine bF ?_ | refine bT ?_ | refine dK ?_ | refine cR ?_ | refine cK ?_ | refine wK ?_); conv => whnf)
    rw [if_pos h2]
    exact ret_of rfl rfl
  rw [if_neg h2]
  repeat ((first | refine bF ?_ | refine bT ?_ | refine dK ?_ | refine cR ?_ | refine cK ?_ | refine wK ?_); conv => whnf)
  refine aloop (ι := Nat) (fun k => [(0, .d (.str s)), (2, .ptr 2 0 0), (4, .ptr 4 0 0), (5, .d (.int .i64 k))]) (fun k => [(2, .box [.d (.int .i64 0), .d (.int .i64 0), .d (.str ByteArray.empty)] false), (4, .box (arr3 s k) false)])
    (fun k => k ≤ 3) (fun k => 3 - k) 0 (by omega) (le0 (le_of_cov ⟨rfl, rfl, rfl, rfl, trivial⟩ ⟨rfl, rfl, trivial⟩ ⟨rfl, rfl, rfl, rfl⟩)) ?_
  intro k hk
  conv => whnf
  refine bcase_p (fun h5 => ?_) (fun h5 => ?_) <;> conv => whnf
  · have hk2 : k < 3 := by omega
    repeat ((first | refine bF ?_ | refine bT ?_ | refine dK ?_ | refine cR ?_ | refine cK ?_ | refine wK ?_); conv => whnf)
    have lt8 : ∀ j, (s.data.getD j 0).toNat < 256 := fun j => (s.data.getD j 0).toNat_lt
    obtain ⟨b0, hb0, l0⟩ : ∃ b : Nat, (s.data.getD (4 * k) 0).toNat = b ∧ b < 256 := ⟨_, rfl, lt8 _⟩
    obtain ⟨b1, hb1, l1⟩ : ∃ b : Nat, (s.data.getD (4 * k + 1) 0).toNat = b ∧ b < 256 := ⟨_, rfl, lt8 _⟩
    obtain ⟨b2, hb2, l2⟩ : ∃ b : Nat, (s.data.getD (4 * k + 2) 0).toNat = b ∧ b < 256 := ⟨_, rfl, lt8 _⟩
    obtain ⟨b3, hb3, l3⟩ : ∃ b : Nat, (s.data.getD (4 * k + 3) 0).toNat = b ∧ b < 256 := ⟨_, rfl, lt8 _⟩
    rw [show 4 * (k : Int) = ((4 * k : Nat) : Int) by omega]
    refine idxK_nat (by omega) ?_
    conv => whnf
    rw [hb0]
    repeat ((first | refine bF ?_ | refine bT ?_ | refine dK ?_ | refine cR ?_ | refine cK ?_ | refine wK ?_); conv => whnf)
    rw [show 4 * (k : Int) + 1 = ((4 * k + 1 : Nat) : Int) by omega]
    refine idxK_nat (by omega) ?_
    conv => whnf
    rw [hb1]
    repeat ((first | refine bF ?_ | refine bT ?_ | refine dK ?_ | refine cR ?_ | refine cK ?_ | refine wK ?_); conv => whnf)
    rw [show 4 * (k : Int) + 2 = ((4 * k + 2 : Nat) : Int) by omega]
    refine idxK_nat (by omega) ?_
    conv => whnf
    rw [hb2]
    repeat ((first | refine bF ?_ | refine bT ?_ | refine dK ?_ | refine cR ?_ | refine cK ?_ | refine wK ?_); conv => whnf)
    rw [show 4 * (k : Int) + 3 = ((4 * k + 3 : Nat) : Int) by omega]
    refine idxK_nat (by omega) ?_
    conv => whnf
    rw [hb3]
    repeat ((first | refine bF ?_ | refine bT ?_ | refine dK ?_ | refine cR ?_ | refine cK ?_ | refine wK ?_); conv => whnf)
    have en : (b0 : Int) + 256 * (b1 : Int) + 65536 * (b2 : Int) + 16777216 * (b3 : Int) = (numB s (4 * k) : Int) := by
      rw [numB, hb0, hb1, hb2, hb3]; omega
    rw [en]
    rcases (show k = 0 ∨ k = 1 ∨ k = 2 by omega) with rfl | rfl | rfl
    · conv => whnf
      refine idxK_nat (by decide) ?_
      conv => whnf
      repeat ((first | refine bF ?_ | refine bT ?_ | refine dK ?_ | refine cR ?_ | refine cK ?_ | refine wK ?_); conv => whnf)
      exact ⟨1, by omega, by omega, (le0 (le_of_cov ⟨rfl, rfl, rfl, rfl, trivial⟩ ⟨rfl, rfl, trivial⟩ ⟨rfl, rfl, rfl, rfl⟩))⟩
    · conv => whnf
      refine idxK_nat (by decide) ?_
      conv => whnf
      repeat ((first | refine bF ?_ | refine bT ?_ | refine dK ?_ | refine cR ?_ | refine cK ?_ | refine wK ?_); conv => whnf)
      exact ⟨2, by omega, by omega, (le0 (le_of_cov ⟨rfl, rfl, rfl, rfl, trivial⟩ ⟨rfl, rfl, trivial⟩ ⟨rfl, rfl, rfl, rfl⟩))⟩
    · conv => whnf
      refine idxK_nat (by decide) ?_
      conv => whnf
      repeat ((first | refine bF ?_ | refine bT ?_ | refine dK ?_ | refine cR ?_ | refine cK ?_ | refine wK ?_); conv => whnf)
      exact ⟨3, by omega, by omega, (le0 (le_of_cov ⟨rfl, rfl, rfl, rfl, trivial⟩ ⟨rfl, rfl, trivial⟩ ⟨rfl, rfl, rfl, rfl⟩))⟩
  · repeat ((first | refine bF ?_ | refine bT ?_ | refine dK ?_ | refine cR ?_ | refine cK ?_ | refine wK ?_); conv => whnf)
    have ek : k = 3 := by omega
    subst ek
    obtain ⟨n, hn⟩ : ∃ n, numB s 8 = n := ⟨_, rfl⟩
    simp only [arr3, hn]
    refine idxK_int (by decide) (by decide) ?_
    conv => whnf
    repeat ((first | refine bF ?_ | refine bT ?_ | refine dK ?_ | refine cR ?_ | refine cK ?_ | refine wK ?_); conv => whnf)
    refine bcase_p (fun h3 => ?_) (fun h3 => ?_) <;> conv => whnf
    · repeat ((first | refine bF ?_ | refine bT ?_ | refine dK ?_ | refine cR ?_ | refine cK ?_ | refine wK ?_); conv => whnf)
      rw [if_pos (by omega)]
      exact ret_of rfl rfl
    rw [if_neg (by omega)]
    repeat ((first | refine bF ?_ | refine bT ?_ | refine dK ?_ | refine cR ?_ | refine cK ?_ | refine wK ?_); conv => whnf)
    refine idxK_int (by decide) (by decide) ?_
    conv => whnf
    repeat ((first | refine bF ?_ | refine bT ?_ | refine dK ?_ | refine cR ?_ | refine cK ?_ | refine wK ?_); conv => whnf)
    refine idxK_int (by decide) (by decide) ?_
    conv => whnf
    repeat ((first | refine bF ?_ | refine bT ?_ | refine dK ?_ | refine cR ?_ | refine cK ?_ | refine wK ?_); conv => whnf)
    refine idxK_int (by decide) (by decide) ?_
    conv => whnf
    repeat ((first | refine bF ?_ | refine bT ?_ | refine dK ?_ | refine cR ?_ | refine cK ?_ | refine wK ?_); conv => whnf)
    rw [show (16 : Int) + (n : Int) = ((16 + n : Nat) : Int) by omega]
    refine sliceK_lohi (l := 16) (by omega) (by omega) ?_
    conv => whnf
    repeat ((first | refine bF ?_ | refine bT ?_ | refine dK ?_ | refine cR ?_ | refine cK ?_ | refine wK ?_); conv => whnf)
    have eg : gotP s = (((numB s 0 : Nat) : Int), ((numB s 4 : Nat) : Int), s.extract 16 (16 + n)) := by rw [gotP, hn]
    rw [eg]
    obtain ⟨g, hg⟩ : ∃ g : Pg, (((numB s 0 : Nat) : Int), ((numB s 4 : Nat) : Int), s.extract 16 (16 + n)) = g := ⟨_, rfl⟩
    have hr := rright02_ok g
    refine callX_pure (rright02_ok (((numB s 0 : Nat) : Int), ((numB s 4 : Nat) : Int), s.extract 16 (16 + n))) ?_
    conv => whnf
    repeat ((first | refine bF ?_ | refine bT ?_ | refine dK ?_ | refine cR ?_ | refine cK ?_ | refine wK ?_); conv => whnf)
    refine bcase_intro (fun h4 => ?_) (fun h4 => ?_) <;> conv => whnf
    · repeat ((first | refine bF ?_ | refine bT ?_ | refine dK ?_ | refine cR ?_ | refine cK ?_ | refine wK ?_); conv => whnf)
      rw [if_neg (fun q => by simp [q.1] at h4)]
      exact ret_of rfl rfl
    have hR : pgR (((numB s 0 : Nat) : Int), ((numB s 4 : Nat) : Int), s.extract 16 (16 + n)) = true := by simpa using h4
    repeat ((first | refine bF ?_ | refine bT ?_ | refine dK ?_ | refine cR ?_ | refine cK ?_ | refine wK ?_); conv => whnf)
    refine callX_pure (rput_ok (((numB s 0 : Nat) : Int), ((numB s 4 : Nat) : Int), s.extract 16 (16 + n)) hR) ?_
    conv => whnf
    repeat ((first | refine bF ?_ | refine bT ?_ | refine dK ?_ | refine cR ?_ | refine cK ?_ | refine wK ?_); conv => whnf)
    refine bcase_n (fun h5 => ?_) (fun h5 => ?_) <;> conv => whnf
    · repeat ((first | refine bF ?_ | refine bT ?_ | refine dK ?_ | refine cR ?_ | refine cK ?_ | refine wK ?_); conv => whnf)
      rw [if_neg (fun q => h5 q.2)]
      exact ret_of rfl rfl
    · repeat ((first | refine bF ?_ | refine bT ?_ | refine dK ?_ | refine cR ?_ | refine cK ?_ | refine wK ?_); conv => whnf)
      rw [if_pos ⟨hR, h5⟩]
      exact ret_of rfl rfl
end Go.Lk

namespace Go.Lk
open Go Go.Proofs Go.RowKit

/-! ### disks -/
abbrev Wt := Int × ByteArray
def encB (s : ByteArray) : List D := [.str s]
def encW (w : Wt) : List D := [.int .i64 w.1, .str w.2]
structure DS where
  sec : List ByteArray
  ca : List Wt
def DS.cells (d : DS) : List D := [.lst (d.sec.map encB), .lst (d.ca.map encW)]
def encDS (d : DS) : D := .agg [.lst (d.sec.map encB), .lst (d.ca.map encW)]
def okW (n : Nat) (w : Wt) : Bool := decide (0 ≤ w.1) && (decide (w.1 < n) && decide (w.2.size = 16))
theorem okW_out {n : Nat} {w : Wt} : okW n w = true ↔ 0 ≤ w.1 ∧ w.1 < n ∧ w.2.size = 16 := by simp [okW]
structure DR (d : DS) : Prop where
  s1 : 1 ≤ d.sec.length
  s2 : d.sec.length ≤ 64
  c1 : d.ca.length ≤ 200
  s : ∀ i, (h : i < d.sec.length) → d.sec[i].size = 16
  c : ∀ i, (h : i < d.ca.length) → okW d.sec.length d.ca[i] = true
open Classical in
noncomputable def drB (d : DS) : Bool := decide (DR d)
theorem drB_t {d : DS} : drB d = true ↔ DR d := by simp [drB]
theorem drB_f {d : DS} : drB d = false ↔ ¬ DR d := by simp [drB]
theorem encB_ok : ∀ (l : List ByteArray), okRows 1 (l.map encB) = true
  | [] => rfl
  | _ :: r => encB_ok r
theorem encW_ok : ∀ (l : List Wt), okRows 2 (l.map encW) = true
  | [] => rfl
  | _ :: r => encW_ok r
theorem fitsD_ok (d : DS) (w : Wt) : ACall Tryz.prog 107 [encDS d, .agg (encW w)] (.bool (okW d.sec.length w)) := by
  refine acall_of Tryz.func107 2 rfl (by kernel_rfl) ?_
  conv => whnf
  have hm : (d.sec.map encB).length = d.sec.length := List.length_map ..
  repeat ((first | refine bF ?_ | refine bT ?_ | refine dK ?_ | refine cR ?_ | refine cK ?_ | refine wK ?_); conv => whnf)
  refine bcase_p (fun h1 => ?_) (fun h1 => ?_) <;> conv => whnf
  rotate_left
  · repeat ((first | refine bF ?_ | refine bT ?_ | refine dK ?_ | refine cR ?_ | refine cK ?_ | refine wK ?_); conv => whnf)
    exact ret_of rfl (congrArg D.bool (by symm; rw [← Bool.not_eq_true, okW_out]; omega))
  repeat ((first | refine bF ?_ | refine bT ?_ | refine dK ?_ | refine cR ?_ | refine cK ?_ | refine wK ?_); conv => whnf)
  refine bcase_p (fun h2 => ?_) (fun h2 => ?_) <;> conv => whnf
  rotate_left
  · repeat ((first | refine bF ?_ | refine bT ?_ | refine dK ?_ | refine cR ?_ | refine cK ?_ | refine wK ?_); conv => whnf)
    exact ret_of rfl (congrArg D.bool (by symm; rw [← Bool.not_eq_true, okW_out]; omega))
  repeat ((first | refine bF ?_ | refine bT ?_ | refine dK ?_ | refine cR ?_ | refine cK ?_ | refine wK ?_); conv => whnf)
  refine ret_of rfl (congrArg D.bool ?_)
  by_cases h3 : (w.2.size : Int) = 16
  · rw [decide_eq_true h3]; symm; rw [okW_out]; omega
  · rw [decide_eq_false h3]; symm; rw [← Bool.not_eq_true, okW_out]; omega
theorem dRight_ok (d : DS) : ACall Tryz.prog 105 [encDS d] (.bool (drB d)) := by
  refine acall_of Tryz.func105 1 rfl (by kernel_rfl) ?_
  conv => whnf
  have hm : (d.sec.map encB).length = d.sec.length := List.length_map ..
  have hc : (d.ca.map encW).length = d.ca.length := List.length_map ..
  repeat ((first | refine bF ?_ | refine bT ?_ | refine dK ?_ | refine cR ?_ | refine cK ?_ | refine wK ?_); conv => whnf)
  refine bcase_p (fun h1 => ?_) (fun h1 => ?_) <;> conv => whnf
  · repeat ((first | refine bF ?_ | refine bT ?_ | refine dK ?_ | refine cR ?_ | refine cK ?_ | refine wK ?_); conv => whnf)
    exact ret_of rfl (congrArg D.bool (drB_f.2 fun h => by have := h.s1; omega).symm)
  repeat ((first | refine bF ?_ | refine bT ?_ | refine dK ?_ | refine cR ?_ | refine cK ?_ | refine wK ?_); conv => whnf)
  refine bcase_p (fun h2 => ?_) (fun h2 => ?_) <;> conv => whnf
  · repeat ((first | refine bF ?_ | refine bT ?_ | refine dK ?_ | refine cR ?_ | refine cK ?_ | refine wK ?_); conv => whnf)
    exact ret_of rfl (congrArg D.bool (drB_f.2 fun h => by have := h.s2; omega).symm)
  repeat ((first | refine bF ?_ | refine bT ?_ | refine dK ?_ | refine cR ?_ | refine cK ?_ | refine wK ?_); conv => whnf)
  refine bcase_p (fun h3 => ?_) (fun h3 => ?_) <;> conv => whnf
  · repeat ((first | refine bF ?_ | refine bT ?_ | refine dK ?_ | refine cR ?_ | refine cK ?_ | refine wK ?_); conv => whnf)
    exact ret_of rfl (congrArg D.bool (drB_f.2 fun h => by have := h.c1; omega).symm)
  repeat ((first | refine bF ?_ | refine bT ?_ | refine dK ?_ | refine cR ?_ | refine cK ?_ | refine wK ?_); conv => whnf)
  refine aloop (ι := Nat) (fun k => [(1, .ptr 1 0 0), (24, .d (.lst (d.sec.map encB))), (25, .d (.int .i64 (d.sec.map encB).length)), (26, .d (.int .i64 k))]) (fun _ => [(1, .box [.d (.lst (d.sec.map encB)), .d (.lst (d.ca.map encW))] false)])
    (fun k => k ≤ d.sec.length ∧ ∀ i, i < k → (h : i < d.sec.length) → d.sec[i].size = 16) (fun k => d.sec.length - k) 0 ⟨by omega, by omega⟩ (le0 (le_of_cov ⟨rfl, rfl, rfl, rfl, trivial⟩ ⟨rfl, trivial⟩ ⟨rfl, rfl, rfl, rfl⟩)) ?_
  rintro k ⟨hk, hR⟩
  conv => whnf
  refine bcase_p (fun h5 => ?_) (fun h5 => ?_) <;> conv => whnf
  · have hk2 : k < d.sec.length := by omega
    refine idxK_nat (by omega) ?_
    conv => whnf
    refine getRow_of (x := encB d.sec[k]) (by simp [hk2]) ?_
    conv => whnf
    repeat ((first | refine bF ?_ | refine bT ?_ | refine dK ?_ | refine cR ?_ | refine cK ?_ | refine wK ?_); conv => whnf)
    refine bcase_n (fun h6 => ?_) (fun h6 => ?_) <;> conv => whnf
    · repeat ((first | refine bF ?_ | refine bT ?_ | refine dK ?_ | refine cR ?_ | refine cK ?_ | refine wK ?_); conv => whnf)
      exact ret_of rfl (congrArg D.bool (drB_f.2 fun h => by have := h.s k hk2; omega).symm)
    repeat ((first | refine bF ?_ | refine bT ?_ | refine dK ?_ | refine cR ?_ | refine cK ?_ | refine wK ?_); conv => whnf)
    exact ⟨k + 1, ⟨by omega, fun i hi h => by
      by_cases e : i = k
      · subst e; omega
      · exact hR i (by omega) h⟩, by omega, (le0 (le_of_cov ⟨rfl, rfl, rfl, rfl, trivial⟩ ⟨rfl, trivial⟩ ⟨rfl, rfl, rfl, rfl⟩))⟩
  · repeat ((first | refine bF ?_ | refine bT ?_ | refine dK ?_ | refine cR ?_ | refine cK ?_ | refine wK ?_); conv => whnf)
    refine aloop (ι := Nat) (fun k => [(1, .ptr 1 0 0), (35, .d (.lst (d.ca.map encW))), (36, .d (.int .i64 (d.ca.map encW).length)), (37, .d (.int .i64 k))]) (fun _ => [(1, .box [.d (.lst (d.sec.map encB)), .d (.lst (d.ca.map encW))] false)])
      (fun k => k ≤ d.ca.length ∧ ∀ i, i < k → (h : i < d.ca.length) → okW d.sec.length d.ca[i] = true) (fun k => d.ca.length - k) 0 ⟨by omega, by omega⟩ (le0 (le_of_cov ⟨rfl, rfl, rfl, rfl, trivial⟩ ⟨rfl, trivial⟩ ⟨rfl, rfl, rfl, rfl⟩)) ?_
    rintro j ⟨hj, hS⟩
    conv => whnf
    refine bcase_p (fun h7 => ?_) (fun h7 => ?_) <;> conv => whnf
    · have hj2 : j < d.ca.length := by omega
      refine idxK_nat (by omega) ?_
      conv => whnf
      refine getRow_of (x := encW d.ca[j]) (by simp [hj2]) ?_
      conv => whnf
      repeat ((first | refine bF ?_ | refine bT ?_ | refine dK ?_ | refine cR ?_ | refine cK ?_ | refine wK ?_); conv => whnf)
      refine callX_pure (fitsD_ok d d.ca[j]) ?_
      conv => whnf
      repeat ((first | refine bF ?_ | refine bT ?_ | refine dK ?_ | refine cR ?_ | refine cK ?_ | refine wK ?_); conv => whnf)
      refine bcase_intro (fun h8 => ?_) (fun h8 => ?_) <;> conv => whnf
      · repeat ((first | refine bF ?_ | refine bT ?_ | refine dK ?_ | refine cR ?_ | refine cK ?_ | refine wK ?_); conv => whnf)
        exact ret_of rfl (congrArg D.bool (drB_f.2 fun h => by rw [h.c j hj2] at h8; exact absurd h8 (by decide)).symm)
      repeat ((first | refine bF ?_ | refine bT ?_ | refine dK ?_ | refine cR ?_ | refine cK ?_ | refine wK ?_); conv => whnf)
      exact ⟨j + 1, ⟨by omega, fun i hi h => by
        by_cases e : i = j
        · subst e; simpa using h8
        · exact hS i (by omega) h⟩, by omega, (le0 (le_of_cov ⟨rfl, rfl, rfl, rfl, trivial⟩ ⟨rfl, trivial⟩ ⟨rfl, rfl, rfl, rfl⟩))⟩
    · repeat ((first | refine bF ?_ | refine bT ?_ | refine dK ?_ | refine cR ?_ | refine cK ?_ | refine wK ?_); conv => whnf)
      exact ret_of rfl (congrArg D.bool (drB_t.2 ⟨by omega, by omega, by omega, fun i h => hR i (by omega) h, fun i h => hS i (by omega) h⟩).symm)
theorem rdRight_ok (d : DS) : ACall Tryz.prog 51 [encDS d] (.bool (drB d)) := by
  refine acall_of Tryz.func51 1 rfl (by kernel_rfl) ?_
  conv => whnf
  have hm : (d.sec.map encB).length = d.sec.length := List.length_map ..
  have hc : (d.ca.map encW).length = d.ca.length := List.length_map ..
  repeat ((first | refine bF ?_ | refine bT ?_ | refine dK ?_ | refine cR ?_ | refine cK ?_ | refine wK ?_); conv => whnf)
  refine bcase_p (fun h1 => ?_) (fun h1 => ?_) <;> conv => whnf
  · repeat ((first | refine bF ?_ | refine bT ?_ | refine dK ?_ | refine cR ?_ | refine cK ?_ | refine wK ?_); conv => whnf)
    exact ret_of rfl (congrArg D.bool (drB_f.2 fun h => by have := h.s1; omega).symm)
  repeat ((first | refine bF ?_ | refine bT ?_ | refine dK ?_ | refine cR ?_ | refine cK ?_ | refine wK ?_); conv => whnf)
  refine bcase_p (fun h2 => ?_) (fun h2 => ?_) <;> conv => whnf
  · repeat ((first | refine bF ?_ | refine bT ?_ | refine dK ?_ | refine cR ?_ | refine cK ?_ | refine wK ?_); conv => whnf)
    exact ret_of rfl (congrArg D.bool (drB_f.2 fun h => by have := h.s2; omega).symm)
  repeat ((first | refine bF ?_ | refine bT ?_ | refine dK ?_ | refine cR ?_ | refine cK ?_ | refine wK ?_); conv => whnf)
  refine bcase_p (fun h3 => ?_) (fun h3 => ?_) <;> conv => whnf
  · repeat ((first | refine bF ?_ | refine bT ?_ | refine dK ?_ | refine cR ?_ | refine cK ?_ | refine wK ?_); conv => whnf)
    exact ret_of rfl (congrArg D.bool (drB_f.2 fun h => by have := h.c1; omega).symm)
  repeat ((first | refine bF ?_ | refine bT ?_ | refine dK ?_ | refine cR ?_ | refine cK ?_ | refine wK ?_); conv => whnf)
  refine aloop (ι := Nat) (fun k => [(1, .ptr 1 0 0), (3, .d (.int .i64 k))]) (fun _ => [(1, .box [.d (.lst (d.sec.map encB)), .d (.lst (d.ca.map encW))] false)])
    (fun k => k ≤ d.sec.length ∧ ∀ i, i < k → (h : i < d.sec.length) → d.sec[i].size = 16) (fun k => d.sec.length - k) 0 ⟨by omega, by omega⟩ (le0 (le_of_cov ⟨rfl, rfl, trivial⟩ ⟨rfl, trivial⟩ ⟨rfl, rfl, rfl, rfl⟩)) ?_
  rintro k ⟨hk, hR⟩
  conv => whnf
  repeat ((first | refine bF ?_ | refine bT ?_ | refine dK ?_ | refine cR ?_ | refine cK ?_ | refine wK ?_); conv => whnf)
  refine bcase_p (fun h5 => ?_) (fun h5 => ?_) <;> conv => whnf
  · have hk2 : k < d.sec.length := by omega
    repeat ((first | refine bF ?_ | refine bT ?_ | refine dK ?_ | refine cR ?_ | refine cK ?_ | refine wK ?_); conv => whnf)
    refine idxK_nat (by omega) ?_
    conv => whnf
    refine getRow_of (x := encB d.sec[k]) (by simp [hk2]) ?_
    conv => whnf
    repeat ((first | refine bF ?_ | refine bT ?_ | refine dK ?_ | refine cR ?_ | refine cK ?_ | refine wK ?_); conv => whnf)
    refine bcase_n (fun h6 => ?_) (fun h6 => ?_) <;> conv => whnf
    · repeat ((first | refine bF ?_ | refine bT ?_ | refine dK ?_ | refine cR ?_ | refine cK ?_ | refine wK ?_); conv => whnf)
      exact ret_of rfl (congrArg D.bool (drB_f.2 fun h => by have := h.s k hk2; omega).symm)
    repeat ((first | refine bF ?_ | refine bT ?_ | refine dK ?_ | refine cR ?_ | refine cK ?_ | refine wK ?_); conv => whnf)
    exact ⟨k + 1, ⟨by omega, fun i hi h => by
      by_cases e : i = k
      · subst e; omega
      · exact hR i (by omega) h⟩, by omega, (le0 (le_of_cov ⟨rfl, rfl, trivial⟩ ⟨rfl, trivial⟩ ⟨rfl, rfl, rfl, rfl⟩))⟩
  · repeat ((first | refine bF ?_ | refine bT ?_ | refine dK ?_ | refine cR ?_ | refine cK ?_ | refine wK ?_); conv => whnf)
    refine aloop (ι := Nat) (fun k => [(1, .ptr 1 0 0), (4, .d (.int .i64 k))]) (fun _ => [(1, .box [.d (.lst (d.sec.map encB)), .d (.lst (d.ca.map encW))] false)])
      (fun k => k ≤ d.ca.length ∧ ∀ i, i < k → (h : i < d.ca.length) → okW d.sec.length d.ca[i] = true) (fun k => d.ca.length - k) 0 ⟨by omega, by omega⟩ (le0 (le_of_cov ⟨rfl, rfl, trivial⟩ ⟨rfl, trivial⟩ ⟨rfl, rfl, rfl, rfl⟩)) ?_
    rintro j ⟨hj, hS⟩
    conv => whnf
    repeat ((first | refine bF ?_ | refine bT ?_ | refine dK ?_ | refine cR ?_ | refine cK ?_ | refine wK ?_); conv => whnf)
    refine bcase_p (fun h7 => ?_) (fun h7 => ?_) <;> conv => whnf
    · have hj2 : j < d.ca.length := by omega
      repeat ((first | refine bF ?_ | refine bT ?_ | refine dK ?_ | refine cR ?_ | refine cK ?_ | refine wK ?_); conv => whnf)
      refine idxK_nat (by omega) ?_
      conv => whnf
      refine getRow_of (x := encW d.ca[j]) (by simp [hj2]) ?_
      conv => whnf
      repeat ((first | refine bF ?_ | refine bT ?_ | refine dK ?_ | refine cR ?_ | refine cK ?_ | refine wK ?_); conv => whnf)
      refine bcase_p (fun h8 => ?_) (fun h8 => ?_) <;> conv => whnf
      · repeat ((first | refine bF ?_ | refine bT ?_ | refine dK ?_ | refine cR ?_ | refine cK ?_ | refine wK ?_); conv => whnf)
        exact ret_of rfl (congrArg D.bool (drB_f.2 fun h => by have := okW_out.1 (h.c j hj2); omega).symm)
      repeat ((first | refine bF ?_ | refine bT ?_ | refine dK ?_ | refine cR ?_ | refine cK ?_ | refine wK ?_); conv => whnf)
      refine bcase_p (fun h9 => ?_) (fun h9 => ?_) <;> conv => whnf
      · repeat ((first | refine bF ?_ | refine bT ?_ | refine dK ?_ | refine cR ?_ | refine cK ?_ | refine wK ?_); conv => whnf)
        exact ret_of rfl (congrArg D.bool (drB_f.2 fun h => by have := okW_out.1 (h.c j hj2); omega).symm)
      repeat ((first | refine bF ?_ | refine bT ?_ | refine dK ?_ | refine cR ?_ | refine cK ?_ | refine wK ?_); conv => whnf)
      refine bcase_n (fun h10 => ?_) (fun h10 => ?_) <;> conv => whnf
      · repeat ((first | refine bF ?_ | refine bT ?_ | refine dK ?_ | refine cR ?_ | refine cK ?_ | refine wK ?_); conv => whnf)
        exact ret_of rfl (congrArg D.bool (drB_f.2 fun h => by have := okW_out.1 (h.c j hj2); omega).symm)
      repeat ((first | refine bF ?_ | refine bT ?_ | refine dK ?_ | refine cR ?_ | refine cK ?_ | refine wK ?_); conv => whnf)
      exact ⟨j + 1, ⟨by omega, fun i hi h => by
        by_cases e : i = j
        · subst e; rw [okW_out]; omega
        · exact hS i (by omega) h⟩, by omega, (le0 (le_of_cov ⟨rfl, rfl, trivial⟩ ⟨rfl, trivial⟩ ⟨rfl, rfl, rfl, rfl⟩))⟩
    · repeat ((first | refine bF ?_ | refine bT ?_ | refine dK ?_ | refine cR ?_ | refine cK ?_ | refine wK ?_); conv => whnf)
      exact ret_of rfl (congrArg D.bool (drB_t.2 ⟨by omega, by omega, by omega, fun i h => hR i (by omega) h, fun i h => hS i (by omega) h⟩).symm)
end Go.Lk

namespace Go.Lk
open Go Go.Proofs Go.RowKit

/-! ### writes -/
def wrS (s : List ByteArray) (l : List Wt) : List ByteArray := l.foldl (fun s w => s.set w.1.toNat w.2) s
theorem wrS_len : ∀ (l : List Wt) (s : List ByteArray), (wrS s l).length = s.length
  | [], s => rfl
  | w :: r, s => by
    show (wrS (s.set w.1.toNat w.2) r).length = _
    rw [wrS_len r, List.length_set]
theorem wrS_snoc (s : List ByteArray) (l : List Wt) (w : Wt) : wrS s (l ++ [w]) = (wrS s l).set w.1.toNat w.2 := by simp [wrS]
def pick (n : Int) (l : List Wt) (b : ByteArray) : ByteArray := l.foldl (fun b w => if w.1 = n then w.2 else b) b
def rdS (d : DS) (n : Int) : ByteArray := pick n d.ca (d.sec[n.toNat]?.getD ByteArray.empty)
theorem pick_none {n : Int} : ∀ {l : List Wt} {b : ByteArray}, (∀ w ∈ l, w.1 ≠ n) → pick n l b = b
  | [], b, _ => rfl
  | w :: r, b, h => by
    show pick n r (if w.1 = n then w.2 else b) = b
    rw [if_neg (h w (List.mem_cons_self ..)), pick_none fun x hx => h x (List.mem_cons_of_mem _ hx)]
theorem pick_app (n : Int) (l r : List Wt) (b : ByteArray) : pick n (l ++ r) b = pick n r (pick n l b) := by simp [pick]
theorem pick_at {n : Int} {l : List Wt} {k : Nat} (hk : k < l.length) (h : l[k].1 = n) (hR : ∀ j, k < j → (hj : j < l.length) → l[j].1 ≠ n) (b : ByteArray) : pick n l b = l[k].2 := by
  have e : l = l.take k ++ l[k] :: l.drop (k + 1) := by rw [← List.drop_eq_getElem_cons hk, List.take_append_drop]
  have h2 : pick n l b = pick n (l.take k ++ l[k] :: l.drop (k + 1)) b := congrArg (fun x => pick n x b) e
  rw [h2, pick_app]
  show pick n (l.drop (k + 1)) (if l[k].1 = n then l[k].2 else pick n (l.take k) b) = _
  rw [if_pos h, pick_none]
  intro w hw
  obtain ⟨i, hi, rfl⟩ := List.mem_iff_getElem.1 hw
  rw [List.getElem_drop]
  rw [List.length_drop] at hi
  exact hR _ (by omega) (by omega)
theorem wrS_get : ∀ (l : List Wt) (s : List ByteArray) (i : Nat), i < s.length → (∀ w ∈ l, 0 ≤ w.1) → (wrS s l)[i]?.getD ByteArray.empty = pick i l (s[i]?.getD ByteArray.empty)
  | [], s, i, _, _ => rfl
  | w :: r, s, i, hi, h => by
    show (wrS (s.set w.1.toNat w.2) r)[i]?.getD _ = pick i r (if w.1 = i then w.2 else s[i]?.getD _)
    rw [wrS_get r _ i (by rw [List.length_set]; exact hi) fun x hx => h x (List.mem_cons_of_mem _ hx)]
    have h0 := h w (List.mem_cons_self ..)
    congr 1
    by_cases e : w.1 = i
    · rw [if_pos e, show w.1.toNat = i by omega, List.getElem?_set_self hi]; rfl
    · rw [if_neg e, List.getElem?_set_ne (by omega)]
theorem cloneB_ok (l : List ByteArray) (hl : l.length ≤ 1000000) : OCall Tryz.prog 137 [.lst (l.map encB)] (l.map encB) 1 := by
  refine ocall_of Tryz.func137 1 rfl (by kernel_rfl) ?_
  conv => whnf
  refine nilK_of ?_
  conv => whnf
  intro r hr
  conv => whnf
  refine bcase_intro (fun h => ?_) (fun h => ?_) <;> conv => whnf
  · have := hr h
    exact ⟨2, rfl, .inr ⟨rfl, this⟩⟩
  · repeat ((first | refine bF ?_ | refine bT ?_ | refine dK ?_ | refine cR ?_ | refine cK ?_ | refine wK ?_); conv => whnf)
    refine condK_of (encB_ok l) ?_
    conv => whnf
    refine roomK_le 1000100 100 (by show 0 + List.length _ ≤ 1000100; simp; omega) (by decide) (by decide) (by decide) ?_
    conv => whnf
    exact ⟨2, rfl, .inl ⟨5, rfl, rfl⟩⟩
theorem cloneW_ok (l : List Wt) (hl : l.length ≤ 1000000) : OCall Tryz.prog 108 [.lst (l.map encW)] (l.map encW) 2 := by
  refine ocall_of Tryz.func108 1 rfl (by kernel_rfl) ?_
  conv => whnf
  refine nilK_of ?_
  conv => whnf
  intro r hr
  conv => whnf
  refine bcase_intro (fun h => ?_) (fun h => ?_) <;> conv => whnf
  · have := hr h
    exact ⟨2, rfl, .inr ⟨rfl, this⟩⟩
  · repeat ((first | refine bF ?_ | refine bT ?_ | refine dK ?_ | refine cR ?_ | refine cK ?_ | refine wK ?_); conv => whnf)
    refine condK_of (encW_ok l) ?_
    conv => whnf
    refine roomK_le 1000100 100 (by show 0 + List.length _ ≤ 1000100; simp; omega) (by decide) (by decide) (by decide) ?_
    conv => whnf
    exact ⟨2, rfl, .inl ⟨5, rfl, rfl⟩⟩
theorem written_ok (d : DS) (l : List Wt) (hd : d.sec.length ≤ 1000) (hl : l.length ≤ 1000) (h : ∀ i, (hi : i < l.length) → okW d.sec.length l[i] = true) :
    ACall Tryz.prog 106 [encDS d, .lst (l.map encW)] (encDS ⟨wrS d.sec l, []⟩) := by
  refine acall_of Tryz.func106 2 rfl (by kernel_rfl) ?_
  conv => whnf
  have hm : (l.map encW).length = l.length := List.length_map ..
  repeat ((first | refine bF ?_ | refine bT ?_ | refine dK ?_ | refine cR ?_ | refine cK ?_ | refine wK ?_); conv => whnf)
  refine callX_own (cloneB_ok d.sec (by omega)) ?_
  conv => whnf
  repeat ((first | refine bF ?_ | refine bT ?_ | refine dK ?_ | refine cR ?_ | refine cK ?_ | refine wK ?_); conv => whnf)
  refine aloop (ι := Nat) (fun k => [(4, .ptr 4 0 0), (5, .own 10), (11, .d (.lst (l.map encW))), (12, .d (.int .i64 (l.map encW).length)), (13, .d (.int .i64 k))]) (fun k => [(4, .box [.nil, .nil] false), (10, .row ((wrS d.sec (l.take k)).map encB) 1 false)])
    (fun k => k ≤ l.length) (fun k => l.length - k) 0 (by omega) (le0 (le_of_cov ⟨rfl, rfl, rfl, rfl, rfl, trivial⟩ ⟨rfl, rfl, trivial⟩ ⟨rfl, rfl, rfl, rfl⟩)) ?_
  intro k hk
  conv => whnf
  refine bcase_p (fun h5 => ?_) (fun h5 => ?_) <;> conv => whnf
  · have hk2 : k < l.length := by omega
    have hw := okW_out.1 (h k hk2)
    have hln := wrS_len (l.take k) d.sec
    have hlm : ((wrS d.sec (l.take k)).map encB).length = (wrS d.sec (l.take k)).length := List.length_map ..
    refine idxK_nat (by omega) ?_
    conv => whnf
    refine getRow_of (x := encW l[k]) (by simp [hk2]) ?_
    conv => whnf
    repeat ((first | refine bF ?_ | refine bT ?_ | refine dK ?_ | refine cR ?_ | refine cK ?_ | refine wK ?_); conv => whnf)
    refine idxK_int (by omega) (by omega) ?_
    conv => whnf
    have hn : l[k].1.toNat < (wrS d.sec (l.take k)).length := by omega
    refine getRow_of (x := encB ((wrS d.sec (l.take k))[l[k].1.toNat])) (by simp [hn]) ?_
    conv => whnf
    repeat ((first | refine bF ?_ | refine bT ?_ | refine dK ?_ | refine cR ?_ | refine cK ?_ | refine wK ?_); conv => whnf)
    refine ⟨k + 1, by omega, by omega, le0 (le_of_cov ⟨rfl, rfl, rfl, rfl, rfl, trivial⟩ ⟨rfl, ?_, trivial⟩ ⟨rfl, rfl, rfl, rfl⟩)⟩
    rw [take_snoc hk2, wrS_snoc, List.map_set]
    rfl
  · repeat ((first | refine bF ?_ | refine bT ?_ | refine dK ?_ | refine cR ?_ | refine cK ?_ | refine wK ?_); conv => whnf)
    have ek : l.take k = l := List.take_of_length_le (by omega)
    rw [ek]
    exact ret_of rfl rfl
open Classical in
noncomputable def syncM (d : DS) : DS := if DR d then ⟨wrS d.sec d.ca, []⟩ else d
open Classical in
noncomputable def putM (d : DS) (w : Wt) : DS × Int := if DR d ∧ okW d.sec.length w = true then (if 200 ≤ d.ca.length then (d, 7) else (⟨d.sec, d.ca ++ [w]⟩, 0)) else (d, 1)
theorem sync_ok (d : DS) : ACall Tryz.prog 64 [encDS d] (encDS (syncM d)) := by
  refine acall_of Tryz.func64 1 rfl (by kernel_rfl) ?_
  conv => whnf
  repeat ((first | refine bF ?_ | refine bT ?_ | refine dK ?_ | refine cR ?_ | refine cK ?_ | refine wK ?_); conv => whnf)
  refine callX_pure (dRight_ok d) ?_
  conv => whnf
  repeat ((first | refine bF ?_ | refine bT ?_ | refine dK ?_ | refine cR ?_ | refine cK ?_ | refine wK ?_); conv => whnf)
  refine bcase_intro (fun h1 => ?_) (fun h1 => ?_) <;> conv => whnf
  · repeat ((first | refine bF ?_ | refine bT ?_ | refine dK ?_ | refine cR ?_ | refine cK ?_ | refine wK ?_); conv => whnf)
    have hn : ¬ DR d := drB_f.1 (by simpa using h1)
    rw [syncM, if_neg hn]
    exact ret_of rfl rfl
  have hR : DR d := drB_t.1 (by simpa using h1)
  rw [syncM, if_pos hR]
  have a1 := hR.s2; have a2 := hR.c1
  repeat ((first | refine bF ?_ | refine bT ?_ | refine dK ?_ | refine cR ?_ | refine cK ?_ | refine wK ?_); conv => whnf)
  refine callX_pure (written_ok d d.ca (by omega) (by omega) hR.c) ?_
  conv => whnf
  repeat ((first | refine bF ?_ | refine bT ?_ | refine dK ?_ | refine cR ?_ | refine cK ?_ | refine wK ?_); conv => whnf)
  exact ret_of rfl rfl
theorem dput_ok (d : DS) (w : Wt) : ACall Tryz.prog 65 [encDS d, .agg (encW w)] (.tup [encDS (putM d w).1, .int .i64 (putM d w).2]) := by
  refine acall_of Tryz.func65 2 rfl (by kernel_rfl) ?_
  conv => whnf
  repeat ((first | refine bF ?_ | refine bT ?_ | refine dK ?_ | refine cR ?_ | refine cK ?_ | refine wK ?_); conv => whnf)
  refine callX_pure (dRight_ok d) ?_
  conv => whnf
  repeat ((first | refine bF ?_ | refine bT ?_ | refine dK ?_ | refine cR ?_ | refine cK ?_ | refine wK ?_); conv => whnf)
  refine bcase_intro (fun h1 => ?_) (fun h1 => ?_) <;> conv => whnf
  · repeat ((first | refine bF ?_ | refine bT ?_ | refine dK ?_ | refine cR ?_ | refine cK ?_ | refine wK ?_); conv => whnf)
    have hn : ¬ DR d := drB_f.1 (by simpa using h1)
    rw [putM, if_neg (fun q => hn q.1)]
    exact ret_of rfl rfl
  have hR : DR d := drB_t.1 (by simpa using h1)
  have a1 := hR.s2; have a2 := hR.c1
  have hm : (d.ca.map encW).length = d.ca.length := List.length_map ..
  repeat ((first | refine bF ?_ | refine bT ?_ | refine dK ?_ | refine cR ?_ | refine cK ?_ | refine wK ?_); conv => whnf)
  refine callX_pure (fitsD_ok d w) ?_
  conv => whnf
  repeat ((first | refine bF ?_ | refine bT ?_ | refine dK ?_ | refine cR ?_ | refine cK ?_ | refine wK ?_); conv => whnf)
  refine bcase_intro (fun h2 => ?_) (fun h2 => ?_) <;> conv => whnf
  · repeat ((first | refine bF ?_ | refine bT ?_ | refine dK ?_ | refine cR ?_ | refine cK ?_ | refine wK ?_); conv => whnf)
    rw [putM, if_neg (fun q => by rw [q.2] at h2; exact absurd h2 (by decide))]
    exact ret_of rfl rfl
  have hW : okW d.sec.length w = true := by simpa using h2
  rw [putM, if_pos ⟨hR, hW⟩]
  repeat ((first | refine bF ?_ | refine bT ?_ | refine dK ?_ | refine cR ?_ | refine cK ?_ | refine wK ?_); conv => whnf)
  refine bcase_p (fun h3 => ?_) (fun h3 => ?_) <;> conv => whnf
  · repeat ((first | refine bF ?_ | refine bT ?_ | refine dK ?_ | refine cR ?_ | refine cK ?_ | refine wK ?_); conv => whnf)
    rw [if_pos (by omega)]
    exact ret_of rfl rfl
  rw [if_neg (by omega)]
  repeat ((first | refine bF ?_ | refine bT ?_ | refine dK ?_ | refine cR ?_ | refine cK ?_ | refine wK ?_); conv => whnf)
  refine callX_own (cloneW_ok d.ca (by omega)) ?_
  conv => whnf
  repeat ((first | refine bF ?_ | refine bT ?_ | refine dK ?_ | refine cR ?_ | refine cK ?_ | refine wK ?_); conv => whnf)
  refine roomK_le 1000100 1000 (by show List.length _ + 1 ≤ 1000100; omega) (by decide) (by decide) (by decide) ?_
  conv => whnf
  repeat ((first | refine bF ?_ | refine bT ?_ | refine dK ?_ | refine cR ?_ | refine cK ?_ | refine wK ?_); conv => whnf)
  refine ret_of rfl ?_
  rw [encDS, List.map_append]
  rfl
end Go.Lk

namespace Go.Lk
open Go Go.Proofs Go.RowKit

def nul16 : ByteArray := nulB 16
def freshL (k : Nat) : List (List D) := (List.range 35).map fun j => encB (if j < k then nul16 else ByteArray.empty)
theorem fresh_0 : List.replicate 35 (encB ByteArray.empty) = freshL 0 := by
  apply List.ext_getElem
  · simp [freshL]
  · intro j h1 h2
    rw [List.getElem_replicate]
    simp only [freshL, List.getElem_map, List.getElem_range]
    rw [if_neg (by omega)]
theorem fresh_set {i : Nat} (hi : i < 35) : (freshL i).set i (encB nul16) = freshL (i + 1) := by
  apply List.ext_getElem
  · simp [freshL]
  · intro j h1 h2
    rw [List.getElem_set]
    simp only [freshL, List.getElem_map, List.getElem_range]
    by_cases e : i = j
    · subst e
      rw [if_pos rfl, if_pos (by omega)]
    · rw [if_neg e]
      by_cases h : j < i
      · rw [if_pos h, if_pos (by omega)]
      · rw [if_neg h, if_neg (by omega)]
theorem fresh_35 : freshL 35 = (List.replicate 35 nul16).map encB := by
  apply List.ext_getElem
  · simp [freshL]
  · intro j h1 h2
    have : j < 35 := by simpa [freshL] using h1
    simp only [freshL, List.getElem_map, List.getElem_range, List.getElem_replicate]
    rw [if_pos this]
def newDS : DS := ⟨List.replicate 35 nul16, []⟩
theorem dnew_ok : ACall Tryz.prog 39 [.int .i64 35] (.tup [encDS newDS, .int .i64 0]) := by
  refine acall_of Tryz.func39 1 rfl (by kernel_rfl) ?_
  conv => whnf
  repeat ((first | refine bF ?_ | refine bT ?_ | refine dK ?_ | refine cR ?_ | refine cK ?_ | refine wK ?_); conv => whnf)
  refine roomK_le 1000 1000 (by decide) (by decide) (by decide) (by decide) ?_
  conv => whnf
  repeat ((first | refine bF ?_ | refine bT ?_ | refine dK ?_ | refine cR ?_ | refine cK ?_ | refine wK ?_); conv => whnf)
  rw [show List.replicate (35 : Int).toNat (T 9).zero = freshL 0 from fresh_0]
  refine aloop (ι := Nat) (fun k => [(2, .ptr 2 0 0), (4, .own 14), (16, .d (.int .i64 35)), (17, .d (.int .i64 k))]) (fun k => [(2, .box [.nil, .nil] false), (14, .row (freshL k) 1 false)])
    (fun k => k ≤ 35) (fun k => 35 - k) 0 (by omega) (le0 (le_of_cov ⟨rfl, rfl, by kernel_rfl, rfl, trivial⟩ ⟨rfl, rfl, trivial⟩ ⟨rfl, rfl, rfl, rfl⟩)) ?_
  intro k hk
  have hfl : (freshL k).length = 35 := by simp [freshL]
  conv => whnf
  refine bcase_p (fun h5 => ?_) (fun h5 => ?_) <;> conv => whnf
  · have hk2 : k < 35 := by omega
    repeat ((first | refine bF ?_ | refine bT ?_ | refine dK ?_ | refine cR ?_ | refine cK ?_ | refine wK ?_); conv => whnf)
    refine callX_pure (repeat_ok zero1 16 (by decide) (by decide)) ?_
    conv => whnf
    repeat ((first | refine bF ?_ | refine bT ?_ | refine dK ?_ | refine cR ?_ | refine cK ?_ | refine wK ?_); conv => whnf)
    refine idxK_nat (by omega) ?_
    conv => whnf
    refine getRow_of (x := encB (if k < k then nul16 else ByteArray.empty)) (by simp [freshL, hk2]) ?_
    conv => whnf
    repeat ((first | refine bF ?_ | refine bT ?_ | refine dK ?_ | refine cR ?_ | refine cK ?_ | refine wK ?_); conv => whnf)
    refine ⟨k + 1, by omega, by omega, le0 (le_of_cov ⟨rfl, rfl, rfl, rfl, trivial⟩ ⟨rfl, ?_, trivial⟩ ⟨rfl, rfl, rfl, rfl⟩)⟩
    rw [← fresh_set hk2]
    rfl
  · repeat ((first | refine bF ?_ | refine bT ?_ | refine dK ?_ | refine cR ?_ | refine cK ?_ | refine wK ?_); conv => whnf)
    have ek : k = 35 := by omega
    subst ek
    rw [fresh_35]
    exact ret_of rfl rfl
theorem rread_ok (d : DS) (n : Int) (hc : d.ca.length ≤ 1000) (h0 : 0 ≤ n) (h1 : n < d.sec.length) : ACall Tryz.prog 53 [encDS d, .int .i64 n] (.str (rdS d n)) := by
  refine acall_of Tryz.func53 2 rfl (by kernel_rfl) ?_
  conv => whnf
  have hm : (d.ca.map encW).length = d.ca.length := List.length_map ..
  have hs : (d.sec.map encB).length = d.sec.length := List.length_map ..
  repeat ((first | refine bF ?_ | refine bT ?_ | refine dK ?_ | refine cR ?_ | refine cK ?_ | refine wK ?_); conv => whnf)
  refine aloop (ι := Nat) (fun k => [(1, .d (.int .i64 n)), (2, .ptr 2 0 0), (5, .d (.int .i64 ((k : Int) - 1)))]) (fun _ => [(2, .box [.d (.lst (d.sec.map encB)), .d (.lst (d.ca.map encW))] false)])
    (fun k => k ≤ d.ca.length ∧ ∀ j, k ≤ j → (h : j < d.ca.length) → d.ca[j].1 ≠ n) (fun k => k) d.ca.length ⟨by omega, by omega⟩ (le0 (le_of_cov ⟨rfl, rfl, by rw [← hm]; rfl, trivial⟩ ⟨rfl, trivial⟩ ⟨rfl, rfl, rfl, rfl⟩)) ?_
  rintro k ⟨hk, hR⟩
  conv => whnf
  refine bcase_p (fun h5 => ?_) (fun h5 => ?_) <;> conv => whnf
  · obtain ⟨j, rfl⟩ : ∃ j, k = j + 1 := ⟨k - 1, by omega⟩
    have hj : j < d.ca.length := by omega
    rw [show ((j + 1 : Nat) : Int) - 1 = (j : Int) by omega]
    repeat ((first | refine bF ?_ | refine bT ?_ | refine dK ?_ | refine cR ?_ | refine cK ?_ | refine wK ?_); conv => whnf)
    refine idxK_nat (by omega) ?_
    conv => whnf
    refine getRow_of (x := encW d.ca[j]) (by simp [hj]) ?_
    conv => whnf
    repeat ((first | refine bF ?_ | refine bT ?_ | refine dK ?_ | refine cR ?_ | refine cK ?_ | refine wK ?_); conv => whnf)
    refine bcase_p (fun h6 => ?_) (fun h6 => ?_) <;> conv => whnf
    · repeat ((first | refine bF ?_ | refine bT ?_ | refine dK ?_ | refine cR ?_ | refine cK ?_ | refine wK ?_); conv => whnf)
      refine idxK_nat (by omega) ?_
      conv => whnf
      refine getRow_of (x := encW d.ca[j]) (by simp [hj]) ?_
      conv => whnf
      repeat ((first | refine bF ?_ | refine bT ?_ | refine dK ?_ | refine cR ?_ | refine cK ?_ | refine wK ?_); conv => whnf)
      refine ret_of rfl (congrArg D.str ?_)
      rw [rdS, pick_at hj h6 (fun i hi hi2 => hR i (by omega) hi2)]
    · repeat ((first | refine bF ?_ | refine bT ?_ | refine dK ?_ | refine cR ?_ | refine cK ?_ | refine wK ?_); conv => whnf)
      refine ⟨j, ⟨by omega, fun i hi hi2 => by
        by_cases e : i = j
        · subst e; exact h6
        · exact hR i (by omega) hi2⟩, by omega, le0 (le_of_cov ⟨rfl, rfl, rfl, trivial⟩ ⟨rfl, trivial⟩ ⟨rfl, rfl, rfl, rfl⟩)⟩
  · repeat ((first | refine bF ?_ | refine bT ?_ | refine dK ?_ | refine cR ?_ | refine cK ?_ | refine wK ?_); conv => whnf)
    have hk0 : k = 0 := by omega
    subst hk0
    refine idxK_int (by omega) (by omega) ?_
    conv => whnf
    have hn : n.toNat < d.sec.length := by omega
    refine getRow_of (x := encB d.sec[n.toNat]) (by simp [hn]) ?_
    conv => whnf
    repeat ((first | refine bF ?_ | refine bT ?_ | refine dK ?_ | refine cR ?_ | refine cK ?_ | refine wK ?_); conv => whnf)
    refine ret_of rfl (congrArg D.str ?_)
    rw [rdS, pick_none, List.getElem?_eq_getElem hn]
    · rfl
    · intro w hw
      obtain ⟨i, hi, rfl⟩ := List.mem_iff_getElem.1 hw
      exact hR i (by omega) hi
theorem wrS_eq {d : DS} (hR : DR d) : wrS d.sec d.ca = (List.range d.sec.length).map fun i : Nat => rdS d i := by
  apply List.ext_getElem
  · rw [wrS_len]; simp
  · intro i h1 h2
    have hi : i < d.sec.length := by rwa [wrS_len] at h1
    have := wrS_get d.ca d.sec i hi (fun w hw => by
      obtain ⟨j, hj, rfl⟩ := List.mem_iff_getElem.1 hw
      exact (okW_out.1 (hR.c j hj)).1)
    rw [List.getElem?_eq_getElem h1, Option.getD_some] at this
    rw [this, List.getElem_map, List.getElem_range, rdS]
    simp
theorem rsync_ok (d : DS) (hR : DR d) : ACall Tryz.prog 52 [encDS d] (encDS ⟨wrS d.sec d.ca, []⟩) := by
  have a1 := hR.s2; have a2 := hR.c1
  obtain ⟨f, hf⟩ : ∃ f : Nat → ByteArray, (fun i : Nat => rdS d i) = f := ⟨_, rfl⟩
  have hfi : ∀ i : Nat, rdS d i = f i := fun i => congrFun hf i
  rw [wrS_eq hR, hf]
  refine acall_of Tryz.func52 1 rfl (by kernel_rfl) ?_
  conv => whnf
  have hs : (d.sec.map encB).length = d.sec.length := List.length_map ..
  refine aloop (ι := Nat) (fun k => [(1, .ptr 1 0 0), (2, .ptr 2 0 0), (3, .ptr 3 0 0), (4, .d (.int .i64 k))]) (fun k => [(1, .box [.d (.lst (d.sec.map encB)), .d (.lst (d.ca.map encW))] false), (2, .box [.nil, .nil] false), (3, .box [.own 18, .nil] false), (18, .row (((List.range k).map f).map encB) 1 false)])
    (fun k => k ≤ d.sec.length) (fun k => d.sec.length - k) 0 (by omega) (le1 (.cell 3 0 18 1) ⟨⟨rfl, rfl⟩, rfl, rfl⟩ (le_of_cov ⟨rfl, rfl, rfl, rfl, trivial⟩ ⟨rfl, rfl, rfl, rfl, trivial⟩ ⟨rfl, rfl, rfl, rfl⟩)) ?_
  intro k hk
  conv => whnf
  repeat ((first | refine bF ?_ | refine bT ?_ | refine dK ?_ | refine cR ?_ | refine cK ?_ | refine wK ?_); conv => whnf)
  refine bcase_p (fun h5 => ?_) (fun h5 => ?_) <;> conv => whnf
  · have hk2 : k < d.sec.length := by omega
    repeat ((first | refine bF ?_ | refine bT ?_ | refine dK ?_ | refine cR ?_ | refine cK ?_ | refine wK ?_); conv => whnf)
    refine callX_pure (rread_ok d k (by omega) (by omega) (by omega)) ?_
    conv => whnf
    repeat ((first | refine bF ?_ | refine bT ?_ | refine dK ?_ | refine cR ?_ | refine cK ?_ | refine wK ?_); conv => whnf)
    rw [hfi]
    refine roomK_le 1000100 1000 (by show List.length _ + 1 ≤ 1000100; rw [List.length_map, List.length_map, List.length_range]; omega) (by decide) (by decide) (by decide) ?_
    conv => whnf
    repeat ((first | refine bF ?_ | refine bT ?_ | refine dK ?_ | refine cR ?_ | refine cK ?_ | refine wK ?_); conv => whnf)
    have er : ((List.range k).map f).map encB ++ [encB (f k)] = ((List.range (k + 1)).map f).map encB := by rw [List.range_succ, List.map_append, List.map_append]; rfl
    refine ⟨k + 1, by omega, by omega, le0 (le_of_cov ⟨?_, ?_, ?_, ?_, trivial⟩ ⟨?_, ?_, ?_, ?_, trivial⟩ ⟨?_, ?_, ?_, ?_⟩)⟩
    rotate_left 7
    rw [← er]
    all_goals kernel_rfl
  · repeat ((first | refine bF ?_ | refine bT ?_ | refine dK ?_ | refine cR ?_ | refine cK ?_ | refine wK ?_); conv => whnf)
    have ek : k = d.sec.length := by omega
    subst ek
    exact ret_of rfl rfl
theorem rsameD_ok (a b : DS) (ha : a.sec.length ≤ 1000) (hb : a.ca.length ≤ 1000) : ACall Tryz.prog 23 [encDS a, encDS b] (.bool (decide (a.sec = b.sec ∧ a.ca = b.ca))) := by
  refine acall_of Tryz.func23 2 rfl (by kernel_rfl) ?_
  conv => whnf
  have m1 : (a.sec.map encB).length = a.sec.length := List.length_map ..
  have m2 : (a.ca.map encW).length = a.ca.length := List.length_map ..
  have m3 : (b.sec.map encB).length = b.sec.length := List.length_map ..
  have m4 : (b.ca.map encW).length = b.ca.length := List.length_map ..
  repeat ((first | refine bF ?_ | refine bT ?_ | refine dK ?_ | refine cR ?_ | refine cK ?_ | refine wK ?_); conv => whnf)
  refine bcase_n (fun h1 => ?_) (fun h1 => ?_) <;> conv => whnf
  · repeat ((first | refine bF ?_ | refine bT ?_ | refine dK ?_ | refine cR ?_ | refine cK ?_ | refine wK ?_); conv => whnf)
    exact ret_of rfl (congrArg D.bool (by symm; rw [decide_eq_false_iff_not]; intro e; exact h1 (by rw [e.1])))
  repeat ((first | refine bF ?_ | refine bT ?_ | refine dK ?_ | refine cR ?_ | refine cK ?_ | refine wK ?_); conv => whnf)
  refine bcase_n (fun h2 => ?_) (fun h2 => ?_) <;> conv => whnf
  · repeat ((first | refine bF ?_ | refine bT ?_ | refine dK ?_ | refine cR ?_ | refine cK ?_ | refine wK ?_); conv => whnf)
    exact ret_of rfl (congrArg D.bool (by symm; rw [decide_eq_false_iff_not]; intro e; exact h2 (by rw [e.2])))
  repeat ((first | refine bF ?_ | refine bT ?_ | refine dK ?_ | refine cR ?_ | refine cK ?_ | refine wK ?_); conv => whnf)
  refine aloop (ι := Nat) (fun k => [(2, .ptr 2 0 0), (3, .ptr 3 0 0), (5, .d (.int .i64 k))]) (fun _ => [(2, .box [.d (.lst (a.sec.map encB)), .d (.lst (a.ca.map encW))] false), (3, .box [.d (.lst (b.sec.map encB)), .d (.lst (b.ca.map encW))] false)])
    (fun k => k ≤ a.sec.length ∧ ∀ i, i < k → (h : i < a.sec.length) → (h2 : i < b.sec.length) → a.sec[i] = b.sec[i]) (fun k => a.sec.length - k) 0 ⟨by omega, by omega⟩ (le0 (le_of_cov ⟨rfl, rfl, rfl, trivial⟩ ⟨rfl, rfl, trivial⟩ ⟨rfl, rfl, rfl, rfl⟩)) ?_
  rintro k ⟨hk, hR⟩
  conv => whnf
  repeat ((first | refine bF ?_ | refine bT ?_ | refine dK ?_ | refine cR ?_ | refine cK ?_ | refine wK ?_); conv => whnf)
  refine bcase_p (fun h5 => ?_) (fun h5 => ?_) <;> conv => whnf
  · have hk2 : k < a.sec.length := by omega
    have hk3 : k < b.sec.length := by omega
    repeat ((first | refine bF ?_ | refine bT ?_ | refine dK ?_ | refine cR ?_ | refine cK ?_ | refine wK ?_); conv => whnf)
    refine idxK_nat (by omega) ?_
    conv => whnf
    refine getRow_of (x := encB a.sec[k]) (by simp [hk2]) ?_
    conv => whnf
    repeat ((first | refine bF ?_ | refine bT ?_ | refine dK ?_ | refine cR ?_ | refine cK ?_ | refine wK ?_); conv => whnf)
    refine idxK_nat (by omega) ?_
    conv => whnf
    refine getRow_of (x := encB b.sec[k]) (by simp [hk3]) ?_
    conv => whnf
    repeat ((first | refine bF ?_ | refine bT ?_ | refine dK ?_ | refine cR ?_ | refine cK ?_ | refine wK ?_); conv => whnf)
    refine bcase_n (fun h6 => ?_) (fun h6 => ?_) <;> conv => whnf
    · repeat ((first | refine bF ?_ | refine bT ?_ | refine dK ?_ | refine cR ?_ | refine cK ?_ | refine wK ?_); conv => whnf)
      exact ret_of rfl (congrArg D.bool (by symm; rw [decide_eq_false_iff_not]; intro e; exact h6 (by simp only [e.1])))
    repeat ((first | refine bF ?_ | refine bT ?_ | refine dK ?_ | refine cR ?_ | refine cK ?_ | refine wK ?_); conv => whnf)
    exact ⟨k + 1, ⟨by omega, fun i hi h h2 => by
      by_cases e : i = k
      · subst e; exact h6
      · exact hR i (by omega) h h2⟩, by omega, (le0 (le_of_cov ⟨rfl, rfl, rfl, trivial⟩ ⟨rfl, rfl, trivial⟩ ⟨rfl, rfl, rfl, rfl⟩))⟩
  · repeat ((first | refine bF ?_ | refine bT ?_ | refine dK ?_ | refine cR ?_ | refine cK ?_ | refine wK ?_); conv => whnf)
    refine aloop (ι := Nat) (fun k => [(2, .ptr 2 0 0), (3, .ptr 3 0 0), (6, .d (.int .i64 k))]) (fun _ => [(2, .box [.d (.lst (a.sec.map encB)), .d (.lst (a.ca.map encW))] false), (3, .box [.d (.lst (b.sec.map encB)), .d (.lst (b.ca.map encW))] false)])
      (fun k => k ≤ a.ca.length ∧ ∀ i, i < k → (h : i < a.ca.length) → (h2 : i < b.ca.length) → a.ca[i] = b.ca[i]) (fun k => a.ca.length - k) 0 ⟨by omega, by omega⟩ (le0 (le_of_cov ⟨rfl, rfl, rfl, trivial⟩ ⟨rfl, rfl, trivial⟩ ⟨rfl, rfl, rfl, rfl⟩)) ?_
    rintro j ⟨hj, hS⟩
    conv => whnf
    repeat ((first | refine bF ?_ | refine bT ?_ | refine dK ?_ | refine cR ?_ | refine cK ?_ | refine wK ?_); conv => whnf)
    refine bcase_p (fun h7 => ?_) (fun h7 => ?_) <;> conv => whnf
    · have hj2 : j < a.ca.length := by omega
      have hj3 : j < b.ca.length := by omega
      repeat ((first | refine bF ?_ | refine bT ?_ | refine dK ?_ | refine cR ?_ | refine cK ?_ | refine wK ?_); conv => whnf)
      refine idxK_nat (by omega) ?_
      conv => whnf
      refine getRow_of (x := encW a.ca[j]) (by simp [hj2]) ?_
      conv => whnf
      repeat ((first | refine bF ?_ | refine bT ?_ | refine dK ?_ | refine cR ?_ | refine cK ?_ | refine wK ?_); conv => whnf)
      refine idxK_nat (by omega) ?_
      conv => whnf
      refine getRow_of (x := encW b.ca[j]) (by simp [hj3]) ?_
      conv => whnf
      repeat ((first | refine bF ?_ | refine bT ?_ | refine dK ?_ | refine cR ?_ | refine cK ?_ | refine wK ?_); conv => whnf)
      refine bcase_intro (fun h8 => ?_) (fun h8 => ?_) <;> conv => whnf
      · repeat ((first | refine bF ?_ | refine bT ?_ | refine dK ?_ | refine cR ?_ | refine cK ?_ | refine wK ?_); conv => whnf)
        exact ret_of rfl (congrArg D.bool (by symm; rw [decide_eq_false_iff_not]; intro e; simp only [e.2] at h8; simp at h8))
      repeat ((first | refine bF ?_ | refine bT ?_ | refine dK ?_ | refine cR ?_ | refine cK ?_ | refine wK ?_); conv => whnf)
      have e8 : a.ca[j] = b.ca[j] := by simp at h8; exact Prod.ext h8.1 h8.2
      exact ⟨j + 1, ⟨by omega, fun i hi h h2 => by
        by_cases e : i = j
        · subst e; exact e8
        · exact hS i (by omega) h h2⟩, by omega, (le0 (le_of_cov ⟨rfl, rfl, rfl, trivial⟩ ⟨rfl, rfl, trivial⟩ ⟨rfl, rfl, rfl, rfl⟩))⟩
    · repeat ((first | refine bF ?_ | refine bT ?_ | refine dK ?_ | refine cR ?_ | refine cK ?_ | refine wK ?_); conv => whnf)
      refine ret_of rfl (congrArg D.bool ?_)
      symm; rw [decide_eq_true_eq]
      exact ⟨List.ext_getElem (by omega) fun i h1 h2 => hR i (by omega) h1 h2, List.ext_getElem (by omega) fun i h1 h2 => hS i (by omega) h1 h2⟩
end Go.Lk

namespace Go.Proofs
open Go.RowKit Go.Shelf
attribute [local go_sem] Oper.semAt_some

/-- what has come when k rounds are over -/
def Tryz.upto {α : Type} (f : Nat → α) (k : Nat) : List α := (List.range k).map f
theorem Tryz.upto_succ {α : Type} (f : Nat → α) (k : Nat) : Tryz.upto f (k + 1) = Tryz.upto f k ++ [f k] := by simp [Tryz.upto, List.range_succ]
theorem Tryz.upto_length {α : Type} (f : Nat → α) (k : Nat) : (Tryz.upto f k).length = k := by simp [Tryz.upto]
abbrev Tryz.W := Int × ByteArray
/-- from behind -/
def Tryz.from_ (ws : Nat → Tryz.W) (len k : Nat) : Nat × Tryz.W := (len - 1 - k, ws (len - 1 - k))

set_option maxRecDepth 100000 in
set_option maxHeartbeats 2000000 in
theorem Tryz.back1_in (F : Fence) (n : Nat) (h156 : F.fn 156) (hro : F.round = none) (hn : 1 ≤ n) (l Bs n₀ b off len cap : Nat) (a : Option Addr) (ha : 0 < len → a = some ⟨b, off, none⟩) (ws : Nat → Tryz.W) (hreach : len * 24 ≤ 140737488351232) (hb : 0 < len → b < n₀) (hBn : Bs < n₀) (J Jx : List (Nat × Tryz.W) → World → Prop)
    (hY : ∀ pre x W, J pre W → pre.length < len → YieldAt F (n - 1) Tryz.prog l #[.int .i64 (x.1 : Int), .agg #[.int .i64 x.2.1, .string x.2.2]] W fun e W' =>
      (e = .returned (.bool true) ∧ J (pre ++ [x]) W' ∧ Below n₀ W W') ∨ (e = .returned (.bool false) ∧ Jx (pre ++ [x]) W'))
    (W : World) (hBs : W.cell? ⟨Bs, 0, none⟩ = some (.slice a len cap)) (hc : ∀ j, j < len → W.cell? ⟨b, off + j * 2, none⟩ = some (.int .i64 (ws j).1) ∧ W.cell? ⟨b, off + j * 2 + 1, none⟩ = some (.string (ws j).2)) (h0 : J [] W) :
    CallsIn F n Tryz.prog 156 #[.func (.yield l) #[] #[], .pointer (some ⟨Bs, 0, none⟩)] W fun e W' => (∃ v, e = .returned v) ∧
      ((∃ ys, ys = Tryz.upto (Tryz.from_ ws len) len ∧ J ys W') ∨ (∃ pre, (∃ k, k ≤ len ∧ pre = Tryz.upto (Tryz.from_ ws len) k) ∧ Jx pre W')) := by
  refine callsIn_of_wp Tryz.func156 rfl h156 ?_ hro
  simp only [Tryz.ntmps156, List.size_toArray, List.length_cons, List.length_nil, Nat.reduceAdd, Nat.reduceSub, Array.replicate_succ, Array.replicate_zero, List.push_toArray, List.append_toArray, List.nil_append, List.cons_append]
  gi_wp2
  gi_loopw [3] (fun i wr => ∃ k : Nat, k ≤ len ∧ i = .int .i64 ((len : Int) - 1 - k) ∧ J (Tryz.upto (Tryz.from_ ws len) k) wr ∧ Below n₀ W wr)
    (fun i _ => ((intOf i) + 1).toNat)
  case atStart =>
    refine ⟨0, Nat.zero_le _, ?_, h0, Below.refl _ _⟩
    simp
  case round =>
    obtain ⟨k, hk, rfl, hJs, hnx⟩ := hrel
    have hBx : wr.cell? ⟨Bs, 0, none⟩ = some (.slice a len cap) := (hnx.cell (p := ⟨Bs, 0, none⟩) hBn).trans hBs
    by_cases hlt : k < len
    · have hcx := hc (len - 1 - k) (by omega)
      have hc1 : wr.cell? ⟨b, off + (len - 1 - k) * 2, none⟩ = some (.int .i64 (ws (len - 1 - k)).1) := (hnx.cell (p := ⟨b, off + (len - 1 - k) * 2, none⟩) (hb (by omega))).trans hcx.1
      have hc2 : wr.cell? ⟨b, off + (len - 1 - k) * 2 + 1, none⟩ = some (.string (ws (len - 1 - k)).2) := (hnx.cell (p := ⟨b, off + (len - 1 - k) * 2 + 1, none⟩) (hb (by omega))).trans hcx.2
      obtain ⟨fn, tmps, assign, body, hy, hR⟩ := hY _ (Tryz.from_ ws len k) wr hJs (by rw [Tryz.upto_length]; exact hlt)
      dsimp only [Tryz.from_] at hy
      obtain ⟨j, hj⟩ : ∃ j, len - 1 - k = j := ⟨_, rfl⟩
      have ej : (len : Int) - 1 - k = (j : Int) := by omega
      rw [hj] at hc1 hc2 hy
      rw [ej]
      have ha' := ha (by omega)
      subst ha'
      gi_wp2
      refine hR.mono ?_
      rintro e W3 (⟨rfl, hJ3, hk3⟩ | ⟨rfl, hJx3⟩)
      · gi_wp2
        go_roundw
        case rel => exact ⟨k + 1, by omega, by simp; omega, by rw [Tryz.upto_succ]; exact hJ3, hnx.trans hk3⟩
        case measure => simp [intOf]
      · gi_wp2
        refine bodyPost_ret (results_none rfl _ _ _) rfl ?_
        exact ⟨⟨_, rfl⟩, .inr ⟨_, ⟨k + 1, by omega, (Tryz.upto_succ _ _).symm⟩, hJx3⟩⟩
    · obtain rfl : k = len := by omega
      gi_wp2
      go_end0
      exact ⟨⟨_, rfl⟩, .inl ⟨_, rfl, hJs⟩⟩
set_option maxHeartbeats 1000000 in
/-- slices.Backward(s): the slice value is boxed; the function value captures the box -/
theorem Tryz.back_in (F : Fence) (n : Nat) (h134 : F.fn 134) (hro : F.round = none) (a : Option Addr) (len cap : Nat) (w : World) :
    CallsIn F n Tryz.prog 134 #[.slice a len cap] w fun e w' => e = .returned (.func (.func 156) #[] #[.pointer (some ⟨w.heap.size, 0, none⟩)]) ∧ w' = w.alloc (.cells #[.slice a len cap] 36) := by
  refine callsIn_of_wp Tryz.func134 rfl h134 ?_ hro
  simp only [Tryz.ntmps134, List.size_toArray, List.length_cons, List.length_nil, Nat.reduceAdd, Nat.reduceSub, Array.replicate_succ, Array.replicate_zero, List.push_toArray, List.append_toArray, List.nil_append, List.cons_append]
  gi_wp2
  go_ret
  exact ⟨rfl, rfl⟩
/-- the slice value holds these writes, in a block below n₀; or there are none -/
structure Tryz.Held (n₀ : Nat) (W : World) (a : Option Addr) (len b off : Nat) (ws : Nat → Tryz.W) : Prop where
  at_ : 0 < len → a = some ⟨b, off, none⟩
  lt : 0 < len → b < n₀
  cells : ∀ j, j < len → W.cell? ⟨b, off + j * 2, none⟩ = some (.int .i64 (ws j).1) ∧ W.cell? ⟨b, off + j * 2 + 1, none⟩ = some (.string (ws j).2)
theorem Tryz.Held.below {n₀ : Nat} {A B : World} (h : Below n₀ A B) {a : Option Addr} {len b off : Nat} {ws : Nat → Tryz.W} (q : Tryz.Held n₀ A a len b off ws) : Tryz.Held n₀ B a len b off ws :=
  ⟨q.at_, q.lt, fun j hj => ⟨(h.cell (p := ⟨b, off + j * 2, none⟩) (q.lt (by omega))).trans (q.cells j hj).1, (h.cell (p := ⟨b, off + j * 2 + 1, none⟩) (q.lt (by omega))).trans (q.cells j hj).2⟩⟩
theorem Tryz.back_stops (F : Fence) (n : Nat) (h156 : F.fn 156) (hro : F.round = none) (hn : 1 ≤ n) (Bs n₀ len cap b off : Nat) (a : Option Addr) (ws : Nat → Tryz.W) (hreach : len * 24 ≤ 140737488351232) (w : World) (hBs : Bs < n₀) (hn₀ : n₀ ≤ w.heap.size)
    (hc : w.cell? ⟨Bs, 0, none⟩ = some (.slice a len cap)) (hI : Tryz.Held n₀ w a len b off ws) :
    SeqStopsK F n Tryz.prog 156 #[.pointer (some ⟨Bs, 0, none⟩)] (fun x : Nat × Tryz.W => #[Value.int .i64 (x.1 : Int), Value.agg #[.int .i64 x.2.1, .string x.2.2]]) (Below n₀) (fun ys => ys = Tryz.upto (Tryz.from_ ws len) len)
      (fun pre => ∃ k, k ≤ len ∧ pre = Tryz.upto (Tryz.from_ ws len) k) len w := fun l J Jx W hW _ _ hY h0 => by
  have hc' := (hW.cell (p := ⟨Bs, 0, none⟩) (Nat.lt_of_lt_of_le hBs hn₀)).trans hc
  have hI' := hI.below (hW.mono hn₀)
  exact Tryz.back1_in F n h156 hro hn l Bs n₀ b off len cap a hI'.at_ ws hreach hI'.lt hBs J Jx hY W hc' hI'.cells h0
end Go.Proofs

