import Derived.Test.YtkacieekahfdmaaGreatDoorHandA
set_option linter.unusedSimpArgs false
set_option linter.unusedVariables false
set_option linter.unusedSectionVars false
namespace Go.Proofs.YtkacieekahfdmaaGreatDoor
open Go Go.RowKit Go.Abs
noncomputable section
def o0 : AObj := .cells 44 ([.pointer none, .pointer none]) false 0 0
def o1 : AObj := .cells 4 (rp 64 (.bool false)) false 0 0
def o2 : AObj := .cells 154 ([.int .i64 64, .int .i64 320, .slice (some ⟨18, 0, none⟩) 64 128, .slice (some ⟨13, 0, none⟩) 64 128, .slice none 0 0, .int .i64 0, .int .i64 0, .int .i64 0, .int .i64 0, .bool false, .bool false, .int .i64 0, .int .i64 0, .int .i64 0]) false 0 0
def s0 : Value := mkStr (rl [(320, 0)])
def o3 : AObj := .cells 9 (rp 64 (s0)) false 0 0
def o4 : AObj := .cells 154 ([.int .i64 64, .int .i64 320, .slice (some ⟨94, 0, none⟩) 64 128, .slice (some ⟨89, 0, none⟩) 64 128, .slice none 0 0, .int .i64 0, .int .i64 0, .int .i64 0, .int .i64 0, .bool false, .bool false, .int .i64 0, .int .i64 0, .int .i64 0]) false 0 0
def o5 : AObj := .cells 44 ([.pointer (some ⟨15, 0, none⟩), .pointer (some ⟨91, 0, none⟩)]) false 0 0
def o6 : AObj := .cells 154 ([.int .i64 64, .int .i64 320, .slice (some ⟨18, 0, none⟩) 64 128, .slice (some ⟨13, 0, none⟩) 64 128, .slice none 0 0, .int .i64 0, .int .i64 0, .int .i64 0, .int .i64 0, .bool false, .bool false, .int .i64 0, .int .i64 4, .int .i64 4]) false 0 0
def s1 : Value := mkStr (rl [(1, 84), (1, 82), (1, 78), (1, 76), (1, 2), (1, 0), (1, 8), (13, 0), (1, 31), (1, 61), (1, 92), (1, 206), (296, 0)])
def s2 : Value := mkStr (rl [(1, 84), (1, 82), (1, 78), (1, 76), (1, 2), (1, 0), (1, 8), (1, 0), (1, 1), (11, 0), (1, 100), (1, 192), (1, 158), (1, 116), (296, 0)])
def s3 : Value := mkStr (rl [(1, 84), (1, 82), (1, 78), (1, 76), (1, 1), (1, 0), (1, 29), (1, 0), (1, 1), (3, 0), (1, 1), (7, 0), (1, 24), (1, 199), (1, 135), (1, 67), (1, 6), (3, 0), (1, 1), (7, 0), (1, 192), (1, 67), (1, 70), (1, 244), (2, 1), (278, 0)])
def s4 : Value := mkStr (rl [(1, 84), (1, 82), (1, 78), (1, 76), (1, 4), (3, 0), (1, 6), (3, 0), (1, 1), (7, 0), (1, 192), (1, 67), (1, 70), (1, 244), (296, 0)])
def o7 : AObj := .cells 9 ([s1, s0, s2, s0, s0, s3, s0, s0, s0, s0, s4] ++ rp 53 (s0)) false 0 0
def o8 : AObj := .cells 154 ([.int .i64 64, .int .i64 320, .slice (some ⟨94, 0, none⟩) 64 128, .slice (some ⟨89, 0, none⟩) 64 128, .slice none 0 0, .int .i64 0, .int .i64 0, .int .i64 0, .int .i64 0, .bool false, .bool false, .int .i64 0, .int .i64 4, .int .i64 4]) false 0 0
def o9 : AObj := .cells 9 ([s2, s0, s1, s0, s0, s3, s0, s0, s0, s0, s4] ++ rp 53 (s0)) false 0 0
def o10 : AObj := .cells 58 ([.int .i64 4, .int .i64 4, .int .i64 5, .int .i64 3, .int .i64 3, .int .i64 5, .int .u64 1099511627776]) false 0 0
def o11 : AObj := .cells 154 ([.int .i64 64, .int .i64 320, .slice (some ⟨18, 0, none⟩) 64 128, .slice (some ⟨13, 0, none⟩) 64 128, .slice none 0 0, .int .i64 0, .int .i64 0, .int .i64 0, .int .i64 0, .bool false, .bool false, .int .i64 4, .int .i64 4, .int .i64 4]) false 0 0
def o12 : AObj := .cells 154 ([.int .i64 64, .int .i64 320, .slice (some ⟨94, 0, none⟩) 64 128, .slice (some ⟨89, 0, none⟩) 64 128, .slice none 0 0, .int .i64 0, .int .i64 0, .int .i64 0, .int .i64 0, .bool false, .bool false, .int .i64 4, .int .i64 4, .int .i64 4]) false 0 0
def o13 : AObj := .cells 133 ([.pointer (some ⟨1534, 0, none⟩), .int .i64 4, .pointer (some ⟨15, 0, none⟩), .pointer (some ⟨91, 0, none⟩), .int .i64 56, .int .i64 4, .slice none 0 0, .int .i64 56, .int .i64 4, .slice none 0 0]) false 0 0
def o14 : AObj := .map [] 0
def o15 : AObj := .cells 123 ([.pointer (some ⟨1535, 0, none⟩), .pointer (some ⟨2973, 0, none⟩), .map (some 2974), .int .i64 0]) false 0 0
def o16 : AObj := .cells 105 ([.int .i64 4, .int .i64 4, .int .i64 5, .int .i64 3, .int .i64 3, .int .i64 5, .int .u64 1099511627776, .pointer (some ⟨2975, 0, none⟩), .pointer (some ⟨2983, 0, none⟩), .pointer (some ⟨2985, 0, none⟩), .pointer none, .pointer none, .pointer none, .int .u64 0, .int .i64 0, .int .u64 0, .int .u32 0, .int .i64 0, .int .u64 0, .int .u32 0, .slice none 0 0, .int .i64 0, .map (some 2979)]) false 0 0
def o17 : AObj := .cells 252 crcTab false 0 0
def o18 : AObj := .cells 154 ([.int .i64 64, .int .i64 320, .slice (some ⟨18, 0, none⟩) 64 128, .slice (some ⟨13, 0, none⟩) 64 128, .slice none 0 0, .int .i64 0, .int .i64 0, .int .i64 0, .int .i64 0, .bool false, .bool false, .int .i64 6, .int .i64 4, .int .i64 4]) false 0 0
def o19 : AObj := .cells 154 ([.int .i64 64, .int .i64 320, .slice (some ⟨94, 0, none⟩) 64 128, .slice (some ⟨89, 0, none⟩) 64 128, .slice none 0 0, .int .i64 0, .int .i64 0, .int .i64 0, .int .i64 0, .bool false, .bool false, .int .i64 6, .int .i64 4, .int .i64 4]) false 0 0
def o20 : AObj := .cells 154 ([.int .i64 64, .int .i64 320, .slice (some ⟨18, 0, none⟩) 64 128, .slice (some ⟨13, 0, none⟩) 64 128, .slice none 0 0, .int .i64 0, .int .i64 0, .int .i64 0, .int .i64 0, .bool false, .bool false, .int .i64 7, .int .i64 5, .int .i64 6]) false 0 0
def o21 : AObj := .cells 154 ([.int .i64 64, .int .i64 320, .slice (some ⟨94, 0, none⟩) 64 128, .slice (some ⟨89, 0, none⟩) 64 128, .slice none 0 0, .int .i64 0, .int .i64 0, .int .i64 0, .int .i64 0, .bool false, .bool false, .int .i64 7, .int .i64 5, .int .i64 6]) false 0 0
def o22 : AObj := .cells 105 ([.int .i64 4, .int .i64 4, .int .i64 5, .int .i64 3, .int .i64 3, .int .i64 5, .int .u64 1099511627776, .pointer (some ⟨2975, 0, none⟩), .pointer (some ⟨2983, 0, none⟩), .pointer (some ⟨2985, 0, none⟩), .pointer (some ⟨4309, 0, none⟩), .pointer (some ⟨4481, 0, none⟩), .pointer (some ⟨4708, 0, none⟩), .int .u64 2, .int .i64 6, .int .u64 1, .int .u32 4098245568, .int .i64 1, .int .u64 5, .int .u32 0, .slice none 0 0, .int .i64 0, .map (some 5075)]) false 0 0
def o23 : AObj := .cells 146 ([.int .u64 127]) false 0 0
def o24 : AObj := .cells 260 ([.int .i64 56, .slice (some ⟨4307, 0, none⟩) 1 2]) false 0 0
def o25 : AObj := .cells 167 ([.int .i64 6, .pointer (some ⟨4308, 0, none⟩), .pointer (some ⟨5050, 0, none⟩), .pointer (some ⟨5061, 0, none⟩), .int .u64 2, .int .u64 1099511627776]) false 0 0
def o26 : AObj := .cells 183 ([.int .i64 3, .int .i64 3, .int .i64 5, .func (.func 51) ⟨[.pointer (some ⟨2981, 0, none⟩)]⟩ ⟨[]⟩, .pointer (some ⟨4719, 0, none⟩), .int .i64 1, .slice none 0 0, .int .i64 0, .int .i64 0]) false 0 0
def c0 : Cut := { f := 21, args := [.pointer (some ⟨15, 0, none⟩), .pointer (some ⟨91, 0, none⟩), .agg ⟨[.int .i64 4, .int .i64 4, .int .i64 5, .int .i64 3, .int .i64 3, .int .i64 5, .int .u64 1099511627776]⟩], pre := [(0, o0), (13, o1), (15, o2), (18, o3), (89, o1), (91, o4), (94, o3), (155, o5)], pn := 164, v := .int .i64 0, post := [(0, o0), (13, o1), (15, o6), (18, o7), (89, o1), (91, o8), (94, o9), (155, o5)], qn := 1516 }
def c1 : Cut := { f := 53, args := [.pointer (some ⟨15, 0, none⟩), .pointer (some ⟨91, 0, none⟩), .int .i64 4], pre := [(0, o0), (13, o1), (15, o6), (18, o7), (89, o1), (91, o8), (94, o9), (155, o5), (1528, o10)], pn := 1529, v := .tuple ⟨[.pointer (some ⟨1535, 0, none⟩), .int .i64 0]⟩, post := [(0, o0), (13, o1), (15, o11), (18, o7), (89, o1), (91, o12), (94, o9), (155, o5), (1528, o10), (1535, o13)], qn := 2926 }
def c2 : Cut := { f := 54, args := [.pointer (some ⟨2981, 0, none⟩)], pre := [(0, o0), (13, o1), (15, o11), (18, o7), (89, o1), (91, o12), (94, o9), (155, o5), (1528, o10), (1535, o13), (2974, o14), (2975, o15), (2981, o16), (2983, o17)], pn := 2986, v := .tuple ⟨[.agg ⟨[.int .u64 1, .int .i64 6, .int .u64 1, .int .u32 4098245568, .int .i64 1, .int .u64 1, .int .u32 0]⟩, .int .i64 0]⟩, post := [(0, o0), (13, o1), (15, o18), (18, o7), (89, o1), (91, o19), (94, o9), (155, o5), (1528, o10), (1535, o13), (2974, o14), (2975, o15), (2981, o16), (2983, o17)], qn := 4244 }
def c3 : Cut := { f := 23, args := [.pointer (some ⟨15, 0, none⟩), .pointer (some ⟨91, 0, none⟩), .agg ⟨[.int .i64 4, .int .i64 4, .int .i64 5, .int .i64 3, .int .i64 3, .int .i64 5, .int .u64 1099511627776]⟩], pre := [(0, o0), (13, o1), (15, o6), (18, o7), (89, o1), (91, o8), (94, o9), (155, o5)], pn := 1528, v := .tuple ⟨[.pointer (some ⟨2981, 0, none⟩), .int .i64 0]⟩, post := [(0, o0), (15, o20), (91, o21), (155, o5), (1535, o13), (2974, o14), (2975, o15), (2981, o22), (4307, o23), (4308, o24), (4309, o25), (4708, o26)], qn := 5083 }
def c4 : Cut := { f := 16, args := [.pointer (some ⟨2981, 0, none⟩), .pointer none], pre := [(15, o20), (91, o21), (1535, o13), (2974, o14), (2975, o15), (2981, o22), (4307, o23), (4308, o24), (4309, o25), (4708, o26)], pn := 5084, v := .tuple ⟨[.agg ⟨[.int .u64 2, .int .i64 1, .int .i64 49, .int .i64 7, .int .i64 0, .int .i64 0, .int .i64 0, .int .i64 4, .int .i64 4, .bool false, .bool false, .bool false, .int .i64 0, .slice none 0 0, .int .i64 0, .int .i64 0]⟩, .int .i64 0]⟩, post := [], qn := 5181 }
end


noncomputable def hdBase (f : Nat) : Option Hd := bif Nat.beq f 89 then some (hMake 252) else bif Nat.beq f 269 then some (hOn 252) else bif Nat.beq f 82 then some hRepeat else bif Nat.beq f 80 then some hTzOne else bif Nat.beq f 137 then some hBStr else none
noncomputable def hdOne (f : Nat) : Option Hd := bif Nat.beq f 53 then some (hCut c1) else bif Nat.beq f 54 then some (hCut c2) else hdBase f
noncomputable def hdTwo (f : Nat) : Option Hd := bif Nat.beq f 21 then some (hCut c0) else bif Nat.beq f 23 then some (hCut c3) else bif Nat.beq f 16 then some (hCut c4) else hdBase f
noncomputable def envOf (T : Tr TypeInfo) (F : Tr Func) (i : FuncId → Option Hd) (k : Op → List Value → Option Value) : Env := { T, F, okS := fun t => Nat.beq t 86, intr := i, hook := k }
noncomputable def noHook (_ : Op) (_ : List Value) : Option Value := none
theorem envOf_T (T : Tr TypeInfo) (F : Tr Func) (i : FuncId → Option Hd) (k : Op → List Value → Option Value) : (envOf T F i k).T = T := rfl
theorem envOf_F (T : Tr TypeInfo) (F : Tr Func) (i : FuncId → Option Hd) (k : Op → List Value → Option Value) : (envOf T F i k).F = F := rfl
theorem envOf_S (T : Tr TypeInfo) (F : Tr Func) (i : FuncId → Option Hd) (k : Op → List Value → Option Value) (t : TypeId) : (envOf T F i k).okS t = Nat.beq t 86 := rfl
theorem envOf_K (T : Tr TypeInfo) (F : Tr Func) (i : FuncId → Option Hd) (k : Op → List Value → Option Value) : (envOf T F i k).hook = k := rfl
theorem envOf_I (T : Tr TypeInfo) (F : Tr Func) (i : FuncId → Option Hd) (k : Op → List Value → Option Value) : (envOf T F i k).intr = i := rfl
noncomputable def eBase : Env := envOf kT kF hdBase noHook
noncomputable def eOne : Env := envOf kT kF hdOne noHook
noncomputable def eTwo : Env := envOf kT kF hdTwo noHook
noncomputable def wakesRun : Bool := match run eTwo 60 8 [] { heap := .nil, next := 0 } with | some (.bool b, _) => b | _ => false
end Go.Proofs.YtkacieekahfdmaaGreatDoor
