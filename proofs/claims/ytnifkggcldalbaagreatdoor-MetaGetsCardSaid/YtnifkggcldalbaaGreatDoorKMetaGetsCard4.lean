/- Texts put together, of these what the theorem needs: The compiled code of functions of this seat. MADE BY PROGRAM (mkc.py). Contracts: rows of bytes put together. Contracts: a filter is made; one bit is set, and asked for. Contracts: the document's filter: made, added to, asked. Numbers written: strconv.FormatUint to the bases 16 and 10. The compiled code of functions of this seat. MADE BY PROGRAM (mkc.py). Contracts: spans and traces that are few; what may be. From arguments to plain data: numbers, bytes, texts, structs. From arguments to plain data: spans, traces, pages. What a row that lists the tables of numbers is given: their cells; a world that meets it. Numbers below a thousand written, to the base 10. FormatUint, strings.Repeat of a zero, digits: a number with leading zeros. Names of objects: meta.Name, and the document's. -/
import Derived.Test.YtnifkggcldalbaaGreatDoorKMetaGetsCard3
import Derived.Test.YtnifkggcldalbaaGreatDoorChecked
import Derived.Test.YtnifkggcldalbaaGreatDoorRows
import Derived.Test.YtnifkggcldalbaaGreatDoorTie
import Derived.Test.YtnifkggcldalbaaGreatDoorCards

set_option linter.unusedSimpArgs false
set_option linter.unusedVariables false

namespace Go.VL

open Go.Proofs

/-- a type -/
abbrev t_u8 : Nat := 5

/-- a type -/
abbrev t_u64 : Nat := 22

/-- a type -/
abbrev t_err : Nat := 32

/-- a type -/
abbrev t_serr : Nat := 242

/-- a type -/
abbrev t_nerr : Nat := 244

/-- a type -/
abbrev t_a20 : Nat := 282

/-- a type -/
abbrev t_a64 : Nat := 295

/-- a package variable -/
abbrev g_esyn : Nat := 0

/-- a package variable -/
abbrev g_erng : Nat := 1

/-- a package variable -/
abbrev g_pow10 : Nat := 3

/-- a package variable -/
abbrev g_deB64 : Nat := 7

abbrev n_mName : Nat := 66

def c_mName : C := (.seq (.reg [⟨(some 6), (.mv (.c (.str ⟨#[]⟩))), none⟩]) (.seq (.block 0 (.seq (.reg [⟨(some 8), (.mv (.t 1)), none⟩, ⟨(some 9), (.sbin .eql (.t 8) (.c (.str ⟨#[112]⟩))), none⟩, ⟨(some 7), (.mv (.t 9)), none⟩]) (.cond (.t 7) (.seq (.reg [⟨(some 10), (.mv (.t 0)), none⟩, ⟨(some 11), (.call 119 [(.t 10), (.c (.int .i64 16)), (.c (.int .i64 16))]), none⟩, ⟨(some 12), (.sbin .add (.c (.str ⟨#[98, 47]⟩)) (.t 11)), none⟩, ⟨(some 13), (.sbin .add (.t 12) (.c (.str ⟨#[47, 112]⟩))), none⟩, ⟨(some 14), (.mv (.t 2)), none⟩, ⟨(some 15), (.mx [(.t 14), (.c (.int .i64 0))]), none⟩, ⟨(some 16), (.bin .rem .i64 (.t 15) (.c (.int .i64 1000))), none⟩, ⟨(some 17), (.conv .u64 (.t 16)), none⟩, ⟨(some 18), (.call 119 [(.t 17), (.c (.int .i64 10)), (.c (.int .i64 3))]), none⟩, ⟨(some 19), (.sbin .add (.t 13) (.t 18)), none⟩, ⟨(some 6), (.mv (.t 19)), none⟩]) .ret) (.seq (.reg [⟨(some 21), (.mv (.t 1)), none⟩, ⟨(some 22), (.slen (.t 21)), none⟩, ⟨(some 23), (.bin .eql .i64 (.t 22) (.c (.int .i64 1))), none⟩, ⟨(some 24), (.mv (.t 23)), none⟩, ⟨(some 25), (.mv (.t 1)), (some (24, true))⟩, ⟨(some 26), (.call 120 [(.c (.str ⟨#[109, 105, 102, 120]⟩)), (.t 25)]), (some (24, true))⟩, ⟨(some 27), (.pick (.t 24) (.t 26) (.c (.bool false))), none⟩, ⟨(some 20), (.mv (.t 27)), none⟩]) (.cond (.t 20) (.seq (.reg [⟨(some 28), (.mv (.t 0)), none⟩, ⟨(some 29), (.call 119 [(.t 28), (.c (.int .i64 16)), (.c (.int .i64 16))]), none⟩, ⟨(some 30), (.sbin .add (.c (.str ⟨#[98, 47]⟩)) (.t 29)), none⟩, ⟨(some 31), (.sbin .add (.t 30) (.c (.str ⟨#[47]⟩))), none⟩, ⟨(some 32), (.mv (.t 1)), none⟩, ⟨(some 33), (.sbin .add (.t 31) (.t 32)), none⟩, ⟨(some 6), (.mv (.t 33)), none⟩]) .ret) .skip))))) (.seq (.reg [⟨(some 6), (.mv (.c (.str ⟨#[]⟩))), none⟩]) .ret)))

set_option maxRecDepth 100000 in
theorem k_mName : compileC Tryz.prog ann (Tryz.f66.body.getD .skip) = some c_mName := by kernel_rfl

theorem s_mName {args : List AV} {σ : St} {K : AV → St → Prop} (h : WF σ → T Tryz.prog ann c_mName (Fin σ [(.t 6)] K) (args ++ List.replicate (34 - args.length) (.tup [])) σ) : ACalls Tryz.prog n_mName args σ K :=
  calls_ok Tryz.func66 (by kernel_rfl) (by kernel_rfl) k_mName (by kernel_rfl) (by kernel_rfl) h

abbrev n_mDig : Nat := 119

def c_mDig : C := (.seq (.reg [⟨(some 6), (.mv (.c (.str ⟨#[]⟩))), none⟩]) (.seq (.reg [⟨(some 8), (.mv (.t 0)), none⟩, ⟨(some 9), (.mv (.t 1)), none⟩, ⟨(some 10), (.call 156 [(.t 8), (.t 9)]), none⟩, ⟨(some 7), (.mv (.t 10)), none⟩]) (.seq (.reg [⟨(some 11), (.mv (.t 2)), none⟩, ⟨(some 12), (.mv (.t 7)), none⟩, ⟨(some 13), (.slen (.t 12)), none⟩, ⟨(some 14), (.bin .sub .i64 (.t 11) (.t 13)), none⟩, ⟨(some 15), (.mx [(.t 14), (.c (.int .i64 0))]), none⟩, ⟨(some 16), (.call 157 [(.c (.str ⟨#[48]⟩)), (.t 15)]), none⟩, ⟨(some 17), (.mv (.t 7)), none⟩, ⟨(some 18), (.sbin .add (.t 16) (.t 17)), none⟩, ⟨(some 6), (.mv (.t 18)), none⟩]) .ret)))

set_option maxRecDepth 100000 in
theorem k_mDig : compileC Tryz.prog ann (Tryz.f119.body.getD .skip) = some c_mDig := by kernel_rfl

theorem s_mDig {args : List AV} {σ : St} {K : AV → St → Prop} (h : WF σ → T Tryz.prog ann c_mDig (Fin σ [(.t 6)] K) (args ++ List.replicate (19 - args.length) (.tup [])) σ) : ACalls Tryz.prog n_mDig args σ K :=
  calls_ok Tryz.func119 (by kernel_rfl) (by kernel_rfl) k_mDig (by kernel_rfl) (by kernel_rfl) h

abbrev n_fmtU : Nat := 156

def c_fmtU : C := (.seq (.reg [⟨(some 4), (.mv (.c (.str ⟨#[]⟩))), none⟩]) (.seq (.reg [⟨(some 5), (.mv (.t 0)), none⟩, ⟨(some 6), (.mv (.t 1)), none⟩, ⟨(some 7), (.call 182 [(.t 5), (.t 6)]), none⟩, ⟨(some 4), (.mv (.t 7)), none⟩]) .ret))

set_option maxRecDepth 100000 in
theorem k_fmtU : compileC Tryz.prog ann (Tryz.f156.body.getD .skip) = some c_fmtU := by kernel_rfl

theorem s_fmtU {args : List AV} {σ : St} {K : AV → St → Prop} (h : WF σ → T Tryz.prog ann c_fmtU (Fin σ [(.t 4)] K) (args ++ List.replicate (8 - args.length) (.tup [])) σ) : ACalls Tryz.prog n_fmtU args σ K :=
  calls_ok Tryz.func156 (by kernel_rfl) (by kernel_rfl) k_fmtU (by kernel_rfl) (by kernel_rfl) h

abbrev n_ifmtU : Nat := 182

def c_ifmtU : C := (.seq (.reg [⟨(some 4), (.mv (.c (.str ⟨#[]⟩))), none⟩]) (.seq (.seq (.reg [⟨(some 9), (.mv (.t 1)), none⟩, ⟨(some 10), (.bin .eql .i64 (.t 9) (.c (.int .i64 10))), none⟩]) (.cond (.t 10) (.seq (.seq (.reg [⟨(some 11), (.mv (.t 0)), none⟩, ⟨(some 12), (.bin .lss .u64 (.t 11) (.c (.int .u64 100))), none⟩]) (.cond (.t 12) (.seq (.reg [⟨(some 13), (.mv (.t 0)), none⟩, ⟨(some 14), (.conv .i64 (.t 13)), none⟩, ⟨(some 15), (.call 201 [(.t 14)]), none⟩, ⟨(some 4), (.mv (.t 15)), none⟩]) .ret) .skip)) (.seq (.reg [⟨(some 5), (.alloc (zeros 24 (.int .u8 0))), none⟩]) (.seq (.reg [⟨(some 16), (.mv (.t 0)), none⟩, ⟨(some 17), (.call 202 [(.t 16)]), none⟩, ⟨(some 6), (.mv (.t 17)), none⟩]) (.seq (.reg [⟨(some 18), (.mv (.t 6)), none⟩, ⟨(some 19), (.sliceA 24 1 (.t 5) none (some (.t 18))), none⟩, ⟨(some 20), (.mv (.t 0)), none⟩, ⟨(some 21), (.call 203 [(.t 19), (.t 20)]), none⟩]) (.seq (.reg [⟨(some 22), (.mv (.t 6)), none⟩, ⟨(some 23), (.sliceA 24 1 (.t 5) none (some (.t 22))), none⟩, ⟨(some 24), (.convBS (.t 23)), none⟩, ⟨(some 4), (.mv (.t 24)), none⟩]) .ret))))) .skip)) (.seq (.reg [⟨(some 26), (.mv (.t 0)), none⟩, ⟨(some 27), (.mv (.t 1)), none⟩, ⟨(some 28), (.call 204 [(.c (.sl [] .nil)), (.t 26), (.t 27), (.c (.bool false)), (.c (.bool false))]), none⟩, ⟨(some 25), (.mv (.t 28)), none⟩, ⟨(some 29), (.ext (.t 25) 0), none⟩, ⟨(some 30), (.ext (.t 25) 1), none⟩, ⟨(some 7), (.mv (.t 29)), none⟩, ⟨(some 8), (.mv (.t 30)), none⟩]) (.seq (.reg [⟨(some 31), (.mv (.t 8)), none⟩, ⟨(some 4), (.mv (.t 31)), none⟩]) .ret))))

set_option maxRecDepth 100000 in
theorem k_ifmtU : compileC Tryz.prog ann (Tryz.f182.body.getD .skip) = some c_ifmtU := by kernel_rfl

theorem s_ifmtU {args : List AV} {σ : St} {K : AV → St → Prop} (h : WF σ → T Tryz.prog ann c_ifmtU (Fin σ [(.t 4)] K) (args ++ List.replicate (32 - args.length) (.tup [])) σ) : ACalls Tryz.prog n_ifmtU args σ K :=
  calls_ok Tryz.func182 (by kernel_rfl) (by kernel_rfl) k_ifmtU (by kernel_rfl) (by kernel_rfl) h

abbrev n_fbits : Nat := 204

def c_fbits : C := (.seq (.reg [⟨(some 10), (.mv (.c (.sl [] .nil))), none⟩, ⟨(some 11), (.mv (.c (.str ⟨#[]⟩))), none⟩]) (.seq (.seq (.reg [⟨(some 19), (.mv (.t 2)), none⟩, ⟨(some 20), (.bin .lss .i64 (.t 19) (.c (.int .i64 2))), none⟩, ⟨(some 21), (.mv (.t 20)), none⟩, ⟨(some 22), (.mv (.t 2)), (some (21, false))⟩, ⟨(some 23), (.bin .eql .i64 (.t 22) (.c (.int .i64 10))), (some (21, false))⟩, ⟨(some 24), (.pick (.t 21) (.c (.bool true)) (.t 23)), none⟩, ⟨(some 25), (.mv (.t 24)), none⟩, ⟨(some 26), (.mv (.t 2)), (some (25, false))⟩, ⟨(some 27), (.bin .gtr .i64 (.t 26) (.c (.int .i64 36))), (some (25, false))⟩, ⟨(some 28), (.pick (.t 25) (.c (.bool true)) (.t 27)), none⟩]) (.cond (.t 28) (.reg [⟨(some 29), (.mkI 9 (.c (.str ⟨#[115, 116, 114, 99, 111, 110, 118, 58, 32, 105, 108, 108, 101, 103, 97, 108, 32, 65, 112, 112, 101, 110, 100, 73, 110, 116, 47, 70, 111, 114, 109, 97, 116, 73, 110, 116, 32, 98, 97, 115, 101]⟩))), none⟩, ⟨none, .panic, none⟩]) .skip)) (.seq (.reg [⟨(some 12), (.alloc (zeros 65 (.int .u8 0))), none⟩]) (.seq (.reg [⟨(some 13), (.mv (.c (.int .i64 65))), none⟩]) (.seq (.seq (.reg [⟨(some 30), (.mv (.t 3)), none⟩]) (.cond (.t 30) (.reg [⟨(some 31), (.mv (.t 1)), none⟩, ⟨(some 32), (.un .neg .u64 (.t 31)), none⟩, ⟨(some 1), (.mv (.t 32)), none⟩]) .skip)) (.seq (.seq (.reg [⟨(some 33), (.mv (.t 2)), none⟩, ⟨(some 34), (.call 220 [(.t 33)]), none⟩]) (.cond (.t 34) (.seq (.reg [⟨(some 35), (.mv (.t 2)), none⟩, ⟨(some 36), (.conv .u64 (.t 35)), none⟩, ⟨(some 37), (.call 221 [(.t 36)]), none⟩, ⟨(some 38), (.conv .u64 (.t 37)), none⟩, ⟨(some 14), (.mv (.t 38)), none⟩]) (.seq (.reg [⟨(some 39), (.mv (.t 2)), none⟩, ⟨(some 40), (.conv .u64 (.t 39)), none⟩, ⟨(some 15), (.mv (.t 40)), none⟩]) (.seq (.reg [⟨(some 41), (.mv (.t 2)), none⟩, ⟨(some 42), (.conv .u64 (.t 41)), none⟩, ⟨(some 43), (.bin .sub .u64 (.t 42) (.c (.int .u64 1))), none⟩, ⟨(some 16), (.mv (.t 43)), none⟩]) (.seq (.block 0 (.loop (.seq (.seq (.reg [⟨(some 44), (.mv (.t 1)), none⟩, ⟨(some 45), (.mv (.t 15)), none⟩, ⟨(some 46), (.bin .geq .u64 (.t 44) (.t 45)), none⟩]) (.cond (.t 46) .skip (.exit 0))) (.block 1 (.seq (.reg [⟨(some 47), (.mv (.t 13)), none⟩, ⟨(some 48), (.bin .sub .i64 (.t 47) (.c (.int .i64 1))), none⟩, ⟨(some 13), (.mv (.t 48)), none⟩]) (.seq (.reg [⟨(some 49), (.mv (.t 13)), none⟩, ⟨(some 50), (.mv (.t 1)), none⟩, ⟨(some 51), (.mv (.t 16)), none⟩, ⟨(some 52), (.bin .and .u64 (.t 50) (.t 51)), none⟩, ⟨(some 53), (.idxS (.c (.str sDig36)) (.t 52)), none⟩, ⟨(some 54), (.iaddrA 65 1 (.t 12) (.t 49)), none⟩, ⟨none, (.store 1 (.t 54) (.t 53)), none⟩]) (.reg [⟨(some 55), (.mv (.t 1)), none⟩, ⟨(some 56), (.mv (.t 14)), none⟩, ⟨(some 57), (.bin .shr .u64 (.t 55) (.t 56)), none⟩, ⟨(some 1), (.mv (.t 57)), none⟩]))))))) (.seq (.reg [⟨(some 58), (.mv (.t 13)), none⟩, ⟨(some 59), (.bin .sub .i64 (.t 58) (.c (.int .i64 1))), none⟩, ⟨(some 13), (.mv (.t 59)), none⟩]) (.reg [⟨(some 60), (.mv (.t 13)), none⟩, ⟨(some 61), (.mv (.t 1)), none⟩, ⟨(some 62), (.idxS (.c (.str sDig36)) (.t 61)), none⟩, ⟨(some 63), (.iaddrA 65 1 (.t 12) (.t 60)), none⟩, ⟨none, (.store 1 (.t 63) (.t 62)), none⟩])))))) (.seq (.reg [⟨(some 64), (.mv (.t 2)), none⟩, ⟨(some 65), (.conv .u64 (.t 64)), none⟩, ⟨(some 17), (.mv (.t 65)), none⟩]) (.seq (.block 2 (.loop (.seq (.seq (.reg [⟨(some 66), (.mv (.t 1)), none⟩, ⟨(some 67), (.mv (.t 17)), none⟩, ⟨(some 68), (.bin .geq .u64 (.t 66) (.t 67)), none⟩]) (.cond (.t 68) .skip (.exit 2))) (.block 3 (.seq (.reg [⟨(some 69), (.mv (.t 13)), none⟩, ⟨(some 70), (.bin .sub .i64 (.t 69) (.c (.int .i64 1))), none⟩, ⟨(some 13), (.mv (.t 70)), none⟩]) (.seq (.reg [⟨(some 71), (.mv (.t 1)), none⟩, ⟨(some 72), (.mv (.t 17)), none⟩, ⟨(some 73), (.bin .quo .u64 (.t 71) (.t 72)), none⟩, ⟨(some 18), (.mv (.t 73)), none⟩]) (.seq (.reg [⟨(some 74), (.mv (.t 13)), none⟩, ⟨(some 75), (.mv (.t 1)), none⟩, ⟨(some 76), (.mv (.t 18)), none⟩, ⟨(some 77), (.mv (.t 17)), none⟩, ⟨(some 78), (.bin .mul .u64 (.t 76) (.t 77)), none⟩, ⟨(some 79), (.bin .sub .u64 (.t 75) (.t 78)), none⟩, ⟨(some 80), (.idxS (.c (.str sDig36)) (.t 79)), none⟩, ⟨(some 81), (.iaddrA 65 1 (.t 12) (.t 74)), none⟩, ⟨none, (.store 1 (.t 81) (.t 80)), none⟩]) (.reg [⟨(some 82), (.mv (.t 18)), none⟩, ⟨(some 1), (.mv (.t 82)), none⟩])))))))) (.seq (.reg [⟨(some 83), (.mv (.t 13)), none⟩, ⟨(some 84), (.bin .sub .i64 (.t 83) (.c (.int .i64 1))), none⟩, ⟨(some 13), (.mv (.t 84)), none⟩]) (.reg [⟨(some 85), (.mv (.t 13)), none⟩, ⟨(some 86), (.mv (.t 1)), none⟩, ⟨(some 87), (.idxS (.c (.str sDig36)) (.t 86)), none⟩, ⟨(some 88), (.iaddrA 65 1 (.t 12) (.t 85)), none⟩, ⟨none, (.store 1 (.t 88) (.t 87)), none⟩])))))) (.seq (.seq (.reg [⟨(some 89), (.mv (.t 3)), none⟩]) (.cond (.t 89) (.seq (.reg [⟨(some 90), (.mv (.t 13)), none⟩, ⟨(some 91), (.bin .sub .i64 (.t 90) (.c (.int .i64 1))), none⟩, ⟨(some 13), (.mv (.t 91)), none⟩]) (.reg [⟨(some 92), (.mv (.t 13)), none⟩, ⟨(some 93), (.iaddrA 65 1 (.t 12) (.t 92)), none⟩, ⟨none, (.store 1 (.t 93) (.c (.int .u8 45))), none⟩])) .skip)) (.seq (.seq (.reg [⟨(some 94), (.mv (.t 4)), none⟩]) (.cond (.t 94) (.seq (.reg [⟨(some 95), (.mv (.t 0)), none⟩, ⟨(some 96), (.mv (.t 13)), none⟩, ⟨(some 97), (.sliceA 65 1 (.t 12) (some (.t 96)) none), none⟩, ⟨(some 98), (.app 1 1 .tip (.t 95) (.t 97)), none⟩, ⟨(some 10), (.mv (.t 98)), none⟩]) .ret) .skip)) (.seq (.reg [⟨(some 99), (.mv (.t 13)), none⟩, ⟨(some 100), (.sliceA 65 1 (.t 12) (some (.t 99)) none), none⟩, ⟨(some 101), (.convBS (.t 100)), none⟩, ⟨(some 11), (.mv (.t 101)), none⟩]) .ret)))))))))

set_option maxRecDepth 100000 in
theorem k_fbits : compileC Tryz.prog ann (Tryz.f204.body.getD .skip) = some c_fbits := by kernel_rfl

theorem s_fbits {args : List AV} {σ : St} {K : AV → St → Prop} (h : WF σ → T Tryz.prog ann c_fbits (Fin σ [(.t 10), (.t 11)] K) (args ++ List.replicate (102 - args.length) (.tup [])) σ) : ACalls Tryz.prog n_fbits args σ K :=
  calls_ok Tryz.func204 (by kernel_rfl) (by kernel_rfl) k_fbits (by kernel_rfl) (by kernel_rfl) h

abbrev n_ismall : Nat := 201

def c_ismall : C := (.seq (.reg [⟨(some 2), (.mv (.c (.str ⟨#[]⟩))), none⟩]) (.seq (.seq (.reg [⟨(some 3), (.mv (.t 0)), none⟩, ⟨(some 4), (.bin .lss .i64 (.t 3) (.c (.int .i64 10))), none⟩]) (.cond (.t 4) (.seq (.reg [⟨(some 5), (.mv (.t 0)), none⟩, ⟨(some 6), (.mv (.t 0)), none⟩, ⟨(some 7), (.bin .add .i64 (.t 6) (.c (.int .i64 1))), none⟩, ⟨(some 8), (.sslice (.c (.str sDig36)) (some (.t 5)) (some (.t 7))), none⟩, ⟨(some 2), (.mv (.t 8)), none⟩]) .ret) .skip)) (.seq (.reg [⟨(some 9), (.mv (.t 0)), none⟩, ⟨(some 10), (.bin .mul .i64 (.t 9) (.c (.int .i64 2))), none⟩, ⟨(some 11), (.mv (.t 0)), none⟩, ⟨(some 12), (.bin .mul .i64 (.t 11) (.c (.int .i64 2))), none⟩, ⟨(some 13), (.bin .add .i64 (.t 12) (.c (.int .i64 2))), none⟩, ⟨(some 14), (.sslice (.c (.str sSmalls)) (some (.t 10)) (some (.t 13))), none⟩, ⟨(some 2), (.mv (.t 14)), none⟩]) .ret)))

set_option maxRecDepth 100000 in
theorem k_ismall : compileC Tryz.prog ann (Tryz.f201.body.getD .skip) = some c_ismall := by kernel_rfl

theorem s_ismall {args : List AV} {σ : St} {K : AV → St → Prop} (h : WF σ → T Tryz.prog ann c_ismall (Fin σ [(.t 2)] K) (args ++ List.replicate (15 - args.length) (.tup [])) σ) : ACalls Tryz.prog n_ismall args σ K :=
  calls_ok Tryz.func201 (by kernel_rfl) (by kernel_rfl) k_ismall (by kernel_rfl) (by kernel_rfl) h

abbrev n_fb10 : Nat := 203

def c_fb10 : C := (.seq (.reg [⟨(some 17), (.mv (.t 0)), none⟩, ⟨(some 18), (.len (.t 17)), none⟩, ⟨(some 4), (.mv (.t 18)), none⟩]) (.seq (.block 0 (.loop (.seq (.seq (.reg [⟨(some 19), (.mv (.t 4)), none⟩, ⟨(some 20), (.bin .geq .i64 (.t 19) (.c (.int .i64 8))), none⟩]) (.cond (.t 20) .skip (.exit 0))) (.block 1 (.seq (.reg [⟨(some 21), (.mv (.t 1)), none⟩, ⟨(some 22), (.bin .rem .u64 (.t 21) (.c (.int .u64 100000000))), none⟩, ⟨(some 23), (.conv .u32 (.t 22)), none⟩, ⟨(some 5), (.mv (.t 23)), none⟩]) (.seq (.reg [⟨(some 24), (.mv (.t 1)), none⟩, ⟨(some 25), (.bin .quo .u64 (.t 24) (.c (.int .u64 100000000))), none⟩, ⟨(some 1), (.mv (.t 25)), none⟩]) (.seq (.reg [⟨(some 26), (.mv (.t 5)), none⟩, ⟨(some 27), (.bin .quo .u32 (.t 26) (.c (.int .u32 10000))), none⟩, ⟨(some 28), (.mv (.t 5)), none⟩, ⟨(some 29), (.bin .rem .u32 (.t 28) (.c (.int .u32 10000))), none⟩, ⟨(some 6), (.mv (.t 27)), none⟩, ⟨(some 7), (.mv (.t 29)), none⟩]) (.seq (.reg [⟨(some 30), (.mv (.t 7)), none⟩, ⟨(some 31), (.bin .quo .u32 (.t 30) (.c (.int .u32 100))), none⟩, ⟨(some 32), (.bin .mul .u32 (.t 31) (.c (.int .u32 2))), none⟩, ⟨(some 33), (.mv (.t 7)), none⟩, ⟨(some 34), (.bin .rem .u32 (.t 33) (.c (.int .u32 100))), none⟩, ⟨(some 35), (.bin .mul .u32 (.t 34) (.c (.int .u32 2))), none⟩, ⟨(some 8), (.mv (.t 32)), none⟩, ⟨(some 9), (.mv (.t 35)), none⟩]) (.seq (.reg [⟨(some 36), (.mv (.t 6)), none⟩, ⟨(some 37), (.bin .quo .u32 (.t 36) (.c (.int .u32 100))), none⟩, ⟨(some 38), (.bin .mul .u32 (.t 37) (.c (.int .u32 2))), none⟩, ⟨(some 39), (.mv (.t 6)), none⟩, ⟨(some 40), (.bin .rem .u32 (.t 39) (.c (.int .u32 100))), none⟩, ⟨(some 41), (.bin .mul .u32 (.t 40) (.c (.int .u32 2))), none⟩, ⟨(some 10), (.mv (.t 38)), none⟩, ⟨(some 11), (.mv (.t 41)), none⟩]) (.seq (.reg [⟨(some 42), (.mv (.t 0)), none⟩, ⟨(some 43), (.mv (.t 4)), none⟩, ⟨(some 44), (.bin .sub .i64 (.t 43) (.c (.int .i64 1))), none⟩, ⟨(some 45), (.mv (.t 0)), none⟩, ⟨(some 46), (.mv (.t 4)), none⟩, ⟨(some 47), (.bin .sub .i64 (.t 46) (.c (.int .i64 2))), none⟩, ⟨(some 48), (.mv (.t 9)), none⟩, ⟨(some 49), (.bin .add .u32 (.t 48) (.c (.int .u32 1))), none⟩, ⟨(some 50), (.idxS (.c (.str sSmalls)) (.t 49)), none⟩, ⟨(some 51), (.mv (.t 9)), none⟩, ⟨(some 52), (.idxS (.c (.str sSmalls)) (.t 51)), none⟩, ⟨(some 53), (.iaddr 1 (.t 42) (.t 44)), none⟩, ⟨none, (.store 1 (.t 53) (.t 50)), none⟩, ⟨(some 54), (.iaddr 1 (.t 45) (.t 47)), none⟩, ⟨none, (.store 1 (.t 54) (.t 52)), none⟩]) (.seq (.reg [⟨(some 55), (.mv (.t 0)), none⟩, ⟨(some 56), (.mv (.t 4)), none⟩, ⟨(some 57), (.bin .sub .i64 (.t 56) (.c (.int .i64 3))), none⟩, ⟨(some 58), (.mv (.t 0)), none⟩, ⟨(some 59), (.mv (.t 4)), none⟩, ⟨(some 60), (.bin .sub .i64 (.t 59) (.c (.int .i64 4))), none⟩, ⟨(some 61), (.mv (.t 8)), none⟩, ⟨(some 62), (.bin .add .u32 (.t 61) (.c (.int .u32 1))), none⟩, ⟨(some 63), (.idxS (.c (.str sSmalls)) (.t 62)), none⟩, ⟨(some 64), (.mv (.t 8)), none⟩, ⟨(some 65), (.idxS (.c (.str sSmalls)) (.t 64)), none⟩, ⟨(some 66), (.iaddr 1 (.t 55) (.t 57)), none⟩, ⟨none, (.store 1 (.t 66) (.t 63)), none⟩, ⟨(some 67), (.iaddr 1 (.t 58) (.t 60)), none⟩, ⟨none, (.store 1 (.t 67) (.t 65)), none⟩]) (.seq (.reg [⟨(some 68), (.mv (.t 0)), none⟩, ⟨(some 69), (.mv (.t 4)), none⟩, ⟨(some 70), (.bin .sub .i64 (.t 69) (.c (.int .i64 5))), none⟩, ⟨(some 71), (.mv (.t 0)), none⟩, ⟨(some 72), (.mv (.t 4)), none⟩, ⟨(some 73), (.bin .sub .i64 (.t 72) (.c (.int .i64 6))), none⟩, ⟨(some 74), (.mv (.t 11)), none⟩, ⟨(some 75), (.bin .add .u32 (.t 74) (.c (.int .u32 1))), none⟩, ⟨(some 76), (.idxS (.c (.str sSmalls)) (.t 75)), none⟩, ⟨(some 77), (.mv (.t 11)), none⟩, ⟨(some 78), (.idxS (.c (.str sSmalls)) (.t 77)), none⟩, ⟨(some 79), (.iaddr 1 (.t 68) (.t 70)), none⟩, ⟨none, (.store 1 (.t 79) (.t 76)), none⟩, ⟨(some 80), (.iaddr 1 (.t 71) (.t 73)), none⟩, ⟨none, (.store 1 (.t 80) (.t 78)), none⟩]) (.seq (.reg [⟨(some 81), (.mv (.t 0)), none⟩, ⟨(some 82), (.mv (.t 4)), none⟩, ⟨(some 83), (.bin .sub .i64 (.t 82) (.c (.int .i64 7))), none⟩, ⟨(some 84), (.mv (.t 0)), none⟩, ⟨(some 85), (.mv (.t 4)), none⟩, ⟨(some 86), (.bin .sub .i64 (.t 85) (.c (.int .i64 8))), none⟩, ⟨(some 87), (.mv (.t 10)), none⟩, ⟨(some 88), (.bin .add .u32 (.t 87) (.c (.int .u32 1))), none⟩, ⟨(some 89), (.idxS (.c (.str sSmalls)) (.t 88)), none⟩, ⟨(some 90), (.mv (.t 10)), none⟩, ⟨(some 91), (.idxS (.c (.str sSmalls)) (.t 90)), none⟩, ⟨(some 92), (.iaddr 1 (.t 81) (.t 83)), none⟩, ⟨none, (.store 1 (.t 92) (.t 89)), none⟩, ⟨(some 93), (.iaddr 1 (.t 84) (.t 86)), none⟩, ⟨none, (.store 1 (.t 93) (.t 91)), none⟩]) (.reg [⟨(some 94), (.mv (.t 4)), none⟩, ⟨(some 95), (.bin .sub .i64 (.t 94) (.c (.int .i64 8))), none⟩, ⟨(some 4), (.mv (.t 95)), none⟩])))))))))))))) (.seq (.reg [⟨(some 96), (.mv (.t 1)), none⟩, ⟨(some 97), (.conv .u32 (.t 96)), none⟩, ⟨(some 12), (.mv (.t 97)), none⟩]) (.seq (.seq (.reg [⟨(some 98), (.mv (.t 4)), none⟩, ⟨(some 99), (.bin .geq .i64 (.t 98) (.c (.int .i64 4))), none⟩]) (.cond (.t 99) (.seq (.reg [⟨(some 100), (.mv (.t 12)), none⟩, ⟨(some 101), (.bin .rem .u32 (.t 100) (.c (.int .u32 10000))), none⟩, ⟨(some 13), (.mv (.t 101)), none⟩]) (.seq (.reg [⟨(some 102), (.mv (.t 12)), none⟩, ⟨(some 103), (.bin .quo .u32 (.t 102) (.c (.int .u32 10000))), none⟩, ⟨(some 12), (.mv (.t 103)), none⟩]) (.seq (.reg [⟨(some 104), (.mv (.t 13)), none⟩, ⟨(some 105), (.bin .quo .u32 (.t 104) (.c (.int .u32 100))), none⟩, ⟨(some 106), (.bin .mul .u32 (.t 105) (.c (.int .u32 2))), none⟩, ⟨(some 107), (.mv (.t 13)), none⟩, ⟨(some 108), (.bin .rem .u32 (.t 107) (.c (.int .u32 100))), none⟩, ⟨(some 109), (.bin .mul .u32 (.t 108) (.c (.int .u32 2))), none⟩, ⟨(some 14), (.mv (.t 106)), none⟩, ⟨(some 15), (.mv (.t 109)), none⟩]) (.seq (.reg [⟨(some 110), (.mv (.t 0)), none⟩, ⟨(some 111), (.mv (.t 4)), none⟩, ⟨(some 112), (.bin .sub .i64 (.t 111) (.c (.int .i64 1))), none⟩, ⟨(some 113), (.mv (.t 0)), none⟩, ⟨(some 114), (.mv (.t 4)), none⟩, ⟨(some 115), (.bin .sub .i64 (.t 114) (.c (.int .i64 2))), none⟩, ⟨(some 116), (.mv (.t 15)), none⟩, ⟨(some 117), (.bin .add .u32 (.t 116) (.c (.int .u32 1))), none⟩, ⟨(some 118), (.idxS (.c (.str sSmalls)) (.t 117)), none⟩, ⟨(some 119), (.mv (.t 15)), none⟩, ⟨(some 120), (.idxS (.c (.str sSmalls)) (.t 119)), none⟩, ⟨(some 121), (.iaddr 1 (.t 110) (.t 112)), none⟩, ⟨none, (.store 1 (.t 121) (.t 118)), none⟩, ⟨(some 122), (.iaddr 1 (.t 113) (.t 115)), none⟩, ⟨none, (.store 1 (.t 122) (.t 120)), none⟩]) (.seq (.reg [⟨(some 123), (.mv (.t 0)), none⟩, ⟨(some 124), (.mv (.t 4)), none⟩, ⟨(some 125), (.bin .sub .i64 (.t 124) (.c (.int .i64 3))), none⟩, ⟨(some 126), (.mv (.t 0)), none⟩, ⟨(some 127), (.mv (.t 4)), none⟩, ⟨(some 128), (.bin .sub .i64 (.t 127) (.c (.int .i64 4))), none⟩, ⟨(some 129), (.mv (.t 14)), none⟩, ⟨(some 130), (.bin .add .u32 (.t 129) (.c (.int .u32 1))), none⟩, ⟨(some 131), (.idxS (.c (.str sSmalls)) (.t 130)), none⟩, ⟨(some 132), (.mv (.t 14)), none⟩, ⟨(some 133), (.idxS (.c (.str sSmalls)) (.t 132)), none⟩, ⟨(some 134), (.iaddr 1 (.t 123) (.t 125)), none⟩, ⟨none, (.store 1 (.t 134) (.t 131)), none⟩, ⟨(some 135), (.iaddr 1 (.t 126) (.t 128)), none⟩, ⟨none, (.store 1 (.t 135) (.t 133)), none⟩]) (.reg [⟨(some 136), (.mv (.t 4)), none⟩, ⟨(some 137), (.bin .sub .i64 (.t 136) (.c (.int .i64 4))), none⟩, ⟨(some 4), (.mv (.t 137)), none⟩])))))) .skip)) (.seq (.seq (.reg [⟨(some 138), (.mv (.t 4)), none⟩, ⟨(some 139), (.bin .geq .i64 (.t 138) (.c (.int .i64 2))), none⟩]) (.cond (.t 139) (.seq (.reg [⟨(some 140), (.mv (.t 12)), none⟩, ⟨(some 141), (.bin .rem .u32 (.t 140) (.c (.int .u32 100))), none⟩, ⟨(some 142), (.bin .mul .u32 (.t 141) (.c (.int .u32 2))), none⟩, ⟨(some 16), (.mv (.t 142)), none⟩]) (.seq (.reg [⟨(some 143), (.mv (.t 12)), none⟩, ⟨(some 144), (.bin .quo .u32 (.t 143) (.c (.int .u32 100))), none⟩, ⟨(some 12), (.mv (.t 144)), none⟩]) (.seq (.reg [⟨(some 145), (.mv (.t 0)), none⟩, ⟨(some 146), (.mv (.t 4)), none⟩, ⟨(some 147), (.bin .sub .i64 (.t 146) (.c (.int .i64 1))), none⟩, ⟨(some 148), (.mv (.t 0)), none⟩, ⟨(some 149), (.mv (.t 4)), none⟩, ⟨(some 150), (.bin .sub .i64 (.t 149) (.c (.int .i64 2))), none⟩, ⟨(some 151), (.mv (.t 16)), none⟩, ⟨(some 152), (.bin .add .u32 (.t 151) (.c (.int .u32 1))), none⟩, ⟨(some 153), (.idxS (.c (.str sSmalls)) (.t 152)), none⟩, ⟨(some 154), (.mv (.t 16)), none⟩, ⟨(some 155), (.idxS (.c (.str sSmalls)) (.t 154)), none⟩, ⟨(some 156), (.iaddr 1 (.t 145) (.t 147)), none⟩, ⟨none, (.store 1 (.t 156) (.t 153)), none⟩, ⟨(some 157), (.iaddr 1 (.t 148) (.t 150)), none⟩, ⟨none, (.store 1 (.t 157) (.t 155)), none⟩]) (.reg [⟨(some 158), (.mv (.t 4)), none⟩, ⟨(some 159), (.bin .sub .i64 (.t 158) (.c (.int .i64 2))), none⟩, ⟨(some 4), (.mv (.t 159)), none⟩])))) .skip)) (.seq (.reg [⟨(some 160), (.mv (.t 4)), none⟩, ⟨(some 161), (.bin .gtr .i64 (.t 160) (.c (.int .i64 0))), none⟩]) (.cond (.t 161) (.reg [⟨(some 162), (.mv (.t 0)), none⟩, ⟨(some 163), (.mv (.t 12)), none⟩, ⟨(some 164), (.bin .add .u32 (.c (.int .u32 48)) (.t 163)), none⟩, ⟨(some 165), (.conv .u8 (.t 164)), none⟩, ⟨(some 166), (.iaddr 1 (.t 162) (.c (.int .i64 0))), none⟩, ⟨none, (.store 1 (.t 166) (.t 165)), none⟩]) .skip)))))))

set_option maxRecDepth 100000 in
theorem k_fb10 : compileC Tryz.prog ann (Tryz.f203.body.getD .skip) = some c_fb10 := by kernel_rfl

theorem s_fb10 {args : List AV} {σ : St} {K : AV → St → Prop} (h : WF σ → T Tryz.prog ann c_fb10 (Fin σ [] K) (args ++ List.replicate (167 - args.length) (.tup [])) σ) : ACalls Tryz.prog n_fb10 args σ K :=
  calls_ok Tryz.func203 (by kernel_rfl) (by kernel_rfl) k_fb10 (by kernel_rfl) (by kernel_rfl) h

abbrev n_numd : Nat := 202

def c_numd : C := (.seq (.reg [⟨(some 2), (.mv (.c (.int .i64 0))), none⟩]) (.seq (.reg [⟨(some 4), (.mv (.t 0)), none⟩, ⟨(some 5), (.call 218 [(.t 4)]), none⟩, ⟨(some 6), (.call 217 [(.t 5)]), none⟩, ⟨(some 3), (.mv (.t 6)), none⟩]) (.seq (.reg [⟨(some 7), (.mv (.t 3)), none⟩, ⟨(some 8), (.mv (.t 0)), none⟩, ⟨(some 9), (.mv (.t 3)), none⟩, ⟨(some 10), (.gaddr 3 20 1 (.t 9)), none⟩, ⟨(some 11), (.load none (.t 10)), none⟩, ⟨(some 12), (.bin .geq .u64 (.t 8) (.t 11)), none⟩, ⟨(some 13), (.call 219 [(.t 12)]), none⟩, ⟨(some 14), (.bin .add .i64 (.t 7) (.t 13)), none⟩, ⟨(some 2), (.mv (.t 14)), none⟩]) .ret)))

set_option maxRecDepth 100000 in
theorem k_numd : compileC Tryz.prog ann (Tryz.f202.body.getD .skip) = some c_numd := by kernel_rfl

theorem s_numd {args : List AV} {σ : St} {K : AV → St → Prop} (h : WF σ → T Tryz.prog ann c_numd (Fin σ [(.t 2)] K) (args ++ List.replicate (15 - args.length) (.tup [])) σ) : ACalls Tryz.prog n_numd args σ K :=
  calls_ok Tryz.func202 (by kernel_rfl) (by kernel_rfl) k_numd (by kernel_rfl) (by kernel_rfl) h

abbrev n_l10p2 : Nat := 217

def c_l10p2 : C := (.seq (.reg [⟨(some 2), (.mv (.c (.int .i64 0))), none⟩]) (.seq (.reg [⟨(some 3), (.mv (.t 0)), none⟩, ⟨(some 4), (.bin .mul .i64 (.t 3) (.c (.int .i64 78913))), none⟩, ⟨(some 5), (.bin .shr .i64 (.t 4) (.c (.int .u64 18))), none⟩, ⟨(some 2), (.mv (.t 5)), none⟩]) .ret))

set_option maxRecDepth 100000 in
theorem k_l10p2 : compileC Tryz.prog ann (Tryz.f217.body.getD .skip) = some c_l10p2 := by kernel_rfl

theorem s_l10p2 {args : List AV} {σ : St} {K : AV → St → Prop} (h : WF σ → T Tryz.prog ann c_l10p2 (Fin σ [(.t 2)] K) (args ++ List.replicate (6 - args.length) (.tup [])) σ) : ACalls Tryz.prog n_l10p2 args σ K :=
  calls_ok Tryz.func217 (by kernel_rfl) (by kernel_rfl) k_l10p2 (by kernel_rfl) (by kernel_rfl) h

abbrev n_len64 : Nat := 218

def c_len64 : C := (.seq (.reg [⟨(some 2), (.mv (.c (.int .i64 0))), none⟩]) (.seq (.seq (.reg [⟨(some 3), (.mv (.t 0)), none⟩, ⟨(some 4), (.bin .geq .u64 (.t 3) (.c (.int .u64 4294967296))), none⟩]) (.cond (.t 4) (.seq (.reg [⟨(some 5), (.mv (.t 0)), none⟩, ⟨(some 6), (.bin .shr .u64 (.t 5) (.c (.int .u64 32))), none⟩, ⟨(some 0), (.mv (.t 6)), none⟩]) (.reg [⟨(some 2), (.mv (.c (.int .i64 32))), none⟩])) .skip)) (.seq (.seq (.reg [⟨(some 7), (.mv (.t 0)), none⟩, ⟨(some 8), (.bin .geq .u64 (.t 7) (.c (.int .u64 65536))), none⟩]) (.cond (.t 8) (.seq (.reg [⟨(some 9), (.mv (.t 0)), none⟩, ⟨(some 10), (.bin .shr .u64 (.t 9) (.c (.int .u64 16))), none⟩, ⟨(some 0), (.mv (.t 10)), none⟩]) (.reg [⟨(some 11), (.mv (.t 2)), none⟩, ⟨(some 12), (.bin .add .i64 (.t 11) (.c (.int .i64 16))), none⟩, ⟨(some 2), (.mv (.t 12)), none⟩])) .skip)) (.seq (.seq (.reg [⟨(some 13), (.mv (.t 0)), none⟩, ⟨(some 14), (.bin .geq .u64 (.t 13) (.c (.int .u64 256))), none⟩]) (.cond (.t 14) (.seq (.reg [⟨(some 15), (.mv (.t 0)), none⟩, ⟨(some 16), (.bin .shr .u64 (.t 15) (.c (.int .u64 8))), none⟩, ⟨(some 0), (.mv (.t 16)), none⟩]) (.reg [⟨(some 17), (.mv (.t 2)), none⟩, ⟨(some 18), (.bin .add .i64 (.t 17) (.c (.int .i64 8))), none⟩, ⟨(some 2), (.mv (.t 18)), none⟩])) .skip)) (.seq (.reg [⟨(some 19), (.mv (.t 2)), none⟩, ⟨(some 20), (.mv (.t 0)), none⟩, ⟨(some 21), (.conv .u8 (.t 20)), none⟩, ⟨(some 22), (.idxS (.c (.str sLen8)) (.t 21)), none⟩, ⟨(some 23), (.conv .i64 (.t 22)), none⟩, ⟨(some 24), (.bin .add .i64 (.t 19) (.t 23)), none⟩, ⟨(some 2), (.mv (.t 24)), none⟩]) .ret)))))

set_option maxRecDepth 100000 in
theorem k_len64 : compileC Tryz.prog ann (Tryz.f218.body.getD .skip) = some c_len64 := by kernel_rfl

theorem s_len64 {args : List AV} {σ : St} {K : AV → St → Prop} (h : WF σ → T Tryz.prog ann c_len64 (Fin σ [(.t 2)] K) (args ++ List.replicate (25 - args.length) (.tup [])) σ) : ACalls Tryz.prog n_len64 args σ K :=
  calls_ok Tryz.func218 (by kernel_rfl) (by kernel_rfl) k_len64 (by kernel_rfl) (by kernel_rfl) h

abbrev n_bool2i : Nat := 219

def c_bool2i : C := (.seq (.reg [⟨(some 2), (.mv (.c (.int .i64 0))), none⟩]) (.seq (.seq (.reg [⟨(some 3), (.mv (.t 0)), none⟩]) (.cond (.t 3) (.seq (.reg [⟨(some 2), (.mv (.c (.int .i64 1))), none⟩]) .ret) .skip)) (.seq (.reg [⟨(some 2), (.mv (.c (.int .i64 0))), none⟩]) .ret)))

set_option maxRecDepth 100000 in
theorem k_bool2i : compileC Tryz.prog ann (Tryz.f219.body.getD .skip) = some c_bool2i := by kernel_rfl

theorem s_bool2i {args : List AV} {σ : St} {K : AV → St → Prop} (h : WF σ → T Tryz.prog ann c_bool2i (Fin σ [(.t 2)] K) (args ++ List.replicate (4 - args.length) (.tup [])) σ) : ACalls Tryz.prog n_bool2i args σ K :=
  calls_ok Tryz.func219 (by kernel_rfl) (by kernel_rfl) k_bool2i (by kernel_rfl) (by kernel_rfl) h

abbrev n_pow2 : Nat := 220

def c_pow2 : C := (.seq (.reg [⟨(some 2), (.mv (.c (.bool false))), none⟩]) (.seq (.reg [⟨(some 3), (.mv (.t 0)), none⟩, ⟨(some 4), (.mv (.t 0)), none⟩, ⟨(some 5), (.bin .sub .i64 (.t 4) (.c (.int .i64 1))), none⟩, ⟨(some 6), (.bin .and .i64 (.t 3) (.t 5)), none⟩, ⟨(some 7), (.bin .eql .i64 (.t 6) (.c (.int .i64 0))), none⟩, ⟨(some 2), (.mv (.t 7)), none⟩]) .ret))

set_option maxRecDepth 100000 in
theorem k_pow2 : compileC Tryz.prog ann (Tryz.f220.body.getD .skip) = some c_pow2 := by kernel_rfl

theorem s_pow2 {args : List AV} {σ : St} {K : AV → St → Prop} (h : WF σ → T Tryz.prog ann c_pow2 (Fin σ [(.t 2)] K) (args ++ List.replicate (8 - args.length) (.tup [])) σ) : ACalls Tryz.prog n_pow2 args σ K :=
  calls_ok Tryz.func220 (by kernel_rfl) (by kernel_rfl) k_pow2 (by kernel_rfl) (by kernel_rfl) h

abbrev n_tz : Nat := 221

def c_tz : C := (.seq (.reg [⟨(some 2), (.mv (.c (.int .i64 0))), none⟩]) (.seq (.cond (.c (.bool false)) (.seq (.reg [⟨(some 3), (.mv (.t 0)), none⟩, ⟨(some 4), (.conv .u32 (.t 3)), none⟩, ⟨(some 5), (.call 227 [(.t 4)]), none⟩, ⟨(some 2), (.mv (.t 5)), none⟩]) .ret) .skip) (.seq (.reg [⟨(some 6), (.mv (.t 0)), none⟩, ⟨(some 7), (.call 228 [(.t 6)]), none⟩, ⟨(some 2), (.mv (.t 7)), none⟩]) .ret)))

set_option maxRecDepth 100000 in
theorem k_tz : compileC Tryz.prog ann (Tryz.f221.body.getD .skip) = some c_tz := by kernel_rfl

theorem s_tz {args : List AV} {σ : St} {K : AV → St → Prop} (h : WF σ → T Tryz.prog ann c_tz (Fin σ [(.t 2)] K) (args ++ List.replicate (8 - args.length) (.tup [])) σ) : ACalls Tryz.prog n_tz args σ K :=
  calls_ok Tryz.func221 (by kernel_rfl) (by kernel_rfl) k_tz (by kernel_rfl) (by kernel_rfl) h

abbrev n_tz64 : Nat := 228

def c_tz64 : C := (.seq (.reg [⟨(some 2), (.mv (.c (.int .i64 0))), none⟩]) (.seq (.seq (.reg [⟨(some 3), (.mv (.t 0)), none⟩, ⟨(some 4), (.bin .eql .u64 (.t 3) (.c (.int .u64 0))), none⟩]) (.cond (.t 4) (.seq (.reg [⟨(some 2), (.mv (.c (.int .i64 64))), none⟩]) .ret) .skip)) (.seq (.reg [⟨(some 5), (.mv (.t 0)), none⟩, ⟨(some 6), (.mv (.t 0)), none⟩, ⟨(some 7), (.un .neg .u64 (.t 6)), none⟩, ⟨(some 8), (.bin .and .u64 (.t 5) (.t 7)), none⟩, ⟨(some 9), (.bin .mul .u64 (.t 8) (.c (.int .u64 285870213051353865))), none⟩, ⟨(some 10), (.bin .shr .u64 (.t 9) (.c (.int .u64 58))), none⟩, ⟨(some 11), (.gaddr 7 64 1 (.t 10)), none⟩, ⟨(some 12), (.load none (.t 11)), none⟩, ⟨(some 13), (.conv .i64 (.t 12)), none⟩, ⟨(some 2), (.mv (.t 13)), none⟩]) .ret)))

set_option maxRecDepth 100000 in
theorem k_tz64 : compileC Tryz.prog ann (Tryz.f228.body.getD .skip) = some c_tz64 := by kernel_rfl

theorem s_tz64 {args : List AV} {σ : St} {K : AV → St → Prop} (h : WF σ → T Tryz.prog ann c_tz64 (Fin σ [(.t 2)] K) (args ++ List.replicate (14 - args.length) (.tup [])) σ) : ACalls Tryz.prog n_tz64 args σ K :=
  calls_ok Tryz.func228 (by kernel_rfl) (by kernel_rfl) k_tz64 (by kernel_rfl) (by kernel_rfl) h

abbrev n_srep : Nat := 157

def c_srep : C := (.seq (.reg [⟨(some 4), (.mv (.c (.str ⟨#[]⟩))), none⟩]) (.seq (.seq (.reg [⟨(some 11), (.mv (.t 1)), none⟩]) (.block 0 (.seq (.reg [⟨(some 13), (.bin .eql .i64 (.t 11) (.c (.int .i64 0))), none⟩, ⟨(some 12), (.mv (.t 13)), none⟩]) (.cond (.t 12) (.seq (.reg [⟨(some 4), (.mv (.c (.str ⟨#[]⟩))), none⟩]) .ret) (.seq (.reg [⟨(some 15), (.bin .eql .i64 (.t 11) (.c (.int .i64 1))), none⟩, ⟨(some 14), (.mv (.t 15)), none⟩]) (.cond (.t 14) (.seq (.reg [⟨(some 16), (.mv (.t 0)), none⟩, ⟨(some 4), (.mv (.t 16)), none⟩]) .ret) .skip)))))) (.seq (.seq (.reg [⟨(some 17), (.mv (.t 1)), none⟩, ⟨(some 18), (.bin .lss .i64 (.t 17) (.c (.int .i64 0))), none⟩]) (.cond (.t 18) (.reg [⟨(some 19), (.mkI 9 (.c (.str ⟨#[115, 116, 114, 105, 110, 103, 115, 58, 32, 110, 101, 103, 97, 116, 105, 118, 101, 32, 82, 101, 112, 101, 97, 116, 32, 99, 111, 117, 110, 116]⟩))), none⟩, ⟨none, .panic, none⟩]) .skip)) (.seq (.reg [⟨(some 21), (.mv (.t 0)), none⟩, ⟨(some 22), (.slen (.t 21)), none⟩, ⟨(some 23), (.conv .u64 (.t 22)), none⟩, ⟨(some 24), (.mv (.t 1)), none⟩, ⟨(some 25), (.conv .u64 (.t 24)), none⟩, ⟨(some 26), (.call 183 [(.t 23), (.t 25)]), none⟩, ⟨(some 20), (.mv (.t 26)), none⟩, ⟨(some 27), (.ext (.t 20) 0), none⟩, ⟨(some 28), (.ext (.t 20) 1), none⟩, ⟨(some 5), (.mv (.t 27)), none⟩, ⟨(some 6), (.mv (.t 28)), none⟩]) (.seq (.seq (.reg [⟨(some 29), (.mv (.t 5)), none⟩, ⟨(some 30), (.bin .gtr .u64 (.t 29) (.c (.int .u64 0))), none⟩, ⟨(some 31), (.mv (.t 30)), none⟩, ⟨(some 32), (.mv (.t 6)), (some (31, false))⟩, ⟨(some 33), (.bin .gtr .u64 (.t 32) (.c (.int .u64 9223372036854775807))), (some (31, false))⟩, ⟨(some 34), (.pick (.t 31) (.c (.bool true)) (.t 33)), none⟩]) (.cond (.t 34) (.reg [⟨(some 35), (.mkI 9 (.c (.str ⟨#[115, 116, 114, 105, 110, 103, 115, 58, 32, 82, 101, 112, 101, 97, 116, 32, 111, 117, 116, 112, 117, 116, 32, 108, 101, 110, 103, 116, 104, 32, 111, 118, 101, 114, 102, 108, 111, 119]⟩))), none⟩, ⟨none, .panic, none⟩]) .skip)) (.seq (.reg [⟨(some 36), (.mv (.t 6)), none⟩, ⟨(some 37), (.conv .i64 (.t 36)), none⟩, ⟨(some 7), (.mv (.t 37)), none⟩]) (.seq (.seq (.reg [⟨(some 38), (.mv (.t 0)), none⟩, ⟨(some 39), (.slen (.t 38)), none⟩, ⟨(some 40), (.bin .eql .i64 (.t 39) (.c (.int .i64 0))), none⟩]) (.cond (.t 40) (.seq (.reg [⟨(some 4), (.mv (.c (.str ⟨#[]⟩))), none⟩]) .ret) .skip)) (.seq (.seq (.reg [⟨(some 41), (.mv (.t 0)), none⟩, ⟨(some 42), (.idxS (.t 41) (.c (.int .i64 0))), none⟩]) (.block 1 (.seq (.seq (.reg [⟨(some 44), (.bin .eql .u8 (.t 42) (.c (.int .u8 32))), none⟩, ⟨(some 43), (.mv (.t 44)), none⟩]) (.cond (.t 43) .skip (.seq (.reg [⟨(some 45), (.bin .eql .u8 (.t 42) (.c (.int .u8 45))), none⟩, ⟨(some 43), (.mv (.t 45)), none⟩]) (.cond (.t 43) .skip (.seq (.reg [⟨(some 46), (.bin .eql .u8 (.t 42) (.c (.int .u8 48))), none⟩, ⟨(some 43), (.mv (.t 46)), none⟩]) (.cond (.t 43) .skip (.seq (.reg [⟨(some 47), (.bin .eql .u8 (.t 42) (.c (.int .u8 61))), none⟩, ⟨(some 43), (.mv (.t 47)), none⟩]) (.cond (.t 43) .skip (.reg [⟨(some 48), (.bin .eql .u8 (.t 42) (.c (.int .u8 9))), none⟩, ⟨(some 43), (.mv (.t 48)), none⟩]))))))))) (.cond (.t 43) (.block 2 (.seq (.reg [⟨(some 50), (.mv (.t 7)), none⟩, ⟨(some 51), (.bin .leq .i64 (.t 50) (.c (.int .i64 128))), none⟩, ⟨(some 52), (.mv (.t 51)), none⟩, ⟨(some 53), (.mv (.t 0)), (some (52, true))⟩, ⟨(some 54), (.call 184 [(.c (.str sSp)), (.t 53)]), (some (52, true))⟩, ⟨(some 55), (.pick (.t 52) (.t 54) (.c (.bool false))), none⟩, ⟨(some 49), (.mv (.t 55)), none⟩]) (.cond (.t 49) (.seq (.reg [⟨(some 56), (.mv (.t 7)), none⟩, ⟨(some 57), (.sslice (.c (.str sSp)) none (some (.t 56))), none⟩, ⟨(some 4), (.mv (.t 57)), none⟩]) .ret) (.seq (.reg [⟨(some 59), (.mv (.t 7)), none⟩, ⟨(some 60), (.bin .leq .i64 (.t 59) (.c (.int .i64 128))), none⟩, ⟨(some 61), (.mv (.t 60)), none⟩, ⟨(some 62), (.mv (.t 0)), (some (61, true))⟩, ⟨(some 63), (.call 184 [(.c (.str sDa)), (.t 62)]), (some (61, true))⟩, ⟨(some 64), (.pick (.t 61) (.t 63) (.c (.bool false))), none⟩, ⟨(some 58), (.mv (.t 64)), none⟩]) (.cond (.t 58) (.seq (.reg [⟨(some 65), (.mv (.t 7)), none⟩, ⟨(some 66), (.sslice (.c (.str sDa)) none (some (.t 65))), none⟩, ⟨(some 4), (.mv (.t 66)), none⟩]) .ret) (.seq (.reg [⟨(some 68), (.mv (.t 7)), none⟩, ⟨(some 69), (.bin .leq .i64 (.t 68) (.c (.int .i64 64))), none⟩, ⟨(some 70), (.mv (.t 69)), none⟩, ⟨(some 71), (.mv (.t 0)), (some (70, true))⟩, ⟨(some 72), (.call 184 [(.c (.str sZe)), (.t 71)]), (some (70, true))⟩, ⟨(some 73), (.pick (.t 70) (.t 72) (.c (.bool false))), none⟩, ⟨(some 67), (.mv (.t 73)), none⟩]) (.cond (.t 67) (.seq (.reg [⟨(some 74), (.mv (.t 7)), none⟩, ⟨(some 75), (.sslice (.c (.str sZe)) none (some (.t 74))), none⟩, ⟨(some 4), (.mv (.t 75)), none⟩]) .ret) (.seq (.reg [⟨(some 77), (.mv (.t 7)), none⟩, ⟨(some 78), (.bin .leq .i64 (.t 77) (.c (.int .i64 128))), none⟩, ⟨(some 79), (.mv (.t 78)), none⟩, ⟨(some 80), (.mv (.t 0)), (some (79, true))⟩, ⟨(some 81), (.call 184 [(.c (.str sEq)), (.t 80)]), (some (79, true))⟩, ⟨(some 82), (.pick (.t 79) (.t 81) (.c (.bool false))), none⟩, ⟨(some 76), (.mv (.t 82)), none⟩]) (.cond (.t 76) (.seq (.reg [⟨(some 83), (.mv (.t 7)), none⟩, ⟨(some 84), (.sslice (.c (.str sEq)) none (some (.t 83))), none⟩, ⟨(some 4), (.mv (.t 84)), none⟩]) .ret) (.seq (.reg [⟨(some 86), (.mv (.t 7)), none⟩, ⟨(some 87), (.bin .leq .i64 (.t 86) (.c (.int .i64 64))), none⟩, ⟨(some 88), (.mv (.t 87)), none⟩, ⟨(some 89), (.mv (.t 0)), (some (88, true))⟩, ⟨(some 90), (.call 184 [(.c (.str sTa)), (.t 89)]), (some (88, true))⟩, ⟨(some 91), (.pick (.t 88) (.t 90) (.c (.bool false))), none⟩, ⟨(some 85), (.mv (.t 91)), none⟩]) (.cond (.t 85) (.seq (.reg [⟨(some 92), (.mv (.t 7)), none⟩, ⟨(some 93), (.sslice (.c (.str sTa)) none (some (.t 92))), none⟩, ⟨(some 4), (.mv (.t 93)), none⟩]) .ret) .skip))))))))))) .skip)))) (.seq (.reg [⟨(some 94), (.mv (.t 7)), none⟩, ⟨(some 8), (.mv (.t 94)), none⟩]) (.seq (.seq (.reg [⟨(some 95), (.mv (.t 7)), none⟩, ⟨(some 96), (.bin .gtr .i64 (.t 95) (.c (.int .i64 8192))), none⟩]) (.cond (.t 96) (.seq (.reg [⟨(some 97), (.mv (.t 0)), none⟩, ⟨(some 98), (.slen (.t 97)), none⟩, ⟨(some 99), (.bin .quo .i64 (.c (.int .i64 8192)) (.t 98)), none⟩, ⟨(some 100), (.mv (.t 0)), none⟩, ⟨(some 101), (.slen (.t 100)), none⟩, ⟨(some 102), (.bin .mul .i64 (.t 99) (.t 101)), none⟩, ⟨(some 8), (.mv (.t 102)), none⟩]) (.seq (.reg [⟨(some 103), (.mv (.t 8)), none⟩, ⟨(some 104), (.bin .eql .i64 (.t 103) (.c (.int .i64 0))), none⟩]) (.cond (.t 104) (.reg [⟨(some 105), (.mv (.t 0)), none⟩, ⟨(some 106), (.slen (.t 105)), none⟩, ⟨(some 8), (.mv (.t 106)), none⟩]) .skip))) .skip)) (.seq (.reg [⟨(some 9), (.alloc [.nilp, (.sl [] .nil)]), none⟩]) (.seq (.reg [⟨(some 107), (.mv (.t 7)), none⟩, ⟨(some 108), (.call 185 [(.t 9), (.t 107)]), none⟩]) (.seq (.reg [⟨(some 109), (.mv (.t 0)), none⟩, ⟨(some 110), (.call 186 [(.t 9), (.t 109)]), none⟩]) (.seq (.block 3 (.loop (.seq (.seq (.reg [⟨(some 111), (.call 187 [(.t 9)]), none⟩, ⟨(some 112), (.mv (.t 7)), none⟩, ⟨(some 113), (.bin .lss .i64 (.t 111) (.t 112)), none⟩]) (.cond (.t 113) .skip (.exit 3))) (.block 4 (.seq (.reg [⟨(some 114), (.mv (.t 7)), none⟩, ⟨(some 115), (.call 187 [(.t 9)]), none⟩, ⟨(some 116), (.bin .sub .i64 (.t 114) (.t 115)), none⟩, ⟨(some 117), (.call 187 [(.t 9)]), none⟩, ⟨(some 118), (.mv (.t 8)), none⟩, ⟨(some 119), (.mn [(.t 116), (.t 117), (.t 118)]), none⟩, ⟨(some 10), (.mv (.t 119)), none⟩]) (.reg [⟨(some 120), (.call 188 [(.t 9)]), none⟩, ⟨(some 121), (.mv (.t 10)), none⟩, ⟨(some 122), (.sslice (.t 120) none (some (.t 121))), none⟩, ⟨(some 123), (.call 186 [(.t 9), (.t 122)]), none⟩])))))) (.seq (.reg [⟨(some 124), (.call 188 [(.t 9)]), none⟩, ⟨(some 4), (.mv (.t 124)), none⟩]) .ret)))))))))))))))

set_option maxRecDepth 100000 in
theorem k_srep : compileC Tryz.prog ann (Tryz.f157.body.getD .skip) = some c_srep := by kernel_rfl

theorem s_srep {args : List AV} {σ : St} {K : AV → St → Prop} (h : WF σ → T Tryz.prog ann c_srep (Fin σ [(.t 4)] K) (args ++ List.replicate (125 - args.length) (.tup [])) σ) : ACalls Tryz.prog n_srep args σ K :=
  calls_ok Tryz.func157 (by kernel_rfl) (by kernel_rfl) k_srep (by kernel_rfl) (by kernel_rfl) h

abbrev n_bmul : Nat := 183

def c_bmul : C := (.seq (.reg [⟨(some 4), (.mv (.c (.int .u64 0))), none⟩, ⟨(some 5), (.mv (.c (.int .u64 0))), none⟩]) (.seq (.cond (.c (.bool false)) (.seq (.reg [⟨(some 11), (.mv (.t 0)), none⟩, ⟨(some 12), (.conv .u32 (.t 11)), none⟩, ⟨(some 13), (.mv (.t 1)), none⟩, ⟨(some 14), (.conv .u32 (.t 13)), none⟩, ⟨(some 15), (.call 205 [(.t 12), (.t 14)]), none⟩, ⟨(some 10), (.mv (.t 15)), none⟩, ⟨(some 16), (.ext (.t 10) 0), none⟩, ⟨(some 17), (.ext (.t 10) 1), none⟩, ⟨(some 6), (.mv (.t 16)), none⟩, ⟨(some 7), (.mv (.t 17)), none⟩]) (.seq (.reg [⟨(some 18), (.mv (.t 6)), none⟩, ⟨(some 19), (.conv .u64 (.t 18)), none⟩, ⟨(some 20), (.mv (.t 7)), none⟩, ⟨(some 21), (.conv .u64 (.t 20)), none⟩, ⟨(some 4), (.mv (.t 19)), none⟩, ⟨(some 5), (.mv (.t 21)), none⟩]) .ret)) .skip) (.seq (.reg [⟨(some 23), (.mv (.t 0)), none⟩, ⟨(some 24), (.mv (.t 1)), none⟩, ⟨(some 25), (.call 206 [(.t 23), (.t 24)]), none⟩, ⟨(some 22), (.mv (.t 25)), none⟩, ⟨(some 26), (.ext (.t 22) 0), none⟩, ⟨(some 27), (.ext (.t 22) 1), none⟩, ⟨(some 8), (.mv (.t 26)), none⟩, ⟨(some 9), (.mv (.t 27)), none⟩]) (.seq (.reg [⟨(some 28), (.mv (.t 8)), none⟩, ⟨(some 29), (.mv (.t 9)), none⟩, ⟨(some 4), (.mv (.t 28)), none⟩, ⟨(some 5), (.mv (.t 29)), none⟩]) .ret))))

set_option maxRecDepth 100000 in
theorem k_bmul : compileC Tryz.prog ann (Tryz.f183.body.getD .skip) = some c_bmul := by kernel_rfl

theorem s_bmul {args : List AV} {σ : St} {K : AV → St → Prop} (h : WF σ → T Tryz.prog ann c_bmul (Fin σ [(.t 4), (.t 5)] K) (args ++ List.replicate (30 - args.length) (.tup [])) σ) : ACalls Tryz.prog n_bmul args σ K :=
  calls_ok Tryz.func183 (by kernel_rfl) (by kernel_rfl) k_bmul (by kernel_rfl) (by kernel_rfl) h

abbrev n_bmul64 : Nat := 206

def c_bmul64 : C := (.seq (.reg [⟨(some 4), (.mv (.c (.int .u64 0))), none⟩, ⟨(some 5), (.mv (.c (.int .u64 0))), none⟩]) (.seq (.reg [⟨(some 14), (.mv (.t 0)), none⟩, ⟨(some 15), (.bin .and .u64 (.t 14) (.c (.int .u64 4294967295))), none⟩, ⟨(some 6), (.mv (.t 15)), none⟩]) (.seq (.reg [⟨(some 16), (.mv (.t 0)), none⟩, ⟨(some 17), (.bin .shr .u64 (.t 16) (.c (.int .u64 32))), none⟩, ⟨(some 7), (.mv (.t 17)), none⟩]) (.seq (.reg [⟨(some 18), (.mv (.t 1)), none⟩, ⟨(some 19), (.bin .and .u64 (.t 18) (.c (.int .u64 4294967295))), none⟩, ⟨(some 8), (.mv (.t 19)), none⟩]) (.seq (.reg [⟨(some 20), (.mv (.t 1)), none⟩, ⟨(some 21), (.bin .shr .u64 (.t 20) (.c (.int .u64 32))), none⟩, ⟨(some 9), (.mv (.t 21)), none⟩]) (.seq (.reg [⟨(some 22), (.mv (.t 6)), none⟩, ⟨(some 23), (.mv (.t 8)), none⟩, ⟨(some 24), (.bin .mul .u64 (.t 22) (.t 23)), none⟩, ⟨(some 10), (.mv (.t 24)), none⟩]) (.seq (.reg [⟨(some 25), (.mv (.t 7)), none⟩, ⟨(some 26), (.mv (.t 8)), none⟩, ⟨(some 27), (.bin .mul .u64 (.t 25) (.t 26)), none⟩, ⟨(some 28), (.mv (.t 10)), none⟩, ⟨(some 29), (.bin .shr .u64 (.t 28) (.c (.int .u64 32))), none⟩, ⟨(some 30), (.bin .add .u64 (.t 27) (.t 29)), none⟩, ⟨(some 11), (.mv (.t 30)), none⟩]) (.seq (.reg [⟨(some 31), (.mv (.t 11)), none⟩, ⟨(some 32), (.bin .and .u64 (.t 31) (.c (.int .u64 4294967295))), none⟩, ⟨(some 12), (.mv (.t 32)), none⟩]) (.seq (.reg [⟨(some 33), (.mv (.t 11)), none⟩, ⟨(some 34), (.bin .shr .u64 (.t 33) (.c (.int .u64 32))), none⟩, ⟨(some 13), (.mv (.t 34)), none⟩]) (.seq (.reg [⟨(some 35), (.mv (.t 12)), none⟩, ⟨(some 36), (.mv (.t 6)), none⟩, ⟨(some 37), (.mv (.t 9)), none⟩, ⟨(some 38), (.bin .mul .u64 (.t 36) (.t 37)), none⟩, ⟨(some 39), (.bin .add .u64 (.t 35) (.t 38)), none⟩, ⟨(some 12), (.mv (.t 39)), none⟩]) (.seq (.reg [⟨(some 40), (.mv (.t 7)), none⟩, ⟨(some 41), (.mv (.t 9)), none⟩, ⟨(some 42), (.bin .mul .u64 (.t 40) (.t 41)), none⟩, ⟨(some 43), (.mv (.t 13)), none⟩, ⟨(some 44), (.bin .add .u64 (.t 42) (.t 43)), none⟩, ⟨(some 45), (.mv (.t 12)), none⟩, ⟨(some 46), (.bin .shr .u64 (.t 45) (.c (.int .u64 32))), none⟩, ⟨(some 47), (.bin .add .u64 (.t 44) (.t 46)), none⟩, ⟨(some 4), (.mv (.t 47)), none⟩]) (.seq (.reg [⟨(some 48), (.mv (.t 0)), none⟩, ⟨(some 49), (.mv (.t 1)), none⟩, ⟨(some 50), (.bin .mul .u64 (.t 48) (.t 49)), none⟩, ⟨(some 5), (.mv (.t 50)), none⟩]) .ret))))))))))))

set_option maxRecDepth 100000 in
theorem k_bmul64 : compileC Tryz.prog ann (Tryz.f206.body.getD .skip) = some c_bmul64 := by kernel_rfl

theorem s_bmul64 {args : List AV} {σ : St} {K : AV → St → Prop} (h : WF σ → T Tryz.prog ann c_bmul64 (Fin σ [(.t 4), (.t 5)] K) (args ++ List.replicate (51 - args.length) (.tup [])) σ) : ACalls Tryz.prog n_bmul64 args σ K :=
  calls_ok Tryz.func206 (by kernel_rfl) (by kernel_rfl) k_bmul64 (by kernel_rfl) (by kernel_rfl) h

abbrev n_hasPre : Nat := 184

def c_hasPre : C := (.seq (.reg [⟨(some 4), (.mv (.c (.bool false))), none⟩]) (.seq (.reg [⟨(some 5), (.mv (.t 0)), none⟩, ⟨(some 6), (.mv (.t 1)), none⟩, ⟨(some 7), (.call 207 [(.t 5), (.t 6)]), none⟩, ⟨(some 4), (.mv (.t 7)), none⟩]) .ret))

set_option maxRecDepth 100000 in
theorem k_hasPre : compileC Tryz.prog ann (Tryz.f184.body.getD .skip) = some c_hasPre := by kernel_rfl

theorem s_hasPre {args : List AV} {σ : St} {K : AV → St → Prop} (h : WF σ → T Tryz.prog ann c_hasPre (Fin σ [(.t 4)] K) (args ++ List.replicate (8 - args.length) (.tup [])) σ) : ACalls Tryz.prog n_hasPre args σ K :=
  calls_ok Tryz.func184 (by kernel_rfl) (by kernel_rfl) k_hasPre (by kernel_rfl) (by kernel_rfl) h

abbrev n_scont : Nat := 120

def c_scont : C := (.seq (.reg [⟨(some 4), (.mv (.c (.bool false))), none⟩]) (.seq (.reg [⟨(some 5), (.mv (.t 0)), none⟩, ⟨(some 6), (.mv (.t 1)), none⟩, ⟨(some 7), (.call 158 [(.t 5), (.t 6)]), none⟩, ⟨(some 8), (.bin .geq .i64 (.t 7) (.c (.int .i64 0))), none⟩, ⟨(some 4), (.mv (.t 8)), none⟩]) .ret))

set_option maxRecDepth 100000 in
theorem k_scont : compileC Tryz.prog ann (Tryz.f120.body.getD .skip) = some c_scont := by kernel_rfl

theorem s_scont {args : List AV} {σ : St} {K : AV → St → Prop} (h : WF σ → T Tryz.prog ann c_scont (Fin σ [(.t 4)] K) (args ++ List.replicate (9 - args.length) (.tup [])) σ) : ACalls Tryz.prog n_scont args σ K :=
  calls_ok Tryz.func120 (by kernel_rfl) (by kernel_rfl) k_scont (by kernel_rfl) (by kernel_rfl) h

abbrev n_sindex : Nat := 158

def c_sindex : C := (.seq (.reg [⟨(some 4), (.mv (.c (.int .i64 0))), none⟩]) (.seq (.reg [⟨(some 5), (.mv (.t 0)), none⟩, ⟨(some 6), (.mv (.t 1)), none⟩, ⟨(some 7), (.call 189 [(.t 5), (.t 6)]), none⟩, ⟨(some 4), (.mv (.t 7)), none⟩]) .ret))

set_option maxRecDepth 100000 in
theorem k_sindex : compileC Tryz.prog ann (Tryz.f158.body.getD .skip) = some c_sindex := by kernel_rfl

theorem s_sindex {args : List AV} {σ : St} {K : AV → St → Prop} (h : WF σ → T Tryz.prog ann c_sindex (Fin σ [(.t 4)] K) (args ++ List.replicate (8 - args.length) (.tup [])) σ) : ACalls Tryz.prog n_sindex args σ K :=
  calls_ok Tryz.func158 (by kernel_rfl) (by kernel_rfl) k_sindex (by kernel_rfl) (by kernel_rfl) h

abbrev n_mMay : Nat := 70

def c_mMay : C := (.seq (.reg [⟨(some 1), (.box (.t 0)), none⟩, ⟨(some 2), (.mv (.c (.bool false))), none⟩]) (.seq (.reg [⟨(some 3), (.faddr 0 (.t 1)), none⟩, ⟨(some 4), (.load none (.t 3)), none⟩, ⟨(some 5), (.bin .geq .u64 (.t 4) (.c (.int .u64 1))), none⟩, ⟨(some 6), (.mv (.t 5)), none⟩, ⟨(some 7), (.faddr 1 (.t 1)), (some (6, true))⟩, ⟨(some 8), (.load none (.t 7)), (some (6, true))⟩, ⟨(some 9), (.bin .geq .i64 (.t 8) (.c (.int .i64 0))), (some (6, true))⟩, ⟨(some 10), (.pick (.t 6) (.t 9) (.c (.bool false))), none⟩, ⟨(some 11), (.mv (.t 10)), none⟩, ⟨(some 12), (.faddr 1 (.t 1)), (some (11, true))⟩, ⟨(some 13), (.load none (.t 12)), (some (11, true))⟩, ⟨(some 14), (.bin .leq .i64 (.t 13) (.c (.int .i64 10))), (some (11, true))⟩, ⟨(some 15), (.pick (.t 11) (.t 14) (.c (.bool false))), none⟩, ⟨(some 16), (.mv (.t 15)), none⟩, ⟨(some 17), (.faddr 2 (.t 1)), (some (16, true))⟩, ⟨(some 18), (.load none (.t 17)), (some (16, true))⟩, ⟨(some 19), (.bin .geq .i64 (.t 18) (.c (.int .i64 0))), (some (16, true))⟩, ⟨(some 20), (.pick (.t 16) (.t 19) (.c (.bool false))), none⟩, ⟨(some 21), (.mv (.t 20)), none⟩, ⟨(some 22), (.faddr 2 (.t 1)), (some (21, true))⟩, ⟨(some 23), (.load none (.t 22)), (some (21, true))⟩, ⟨(some 24), (.faddr 3 (.t 1)), (some (21, true))⟩, ⟨(some 25), (.load none (.t 24)), (some (21, true))⟩, ⟨(some 26), (.bin .leq .i64 (.t 23) (.t 25)), (some (21, true))⟩, ⟨(some 27), (.pick (.t 21) (.t 26) (.c (.bool false))), none⟩, ⟨(some 28), (.mv (.t 27)), none⟩, ⟨(some 29), (.faddr 3 (.t 1)), (some (28, true))⟩, ⟨(some 30), (.load none (.t 29)), (some (28, true))⟩, ⟨(some 31), (.bin .leq .i64 (.t 30) (.c (.int .i64 1099511627776))), (some (28, true))⟩, ⟨(some 32), (.pick (.t 28) (.t 31) (.c (.bool false))), none⟩, ⟨(some 33), (.mv (.t 32)), none⟩, ⟨(some 34), (.faddr 4 (.t 1)), (some (33, true))⟩, ⟨(some 35), (.load none (.t 34)), (some (33, true))⟩, ⟨(some 36), (.bin .geq .i64 (.t 35) (.c (.int .i64 1))), (some (33, true))⟩, ⟨(some 37), (.pick (.t 33) (.t 36) (.c (.bool false))), none⟩, ⟨(some 38), (.mv (.t 37)), none⟩, ⟨(some 39), (.faddr 4 (.t 1)), (some (38, true))⟩, ⟨(some 40), (.load none (.t 39)), (some (38, true))⟩, ⟨(some 41), (.bin .leq .i64 (.t 40) (.c (.int .i64 200))), (some (38, true))⟩, ⟨(some 42), (.pick (.t 38) (.t 41) (.c (.bool false))), none⟩, ⟨(some 43), (.mv (.t 42)), none⟩, ⟨(some 44), (.faddr 5 (.t 1)), (some (43, true))⟩, ⟨(some 45), (.load none (.t 44)), (some (43, true))⟩, ⟨(some 46), (.faddr 4 (.t 1)), (some (43, true))⟩, ⟨(some 47), (.load none (.t 46)), (some (43, true))⟩, ⟨(some 48), (.bin .geq .i64 (.t 45) (.t 47)), (some (43, true))⟩, ⟨(some 49), (.pick (.t 43) (.t 48) (.c (.bool false))), none⟩, ⟨(some 50), (.mv (.t 49)), none⟩, ⟨(some 51), (.faddr 5 (.t 1)), (some (50, true))⟩, ⟨(some 52), (.load none (.t 51)), (some (50, true))⟩, ⟨(some 53), (.faddr 4 (.t 1)), (some (50, true))⟩, ⟨(some 54), (.load none (.t 53)), (some (50, true))⟩, ⟨(some 55), (.bin .mul .i64 (.t 54) (.c (.int .i64 64))), (some (50, true))⟩, ⟨(some 56), (.bin .leq .i64 (.t 52) (.t 55)), (some (50, true))⟩, ⟨(some 57), (.pick (.t 50) (.t 56) (.c (.bool false))), none⟩, ⟨(some 2), (.mv (.t 57)), none⟩]) .ret))

set_option maxRecDepth 100000 in
theorem k_mMay : compileC Tryz.prog ann (Tryz.f70.body.getD .skip) = some c_mMay := by kernel_rfl

theorem s_mMay {args : List AV} {σ : St} {K : AV → St → Prop} (h : WF σ → T Tryz.prog ann c_mMay (Fin σ [(.t 2)] K) (args ++ List.replicate (58 - args.length) (.tup [])) σ) : ACalls Tryz.prog n_mMay args σ K :=
  calls_ok Tryz.func70 (by kernel_rfl) (by kernel_rfl) k_mMay (by kernel_rfl) (by kernel_rfl) h

abbrev n_mFair : Nat := 72

def c_mFair : C := (.seq (.reg [⟨(some 1), (.box (.t 0)), none⟩, ⟨(some 2), (.mv (.c (.bool false))), none⟩]) (.seq (.reg [⟨(some 3), (.faddr 0 (.t 1)), none⟩, ⟨(some 4), (.load none (.t 3)), none⟩, ⟨(some 5), (.bin .geq .u64 (.t 4) (.c (.int .u64 1))), none⟩, ⟨(some 6), (.mv (.t 5)), none⟩, ⟨(some 7), (.faddr 1 (.t 1)), (some (6, true))⟩, ⟨(some 8), (.load none (.t 7)), (some (6, true))⟩, ⟨(some 9), (.bin .geq .i64 (.t 8) (.c (.int .i64 0))), (some (6, true))⟩, ⟨(some 10), (.pick (.t 6) (.t 9) (.c (.bool false))), none⟩, ⟨(some 11), (.mv (.t 10)), none⟩, ⟨(some 12), (.faddr 1 (.t 1)), (some (11, true))⟩, ⟨(some 13), (.load none (.t 12)), (some (11, true))⟩, ⟨(some 14), (.bin .leq .i64 (.t 13) (.c (.int .i64 1099511627776))), (some (11, true))⟩, ⟨(some 15), (.pick (.t 11) (.t 14) (.c (.bool false))), none⟩, ⟨(some 16), (.mv (.t 15)), none⟩, ⟨(some 17), (.faddr 2 (.t 1)), (some (16, true))⟩, ⟨(some 18), (.load none (.t 17)), (some (16, true))⟩, ⟨(some 19), (.faddr 0 (.t 1)), (some (16, true))⟩, ⟨(some 20), (.load none (.t 19)), (some (16, true))⟩, ⟨(some 21), (.bin .neq .u64 (.t 18) (.t 20)), (some (16, true))⟩, ⟨(some 22), (.pick (.t 16) (.t 21) (.c (.bool false))), none⟩, ⟨(some 2), (.mv (.t 22)), none⟩]) .ret))

set_option maxRecDepth 100000 in
theorem k_mFair : compileC Tryz.prog ann (Tryz.f72.body.getD .skip) = some c_mFair := by kernel_rfl

theorem s_mFair {args : List AV} {σ : St} {K : AV → St → Prop} (h : WF σ → T Tryz.prog ann c_mFair (Fin σ [(.t 2)] K) (args ++ List.replicate (23 - args.length) (.tup [])) σ) : ACalls Tryz.prog n_mFair args σ K :=
  calls_ok Tryz.func72 (by kernel_rfl) (by kernel_rfl) k_mFair (by kernel_rfl) (by kernel_rfl) h

abbrev n_mPut : Nat := 65

def c_mPut : C := (.seq (.reg [⟨(some 1), (.box (.t 0)), none⟩, ⟨(some 2), (.mv (.c (.sl [] .nil))), none⟩, ⟨(some 3), (.mv (.c .nili)), none⟩]) (.seq (.seq (.reg [⟨(some 4), (.load (some 6) (.t 1)), none⟩, ⟨(some 5), (.call 70 [(.t 4)]), none⟩, ⟨(some 6), (.not (.t 5)), none⟩]) (.cond (.t 6) (.seq (.reg [⟨(some 7), (.mkI 57 (.c (.int .i64 1))), none⟩, ⟨(some 2), (.mv (.c (.sl [] .nil))), none⟩, ⟨(some 3), (.mv (.t 7)), none⟩]) .ret) .skip)) (.seq (.reg [⟨(some 8), (.faddr 0 (.t 1)), none⟩, ⟨(some 9), (.load none (.t 8)), none⟩, ⟨(some 10), (.build [(.int .i64 0), (.int .u64 0)] [(0, (1, (.c (.int .i64 8)))), (1, (1, (.t 9)))]), none⟩, ⟨(some 11), (.faddr 2 (.t 1)), none⟩, ⟨(some 12), (.load none (.t 11)), none⟩, ⟨(some 13), (.conv .u64 (.t 12)), none⟩, ⟨(some 14), (.build [(.int .i64 0), (.int .u64 0)] [(0, (1, (.c (.int .i64 8)))), (1, (1, (.t 13)))]), none⟩, ⟨(some 15), (.faddr 3 (.t 1)), none⟩, ⟨(some 16), (.load none (.t 15)), none⟩, ⟨(some 17), (.conv .u64 (.t 16)), none⟩, ⟨(some 18), (.build [(.int .i64 0), (.int .u64 0)] [(0, (1, (.c (.int .i64 8)))), (1, (1, (.t 17)))]), none⟩, ⟨(some 19), (.faddr 1 (.t 1)), none⟩, ⟨(some 20), (.load none (.t 19)), none⟩, ⟨(some 21), (.conv .u64 (.t 20)), none⟩, ⟨(some 22), (.build [(.int .i64 0), (.int .u64 0)] [(0, (1, (.c (.int .i64 1)))), (1, (1, (.t 21)))]), none⟩, ⟨(some 23), (.faddr 4 (.t 1)), none⟩, ⟨(some 24), (.load none (.t 23)), none⟩, ⟨(some 25), (.conv .u64 (.t 24)), none⟩, ⟨(some 26), (.build [(.int .i64 0), (.int .u64 0)] [(0, (1, (.c (.int .i64 2)))), (1, (1, (.t 25)))]), none⟩, ⟨(some 27), (.faddr 5 (.t 1)), none⟩, ⟨(some 28), (.load none (.t 27)), none⟩, ⟨(some 29), (.conv .u64 (.t 28)), none⟩, ⟨(some 30), (.build [(.int .i64 0), (.int .u64 0)] [(0, (1, (.c (.int .i64 4)))), (1, (1, (.t 29)))]), none⟩, ⟨(some 31), (.bslice 2 .val [(.t 10), (.t 14), (.t 18), (.t 22), (.t 26), (.t 30)]), none⟩, ⟨(some 32), (.call 118 [(.t 31)]), none⟩, ⟨(some 33), (.ext (.t 32) 0), none⟩, ⟨(some 34), (.ext (.t 32) 1), none⟩, ⟨(some 2), (.mv (.t 33)), none⟩, ⟨(some 3), (.mv (.t 34)), none⟩]) .ret)))

set_option maxRecDepth 100000 in
theorem k_mPut : compileC Tryz.prog ann (Tryz.f65.body.getD .skip) = some c_mPut := by kernel_rfl

theorem s_mPut {args : List AV} {σ : St} {K : AV → St → Prop} (h : WF σ → T Tryz.prog ann c_mPut (Fin σ [(.t 2), (.t 3)] K) (args ++ List.replicate (35 - args.length) (.tup [])) σ) : ACalls Tryz.prog n_mPut args σ K :=
  calls_ok Tryz.func65 (by kernel_rfl) (by kernel_rfl) k_mPut (by kernel_rfl) (by kernel_rfl) h

abbrev n_rMarker : Nat := 28

def c_rMarker : C := (.seq (.reg [⟨(some 2), (.alloc [(.int .u64 0), (.int .i64 0), (.int .u64 0)]), none⟩, ⟨(some 3), (.mv (.c (.int .i64 0))), none⟩]) (.seq (.reg [⟨(some 9), (.mv (.t 0)), none⟩, ⟨(some 10), (.call 73 [(.t 9)]), none⟩, ⟨(some 8), (.mv (.t 10)), none⟩, ⟨(some 11), (.ext (.t 8) 0), none⟩, ⟨(some 12), (.ext (.t 8) 1), none⟩, ⟨(some 4), (.mv (.t 11)), none⟩, ⟨(some 5), (.mv (.t 12)), none⟩]) (.seq (.seq (.reg [⟨(some 13), (.mv (.t 5)), none⟩, ⟨(some 14), (.bin .neq .i64 (.t 13) (.c (.int .i64 0))), none⟩]) (.cond (.t 14) (.seq (.reg [⟨(some 15), (.build [(.int .u64 0), (.int .i64 0), (.int .u64 0)] []), none⟩, ⟨(some 16), (.mv (.t 5)), none⟩, ⟨none, (.store 3 (.t 2) (.t 15)), none⟩, ⟨(some 3), (.mv (.t 16)), none⟩]) .ret) .skip)) (.seq (.reg [⟨(some 18), (.mv (.t 4)), none⟩, ⟨(some 19), (.call 75 [(.t 18)]), none⟩, ⟨(some 17), (.mv (.t 19)), none⟩, ⟨(some 20), (.ext (.t 17) 0), none⟩, ⟨(some 21), (.ext (.t 17) 1), none⟩, ⟨(some 6), (.alloc [(.int .u64 0), (.int .i64 0), (.int .u64 0)]), none⟩, ⟨none, (.store 3 (.t 6) (.t 20)), none⟩, ⟨(some 7), (.mv (.t 21)), none⟩]) (.seq (.seq (.reg [⟨(some 22), (.mv (.t 7)), none⟩, ⟨(some 23), (.not (.t 22)), none⟩]) (.cond (.t 23) (.seq (.reg [⟨(some 24), (.build [(.int .u64 0), (.int .i64 0), (.int .u64 0)] []), none⟩, ⟨none, (.store 3 (.t 2) (.t 24)), none⟩, ⟨(some 3), (.mv (.c (.int .i64 2))), none⟩]) .ret) .skip)) (.seq (.reg [⟨(some 25), (.load (some 3) (.t 6)), none⟩, ⟨none, (.store 3 (.t 2) (.t 25)), none⟩, ⟨(some 3), (.mv (.c (.int .i64 0))), none⟩]) .ret))))))

set_option maxRecDepth 100000 in
theorem k_rMarker : compileC Tryz.prog ann (Tryz.f28.body.getD .skip) = some c_rMarker := by kernel_rfl

theorem s_rMarker {args : List AV} {σ : St} {K : AV → St → Prop} (h : WF σ → T Tryz.prog ann c_rMarker (Fin σ [(.cell 2 (some 3)), (.t 3)] K) (args ++ List.replicate (26 - args.length) (.tup [])) σ) : ACalls Tryz.prog n_rMarker args σ K :=
  calls_ok Tryz.func28 (by kernel_rfl) (by kernel_rfl) k_rMarker (by kernel_rfl) (by kernel_rfl) h

abbrev n_rStood : Nat := 75

def c_rStood : C := (.seq (.reg [⟨(some 2), (.alloc [(.int .u64 0), (.int .i64 0), (.int .u64 0)]), none⟩, ⟨(some 3), (.mv (.c (.bool false))), none⟩]) (.seq (.seq (.reg [⟨(some 10), (.mv (.t 0)), none⟩, ⟨(some 11), (.len (.t 10)), none⟩, ⟨(some 12), (.bin .neq .i64 (.t 11) (.c (.int .i64 24))), none⟩]) (.cond (.t 12) (.seq (.reg [⟨(some 13), (.build [(.int .u64 0), (.int .i64 0), (.int .u64 0)] []), none⟩, ⟨none, (.store 3 (.t 2) (.t 13)), none⟩, ⟨(some 3), (.mv (.c (.bool false))), none⟩]) .ret) .skip)) (.seq (.reg [⟨(some 14), (.mv (.t 0)), none⟩, ⟨(some 15), (.build [(.sl [] .nil), (.int .i64 0), (.int .i64 0)] [(0, (1, (.t 14))), (2, (1, (.c (.int .i64 (-1)))))]), none⟩, ⟨(some 16), (.box (.t 15)), none⟩, ⟨(some 4), (.mv (.t 16)), none⟩]) (.seq (.reg [⟨(some 17), (.mv (.t 4)), none⟩, ⟨(some 18), (.call 128 [(.t 17), (.c (.int .i64 8))]), none⟩, ⟨(some 5), (.mv (.t 18)), none⟩]) (.seq (.reg [⟨(some 19), (.mv (.t 4)), none⟩, ⟨(some 20), (.call 128 [(.t 19), (.c (.int .i64 8))]), none⟩, ⟨(some 6), (.mv (.t 20)), none⟩]) (.seq (.reg [⟨(some 21), (.mv (.t 4)), none⟩, ⟨(some 22), (.call 128 [(.t 21), (.c (.int .i64 8))]), none⟩, ⟨(some 7), (.mv (.t 22)), none⟩]) (.seq (.reg [⟨(some 23), (.mv (.t 5)), none⟩, ⟨(some 24), (.mv (.t 6)), none⟩, ⟨(some 25), (.conv .i64 (.t 24)), none⟩, ⟨(some 26), (.mv (.t 7)), none⟩, ⟨(some 27), (.build [(.int .u64 0), (.int .i64 0), (.int .u64 0)] [(0, (1, (.t 23))), (1, (1, (.t 25))), (2, (1, (.t 26)))]), none⟩, ⟨(some 8), (.alloc [(.int .u64 0), (.int .i64 0), (.int .u64 0)]), none⟩, ⟨none, (.store 3 (.t 8) (.t 27)), none⟩]) (.seq (.reg [⟨(some 28), (.load (some 3) (.t 8)), none⟩, ⟨(some 29), (.call 130 [(.t 28)]), none⟩, ⟨(some 9), (.mv (.t 29)), none⟩]) (.seq (.reg [⟨(some 30), (.load (some 3) (.t 8)), none⟩, ⟨(some 31), (.mv (.t 9)), none⟩, ⟨none, (.store 3 (.t 2) (.t 30)), none⟩, ⟨(some 3), (.mv (.t 31)), none⟩]) .ret)))))))))

set_option maxRecDepth 100000 in
theorem k_rStood : compileC Tryz.prog ann (Tryz.f75.body.getD .skip) = some c_rStood := by kernel_rfl

theorem s_rStood {args : List AV} {σ : St} {K : AV → St → Prop} (h : WF σ → T Tryz.prog ann c_rStood (Fin σ [(.cell 2 (some 3)), (.t 3)] K) (args ++ List.replicate (32 - args.length) (.tup [])) σ) : ACalls Tryz.prog n_rStood args σ K :=
  calls_ok Tryz.func75 (by kernel_rfl) (by kernel_rfl) k_rStood (by kernel_rfl) (by kernel_rfl) h

abbrev n_rFair : Nat := 130

def c_rFair : C := (.seq (.reg [⟨(some 1), (.box (.t 0)), none⟩, ⟨(some 2), (.mv (.c (.bool false))), none⟩]) (.seq (.reg [⟨(some 3), (.faddr 0 (.t 1)), none⟩, ⟨(some 4), (.load none (.t 3)), none⟩, ⟨(some 5), (.bin .gtr .u64 (.t 4) (.c (.int .u64 0))), none⟩, ⟨(some 6), (.mv (.t 5)), none⟩, ⟨(some 7), (.faddr 1 (.t 1)), (some (6, true))⟩, ⟨(some 8), (.load none (.t 7)), (some (6, true))⟩, ⟨(some 9), (.bin .geq .i64 (.t 8) (.c (.int .i64 0))), (some (6, true))⟩, ⟨(some 10), (.pick (.t 6) (.t 9) (.c (.bool false))), none⟩, ⟨(some 11), (.mv (.t 10)), none⟩, ⟨(some 12), (.faddr 1 (.t 1)), (some (11, true))⟩, ⟨(some 13), (.load none (.t 12)), (some (11, true))⟩, ⟨(some 14), (.bin .leq .i64 (.t 13) (.c (.int .i64 1099511627776))), (some (11, true))⟩, ⟨(some 15), (.pick (.t 11) (.t 14) (.c (.bool false))), none⟩, ⟨(some 16), (.mv (.t 15)), none⟩, ⟨(some 17), (.faddr 2 (.t 1)), (some (16, true))⟩, ⟨(some 18), (.load none (.t 17)), (some (16, true))⟩, ⟨(some 19), (.faddr 0 (.t 1)), (some (16, true))⟩, ⟨(some 20), (.load none (.t 19)), (some (16, true))⟩, ⟨(some 21), (.bin .neq .u64 (.t 18) (.t 20)), (some (16, true))⟩, ⟨(some 22), (.pick (.t 16) (.t 21) (.c (.bool false))), none⟩, ⟨(some 2), (.mv (.t 22)), none⟩]) .ret))

set_option maxRecDepth 100000 in
theorem k_rFair : compileC Tryz.prog ann (Tryz.f130.body.getD .skip) = some c_rFair := by kernel_rfl

theorem s_rFair {args : List AV} {σ : St} {K : AV → St → Prop} (h : WF σ → T Tryz.prog ann c_rFair (Fin σ [(.t 2)] K) (args ++ List.replicate (23 - args.length) (.tup [])) σ) : ACalls Tryz.prog n_rFair args σ K :=
  calls_ok Tryz.func130 (by kernel_rfl) (by kernel_rfl) k_rFair (by kernel_rfl) (by kernel_rfl) h

abbrev n_slHasPre : Nat := 207

def c_slHasPre : C := (.seq (.reg [⟨(some 4), (.mv (.c (.bool false))), none⟩]) (.seq (.reg [⟨(some 5), (.mv (.t 0)), none⟩, ⟨(some 6), (.slen (.t 5)), none⟩, ⟨(some 7), (.mv (.t 1)), none⟩, ⟨(some 8), (.slen (.t 7)), none⟩, ⟨(some 9), (.bin .geq .i64 (.t 6) (.t 8)), none⟩, ⟨(some 10), (.mv (.t 9)), none⟩, ⟨(some 11), (.mv (.t 0)), (some (10, true))⟩, ⟨(some 12), (.mv (.t 1)), (some (10, true))⟩, ⟨(some 13), (.slen (.t 12)), (some (10, true))⟩, ⟨(some 14), (.sslice (.t 11) none (some (.t 13))), (some (10, true))⟩, ⟨(some 15), (.mv (.t 1)), (some (10, true))⟩, ⟨(some 16), (.sbin .eql (.t 14) (.t 15)), (some (10, true))⟩, ⟨(some 17), (.pick (.t 10) (.t 16) (.c (.bool false))), none⟩, ⟨(some 4), (.mv (.t 17)), none⟩]) .ret))

set_option maxRecDepth 100000 in
theorem k_slHasPre : compileC Tryz.prog ann (Tryz.f207.body.getD .skip) = some c_slHasPre := by kernel_rfl

theorem s_slHasPre {args : List AV} {σ : St} {K : AV → St → Prop} (h : WF σ → T Tryz.prog ann c_slHasPre (Fin σ [(.t 4)] K) (args ++ List.replicate (18 - args.length) (.tup [])) σ) : ACalls Tryz.prog n_slHasPre args σ K :=
  calls_ok Tryz.func207 (by kernel_rfl) (by kernel_rfl) k_slHasPre (by kernel_rfl) (by kernel_rfl) h

abbrev n_slIndex : Nat := 189

def c_slIndex : C := (.seq (.reg [⟨(some 4), (.mv (.c (.int .i64 0))), none⟩]) (.seq (.reg [⟨(some 14), (.mv (.t 1)), none⟩, ⟨(some 15), (.slen (.t 14)), none⟩, ⟨(some 5), (.mv (.t 15)), none⟩]) (.seq (.block 0 (.seq (.reg [⟨(some 17), (.mv (.t 5)), none⟩, ⟨(some 18), (.bin .eql .i64 (.t 17) (.c (.int .i64 0))), none⟩, ⟨(some 19), (.mv (.t 18)), none⟩, ⟨(some 20), (.mv (.t 1)), (some (19, false))⟩, ⟨(some 21), (.mv (.t 0)), (some (19, false))⟩, ⟨(some 22), (.sbin .eql (.t 20) (.t 21)), (some (19, false))⟩, ⟨(some 23), (.pick (.t 19) (.c (.bool true)) (.t 22)), none⟩, ⟨(some 16), (.mv (.t 23)), none⟩]) (.cond (.t 16) (.seq (.reg [⟨(some 4), (.mv (.c (.int .i64 0))), none⟩]) .ret) (.seq (.reg [⟨(some 25), (.mv (.t 5)), none⟩, ⟨(some 26), (.bin .eql .i64 (.t 25) (.c (.int .i64 1))), none⟩, ⟨(some 24), (.mv (.t 26)), none⟩]) (.cond (.t 24) (.seq (.reg [⟨(some 27), (.mv (.t 0)), none⟩, ⟨(some 28), (.mv (.t 1)), none⟩, ⟨(some 29), (.idxS (.t 28) (.c (.int .i64 0))), none⟩, ⟨(some 30), (.call 210 [(.t 27), (.t 29)]), none⟩, ⟨(some 4), (.mv (.t 30)), none⟩]) .ret) (.seq (.reg [⟨(some 32), (.mv (.t 5)), none⟩, ⟨(some 33), (.mv (.t 0)), none⟩, ⟨(some 34), (.slen (.t 33)), none⟩, ⟨(some 35), (.bin .geq .i64 (.t 32) (.t 34)), none⟩, ⟨(some 31), (.mv (.t 35)), none⟩]) (.cond (.t 31) (.seq (.reg [⟨(some 4), (.mv (.c (.int .i64 (-1)))), none⟩]) .ret) (.seq (.reg [⟨(some 37), (.mv (.t 5)), none⟩, ⟨(some 38), (.gload 2 none), none⟩, ⟨(some 39), (.bin .leq .i64 (.t 37) (.t 38)), none⟩, ⟨(some 40), (.mv (.t 39)), none⟩, ⟨(some 41), (.mv (.t 0)), (some (40, true))⟩, ⟨(some 42), (.slen (.t 41)), (some (40, true))⟩, ⟨(some 43), (.bin .leq .i64 (.t 42) (.c (.int .i64 64))), (some (40, true))⟩, ⟨(some 44), (.pick (.t 40) (.t 43) (.c (.bool false))), none⟩, ⟨(some 36), (.mv (.t 44)), none⟩]) (.cond (.t 36) (.seq (.reg [⟨(some 45), (.mv (.t 0)), none⟩, ⟨(some 46), (.mv (.t 1)), none⟩, ⟨(some 47), (.call 211 [(.t 45), (.t 46)]), none⟩, ⟨(some 4), (.mv (.t 47)), none⟩]) .ret) .skip))))))))) (.seq (.reg [⟨(some 48), (.mv (.t 1)), none⟩, ⟨(some 49), (.idxS (.t 48) (.c (.int .i64 0))), none⟩, ⟨(some 6), (.mv (.t 49)), none⟩]) (.seq (.reg [⟨(some 50), (.mv (.t 1)), none⟩, ⟨(some 51), (.idxS (.t 50) (.c (.int .i64 1))), none⟩, ⟨(some 7), (.mv (.t 51)), none⟩]) (.seq (.reg [⟨(some 8), (.mv (.c (.int .i64 0))), none⟩]) (.seq (.reg [⟨(some 52), (.mv (.t 0)), none⟩, ⟨(some 53), (.slen (.t 52)), none⟩, ⟨(some 54), (.mv (.t 5)), none⟩, ⟨(some 55), (.bin .sub .i64 (.t 53) (.t 54)), none⟩, ⟨(some 56), (.bin .add .i64 (.t 55) (.c (.int .i64 1))), none⟩, ⟨(some 9), (.mv (.t 56)), none⟩]) (.seq (.reg [⟨(some 10), (.mv (.c (.int .i64 0))), none⟩]) (.seq (.block 1 (.loop (.seq (.seq (.reg [⟨(some 57), (.mv (.t 8)), none⟩, ⟨(some 58), (.mv (.t 9)), none⟩, ⟨(some 59), (.bin .lss .i64 (.t 57) (.t 58)), none⟩]) (.cond (.t 59) .skip (.exit 1))) (.block 2 (.seq (.seq (.reg [⟨(some 60), (.mv (.t 0)), none⟩, ⟨(some 61), (.mv (.t 8)), none⟩, ⟨(some 62), (.idxS (.t 60) (.t 61)), none⟩, ⟨(some 63), (.mv (.t 6)), none⟩, ⟨(some 64), (.bin .neq .u8 (.t 62) (.t 63)), none⟩]) (.cond (.t 64) (.seq (.reg [⟨(some 65), (.mv (.t 0)), none⟩, ⟨(some 66), (.mv (.t 8)), none⟩, ⟨(some 67), (.bin .add .i64 (.t 66) (.c (.int .i64 1))), none⟩, ⟨(some 68), (.mv (.t 9)), none⟩, ⟨(some 69), (.sslice (.t 65) (some (.t 67)) (some (.t 68))), none⟩, ⟨(some 70), (.mv (.t 6)), none⟩, ⟨(some 71), (.call 210 [(.t 69), (.t 70)]), none⟩, ⟨(some 11), (.mv (.t 71)), none⟩]) (.seq (.seq (.reg [⟨(some 72), (.mv (.t 11)), none⟩, ⟨(some 73), (.bin .lss .i64 (.t 72) (.c (.int .i64 0))), none⟩]) (.cond (.t 73) (.seq (.reg [⟨(some 4), (.mv (.c (.int .i64 (-1)))), none⟩]) .ret) .skip)) (.reg [⟨(some 74), (.mv (.t 8)), none⟩, ⟨(some 75), (.mv (.t 11)), none⟩, ⟨(some 76), (.bin .add .i64 (.t 75) (.c (.int .i64 1))), none⟩, ⟨(some 77), (.bin .add .i64 (.t 74) (.t 76)), none⟩, ⟨(some 8), (.mv (.t 77)), none⟩]))) .skip)) (.seq (.seq (.reg [⟨(some 78), (.mv (.t 0)), none⟩, ⟨(some 79), (.mv (.t 8)), none⟩, ⟨(some 80), (.bin .add .i64 (.t 79) (.c (.int .i64 1))), none⟩, ⟨(some 81), (.idxS (.t 78) (.t 80)), none⟩, ⟨(some 82), (.mv (.t 7)), none⟩, ⟨(some 83), (.bin .eql .u8 (.t 81) (.t 82)), none⟩, ⟨(some 84), (.mv (.t 83)), none⟩, ⟨(some 85), (.mv (.t 0)), (some (84, true))⟩, ⟨(some 86), (.mv (.t 8)), (some (84, true))⟩, ⟨(some 87), (.mv (.t 8)), (some (84, true))⟩, ⟨(some 88), (.mv (.t 5)), (some (84, true))⟩, ⟨(some 89), (.bin .add .i64 (.t 87) (.t 88)), (some (84, true))⟩, ⟨(some 90), (.sslice (.t 85) (some (.t 86)) (some (.t 89))), (some (84, true))⟩, ⟨(some 91), (.mv (.t 1)), (some (84, true))⟩, ⟨(some 92), (.sbin .eql (.t 90) (.t 91)), (some (84, true))⟩, ⟨(some 93), (.pick (.t 84) (.t 92) (.c (.bool false))), none⟩]) (.cond (.t 93) (.seq (.reg [⟨(some 94), (.mv (.t 8)), none⟩, ⟨(some 4), (.mv (.t 94)), none⟩]) .ret) .skip)) (.seq (.reg [⟨(some 95), (.mv (.t 8)), none⟩, ⟨(some 96), (.bin .add .i64 (.t 95) (.c (.int .i64 1))), none⟩, ⟨(some 8), (.mv (.t 96)), none⟩]) (.seq (.reg [⟨(some 97), (.mv (.t 10)), none⟩, ⟨(some 98), (.bin .add .i64 (.t 97) (.c (.int .i64 1))), none⟩, ⟨(some 10), (.mv (.t 98)), none⟩]) (.seq (.reg [⟨(some 99), (.mv (.t 5)), none⟩, ⟨(some 100), (.gload 2 none), none⟩, ⟨(some 101), (.bin .leq .i64 (.t 99) (.t 100)), none⟩, ⟨(some 102), (.mv (.t 101)), none⟩, ⟨(some 103), (.mv (.t 10)), (some (102, true))⟩, ⟨(some 104), (.mv (.t 8)), (some (102, true))⟩, ⟨(some 105), (.call 212 [(.t 104)]), (some (102, true))⟩, ⟨(some 106), (.bin .gtr .i64 (.t 103) (.t 105)), (some (102, true))⟩, ⟨(some 107), (.pick (.t 102) (.t 106) (.c (.bool false))), none⟩]) (.cond (.t 107) (.seq (.reg [⟨(some 108), (.mv (.t 0)), none⟩, ⟨(some 109), (.mv (.t 8)), none⟩, ⟨(some 110), (.sslice (.t 108) (some (.t 109)) none), none⟩, ⟨(some 111), (.mv (.t 1)), none⟩, ⟨(some 112), (.call 211 [(.t 110), (.t 111)]), none⟩, ⟨(some 12), (.mv (.t 112)), none⟩]) (.seq (.seq (.reg [⟨(some 113), (.mv (.t 12)), none⟩, ⟨(some 114), (.bin .geq .i64 (.t 113) (.c (.int .i64 0))), none⟩]) (.cond (.t 114) (.seq (.reg [⟨(some 115), (.mv (.t 12)), none⟩, ⟨(some 116), (.mv (.t 8)), none⟩, ⟨(some 117), (.bin .add .i64 (.t 115) (.t 116)), none⟩, ⟨(some 4), (.mv (.t 117)), none⟩]) .ret) .skip)) (.seq (.reg [⟨(some 4), (.mv (.c (.int .i64 (-1)))), none⟩]) .ret))) (.seq (.reg [⟨(some 118), (.mv (.t 5)), none⟩, ⟨(some 119), (.gload 2 none), none⟩, ⟨(some 120), (.bin .gtr .i64 (.t 118) (.t 119)), none⟩, ⟨(some 121), (.mv (.t 120)), none⟩, ⟨(some 122), (.mv (.t 10)), (some (121, true))⟩, ⟨(some 123), (.mv (.t 8)), (some (121, true))⟩, ⟨(some 124), (.bin .shr .i64 (.t 123) (.c (.int .u64 4))), (some (121, true))⟩, ⟨(some 125), (.bin .add .i64 (.c (.int .i64 4)) (.t 124)), (some (121, true))⟩, ⟨(some 126), (.bin .geq .i64 (.t 122) (.t 125)), (some (121, true))⟩, ⟨(some 127), (.pick (.t 121) (.t 126) (.c (.bool false))), none⟩, ⟨(some 128), (.mv (.t 127)), none⟩, ⟨(some 129), (.mv (.t 8)), (some (128, true))⟩, ⟨(some 130), (.mv (.t 9)), (some (128, true))⟩, ⟨(some 131), (.bin .lss .i64 (.t 129) (.t 130)), (some (128, true))⟩, ⟨(some 132), (.pick (.t 128) (.t 131) (.c (.bool false))), none⟩]) (.cond (.t 132) (.seq (.reg [⟨(some 133), (.mv (.t 0)), none⟩, ⟨(some 134), (.mv (.t 8)), none⟩, ⟨(some 135), (.sslice (.t 133) (some (.t 134)) none), none⟩, ⟨(some 136), (.mv (.t 1)), none⟩, ⟨(some 137), (.call 213 [(.t 135), (.t 136)]), none⟩, ⟨(some 13), (.mv (.t 137)), none⟩]) (.seq (.seq (.reg [⟨(some 138), (.mv (.t 13)), none⟩, ⟨(some 139), (.bin .lss .i64 (.t 138) (.c (.int .i64 0))), none⟩]) (.cond (.t 139) (.seq (.reg [⟨(some 4), (.mv (.c (.int .i64 (-1)))), none⟩]) .ret) .skip)) (.seq (.reg [⟨(some 140), (.mv (.t 8)), none⟩, ⟨(some 141), (.mv (.t 13)), none⟩, ⟨(some 142), (.bin .add .i64 (.t 140) (.t 141)), none⟩, ⟨(some 4), (.mv (.t 142)), none⟩]) .ret))) .skip)))))))))))) (.seq (.reg [⟨(some 4), (.mv (.c (.int .i64 (-1)))), none⟩]) .ret))))))))))

set_option maxRecDepth 100000 in
theorem k_slIndex : compileC Tryz.prog ann (Tryz.f189.body.getD .skip) = some c_slIndex := by kernel_rfl

theorem s_slIndex {args : List AV} {σ : St} {K : AV → St → Prop} (h : WF σ → T Tryz.prog ann c_slIndex (Fin σ [(.t 4)] K) (args ++ List.replicate (143 - args.length) (.tup [])) σ) : ACalls Tryz.prog n_slIndex args σ K :=
  calls_ok Tryz.func189 (by kernel_rfl) (by kernel_rfl) k_slIndex (by kernel_rfl) (by kernel_rfl) h

abbrev n_slIdxB : Nat := 210

def c_slIdxB : C := (.seq (.reg [⟨(some 4), (.mv (.c (.int .i64 0))), none⟩]) (.seq (.reg [⟨(some 5), (.mv (.t 0)), none⟩, ⟨(some 6), (.mv (.t 1)), none⟩, ⟨(some 7), (.xidx (.t 5) (.t 6)), none⟩, ⟨(some 4), (.mv (.t 7)), none⟩]) .ret))

set_option maxRecDepth 100000 in
theorem k_slIdxB : compileC Tryz.prog ann (Tryz.f210.body.getD .skip) = some c_slIdxB := by kernel_rfl

theorem s_slIdxB {args : List AV} {σ : St} {K : AV → St → Prop} (h : WF σ → T Tryz.prog ann c_slIdxB (Fin σ [(.t 4)] K) (args ++ List.replicate (8 - args.length) (.tup [])) σ) : ACalls Tryz.prog n_slIdxB args σ K :=
  calls_ok Tryz.func210 (by kernel_rfl) (by kernel_rfl) k_slIdxB (by kernel_rfl) (by kernel_rfl) h

end Go.VL

namespace Go.VL

open Go.Proofs

/-- bytes, as a value or as an owned row -/
def BytesE (σ : St) (v : AV) (b : List UInt8) : Prop := (∃ g, v = .sl (bytesAV b) g) ∨ ∃ n, v = .ref n 0 b.length ∧ σ.res n = some (.obj (bytesAV b))

theorem BytesE.src {σ : St} {v : AV} {b : List UInt8} (h : BytesE σ v b) : srcOf σ 1 v = some (bytesAV b) := by
  rcases h with ⟨g, rfl⟩ | ⟨n, rfl, hr⟩
  · simp only [srcOf, bytesAV_er]
  · have e : ((bytesAV b).drop 0).take b.length = bytesAV b := by rw [List.drop_zero, List.take_of_length_le (by rw [bytesAV_len]; exact Nat.le_refl _)]
    unfold srcOf
    simp only [hr]
    rw [e, if_pos ⟨by trivial, by rw [bytesAV_len]; omega, by simp [bytesAV, AV.one]⟩]
    simp [bytesAV, AV.er1]

theorem BytesE.mono {σ σ' : St} {v : AV} {b : List UInt8} (h : BytesE σ v b) (ho : ∀ n x, σ.res n = some x → σ'.res n = some x) : BytesE σ' v b := by
  rcases h with ⟨g, rfl⟩ | ⟨n, rfl, hr⟩
  · exact .inl ⟨g, rfl⟩
  · exact .inr ⟨n, rfl, ho _ _ hr⟩

end Go.VL

namespace Go.VL

open Go.Proofs

def refs (k : Nat) (ns : List Nat) : List AV := ns.map fun n => .ref n 0 k

/-- a filter stands at p, its shards at ns -/
structure Bl (σ : St) (p : Nat) (ns : List Nat) (v : Ver) (bits hashes k : Nat) (rows : List (List UInt8)) : Prop where
  obj : σ.res p = some (.obj [.int .i64 bits, .int .i64 hashes, .sl (refs k ns) v])
  len : ns.length = rows.length
  nd : (p :: ns).Nodup
  row : ∀ (i n : Nat) (b : List UInt8), ns[i]? = some n → rows[i]? = some b → σ.res n = some (.obj (bytesAV b)) ∧ b.length = k

theorem Bl.mono {σ σ' : St} {p : Nat} {ns : List Nat} {v : Ver} {bits hashes k : Nat} {rows : List (List UInt8)} (h : Bl σ p ns v bits hashes k rows) (ho : ∀ n x, σ.res n = some x → σ'.res n = some x) : Bl σ' p ns v bits hashes k rows :=
  ⟨ho _ _ h.obj, h.len, h.nd, fun i n b h1 h2 => ⟨ho _ _ (h.row i n b h1 h2).1, (h.row i n b h1 h2).2⟩⟩

end Go.VL

namespace Go.VL

open Go.Proofs

def boolsAV (l : List Bool) : List AV := l.map .bool

/-- the document's filter stands at p, its shards at ns -/
structure Rf (σ : St) (p : Nat) (ns : List Nat) (v : Ver) (bits hashes : Nat) (rows : List (List Bool)) : Prop where
  obj : σ.res p = some (.obj [.int .i64 bits, .int .i64 hashes, .sl (refs bits ns) v])
  len : ns.length = rows.length
  nd : (p :: ns).Nodup
  row : ∀ (i n : Nat) (b : List Bool), ns[i]? = some n → rows[i]? = some b → σ.res n = some (.obj (boolsAV b)) ∧ b.length = bits

theorem Rf.mono {σ σ' : St} {p : Nat} {ns : List Nat} {v : Ver} {bits hashes : Nat} {rows : List (List Bool)} (h : Rf σ p ns v bits hashes rows) (ho : ∀ n x, σ.res n = some x → σ'.res n = some x) : Rf σ' p ns v bits hashes rows :=
  ⟨ho _ _ h.obj, h.len, h.nd, fun i n b h1 h2 => ⟨ho _ _ (h.row i n b h1 h2).1, (h.row i n b h1 h2).2⟩⟩

end Go.VL

namespace Go.VL

open Go.Proofs

def deB64 : List AV := ([0, 1, 56, 2, 57, 49, 28, 3, 61, 58, 42, 50, 38, 29, 17, 4, 62, 47, 59, 36, 45, 43, 51, 22, 53, 39, 33, 30, 24, 18, 12, 5, 63, 55, 48, 27, 60, 41, 37, 16, 46, 35, 44, 21, 52, 32, 23, 11, 54, 26, 40, 15, 34, 20, 31, 10, 25, 14, 19, 9, 13, 8, 7, 6] : List Int).map (.int .u8)

def pow10L : List AV := (List.range 20).map fun i => .int .u64 ((10 ^ i : Nat) : Int)

/-- the tables that numbers are written by are there -/
structure Tabs (σ : St) : Prop where
  p10 : σ.res g_pow10 = some (.gl g_pow10 pow10L)
  d64 : σ.res g_deB64 = some (.gl g_deB64 deB64)

theorem Tabs.mono {σ t : St} (h : Tabs σ) (hq : ∀ n r, σ.res n = some r → t.res n = some r) : Tabs t := ⟨hq _ _ h.p10, hq _ _ h.d64⟩

theorem Tabs.like {σ t : St} (h : Tabs σ) (wf : WF σ) (hL : Like σ t) : Tabs t := h.mono (hL.quiet wf)

theorem u64_mask {a k : Nat} (hk : k ≤ 63) (ha : a < 18446744073709551616) : IntKind.u64.wrap ((BitVec.ofInt IntKind.u64.bits (a : Int) &&& BitVec.ofInt IntKind.u64.bits ((2 ^ k - 1 : Nat) : Int)).toNat : Int) = ((a % 2 ^ k : Nat) : Int) := by
  have h2 : 2 ^ k ≤ 2 ^ 63 := Nat.pow_le_pow_right (by omega) hk
  have h3 : 0 < 2 ^ k := Nat.two_pow_pos k
  have e : (BitVec.ofInt IntKind.u64.bits (a : Int) &&& BitVec.ofInt IntKind.u64.bits ((2 ^ k - 1 : Nat) : Int)).toNat = a % 2 ^ k := by
    show (BitVec.ofInt 64 (a : Int) &&& BitVec.ofInt 64 ((2 ^ k - 1 : Nat) : Int)).toNat = a % 2 ^ k
    rw [BitVec.ofInt_natCast, BitVec.ofInt_natCast, BitVec.toNat_and, BitVec.toNat_ofNat, BitVec.toNat_ofNat, Nat.mod_eq_of_lt (show a < 2 ^ 64 from ha), Nat.mod_eq_of_lt (show 2 ^ k - 1 < 2 ^ 64 by omega), Nat.and_two_pow_sub_one_eq_mod]
  rw [e]
  exact u64w (Nat.lt_of_le_of_lt (Nat.mod_le _ _) ha)

theorem u64_and15 {a : Nat} (ha : a < 18446744073709551616) : IntKind.u64.wrap ((BitVec.ofInt IntKind.u64.bits (a : Int) &&& BitVec.ofInt IntKind.u64.bits 15).toNat : Int) = ((a % 16 : Nat) : Int) := u64_mask (k := 4) (by omega) ha

theorem u64_and32 {a : Nat} (ha : a < 18446744073709551616) : IntKind.u64.wrap ((BitVec.ofInt IntKind.u64.bits (a : Int) &&& BitVec.ofInt IntKind.u64.bits 4294967295).toNat : Int) = ((a % 4294967296 : Nat) : Int) := u64_mask (k := 32) (by omega) ha

theorem u64_shr (n k : Nat) (hk : k ≤ 63) : Int.fdiv (n : Int) (2 ^ min k IntKind.u64.bits) = ((n / 2 ^ k : Nat) : Int) := by
  have h1 : min k IntKind.u64.bits = k := by simp [IntKind.bits]; omega
  have h2 : (2 : Int) ^ k = ((2 ^ k : Nat) : Int) := by simp
  rw [h1, h2, Int.fdiv_eq_ediv_of_nonneg _ (Int.natCast_nonneg _), ← Int.natCast_ediv]

theorem u64_shr4 (n : Nat) : Int.fdiv (n : Int) (2 ^ min (4 : Int).toNat IntKind.u64.bits) = ((n / 16 : Nat) : Int) := u64_shr n 4 (by omega)

theorem u64_shr32 (n : Nat) : Int.fdiv (n : Int) (2 ^ min (32 : Int).toNat IntKind.u64.bits) = ((n / 4294967296 : Nat) : Int) := u64_shr n 32 (by omega)

theorem tz64_ok {σ : St} (hT : Tabs σ) : ACalls Tryz.prog n_tz64 [.int .u64 16] σ (fun v σ' => v = .int .i64 4 ∧ σ' = σ) := by
  refine s_tz64 (fun wf => ?_)
  unfold c_tz64
  have e0 : ((16 : Int) == 0) = false := rfl
  have e1 : IntKind.u64.wrap (0 - 16) = 18446744073709551600 := by decide
  have e2 : IntKind.u64.wrap ((BitVec.ofInt IntKind.u64.bits 16 &&& BitVec.ofInt IntKind.u64.bits 18446744073709551600).toNat : Int) = 16 := by decide +kernel
  have e3 : IntKind.u64.wrap (16 * 285870213051353865) = 4573923408821661840 := by decide
  have e4 : Int.fdiv 4573923408821661840 (2 ^ min (58 : Int).toNat IntKind.u64.bits) = 15 := by decide +kernel
  have e5 : ¬ ((58 : Int) < 0) := by decide
  have e6 : (0 : Int) ≤ 15 := by decide
  have e7 : (15 : Int) < ((64 : Nat) : Int) := by decide
  have e8 : (15 : Int).toNat * 1 ≤ deB64.length := by decide
  have e9 : (List.drop ((15 : Int).toNat * 1) deB64)[0]? = some (.int .u8 4) := rfl
  have e10 : IntKind.i64.wrap 4 = 4 := by decide
  have hd := hT.d64
  refine T.seq_k (fun K_h0 h0 => ?_)
  refine T.regi hm ?_
  simp only [↓reduceIte, namesOf, List.any, I.names, aopsI, astep, ev, setd, List.set, List.cons_append, List.nil_append, List.length_cons, List.length_nil, List.replicate, then_normal, Bool.or_false, Bool.false_eq_true, up_zero, Nat.reduceAdd, Nat.reduceSub]
  refine h0 _ _ ?_
  try clear h0 K_h0
  refine T.seq_k (fun K_h1 h1 => ?_)
  refine T.seq_k (fun K_h0 h0 => ?_)
  refine T.regi hm ?_
  simp only [↓reduceIte, namesOf, List.any, I.names, aopsI, astep, ev, setd, List.set, List.getD, List.getElem?_cons_zero, List.getElem?_cons_succ, then_normal, Option.getD_some, Bool.or_false, Bool.false_eq_true, up_zero, binv, ↓opt_def, eq_self, e0]
  refine h0 _ _ ?_
  try clear h0 K_h0
  refine T.cond rfl (fun h => by cases h) (fun _ => T.skip ?_)
  refine h1 _ _ ?_
  try clear h1 K_h1
  refine T.seq_k (fun K_h0 h0 => ?_)
  refine T.regi hm ?_
  simp only [↓reduceIte, namesOf, List.any, I.names, aopsI, astep, ev, setd, List.set, List.getD, List.getElem?_cons_zero, List.getElem?_cons_succ, then_normal, Option.getD_some, Bool.or_false, Bool.false_eq_true, up_zero, binv, ↓opt_def, ldc, and_true, eq_self, e1, e2, e3, e4, e5, e6, e7, e8, e9, e10, hd]
  refine h0 _ _ ?_
  try clear h0 K_h0
  exact T.ret (Fin.ret rfl ⟨rfl, rfl⟩)

theorem tz_ok {σ : St} (hT : Tabs σ) : ACalls Tryz.prog n_tz [.int .u64 16] σ (fun v σ' => v = .int .i64 4 ∧ σ' = σ) := by
  refine s_tz (fun wf => ?_)
  unfold c_tz
  refine T.seq_k (fun K_h0 h0 => ?_)
  refine T.regi hm ?_
  simp only [↓reduceIte, namesOf, List.any, I.names, aopsI, astep, ev, setd, List.set, List.cons_append, List.nil_append, List.length_cons, List.length_nil, List.replicate, then_normal, Bool.or_false, Bool.false_eq_true, up_zero, Nat.reduceAdd, Nat.reduceSub]
  refine h0 _ _ ?_
  try clear h0 K_h0
  refine T.seq_k (fun K_h1 h1 => ?_)
  refine T.cond rfl (fun h => by cases h) (fun _ => T.skip ?_)
  refine h1 _ _ ?_
  try clear h1 K_h1
  refine T.seq_k (fun K_h1 h1 => ?_)
  refine T.regi hm ?_
  simp only [↓reduceIte, namesOf, List.any, I.names, aopsI, astep, ev, setd, List.set, List.getD, List.getElem?_cons_zero, List.getElem?_cons_succ, then_normal, Option.getD_some, Bool.or_false, Bool.false_eq_true, up_zero, List.map_cons, List.map_nil]
  refine (tz64_ok hT).mono ?_
  rintro v σ1 ⟨rfl, rfl⟩
  try simp only [↓reduceIte, namesOf, List.any, I.names, aops, aopsI, aopsT, qstep, CPt, qget, Tbl.get, astep, ev, setd, List.set, List.getD, List.getElem?_cons_zero, List.getElem?_cons_succ, List.getElem?_nil, List.cons_append, List.nil_append, List.length_cons, List.length_nil, List.replicate, then_normal, inBlock_normal, Option.getD_some, Option.getD_none, Bool.or_false, Bool.or_true, Bool.true_or, Bool.false_or, Bool.false_eq_true, if_false, if_true, up_zero, Nat.reduceAdd, Nat.reduceSub, binv, ↓opt_def, AV.isAny, AV.cells, ldc, List.map_cons, List.map_nil, St.set_next, St.set_same, St.up_next, Int.natCast_nonneg, lt_len, le_len, Int.toNat_natCast, true_and, and_true, eq_self, reduceCtorEq, decide_true, List.length_singleton, er_int, er_bool, er_str, srcR, up_zero]
  refine h1 _ _ ?_
  try clear h1 K_h1
  exact T.ret (Fin.ret rfl ⟨rfl, rfl⟩)

theorem pow2_ok {σ : St} : ACalls Tryz.prog n_pow2 [.int .i64 16] σ (fun v σ' => v = .bool true ∧ σ' = σ) := by
  refine s_pow2 (fun wf => ?_)
  unfold c_pow2
  have e1 : IntKind.i64.wrap (16 - 1) = 15 := by decide
  have e2 : (IntKind.i64.wrap ((BitVec.ofInt IntKind.i64.bits 16 &&& BitVec.ofInt IntKind.i64.bits 15).toNat : Int) == 0) = true := by decide +kernel
  refine T.seq_k (fun K_h0 h0 => ?_)
  refine T.regi hm ?_
  simp only [↓reduceIte, namesOf, List.any, I.names, aopsI, astep, ev, setd, List.set, List.cons_append, List.nil_append, List.length_cons, List.length_nil, List.replicate, then_normal, Bool.or_false, Bool.false_eq_true, up_zero, Nat.reduceAdd, Nat.reduceSub]
  refine h0 _ _ ?_
  try clear h0 K_h0
  refine T.seq_k (fun K_h0 h0 => ?_)
  refine T.regi hm ?_
  simp only [↓reduceIte, namesOf, List.any, I.names, aopsI, astep, ev, setd, List.set, List.getD, List.getElem?_cons_zero, List.getElem?_cons_succ, then_normal, Option.getD_some, Bool.or_false, Bool.false_eq_true, up_zero, binv, ↓opt_def, eq_self, e1, e2]
  refine h0 _ _ ?_
  try clear h0 K_h0
  exact T.ret (Fin.ret rfl ⟨rfl, rfl⟩)

theorem dig36_get (d : Nat) (h : d < 16) : sDig36.data.toList[d]? = some (dgc d) := by
  have : ∀ d : Nat, d < 16 → sDig36.data.toList[d]? = some (dgc d) := by decide
  exact this d h

/-- a byte written into a row of zeros, ahead of what is there -/
theorem splice_rep {z x : AV} {n : Nat} {B : List AV} : splice (List.replicate (n + 1) z ++ B) n [x] = List.replicate n z ++ x :: B := by
  unfold splice
  have e1 : (List.replicate (n + 1) z ++ B).take n = List.replicate n z := by
    rw [List.take_append_of_le_length (by simp), List.take_replicate]; congr 1; omega
  have e2 : (List.replicate (n + 1) z ++ B).drop (n + [x].length) = B := by
    rw [List.drop_append_of_le_length (by simp)]; simp
  rw [e1, e2]; simp

set_option maxRecDepth 10000 in
set_option maxHeartbeats 1000000 in
theorem fbits_ok {u : Nat} {σ : St} (hT : Tabs σ) (hu : u < 18446744073709551616) : ACalls Tryz.prog n_fbits [.sl [] .nil, .int .u64 (u : Int), .int .i64 16, .bool false, .bool false] σ
    (fun v σ' => (∃ k, 1 ≤ k ∧ k ≤ 16 ∧ u < 16 ^ k ∧ v = .tup [.sl [] .nil, .str ⟨(dg 16 k u).toArray⟩]) ∧ σ' = σ) := by
  refine s_fbits (fun wf => ?_)
  unfold c_fbits
  have e0 : decide ((16 : Int) < 2) = false := rfl
  have e1 : ((16 : Int) == 10) = false := rfl
  have e2 : decide ((16 : Int) > 36) = false := rfl
  refine T.seq_k (fun K_h0 h0 => ?_)
  refine T.regi hm ?_
  simp only [↓reduceIte, namesOf, List.any, I.names, aopsI, astep, ev, setd, List.set, List.cons_append, List.nil_append, List.length_cons, List.length_nil, List.replicate, then_normal, Bool.or_false, Bool.false_eq_true, up_zero, Nat.reduceAdd, Nat.reduceSub]
  refine h0 _ _ ?_
  try clear h0 K_h0
  refine T.seq_k (fun K_h1 h1 => ?_)
  refine T.seq_k (fun K_h0 h0 => ?_)
  refine T.regi hm ?_
  simp only [↓reduceIte, namesOf, List.any, I.names, aopsI, astep, ev, setd, List.set, List.getD, List.getElem?_cons_zero, List.getElem?_cons_succ, then_normal, Option.getD_some, Bool.or_false, Bool.false_eq_true, up_zero, binv, ↓opt_def, eq_self, e0, e1, e2]
  refine h0 _ _ ?_
  try clear h0 K_h0
  refine T.cond rfl (fun h => by cases h) (fun _ => T.skip ?_)
  refine h1 _ _ ?_
  try clear h1 K_h1
  refine T.seq_k (fun K_h0 h0 => ?_)
  refine T.regi hm ?_
  simp only [↓reduceIte, namesOf, List.any, I.names, aopsI, astep, setd, List.set, List.length_cons, List.length_nil, then_normal, Bool.or_false, Nat.reduceAdd, eq_self]
  refine h0 _ _ ?_
  try clear h0 K_h0
  have hm0 : ((σ.up 1).set (σ.next + 0) (.obj (zeros 65 (.int .u8 0)))).res (σ.next + 0) = some (.obj (zeros 65 (.int .u8 0))) := St.set_same _ _ _
  have hL0 : Like σ ((σ.up 1).set (σ.next + 0) (.obj (zeros 65 (.int .u8 0)))) := (Like.refl σ).box (n := 1) (i := 0) _
  have hlo : σ.next ≤ σ.next + 0 := by omega
  have hlt0 : σ.next + 0 < ((σ.up 1).set (σ.next + 0) (.obj (zeros 65 (.int .u8 0)))).next := by simp
  generalize ((σ.up 1).set (σ.next + 0) (.obj (zeros 65 (.int .u8 0)))) = t0 at hm0 hL0 hlt0 ⊢
  generalize σ.next + 0 = m at hm0 hlo hlt0 ⊢
  refine T.seq_k (fun K_h0 h0 => ?_)
  refine T.regi hm ?_
  simp only [↓reduceIte, namesOf, List.any, I.names, aopsI, astep, ev, setd, List.set, then_normal, Bool.or_false, Bool.false_eq_true, up_zero]
  refine h0 _ _ ?_
  try clear h0 K_h0
  refine T.seq_k (fun K_h1 h1 => ?_)
  refine T.seq_k (fun K_h0 h0 => ?_)
  refine T.regi hm ?_
  simp only [↓reduceIte, namesOf, List.any, I.names, aopsI, astep, ev, setd, List.set, List.getD, List.getElem?_cons_zero, List.getElem?_cons_succ, then_normal, Option.getD_some, Bool.or_false, Bool.false_eq_true, up_zero]
  refine h0 _ _ ?_
  try clear h0 K_h0
  refine T.cond rfl (fun h => by cases h) (fun _ => T.skip ?_)
  refine h1 _ _ ?_
  try clear h1 K_h1
  refine T.seq_k (fun K_h1 h1 => ?_)
  refine T.seq_k (fun K_h2 h2 => ?_)
  refine T.regi hm ?_
  simp only [↓reduceIte, namesOf, List.any, I.names, aopsI, astep, ev, setd, List.set, List.getD, List.getElem?_cons_zero, List.getElem?_cons_succ, then_normal, Option.getD_some, Bool.or_false, Bool.false_eq_true, up_zero, List.map_cons, List.map_nil]
  refine pow2_ok.mono ?_
  rintro v σ1 ⟨rfl, rfl⟩
  try simp only [↓reduceIte, namesOf, List.any, I.names, aops, aopsI, aopsT, qstep, CPt, qget, Tbl.get, astep, ev, setd, List.set, List.getD, List.getElem?_cons_zero, List.getElem?_cons_succ, List.getElem?_nil, List.cons_append, List.nil_append, List.length_cons, List.length_nil, List.replicate, then_normal, inBlock_normal, Option.getD_some, Option.getD_none, Bool.or_false, Bool.or_true, Bool.true_or, Bool.false_or, Bool.false_eq_true, if_false, if_true, up_zero, Nat.reduceAdd, Nat.reduceSub, binv, ↓opt_def, AV.isAny, AV.cells, ldc, List.map_cons, List.map_nil, St.set_next, St.set_same, St.up_next, Int.natCast_nonneg, lt_len, le_len, Int.toNat_natCast, true_and, and_true, eq_self, reduceCtorEq, decide_true, List.length_singleton, er_int, er_bool, er_str, srcR, up_zero]
  refine h2 _ _ ?_
  try clear h2 K_h2
  refine T.cond rfl (fun _ => ?_) (fun h => by cases h)
  have w1 : IntKind.u64.wrap 16 = 16 := by decide
  have w2 : IntKind.u64.wrap 4 = 4 := by decide
  have w3 : IntKind.u64.wrap (16 - 1) = 15 := by decide
  refine T.seq_k (fun K_h2 h2 => ?_)
  refine T.regi hm ?_
  simp only [↓reduceIte, namesOf, List.any, I.names, aopsI, astep, ev, setd, List.set, List.getD, List.getElem?_cons_zero, List.getElem?_cons_succ, then_normal, Option.getD_some, Bool.or_false, Bool.false_eq_true, up_zero, List.map_cons, List.map_nil, w1]
  refine (tz_ok (hT.like wf (hL0))).mono ?_
  rintro v σ1 ⟨rfl, rfl⟩
  try simp only [w2]
  refine h2 _ _ ?_
  try clear h2 K_h2
  refine T.seq_k (fun K_h0 h0 => ?_)
  refine T.regi hm ?_
  simp only [↓reduceIte, namesOf, List.any, I.names, aopsI, astep, ev, setd, List.set, List.getD, List.getElem?_cons_zero, List.getElem?_cons_succ, then_normal, Option.getD_some, Bool.or_false, Bool.false_eq_true, up_zero, w1]
  refine h0 _ _ ?_
  try clear h0 K_h0
  refine T.seq_k (fun K_h0 h0 => ?_)
  refine T.regi hm ?_
  simp only [↓reduceIte, namesOf, List.any, I.names, aopsI, astep, ev, setd, List.set, List.getD, List.getElem?_cons_zero, List.getElem?_cons_succ, then_normal, Option.getD_some, Bool.or_false, Bool.false_eq_true, up_zero, binv, ↓opt_def, eq_self, w1, w3]
  refine h0 _ _ ?_
  try clear h0 K_h0
  refine T.seq_k (fun K_h2 h2 => ?_)
  refine T.block ?_
  refine T.gh (Gh.keep [0, 1, 2, 3, 4, 10, 12, 13, 14, 15, 16]) ?_
  refine T.loopi (fun j ρ t => Like σ t ∧ m < t.next ∧ t.res m = some (.obj (List.replicate (65 - j) (.int .u8 0) ++ bytesAV (dg 16 j u))) ∧
      ρ = [.sl [] .nil, .int .u64 ((u / 16 ^ j : Nat) : Int), .int .i64 16, .bool false, .bool false] ++ List.replicate 5 .any ++ [.sl [] .nil, .any, .ptr m 0, .int .i64 ((65 - j : Nat) : Int), .int .u64 4, .int .u64 16, .int .u64 15] ++ List.replicate 85 .any)
    15 0 (Nat.zero_le _) ⟨hL0, hlt0, by rw [hm0]; simp [zeros, dg, bytesAV], by rw [Nat.pow_zero, Nat.div_one]; rfl⟩ ?_
  clear hm0 hL0 hlt0
  rintro j ρ t hj ⟨hL, hlt, hob, rfl⟩
  have hxu : u / 16 ^ j < 18446744073709551616 := Nat.lt_of_le_of_lt (Nat.div_le_self _ _) hu
  have hnext : u / 16 ^ (j + 1) = u / 16 ^ j / 16 := by rw [Nat.div_div_eq_div_mul, Nat.pow_succ]
  have hdg : dg 16 (j + 1) u = dgc (u / 16 ^ j % 16) :: dg 16 j u := dg_cons 16 j u
  have hblen : (bytesAV (dg 16 j u)).length = j := by rw [bytesAV_len, dg_len]
  generalize hx : u / 16 ^ j = x at hxu hnext hdg ⊢
  have hsp : splice (List.replicate (65 - j) (AV.int .u8 0) ++ bytesAV (dg 16 j u)) (64 - j) [.int .u8 ((dgc (x % 16)).toNat : Int)] = List.replicate (64 - j) (.int .u8 0) ++ bytesAV (dg 16 (j + 1) u) := by
    rw [show 65 - j = (64 - j) + 1 by omega, splice_rep, hdg]; rfl
  have hw : IntKind.i64.wrap (((65 - j : Nat) : Int) - 1) = ((64 - j : Nat) : Int) := by rw [wrap64 (by omega) (by omega)]; omega
  have i1 : ((64 - j : Nat) : Int) < ((65 : Nat) : Int) := by omega
  have i2 : ((x % 16 : Nat) : Int) < (sDig36.size : Int) := by rw [sDig36_size]; omega
  have hdd := dig36_get (x % 16) (Nat.mod_lt _ (by omega))
  have hlen : 64 - j + 1 ≤ (List.replicate (65 - j) (AV.int .u8 0) ++ bytesAV (dg 16 j u)).length := by rw [List.length_append, List.length_replicate]; omega
  have s4 : ¬ ((4 : Int) < 0) := by decide
  refine T.seq_k (fun K_h3 h3 => ?_)
  by_cases hge : 16 ≤ x
  case neg =>
    have f1 : decide ((x : Int) ≥ 16) = false := decide_eq_false (by omega)
    refine T.seq_k (fun K_h0 h0 => ?_)
    refine T.regi hm ?_
    simp only [↓reduceIte, namesOf, List.any, I.names, aopsI, astep, ev, setd, List.set, List.getD, List.getElem?_cons_zero, List.getElem?_cons_succ, List.cons_append, List.nil_append, List.replicate, then_normal, Option.getD_some, Bool.or_false, Bool.false_eq_true, up_zero, binv, ↓opt_def, eq_self, f1]
    refine h0 _ _ ?_
    try clear h0 K_h0
    refine T.cond rfl (fun h => by cases h) (fun _ => T.exit ?_)
    try simp only [List.cons_append, List.nil_append, List.replicate, then_normal, inBlock_exit, then_exit]
    refine h2 _ _ ?_
    try clear h2 K_h2
    have hxm : x % 16 = x := Nat.mod_eq_of_lt (by omega)
    rw [hxm] at i2 hdd hsp
    refine T.gh (Gh.keep [0, 1, 3, 4, 10, 12, 13]) ?_
    show T _ _ _ _ ([.sl [] .nil, .int .u64 (x : Int), .any, .bool false, .bool false] ++ List.replicate 5 .any ++ [.sl [] .nil, .any, .ptr m 0, .int .i64 ((65 - j : Nat) : Int)] ++ List.replicate 88 .any) t
    refine T.seq_k (fun K_h0 h0 => ?_)
    refine T.regi hm ?_
    simp only [↓reduceIte, namesOf, List.any, I.names, aopsI, astep, ev, setd, List.set, List.getD, List.getElem?_cons_zero, List.getElem?_cons_succ, List.cons_append, List.nil_append, List.replicate, then_normal, Option.getD_some, Bool.or_false, Bool.false_eq_true, up_zero, binv, ↓opt_def, eq_self, hw]
    refine h0 _ _ ?_
    try clear h0 K_h0
    refine T.regi hm ?_
    simp only [↓reduceIte, namesOf, List.any, I.names, aopsI, astep, ev, setd, List.set, List.getD, List.getElem?_cons_zero, List.getElem?_cons_succ, List.length_cons, List.length_nil, then_normal, Option.getD_some, Bool.or_false, Bool.false_eq_true, up_zero, AV.isAny, AV.cells, Int.natCast_nonneg, Int.toNat_natCast, eq_self, decide_true, i1, i2, hdd, hob, hlen, hsp, AV.fits, AV.one, List.all_cons, List.all_nil, Nat.reduceBEq, Bool.not_false, Bool.and_self, Nat.zero_add, Nat.mul_one, and_self]
    have hm2 : (t.set m (.obj (List.replicate (64 - j) (.int .u8 0) ++ bytesAV (dg 16 (j + 1) u)))).res m = some (.obj (List.replicate (64 - j) (.int .u8 0) ++ bytesAV (dg 16 (j + 1) u))) := St.set_same _ _ _
    have hL2 : Like σ (t.set m (.obj (List.replicate (64 - j) (.int .u8 0) ++ bytesAV (dg 16 (j + 1) u)))) := hL.set _ hlo
    generalize (t.set m (.obj (List.replicate (64 - j) (.int .u8 0) ++ bytesAV (dg 16 (j + 1) u)))) = t2 at hm2 hL2 ⊢
    refine h1 _ _ ?_
    try clear h1 K_h1
    refine T.gh (Gh.keep [3, 4, 10, 12, 13]) ?_
    show T _ _ _ _ ([.any, .any, .any, .bool false, .bool false, .any, .any, .any, .any, .any, .sl [] .nil, .any, .ptr m 0, .int .i64 ((64 - j : Nat) : Int)] ++ List.replicate 88 .any) t2
    refine T.seq_k (fun K_h1 h1 => ?_)
    refine T.seq_k (fun K_h0 h0 => ?_)
    refine T.regi hm ?_
    simp only [↓reduceIte, namesOf, List.any, I.names, aopsI, astep, ev, setd, List.set, List.getD, List.getElem?_cons_zero, List.getElem?_cons_succ, List.cons_append, List.nil_append, List.replicate, then_normal, Option.getD_some, Bool.or_false, Bool.false_eq_true, up_zero]
    refine h0 _ _ ?_
    try clear h0 K_h0
    refine T.cond rfl (fun h => by cases h) (fun _ => T.skip ?_)
    refine h1 _ _ ?_
    try clear h1 K_h1
    refine T.seq_k (fun K_h1 h1 => ?_)
    refine T.seq_k (fun K_h0 h0 => ?_)
    refine T.regi hm ?_
    simp only [↓reduceIte, namesOf, List.any, I.names, aopsI, astep, ev, setd, List.set, List.getD, List.getElem?_cons_zero, List.getElem?_cons_succ, then_normal, Option.getD_some, Bool.or_false, Bool.false_eq_true, up_zero]
    refine h0 _ _ ?_
    try clear h0 K_h0
    refine T.cond rfl (fun h => by cases h) (fun _ => T.skip ?_)
    refine h1 _ _ ?_
    try clear h1 K_h1
    have j1 : (((65 : Nat) : Int) - ((64 - j : Nat) : Int)).toNat = j + 1 := by omega
    have j2 : 64 - j + (j + 1) ≤ (List.replicate (64 - j) (AV.int .u8 0) ++ bytesAV (dg 16 (j + 1) u)).length := by rw [List.length_append, List.length_replicate, bytesAV_len, dg_len]; omega
    have j3 : ((List.replicate (64 - j) (AV.int .u8 0) ++ bytesAV (dg 16 (j + 1) u)).drop (64 - j)).take (j + 1) = bytesAV (dg 16 (j + 1) u) := by
      rw [List.drop_append_of_le_length (by simp), List.drop_of_length_le (by simp), List.nil_append, List.take_of_length_le (by rw [bytesAV_len, dg_len]; omega)]
    refine T.seq_k (fun K_h0 h0 => ?_)
    refine T.regi hm ?_
    simp only [↓reduceIte, namesOf, List.any, I.names, aopsI, astep, ev, setd, List.set, List.getD, List.getElem?_cons_zero, List.getElem?_cons_succ, then_normal, Option.getD_some, Bool.or_false, Bool.false_eq_true, up_zero, ↓opt_def, Int.natCast_nonneg, Int.toNat_natCast, idx, i1, j1, j2, j3, hm2, Int.le_refl, and_self, Nat.zero_add, Nat.mul_one, toBytes_bytes]
    refine h0 _ _ ?_
    try clear h0 K_h0
    exact T.ret (Fin.quiet rfl ⟨⟨trivial, trivial⟩, trivial, trivial⟩ (hL2.quiet wf) ⟨⟨j + 1, by omega, by omega, by
      have h2 := Nat.div_add_mod u (16 ^ j)
      have h3 := Nat.mod_lt u (Nat.pow_pos (n := j) (show 0 < 16 by omega))
      rw [hx] at h2
      rw [Nat.pow_succ]
      have h4 : 16 ^ j * x ≤ 16 ^ j * 15 := Nat.mul_le_mul_left _ (by omega)
      omega, rfl⟩, rfl⟩)
  have hj15 : j < 15 := by
    rcases Nat.lt_or_ge j 15 with h | h
    · exact h
    · exfalso
      have : j = 15 := by omega
      subst this
      have : u / 16 ^ 15 < 16 := Nat.div_lt_of_lt_mul (by rw [← Nat.pow_succ]; exact hu)
      omega
  have f1 : decide ((x : Int) ≥ 16) = true := decide_eq_true (by omega)
  refine T.seq_k (fun K_h0 h0 => ?_)
  refine T.regi hm ?_
  simp only [↓reduceIte, namesOf, List.any, I.names, aopsI, astep, ev, setd, List.set, List.getD, List.getElem?_cons_zero, List.getElem?_cons_succ, List.cons_append, List.nil_append, List.replicate, then_normal, Option.getD_some, Bool.or_false, Bool.false_eq_true, up_zero, binv, ↓opt_def, eq_self, f1]
  refine h0 _ _ ?_
  try clear h0 K_h0
  refine T.cond rfl (fun _ => T.skip ?_) (fun h => by cases h)
  refine h3 _ _ ?_
  try clear h3 K_h3
  refine T.block ?_
  refine T.seq_k (fun K_h0 h0 => ?_)
  refine T.regi hm ?_
  simp only [↓reduceIte, namesOf, List.any, I.names, aopsI, astep, ev, setd, List.set, List.getD, List.getElem?_cons_zero, List.getElem?_cons_succ, List.cons_append, List.nil_append, List.replicate, then_normal, Option.getD_some, Bool.or_false, Bool.false_eq_true, up_zero, binv, ↓opt_def, eq_self, hw]
  refine h0 _ _ ?_
  try clear h0 K_h0
  refine T.seq_k (fun K_h0 h0 => ?_)
  refine T.regi hm ?_
  simp only [↓reduceIte, namesOf, List.any, I.names, aopsI, astep, ev, setd, List.set, List.getD, List.getElem?_cons_zero, List.getElem?_cons_succ, List.cons_append, List.nil_append, List.length_cons, List.length_nil, List.replicate, then_normal, Option.getD_some, Bool.or_false, Bool.false_eq_true, up_zero, binv, ↓opt_def, AV.isAny, AV.cells, Int.natCast_nonneg, Int.toNat_natCast, eq_self, decide_true, u64_and15 hxu, i1, i2, hdd, hob, hlen, hsp, AV.fits, AV.one, List.all_cons, List.all_nil, Nat.reduceBEq, Bool.not_false, Bool.and_self, Nat.zero_add, Nat.mul_one, and_self]
  refine h0 _ _ ?_
  try clear h0 K_h0
  refine T.regi hm ?_
  simp only [↓reduceIte, namesOf, List.any, I.names, aopsI, astep, ev, setd, List.set, List.getD, List.getElem?_cons_zero, List.getElem?_cons_succ, List.cons_append, List.nil_append, List.replicate, then_normal, inBlock_normal, Option.getD_some, Bool.or_false, Bool.false_eq_true, up_zero, binv, ↓opt_def, eq_self, u64_shr4, s4]
  try simp only [↓reduceIte, namesOf, List.any, I.names, aops, aopsI, aopsT, qstep, CPt, qget, Tbl.get, astep, ev, setd, List.set, List.getD, List.getElem?_cons_zero, List.getElem?_cons_succ, List.getElem?_nil, List.cons_append, List.nil_append, List.length_cons, List.length_nil, List.replicate, then_normal, inBlock_normal, Option.getD_some, Option.getD_none, Bool.or_false, Bool.or_true, Bool.true_or, Bool.false_or, Bool.false_eq_true, if_false, if_true, up_zero, Nat.reduceAdd, Nat.reduceSub, binv, ↓opt_def, AV.isAny, AV.cells, ldc, List.map_cons, List.map_nil, St.set_next, St.set_same, St.up_next, Int.natCast_nonneg, lt_len, le_len, Int.toNat_natCast, true_and, and_true, eq_self, reduceCtorEq, decide_true, List.length_singleton, er_int, er_bool, er_str, srcR, inBlock_normal]
  refine ⟨hj15, _, _, Gh.keep [0, 1, 2, 3, 4, 10, 12, 13, 14, 15, 16], hL.set _ hlo, hlt, ?_, ?_⟩
  · rw [St.set_same, show 65 - (j + 1) = 64 - j by omega]
  · rw [hnext, show 65 - (j + 1) = 64 - j by omega]; rfl

end Go.VL

namespace Go.VL

open Go.Proofs

abbrev n_may : Nat := 139

abbrev n_scmp : Nat := 140

abbrev n_rgather : Nat := 105

abbrev n_rspans : Nat := 31

end Go.VL

namespace Go.VL

open Go.Proofs

/-- a span -/
structure Sp where
  tr : Nat
  id : Nat
  st : Int
  en : Int
  da : List UInt8
  deriving DecidableEq

def Sp.av (s : Sp) : AV := .agg [.int .u64 (s.tr : Int), .int .u64 (s.id : Int), .int .i64 s.st, .int .i64 s.en, .sl (bytesAV s.da) .none]

/-- a trace -/
structure Tc where
  id : Nat
  sp : List Sp
  deriving DecidableEq

def Tc.av (t : Tc) : AV := .agg [.int .u64 (t.id : Int), .sl (t.sp.map Sp.av) .none]

def spsAV (l : List Sp) : List AV := l.map Sp.av

end Go.VL

namespace Go.VL

open Go.Proofs

theorem bytes_of {P : Program} {n : Nat} {e : TypeId} (hu : P.underlying e = some (.int .u8)) : ∀ {ys : List AV}, (∀ y ∈ ys, HasE P (n + 1) e y) → ∃ l : List UInt8, ys = bytesAV l
  | [], _ => ⟨[], rfl⟩
  | y :: r, h => by
    obtain ⟨m, rfl, h1, h2⟩ := has_int hu (h y (by simp))
    obtain ⟨l, rfl⟩ := bytes_of hu (fun z hz => h z (List.mem_cons_of_mem _ hz))
    have h1' : 0 ≤ m := h1
    have h2' : m ≤ 255 := h2
    refine ⟨UInt8.ofNat m.toNat :: l, ?_⟩
    have : ((UInt8.ofNat m.toNat).toNat : Int) = m := by
      rw [UInt8.toNat_ofNat']; omega
    simp only [bytesAV, List.map_cons, this]

end Go.VL

namespace Go.Proofs.YtnifkggcldalbaaGreatDoor

open Go.RowKit Go.VL

theorem own : ownKnob Tryz.prog.godebug = none := by kernel_rfl

theorem laidOut : laidOutB Tryz.prog = true := by kernel_rfl

end Go.Proofs.YtnifkggcldalbaaGreatDoor

namespace Go.VL

open Go.Proofs

/-- a span whose numbers fit -/
def Sp.ok (s : Sp) : Prop := s.tr < 18446744073709551616 ∧ s.id < 18446744073709551616 ∧ (-9223372036854775808 ≤ s.st ∧ s.st ≤ 9223372036854775807) ∧ (-9223372036854775808 ≤ s.en ∧ s.en ≤ 9223372036854775807) ∧ s.da.length ≤ 9223372036854775807

def Tc.ok (t : Tc) : Prop := t.id < 18446744073709551616 ∧ t.sp.length ≤ 9223372036854775807 ∧ ∀ s ∈ t.sp, s.ok

end Go.VL

namespace Go.VL

open Go.RowKit Go.Proofs

def deBZ : List Int := [0, 1, 56, 2, 57, 49, 28, 3, 61, 58, 42, 50, 38, 29, 17, 4, 62, 47, 59, 36, 45, 43, 51, 22, 53, 39, 33, 30, 24, 18, 12, 5, 63, 55, 48, 27, 60, 41, 37, 16, 46, 35, 44, 21, 52, 32, 23, 11, 54, 26, 40, 15, 34, 20, 31, 10, 25, 14, 19, 9, 13, 8, 7, 6]

def powZ : List Int := (List.range 20).map fun i => ((10 ^ i : Nat) : Int)

theorem pow_eq : pow10L = powZ.map (AV.int .u64) := by unfold pow10L powZ; rw [List.map_map]; rfl

theorem vs_tab {κ : Kx} {w : World} {b : Nat} {k : IntKind} : ∀ (zs : List Int) (o : Nat), (∀ i, i < zs.length → w.cell? ⟨b, o + i, none⟩ = some (.int k (zs.getD i 0))) → (∀ i, κ.I b i) → Vs κ w b o (zs.map (AV.int k))
  | [], o, _, _ => .nil _ _
  | z :: zs, o, h, hI => .cons _ _ _ _ _ (hI o) (by have := h 0 (by simp); simpa using this) (.int k z) (vs_tab zs (o + 1) (fun i hi => by have := h (i + 1) (by simpa using hi); rw [show o + 1 + i = o + (i + 1) by omega]; simpa using this) hI)

section

variable {H : Type} {enc : TypeId × Value → H} {P : Program} {W : World}

def TabsW (W : World) : Prop := (∀ i, i < powZ.length → W.cell? ⟨g_pow10, i, none⟩ = some (.int .u64 (powZ.getD i 0))) ∧ (∀ i, i < deBZ.length → W.cell? ⟨g_deB64, i, none⟩ = some (.int .u8 (deBZ.getD i 0)))

theorem cell_lt {b i : Nat} {v : Value} (h : W.cell? ⟨b, i, none⟩ = some v) : b < W.heap.size := by
  rcases Nat.lt_or_ge b W.heap.size with h1 | h1
  · exact h1
  · simp [World.cell?, Array.getElem?_eq_none h1] at h

end

end Go.VL

namespace Go.Proofs.YtnifkggcldalbaaGreatDoor

open Go.ChangeShapes Go.WideShapes Go.ChangeAt Go.RowKit Go.VL

theorem p10_at : Tryz.prog.globalNamed "internal/strconv.uint64pow10" = some g_pow10 := by kernel_rfl

theorem d64_at : Tryz.prog.globalNamed "math/bits.deBruijn64tab" = some g_deB64 := by kernel_rfl

theorem p10_ty : (Tryz.prog.globals[g_pow10]?).map (·.type) = some t_a20 := by kernel_rfl

theorem d64_ty : (Tryz.prog.globals[g_deB64]?).map (·.type) = some t_a64 := by kernel_rfl

theorem a20_un : Tryz.prog.underlying t_a20 = some (.array 20 t_u64) := by kernel_rfl

theorem a64_un : Tryz.prog.underlying t_a64 = some (.array 64 t_u8) := by kernel_rfl

theorem u64_un : Tryz.prog.underlying t_u64 = some (.int .u64) := by kernel_rfl

theorem u8_un : Tryz.prog.underlying t_u8 = some (.int .u8) := by kernel_rfl

end Go.Proofs.YtnifkggcldalbaaGreatDoor

namespace Go.VL

open Go.Proofs

/-- a number's text, with as many digits as it may have -/
def Writ (b n most : Nat) (v : AV) : Prop := ∃ k, 1 ≤ k ∧ k ≤ most ∧ n < b ^ k ∧ v = .str ⟨(dg b k n).toArray⟩

theorem small1 (n : Nat) (h : n < 10) : sDig36.extract n (n + 1) = ⟨(dg 10 1 n).toArray⟩ := by
  have : ∀ n : Nat, n < 10 → sDig36.extract n (n + 1) = ⟨(dg 10 1 n).toArray⟩ := by decide +kernel
  exact this n h

theorem small2 (n : Nat) (h : n < 100) : sSmalls.extract (n * 2) (n * 2 + 2) = ⟨(dg 10 2 n).toArray⟩ := by
  have : ∀ n : Nat, n < 100 → sSmalls.extract (n * 2) (n * 2 + 2) = ⟨(dg 10 2 n).toArray⟩ := by decide +kernel
  exact this n h

theorem ismall_ok {n : Nat} {σ : St} (hn : n < 100) : ACalls Tryz.prog n_ismall [.int .i64 (n : Int)] σ (fun v σ' => Writ 10 n 3 v ∧ σ' = σ) := by
  refine s_ismall (fun wf => ?_)
  unfold c_ismall
  refine T.seq_k (fun K_h0 h0 => ?_)
  refine T.regi hm ?_
  simp only [↓reduceIte, namesOf, List.any, I.names, aopsI, astep, ev, setd, List.set, List.cons_append, List.nil_append, List.length_cons, List.length_nil, List.replicate, then_normal, Bool.or_false, Bool.false_eq_true, up_zero, Nat.reduceAdd, Nat.reduceSub]
  refine h0 _ _ ?_
  try clear h0 K_h0
  refine T.seq_k (fun K_h1 h1 => ?_)
  by_cases h10 : n < 10
  · have f1 : decide ((n : Int) < 10) = true := decide_eq_true (by omega)
    have w1 : IntKind.i64.wrap ((n : Int) + 1) = ((n + 1 : Nat) : Int) := by rw [wrap64 (by omega) (by omega)]; omega
    have i1 : (n : Int) ≤ ((n + 1 : Nat) : Int) := by omega
    have i2 : ((n + 1 : Nat) : Int) ≤ (sDig36.size : Int) := by rw [sDig36_size]; omega
    refine T.seq_k (fun K_h0 h0 => ?_)
    refine T.regi hm ?_
    simp only [↓reduceIte, namesOf, List.any, I.names, aopsI, astep, ev, setd, List.set, List.getD, List.getElem?_cons_zero, List.getElem?_cons_succ, then_normal, Option.getD_some, Bool.or_false, Bool.false_eq_true, up_zero, binv, ↓opt_def, eq_self, f1]
    refine h0 _ _ ?_
    try clear h0 K_h0
    refine T.cond rfl (fun _ => ?_) (fun h => by cases h)
    refine T.seq_k (fun K_h0 h0 => ?_)
    refine T.regi hm ?_
    simp only [↓reduceIte, namesOf, List.any, I.names, aopsI, astep, ev, setd, List.set, List.getD, List.getElem?_cons_zero, List.getElem?_cons_succ, then_normal, Option.getD_some, Bool.or_false, Bool.false_eq_true, up_zero, binv, ↓opt_def, Int.natCast_nonneg, Int.toNat_natCast, eq_self, w1, idx, i1, i2, and_self, small1 n h10]
    refine h0 _ _ ?_
    try clear h0 K_h0
    exact T.ret (Fin.ret rfl ⟨⟨1, by omega, by omega, by omega, rfl⟩, rfl⟩)
  have f1 : decide ((n : Int) < 10) = false := decide_eq_false (by omega)
  have w1 : IntKind.i64.wrap ((n : Int) * 2) = ((n * 2 : Nat) : Int) := by rw [wrap64 (by omega) (by omega)]; omega
  have w2 : IntKind.i64.wrap (((n * 2 : Nat) : Int) + 2) = ((n * 2 + 2 : Nat) : Int) := by rw [wrap64 (by omega) (by omega)]; omega
  have i1 : ((n * 2 : Nat) : Int) ≤ ((n * 2 + 2 : Nat) : Int) := by omega
  have i2 : ((n * 2 + 2 : Nat) : Int) ≤ (sSmalls.size : Int) := by rw [sSmalls_size]; omega
  refine T.seq_k (fun K_h0 h0 => ?_)
  refine T.regi hm ?_
  simp only [↓reduceIte, namesOf, List.any, I.names, aopsI, astep, ev, setd, List.set, List.getD, List.getElem?_cons_zero, List.getElem?_cons_succ, then_normal, Option.getD_some, Bool.or_false, Bool.false_eq_true, up_zero, binv, ↓opt_def, eq_self, f1]
  refine h0 _ _ ?_
  try clear h0 K_h0
  refine T.cond rfl (fun h => by cases h) (fun _ => T.skip ?_)
  refine h1 _ _ ?_
  try clear h1 K_h1
  refine T.seq_k (fun K_h0 h0 => ?_)
  refine T.regi hm ?_
  simp only [↓reduceIte, namesOf, List.any, I.names, aopsI, astep, ev, setd, List.set, List.getD, List.getElem?_cons_zero, List.getElem?_cons_succ, then_normal, Option.getD_some, Bool.or_false, Bool.false_eq_true, up_zero, binv, ↓opt_def, Int.natCast_nonneg, Int.toNat_natCast, eq_self, w1, w2, idx, i1, i2, and_self, small2 n hn]
  refine h0 _ _ ?_
  try clear h0 K_h0
  exact T.ret (Fin.ret rfl ⟨⟨2, by omega, by omega, by omega, rfl⟩, rfl⟩)

set_option maxRecDepth 100000 in
theorem len8_get (n : Nat) (h : n < 256) : sLen8.data.toList[n]? = some (sLen8.data.toList.getD n 0) := by
  have hl : n < sLen8.data.toList.length := by rw [show sLen8.data.toList.length = 256 from rfl]; exact h
  rw [List.getD_eq_getElem?_getD, List.getElem?_eq_getElem hl]; rfl

def lenN (n : Nat) : Nat := if n < 256 then (sLen8.data.toList.getD n 0).toNat else 8 + (sLen8.data.toList.getD (n / 256) 0).toNat

theorem lenN_log : ∀ n : Nat, n < 1000 → 100 ≤ n → lenN n * 78913 / 262144 = if n < 512 then 2 else 3 := by decide +kernel

theorem lenN_le : ∀ n : Nat, n < 1000 → lenN n ≤ 64 := by decide +kernel

theorem len64_ok {n : Nat} {σ : St} (hn : n < 1000) : ACalls Tryz.prog n_len64 [.int .u64 (n : Int)] σ (fun v σ' => v = .int .i64 (lenN n : Int) ∧ σ' = σ) := by
  refine s_len64 (fun wf => ?_)
  unfold c_len64
  have f1 : decide ((n : Int) ≥ 4294967296) = false := decide_eq_false (by omega)
  have f2 : decide ((n : Int) ≥ 65536) = false := decide_eq_false (by omega)
  refine T.seq_k (fun K_h0 h0 => ?_)
  refine T.regi hm ?_
  simp only [↓reduceIte, namesOf, List.any, I.names, aopsI, astep, ev, setd, List.set, List.cons_append, List.nil_append, List.length_cons, List.length_nil, List.replicate, then_normal, Bool.or_false, Bool.false_eq_true, up_zero, Nat.reduceAdd, Nat.reduceSub]
  refine h0 _ _ ?_
  try clear h0 K_h0
  refine T.seq_k (fun K_h1 h1 => ?_)
  refine T.seq_k (fun K_h0 h0 => ?_)
  refine T.regi hm ?_
  simp only [↓reduceIte, namesOf, List.any, I.names, aopsI, astep, ev, setd, List.set, List.getD, List.getElem?_cons_zero, List.getElem?_cons_succ, then_normal, Option.getD_some, Bool.or_false, Bool.false_eq_true, up_zero, binv, ↓opt_def, eq_self, f1]
  refine h0 _ _ ?_
  try clear h0 K_h0
  refine T.cond rfl (fun h => by cases h) (fun _ => T.skip ?_)
  refine h1 _ _ ?_
  try clear h1 K_h1
  refine T.seq_k (fun K_h1 h1 => ?_)
  refine T.seq_k (fun K_h0 h0 => ?_)
  refine T.regi hm ?_
  simp only [↓reduceIte, namesOf, List.any, I.names, aopsI, astep, ev, setd, List.set, List.getD, List.getElem?_cons_zero, List.getElem?_cons_succ, then_normal, Option.getD_some, Bool.or_false, Bool.false_eq_true, up_zero, binv, ↓opt_def, eq_self, f2]
  refine h0 _ _ ?_
  try clear h0 K_h0
  refine T.cond rfl (fun h => by cases h) (fun _ => T.skip ?_)
  refine h1 _ _ ?_
  try clear h1 K_h1
  refine T.seq_k (fun K_h1 h1 => ?_)
  have key : ∀ (q b : Nat) (ρ' : List AV), q < 256 → b + (sLen8.data.toList.getD q 0).toNat = lenN n → keep [0, 2] 0 ρ' = [.int .u64 (q : Int), .any, .int .i64 (b : Int)] ++ List.replicate 22 .any → K_h1 ρ' σ := by
    intro q b ρ' hq hb hk
    have hle := lenN_le n hn
    refine h1 _ _ ?_
    refine T.gh (Gh.keep [0, 2]) ?_
    rw [hk]
    have w1 : IntKind.u8.wrap (q : Int) = (q : Int) := by simp [IntKind.wrap, IntKind.bits, IntKind.signed]; omega
    have i1 : (q : Int) < (sLen8.size : Int) := by rw [sLen8_size]; omega
    have hg := len8_get q hq
    have hb8 := (sLen8.data.toList.getD q 0).toNat_lt
    generalize sLen8.data.toList.getD q 0 = x at hg hb hb8
    have w2 : IntKind.i64.wrap ((x.toNat : Nat) : Int) = ((x.toNat : Nat) : Int) := wrap64 (by omega) (by omega)
    have w3 : IntKind.i64.wrap ((b : Int) + ((x.toNat : Nat) : Int)) = (lenN n : Int) := by rw [wrap64 (by omega) (by omega)]; omega
    refine T.seq_k (fun K_h0 h0 => ?_)
    refine T.regi hm ?_
    simp only [↓reduceIte, namesOf, List.any, I.names, aopsI, astep, ev, setd, List.set, List.getD, List.getElem?_cons_zero, List.getElem?_cons_succ, List.cons_append, List.nil_append, List.replicate, then_normal, Option.getD_some, Bool.or_false, Bool.false_eq_true, up_zero, binv, ↓opt_def, Int.natCast_nonneg, Int.toNat_natCast, eq_self, w1, i1, hg, w2, w3, and_self]
    refine h0 _ _ ?_
    try clear h0 K_h0
    exact T.ret (Fin.ret rfl ⟨rfl, rfl⟩)
  by_cases h256 : n < 256
  · have f3 : decide ((n : Int) ≥ 256) = false := decide_eq_false (by omega)
    refine T.seq_k (fun K_h0 h0 => ?_)
    refine T.regi hm ?_
    simp only [↓reduceIte, namesOf, List.any, I.names, aopsI, astep, ev, setd, List.set, List.getD, List.getElem?_cons_zero, List.getElem?_cons_succ, then_normal, Option.getD_some, Bool.or_false, Bool.false_eq_true, up_zero, binv, ↓opt_def, eq_self, f3]
    refine h0 _ _ ?_
    try clear h0 K_h0
    refine T.cond rfl (fun h => by cases h) (fun _ => T.skip ?_)
    exact key n 0 _ h256 (by unfold lenN; rw [if_pos h256]; omega) rfl
  · have f3 : decide ((n : Int) ≥ 256) = true := decide_eq_true (by omega)
    have s8 : ¬ ((8 : Int) < 0) := by decide
    have e8 : Int.fdiv (n : Int) (2 ^ min (8 : Int).toNat IntKind.u64.bits) = ((n / 256 : Nat) : Int) := u64_shr n 8 (by omega)
    have w8 : IntKind.i64.wrap (0 + 8) = ((8 : Nat) : Int) := by decide
    refine T.seq_k (fun K_h0 h0 => ?_)
    refine T.regi hm ?_
    simp only [↓reduceIte, namesOf, List.any, I.names, aopsI, astep, ev, setd, List.set, List.getD, List.getElem?_cons_zero, List.getElem?_cons_succ, then_normal, Option.getD_some, Bool.or_false, Bool.false_eq_true, up_zero, binv, ↓opt_def, eq_self, f3]
    refine h0 _ _ ?_
    try clear h0 K_h0
    refine T.cond rfl (fun _ => ?_) (fun h => by cases h)
    refine T.seq_k (fun K_h0 h0 => ?_)
    refine T.regi hm ?_
    simp only [↓reduceIte, namesOf, List.any, I.names, aopsI, astep, ev, setd, List.set, List.getD, List.getElem?_cons_zero, List.getElem?_cons_succ, then_normal, Option.getD_some, Bool.or_false, Bool.false_eq_true, up_zero, binv, ↓opt_def, eq_self, s8, e8]
    refine h0 _ _ ?_
    try clear h0 K_h0
    refine T.regi hm ?_
    simp only [↓reduceIte, namesOf, List.any, I.names, aopsI, astep, ev, setd, List.set, List.getD, List.getElem?_cons_zero, List.getElem?_cons_succ, then_normal, Option.getD_some, Bool.or_false, Bool.false_eq_true, up_zero, binv, ↓opt_def, eq_self, w8]
    exact key (n / 256) 8 _ (by omega) (by unfold lenN; rw [if_neg h256]) rfl

theorem l10p2_ok {x : Nat} {σ : St} (hx : x ≤ 64) : ACalls Tryz.prog n_l10p2 [.int .i64 (x : Int)] σ (fun v σ' => v = .int .i64 ((x * 78913 / 262144 : Nat) : Int) ∧ σ' = σ) := by
  refine s_l10p2 (fun wf => ?_)
  unfold c_l10p2
  have w1 : IntKind.i64.wrap ((x : Int) * 78913) = ((x * 78913 : Nat) : Int) := by rw [wrap64 (by omega) (by omega)]; omega
  have s1 : ¬ ((18 : Int) < 0) := by decide
  have e1 : Int.fdiv ((x * 78913 : Nat) : Int) (2 ^ min (18 : Int).toNat IntKind.i64.bits) = ((x * 78913 / 262144 : Nat) : Int) := u64_shr (x * 78913) 18 (by omega)
  refine T.seq_k (fun K_h0 h0 => ?_)
  refine T.regi hm ?_
  simp only [↓reduceIte, namesOf, List.any, I.names, aopsI, astep, ev, setd, List.set, List.cons_append, List.nil_append, List.length_cons, List.length_nil, List.replicate, then_normal, Bool.or_false, Bool.false_eq_true, up_zero, Nat.reduceAdd, Nat.reduceSub]
  refine h0 _ _ ?_
  try clear h0 K_h0
  refine T.seq_k (fun K_h0 h0 => ?_)
  refine T.regi hm ?_
  simp only [↓reduceIte, namesOf, List.any, I.names, aopsI, astep, ev, setd, List.set, List.getD, List.getElem?_cons_zero, List.getElem?_cons_succ, then_normal, Option.getD_some, Bool.or_false, Bool.false_eq_true, up_zero, binv, ↓opt_def, eq_self, w1, s1, e1]
  refine h0 _ _ ?_
  try clear h0 K_h0
  exact T.ret (Fin.ret rfl ⟨rfl, rfl⟩)

theorem bool2i_ok {b : Bool} {σ : St} : ACalls Tryz.prog n_bool2i [.bool b] σ (fun v σ' => v = .int .i64 (if b then 1 else 0) ∧ σ' = σ) := by
  refine s_bool2i (fun wf => ?_)
  unfold c_bool2i
  refine T.seq_k (fun K_h0 h0 => ?_)
  refine T.regi hm ?_
  simp only [↓reduceIte, namesOf, List.any, I.names, aopsI, astep, ev, setd, List.set, List.cons_append, List.nil_append, List.length_cons, List.length_nil, List.replicate, then_normal, Bool.or_false, Bool.false_eq_true, up_zero, Nat.reduceAdd, Nat.reduceSub]
  refine h0 _ _ ?_
  try clear h0 K_h0
  refine T.seq_k (fun K_h1 h1 => ?_)
  cases b with
  | true =>
    refine T.seq_k (fun K_h0 h0 => ?_)
    refine T.regi hm ?_
    simp only [↓reduceIte, namesOf, List.any, I.names, aopsI, astep, ev, setd, List.set, List.getD, List.getElem?_cons_zero, then_normal, Option.getD_some, Bool.or_false, Bool.false_eq_true, up_zero, eq_self]
    refine h0 _ _ ?_
    try clear h0 K_h0
    refine T.cond rfl (fun _ => ?_) (fun h => by cases h)
    refine T.seq_k (fun K_h0 h0 => ?_)
    refine T.regi hm ?_
    simp only [↓reduceIte, namesOf, List.any, I.names, aopsI, astep, ev, setd, List.set, then_normal, Bool.or_false, Bool.false_eq_true, up_zero, eq_self]
    refine h0 _ _ ?_
    try clear h0 K_h0
    exact T.ret (Fin.ret rfl ⟨rfl, rfl⟩)
  | false =>
    refine T.seq_k (fun K_h0 h0 => ?_)
    refine T.regi hm ?_
    simp only [↓reduceIte, namesOf, List.any, I.names, aopsI, astep, ev, setd, List.set, List.getD, List.getElem?_cons_zero, then_normal, Option.getD_some, Bool.or_false, Bool.false_eq_true, up_zero]
    refine h0 _ _ ?_
    try clear h0 K_h0
    refine T.cond rfl (fun h => by cases h) (fun _ => T.skip ?_)
    refine h1 _ _ ?_
    try clear h1 K_h1
    refine T.seq_k (fun K_h0 h0 => ?_)
    refine T.regi hm ?_
    simp only [↓reduceIte, namesOf, List.any, I.names, aopsI, astep, ev, setd, List.set, then_normal, Bool.or_false, Bool.false_eq_true, up_zero]
    refine h0 _ _ ?_
    try clear h0 K_h0
    exact T.ret (Fin.ret rfl ⟨rfl, rfl⟩)

theorem numd_ok {n : Nat} {σ : St} (hT : Tabs σ) (hge : 100 ≤ n) (hn : n < 1000) : ACalls Tryz.prog n_numd [.int .u64 (n : Int)] σ (fun v σ' => v = .int .i64 3 ∧ σ' = σ) := by
  refine s_numd (fun wf => ?_)
  unfold c_numd
  refine T.seq_k (fun K_h0 h0 => ?_)
  refine T.regi hm ?_
  simp only [↓reduceIte, namesOf, List.any, I.names, aopsI, astep, ev, setd, List.set, List.cons_append, List.nil_append, List.length_cons, List.length_nil, List.replicate, then_normal, Bool.or_false, Bool.false_eq_true, up_zero, Nat.reduceAdd, Nat.reduceSub]
  refine h0 _ _ ?_
  try clear h0 K_h0
  refine T.seq_k (fun K_h1 h1 => ?_)
  refine T.regi hm ?_
  simp only [↓reduceIte, namesOf, List.any, I.names, aopsI, astep, ev, setd, List.set, List.getD, List.getElem?_cons_zero, List.getElem?_cons_succ, then_normal, Option.getD_some, Bool.or_false, Bool.false_eq_true, up_zero, List.map_cons, List.map_nil]
  refine (len64_ok hn).mono ?_
  rintro v σ1 ⟨rfl, rfl⟩
  try simp only [↓reduceIte, namesOf, List.any, I.names, aops, aopsI, aopsT, qstep, CPt, qget, Tbl.get, astep, ev, setd, List.set, List.getD, List.getElem?_cons_zero, List.getElem?_cons_succ, List.getElem?_nil, List.cons_append, List.nil_append, List.length_cons, List.length_nil, List.replicate, then_normal, inBlock_normal, Option.getD_some, Option.getD_none, Bool.or_false, Bool.or_true, Bool.true_or, Bool.false_or, Bool.false_eq_true, if_false, if_true, up_zero, Nat.reduceAdd, Nat.reduceSub, binv, ↓opt_def, AV.isAny, AV.cells, ldc, List.map_cons, List.map_nil, St.set_next, St.set_same, St.up_next, Int.natCast_nonneg, lt_len, le_len, Int.toNat_natCast, true_and, and_true, eq_self, reduceCtorEq, decide_true, List.length_singleton, er_int, er_bool, er_str, srcR, up_zero]
  refine (l10p2_ok (lenN_le n hn)).mono ?_
  rintro v σ1 ⟨rfl, rfl⟩
  rw [lenN_log n hn hge]
  have hp := hT.p10
  obtain ⟨q, hq, hq2⟩ : ∃ q : Nat, (if n < 512 then 2 else 3) = q ∧ (q = 2 ∨ q = 3 ∧ 512 ≤ n) := ⟨_, rfl, by split; exact .inl rfl; exact .inr ⟨rfl, by omega⟩⟩
  rw [hq]
  clear hq
  have g1 : (q : Int) < ((20 : Nat) : Int) := by omega
  have g3 : q * 1 ≤ pow10L.length := by rw [show pow10L.length = 20 from rfl]; omega
  have g4 : (List.drop (q * 1) pow10L)[0]? = some (.int .u64 ((10 ^ q : Nat) : Int)) := by rcases hq2 with rfl | ⟨rfl, _⟩ <;> rfl
  have w1 : IntKind.i64.wrap ((q : Int) + (if decide ((n : Int) ≥ ((10 ^ q : Nat) : Int)) = true then 1 else 0)) = 3 := by
    rcases hq2 with rfl | ⟨rfl, _⟩
    · have : decide ((n : Int) ≥ ((10 ^ 2 : Nat) : Int)) = true := decide_eq_true (by omega)
      rw [this]; rfl
    · have : decide ((n : Int) ≥ ((10 ^ 3 : Nat) : Int)) = false := decide_eq_false (by omega)
      rw [this]; rfl
  try simp only [↓reduceIte, namesOf, List.any, I.names, aops, aopsI, aopsT, qstep, CPt, qget, Tbl.get, astep, ev, setd, List.set, List.getD, List.getElem?_cons_zero, List.getElem?_cons_succ, List.getElem?_nil, List.cons_append, List.nil_append, List.length_cons, List.length_nil, List.replicate, then_normal, inBlock_normal, Option.getD_some, Option.getD_none, Bool.or_false, Bool.or_true, Bool.true_or, Bool.false_or, Bool.false_eq_true, if_false, if_true, up_zero, Nat.reduceAdd, Nat.reduceSub, binv, ↓opt_def, AV.isAny, AV.cells, ldc, List.map_cons, List.map_nil, St.set_next, St.set_same, St.up_next, Int.natCast_nonneg, lt_len, le_len, Int.toNat_natCast, true_and, and_true, eq_self, reduceCtorEq, decide_true, List.length_singleton, er_int, er_bool, er_str, srcR, up_zero]
  refine h1 _ _ ?_
  try clear h1 K_h1
  refine T.seq_k (fun K_h1 h1 => ?_)
  refine T.regi hm ?_
  simp only [↓reduceIte, namesOf, List.any, I.names, aopsI, astep, ev, setd, List.set, List.getD, List.getElem?_cons_zero, List.getElem?_cons_succ, then_normal, Option.getD_some, Bool.or_false, Bool.false_eq_true, up_zero, binv, ↓opt_def, ldc, List.map_cons, List.map_nil, Int.natCast_nonneg, Int.toNat_natCast, eq_self, hp, g1, g3, g4, and_self]
  refine bool2i_ok.mono ?_
  rintro v σ1 ⟨rfl, rfl⟩
  try simp only [↓reduceIte, eq_self, w1]
  refine h1 _ _ ?_
  try clear h1 K_h1
  exact T.ret (Fin.ret rfl ⟨rfl, rfl⟩)

theorem sm_get (r : Nat) (h : r < 100) : sSmalls.data.toList[r * 2]? = some (dgc (r / 10)) ∧ sSmalls.data.toList[r * 2 + 1]? = some (dgc (r % 10)) := by
  have : ∀ r : Nat, r < 100 → sSmalls.data.toList[r * 2]? = some (dgc (r / 10)) ∧ sSmalls.data.toList[r * 2 + 1]? = some (dgc (r % 10)) := by decide +kernel
  exact this r h

theorem dg3 (n : Nat) (h : n < 1000) : dg 10 3 n = [dgc (n / 100), dgc (n % 100 / 10), dgc (n % 100 % 10)] := by
  have e1 : n / 10 % 10 = n % 100 / 10 := by omega
  have e2 : n % 10 = n % 100 % 10 := by omega
  have e3 : n / 10 / 10 % 10 = n / 100 := by omega
  show [] ++ [dgc (n / 10 / 10 % 10)] ++ [dgc (n / 10 % 10)] ++ [dgc (n % 10)] = _
  rw [e1, e2, e3]; rfl

theorem dgc10 (d : Nat) (h : d < 10) : ((dgc d).toNat : Int) = ((48 + d : Nat) : Int) := by
  have : ∀ d : Nat, d < 10 → (dgc d).toNat = 48 + d := by decide
  rw [this d h]

theorem u32w {n : Nat} (h : n < 4294967296) : IntKind.u32.wrap (n : Int) = (n : Int) := by
  simp [IntKind.wrap, IntKind.bits, IntKind.signed]; omega

set_option maxRecDepth 10000 in
set_option maxHeartbeats 1000000 in
theorem fb10_ok {m n : Nat} {σ : St} (hn : n < 1000) (hob : σ.res m = some (.obj (zeros 24 (.int .u8 0)))) :
    ACalls Tryz.prog n_fb10 [.ref m 0 3, .int .u64 (n : Int)] σ (fun v σ' => v = .tup [] ∧ σ' = σ.set m (.obj (bytesAV (dg 10 3 n) ++ zeros 21 (.int .u8 0)))) := by
  refine s_fb10 (fun wf => ?_)
  unfold c_fb10
  refine T.seq_k (fun K_h0 h0 => ?_)
  refine T.regi hm ?_
  simp only [↓reduceIte, namesOf, List.any, I.names, aopsI, astep, ev, setd, List.set, List.getD, List.getElem?_cons_zero, List.getElem?_cons_succ, List.cons_append, List.nil_append, List.length_cons, List.length_nil, List.replicate, then_normal, Option.getD_some, Bool.or_false, Bool.false_eq_true, up_zero, Nat.reduceAdd, Nat.reduceSub]
  refine h0 _ _ ?_
  try clear h0 K_h0
  refine T.seq_k (fun K_h1 h1 => ?_)
  refine T.block ?_
  refine T.gh (Gh.keep [0, 1, 4]) ?_
  refine T.loopi (fun j ρ t => t = σ ∧ ρ = [.ref m 0 3, .int .u64 (n : Int), .any, .any, .int .i64 ((3 : Nat) : Int)] ++ List.replicate 162 .any) 0 0 (Nat.le_refl _) ⟨rfl, rfl⟩ ?_
  rintro j ρ t hj ⟨rfl, rfl⟩
  refine T.seq_k (fun K_h2 h2 => ?_)
  have f1 : decide (((3 : Nat) : Int) ≥ 8) = false := rfl
  refine T.seq_k (fun K_h0 h0 => ?_)
  refine T.regi hm ?_
  simp only [↓reduceIte, namesOf, List.any, I.names, aopsI, astep, ev, setd, List.set, List.getD, List.getElem?_cons_zero, List.getElem?_cons_succ, List.cons_append, List.nil_append, List.replicate, then_normal, Option.getD_some, Bool.or_false, Bool.false_eq_true, up_zero, binv, ↓opt_def, eq_self, f1]
  refine h0 _ _ ?_
  try clear h0 K_h0
  refine T.cond rfl (fun h => by cases h) (fun _ => T.exit ?_)
  try simp only [List.cons_append, List.nil_append, List.replicate, then_normal, inBlock_exit, then_exit]
  refine h1 _ _ ?_
  try clear h1 K_h1
  have w1 : IntKind.u32.wrap (n : Int) = (n : Int) := u32w (by omega)
  refine T.seq_k (fun K_h0 h0 => ?_)
  refine T.regi hm ?_
  simp only [↓reduceIte, namesOf, List.any, I.names, aopsI, astep, ev, setd, List.set, List.getD, List.getElem?_cons_zero, List.getElem?_cons_succ, then_normal, Option.getD_some, Bool.or_false, Bool.false_eq_true, up_zero, w1]
  refine h0 _ _ ?_
  try clear h0 K_h0
  refine T.seq_k (fun K_h1 h1 => ?_)
  have f2 : decide (((3 : Nat) : Int) ≥ 4) = false := rfl
  refine T.seq_k (fun K_h0 h0 => ?_)
  refine T.regi hm ?_
  simp only [↓reduceIte, namesOf, List.any, I.names, aopsI, astep, ev, setd, List.set, List.getD, List.getElem?_cons_zero, List.getElem?_cons_succ, then_normal, Option.getD_some, Bool.or_false, Bool.false_eq_true, up_zero, binv, ↓opt_def, eq_self, f2]
  refine h0 _ _ ?_
  try clear h0 K_h0
  refine T.cond rfl (fun h => by cases h) (fun _ => T.skip ?_)
  refine h1 _ _ ?_
  try clear h1 K_h1
  refine T.seq_k (fun K_h1 h1 => ?_)
  have f3 : decide (((3 : Nat) : Int) ≥ 2) = true := rfl
  refine T.seq_k (fun K_h0 h0 => ?_)
  refine T.regi hm ?_
  simp only [↓reduceIte, namesOf, List.any, I.names, aopsI, astep, ev, setd, List.set, List.getD, List.getElem?_cons_zero, List.getElem?_cons_succ, then_normal, Option.getD_some, Bool.or_false, Bool.false_eq_true, up_zero, binv, ↓opt_def, eq_self, f3]
  refine h0 _ _ ?_
  try clear h0 K_h0
  refine T.cond rfl (fun _ => ?_) (fun h => by cases h)
  have z1 : ((100 : Int) = 0) = False := eq_false (by decide)
  have w2 : IntKind.u32.wrap (((n % 100 : Nat) : Int) * 2) = ((n % 100 * 2 : Nat) : Int) := by
    rw [show ((n % 100 : Nat) : Int) * 2 = ((n % 100 * 2 : Nat) : Int) by omega]; exact u32w (by omega)
  have m1 : (n : Int).tmod 100 = ((n % 100 : Nat) : Int) := tmodN n 100
  have m2 : (n : Int).tdiv 100 = ((n / 100 : Nat) : Int) := tdivN n 100
  have w3 : IntKind.u32.wrap ((n / 100 : Nat) : Int) = ((n / 100 : Nat) : Int) := u32w (by omega)
  refine T.seq_k (fun K_h0 h0 => ?_)
  refine T.regi hm ?_
  simp only [↓reduceIte, namesOf, List.any, I.names, aopsI, astep, ev, setd, List.set, List.getD, List.getElem?_cons_zero, List.getElem?_cons_succ, then_normal, Option.getD_some, Bool.or_false, Bool.false_eq_true, up_zero, binv, ↓opt_def, eq_self, z1, m1, w2]
  refine h0 _ _ ?_
  try clear h0 K_h0
  refine T.seq_k (fun K_h0 h0 => ?_)
  refine T.regi hm ?_
  simp only [↓reduceIte, namesOf, List.any, I.names, aopsI, astep, ev, setd, List.set, List.getD, List.getElem?_cons_zero, List.getElem?_cons_succ, then_normal, Option.getD_some, Bool.or_false, Bool.false_eq_true, up_zero, binv, ↓opt_def, eq_self, z1, m2, w3]
  refine h0 _ _ ?_
  try clear h0 K_h0
  have hr100 : n % 100 < 100 := Nat.mod_lt _ (by omega)
  obtain ⟨g1, g2⟩ := sm_get (n % 100) hr100
  have w4 : IntKind.u32.wrap (((n % 100 * 2 : Nat) : Int) + 1) = ((n % 100 * 2 + 1 : Nat) : Int) := by
    rw [show ((n % 100 * 2 : Nat) : Int) + 1 = ((n % 100 * 2 + 1 : Nat) : Int) by omega]; exact u32w (by omega)
  have i1 : ((n % 100 * 2 : Nat) : Int) < (sSmalls.size : Int) := by rw [sSmalls_size]; omega
  have i2 : ((n % 100 * 2 + 1 : Nat) : Int) < (sSmalls.size : Int) := by rw [sSmalls_size]; omega
  have v1 : IntKind.i64.wrap (((3 : Nat) : Int) - 1) = ((2 : Nat) : Int) := by decide
  have v2 : IntKind.i64.wrap (((3 : Nat) : Int) - 2) = ((1 : Nat) : Int) := by decide
  have k1 : ((2 : Nat) : Int) < ((3 : Nat) : Int) := by decide
  have k2 : ((1 : Nat) : Int) < ((3 : Nat) : Int) := by decide
  have k3 : (0 : Int) < ((3 : Nat) : Int) := by decide
  generalize hd1 : dgc (n % 100 / 10) = d1 at g1
  generalize hd0 : dgc (n % 100 % 10) = d0 at g2
  generalize hr : n % 100 * 2 = r at g1 g2 i1 i2 w2 w4 ⊢
  have z24 : (zeros 24 (AV.int .u8 0)).length = 24 := rfl
  have z21 : (zeros 21 (AV.int .u8 0)).length = 21 := rfl
  have p1 : splice (zeros 24 (AV.int .u8 0)) 2 [.int .u8 (d0.toNat : Int)] = .int .u8 0 :: .int .u8 0 :: .int .u8 (d0.toNat : Int) :: zeros 21 (.int .u8 0) := rfl
  have p2 : splice (AV.int .u8 0 :: .int .u8 0 :: .int .u8 (d0.toNat : Int) :: zeros 21 (.int .u8 0)) 1 [.int .u8 (d1.toNat : Int)] = .int .u8 0 :: .int .u8 (d1.toNat : Int) :: .int .u8 (d0.toNat : Int) :: zeros 21 (.int .u8 0) := rfl
  have p3 : ∀ y : AV, splice (AV.int .u8 0 :: .int .u8 (d1.toNat : Int) :: .int .u8 (d0.toNat : Int) :: zeros 21 (.int .u8 0)) 0 [y] = y :: .int .u8 (d1.toNat : Int) :: .int .u8 (d0.toNat : Int) :: zeros 21 (.int .u8 0) := fun _ => rfl
  refine T.seq_k (fun K_h0 h0 => ?_)
  refine T.regi hm ?_
  simp only [↓reduceIte, namesOf, List.any, I.names, aopsI, astep, ev, setd, List.set, List.getD, List.getElem?_cons_zero, List.getElem?_cons_succ, List.length_cons, List.length_nil, then_normal, Option.getD_some, Bool.or_false, Bool.false_eq_true, up_zero, Nat.reduceAdd, binv, ↓opt_def, AV.isAny, AV.cells, St.set_same, Int.natCast_nonneg, Int.toNat_natCast, eq_self, decide_true, w4, i1, i2, g1, g2, v1, v2, k1, k2, hob, z24, z21, p1, p2, AV.fits, AV.one, List.all_cons, List.all_nil, Nat.reduceBEq, Bool.not_false, Bool.and_self, Nat.zero_add, Nat.mul_one, Nat.reduceLeDiff, and_self, St.set_set]
  refine h0 _ _ ?_
  try clear h0 K_h0
  refine T.regi hm ?_
  simp only [↓reduceIte, namesOf, List.any, I.names, aopsI, astep, ev, setd, List.set, List.getD, List.getElem?_cons_zero, List.getElem?_cons_succ, then_normal, Option.getD_some, Bool.or_false, Bool.false_eq_true, up_zero, binv, ↓opt_def, eq_self, v2]
  refine h1 _ _ ?_
  try clear h1 K_h1
  refine T.seq_k (fun K_h1 h1 => ?_)
  have f4 : decide (((1 : Nat) : Int) > 0) = true := rfl
  have w5 : IntKind.u32.wrap (48 + ((n / 100 : Nat) : Int)) = ((48 + n / 100 : Nat) : Int) := by
    rw [show 48 + ((n / 100 : Nat) : Int) = ((48 + n / 100 : Nat) : Int) by omega]; exact u32w (by omega)
  have w6 : IntKind.u8.wrap ((48 + n / 100 : Nat) : Int) = ((48 + n / 100 : Nat) : Int) := by
    simp [IntKind.wrap, IntKind.bits, IntKind.signed]; omega
  refine T.regi hm ?_
  simp only [↓reduceIte, namesOf, List.any, I.names, aopsI, astep, ev, setd, List.set, List.getD, List.getElem?_cons_zero, List.getElem?_cons_succ, then_normal, Option.getD_some, Bool.or_false, Bool.false_eq_true, up_zero, binv, ↓opt_def, eq_self, f4]
  refine h1 _ _ ?_
  try clear h1 K_h1
  refine T.cond rfl (fun _ => ?_) (fun h => by cases h)
  refine T.regi hm ?_
  simp only [↓reduceIte, namesOf, List.any, I.names, aopsI, astep, ev, setd, List.set, List.getD, List.getElem?_cons_zero, List.getElem?_cons_succ, List.length_cons, List.length_nil, Option.getD_some, Bool.or_false, Bool.false_eq_true, up_zero, Nat.reduceAdd, binv, ↓opt_def, AV.isAny, AV.cells, St.set_same, eq_self, decide_true, w5, w6, k3, z21, p3, AV.fits, AV.one, List.all_cons, List.all_nil, Nat.reduceBEq, Bool.not_false, Bool.and_self, Nat.zero_add, Nat.mul_one, Nat.reduceLeDiff, and_self, St.set_set, Int.le_refl, Int.toNat_zero]
  refine Fin.retn rfl ⟨rfl, ?_⟩
  rw [dg3 n hn, hd1, hd0]
  have e3 := dgc10 (n / 100) (by omega)
  simp only [bytesAV, List.map_cons, List.map_nil, List.cons_append, List.nil_append, e3]

end Go.VL

namespace Go.VL

open Go.Proofs

theorem sz_mk (l : List UInt8) : (⟨l.toArray⟩ : ByteArray).size = l.length := by simp [ByteArray.size]

theorem sb_add {a b : List UInt8} (h : a.length + b.length ≤ 4000000000) : sbinv .add ⟨a.toArray⟩ ⟨b.toArray⟩ = some (.str ⟨(a ++ b).toArray⟩) := by
  have e : (⟨a.toArray⟩ : ByteArray) ++ ⟨b.toArray⟩ = ⟨(a ++ b).toArray⟩ := by
    apply ByteArray.ext
    simp [ByteArray.data_append]
  simp only [sbinv, sz_mk, e]
  have hm : ¬ ((a.length + b.length : Nat) : Int) > IntKind.i64.max := by
    have : IntKind.i64.max = 9223372036854775807 := by decide
    omega
  rw [if_neg hm]

theorem ifmtU16_ok {n : Nat} {σ : St} (hT : Tabs σ) (hn : n < 18446744073709551616) : ACalls Tryz.prog n_ifmtU [.int .u64 (n : Int), .int .i64 16] σ (fun v σ' => Writ 16 n 16 v ∧ σ' = σ) := by
  refine s_ifmtU (fun wf => ?_)
  unfold c_ifmtU
  have e1 : ((16 : Int) == 10) = false := rfl
  refine T.seq_k (fun K_h0 h0 => ?_)
  refine T.regi hm ?_
  simp only [↓reduceIte, namesOf, List.any, I.names, aopsI, astep, ev, setd, List.set, List.cons_append, List.nil_append, List.length_cons, List.length_nil, List.replicate, then_normal, Bool.or_false, Bool.false_eq_true, up_zero, Nat.reduceAdd, Nat.reduceSub]
  refine h0 _ _ ?_
  try clear h0 K_h0
  refine T.seq_k (fun K_h1 h1 => ?_)
  refine T.seq_k (fun K_h0 h0 => ?_)
  refine T.regi hm ?_
  simp only [↓reduceIte, namesOf, List.any, I.names, aopsI, astep, ev, setd, List.set, List.getD, List.getElem?_cons_zero, List.getElem?_cons_succ, then_normal, Option.getD_some, Bool.or_false, Bool.false_eq_true, up_zero, binv, ↓opt_def, eq_self, e1]
  refine h0 _ _ ?_
  try clear h0 K_h0
  refine T.cond rfl (fun h => by cases h) (fun _ => T.skip ?_)
  refine h1 _ _ ?_
  try clear h1 K_h1
  refine T.seq_k (fun K_h1 h1 => ?_)
  refine T.regi hm ?_
  simp only [↓reduceIte, namesOf, List.any, I.names, aopsI, astep, ev, setd, List.set, List.getD, List.getElem?_cons_zero, List.getElem?_cons_succ, then_normal, Option.getD_some, Bool.or_false, Bool.false_eq_true, up_zero, ↓opt_def, List.map_cons, List.map_nil]
  refine (fbits_ok hT hn).mono ?_
  rintro v σ1 ⟨⟨k, k1, k2, k3, rfl⟩, rfl⟩
  try simp only [List.getElem?_cons_zero, List.getElem?_cons_succ]
  refine h1 _ _ ?_
  try clear h1 K_h1
  refine T.seq_k (fun K_h0 h0 => ?_)
  refine T.regi hm ?_
  simp only [↓reduceIte, namesOf, List.any, I.names, aopsI, astep, ev, setd, List.set, List.getD, List.getElem?_cons_zero, List.getElem?_cons_succ, then_normal, Option.getD_some, Bool.or_false, Bool.false_eq_true, up_zero]
  refine h0 _ _ ?_
  try clear h0 K_h0
  exact T.ret (Fin.ret rfl ⟨⟨k, k1, k2, k3, rfl⟩, rfl⟩)

set_option maxRecDepth 10000 in
theorem ifmtU10_ok {n : Nat} {σ : St} (hT : Tabs σ) (hn : n < 1000) : ACalls Tryz.prog n_ifmtU [.int .u64 (n : Int), .int .i64 10] σ (fun v σ' => Writ 10 n 3 v ∧ σ' = σ) := by
  refine s_ifmtU (fun wf => ?_)
  unfold c_ifmtU
  have e1 : ((10 : Int) == 10) = true := rfl
  refine T.seq_k (fun K_h0 h0 => ?_)
  refine T.regi hm ?_
  simp only [↓reduceIte, namesOf, List.any, I.names, aopsI, astep, ev, setd, List.set, List.cons_append, List.nil_append, List.length_cons, List.length_nil, List.replicate, then_normal, Bool.or_false, Bool.false_eq_true, up_zero, Nat.reduceAdd, Nat.reduceSub]
  refine h0 _ _ ?_
  try clear h0 K_h0
  refine T.seq_k (fun K_h1 h1 => ?_)
  refine T.seq_k (fun K_h0 h0 => ?_)
  refine T.regi hm ?_
  simp only [↓reduceIte, namesOf, List.any, I.names, aopsI, astep, ev, setd, List.set, List.getD, List.getElem?_cons_zero, List.getElem?_cons_succ, then_normal, Option.getD_some, Bool.or_false, Bool.false_eq_true, up_zero, binv, ↓opt_def, eq_self, e1]
  refine h0 _ _ ?_
  try clear h0 K_h0
  refine T.cond rfl (fun _ => ?_) (fun h => by cases h)
  refine T.seq_k (fun K_h1 h1 => ?_)
  by_cases h100 : n < 100
  · have f1 : decide ((n : Int) < 100) = true := decide_eq_true (by omega)
    have w1 : IntKind.i64.wrap (n : Int) = (n : Int) := wrap64 (by omega) (by omega)
    refine T.seq_k (fun K_h0 h0 => ?_)
    refine T.regi hm ?_
    simp only [↓reduceIte, namesOf, List.any, I.names, aopsI, astep, ev, setd, List.set, List.getD, List.getElem?_cons_zero, List.getElem?_cons_succ, then_normal, Option.getD_some, Bool.or_false, Bool.false_eq_true, up_zero, binv, ↓opt_def, eq_self, f1]
    refine h0 _ _ ?_
    try clear h0 K_h0
    refine T.cond rfl (fun _ => ?_) (fun h => by cases h)
    refine T.seq_k (fun K_h2 h2 => ?_)
    refine T.regi hm ?_
    simp only [↓reduceIte, namesOf, List.any, I.names, aopsI, astep, ev, setd, List.set, List.getD, List.getElem?_cons_zero, List.getElem?_cons_succ, then_normal, Option.getD_some, Bool.or_false, Bool.false_eq_true, up_zero, List.map_cons, List.map_nil, w1]
    refine (ismall_ok h100).mono ?_
    rintro v σ1 ⟨hv, rfl⟩
    try simp only [↓reduceIte, namesOf, List.any, I.names, aops, aopsI, aopsT, qstep, CPt, qget, Tbl.get, astep, ev, setd, List.set, List.getD, List.getElem?_cons_zero, List.getElem?_cons_succ, List.getElem?_nil, List.cons_append, List.nil_append, List.length_cons, List.length_nil, List.replicate, then_normal, inBlock_normal, Option.getD_some, Option.getD_none, Bool.or_false, Bool.or_true, Bool.true_or, Bool.false_or, Bool.false_eq_true, if_false, if_true, up_zero, Nat.reduceAdd, Nat.reduceSub, binv, ↓opt_def, AV.isAny, AV.cells, ldc, List.map_cons, List.map_nil, St.set_next, St.set_same, St.up_next, Int.natCast_nonneg, lt_len, le_len, Int.toNat_natCast, true_and, and_true, eq_self, reduceCtorEq, decide_true, List.length_singleton, er_int, er_bool, er_str, srcR, up_zero]
    refine h2 _ _ ?_
    try clear h2 K_h2
    exact T.ret (Fin.ret rfl ⟨hv, rfl⟩)
  have f1 : decide ((n : Int) < 100) = false := decide_eq_false (by omega)
  refine T.seq_k (fun K_h0 h0 => ?_)
  refine T.regi hm ?_
  simp only [↓reduceIte, namesOf, List.any, I.names, aopsI, astep, ev, setd, List.set, List.getD, List.getElem?_cons_zero, List.getElem?_cons_succ, then_normal, Option.getD_some, Bool.or_false, Bool.false_eq_true, up_zero, binv, ↓opt_def, eq_self, f1]
  refine h0 _ _ ?_
  try clear h0 K_h0
  refine T.cond rfl (fun h => by cases h) (fun _ => T.skip ?_)
  refine h1 _ _ ?_
  try clear h1 K_h1
  refine T.seq_k (fun K_h0 h0 => ?_)
  refine T.regi hm ?_
  simp only [↓reduceIte, namesOf, List.any, I.names, aopsI, astep, setd, List.set, List.length_cons, List.length_nil, then_normal, Bool.or_false, Nat.reduceAdd, eq_self]
  refine h0 _ _ ?_
  try clear h0 K_h0
  have hm0 : ((σ.up 1).set (σ.next + 0) (.obj (zeros 24 (.int .u8 0)))).res (σ.next + 0) = some (.obj (zeros 24 (.int .u8 0))) := St.set_same _ _ _
  have hL0 : Like σ ((σ.up 1).set (σ.next + 0) (.obj (zeros 24 (.int .u8 0)))) := (Like.refl σ).box (n := 1) (i := 0) _
  generalize ((σ.up 1).set (σ.next + 0) (.obj (zeros 24 (.int .u8 0)))) = t0 at hm0 hL0 ⊢
  have hlo : σ.next ≤ σ.next + 0 := by omega
  generalize σ.next + 0 = m at hm0 hlo ⊢
  refine T.seq_k (fun K_h1 h1 => ?_)
  refine T.regi hm ?_
  simp only [↓reduceIte, namesOf, List.any, I.names, aopsI, astep, ev, setd, List.set, List.getD, List.getElem?_cons_zero, List.getElem?_cons_succ, then_normal, Option.getD_some, Bool.or_false, Bool.false_eq_true, up_zero, List.map_cons, List.map_nil]
  refine (numd_ok (hT.like wf hL0) (by omega) hn).mono ?_
  rintro v σ1 ⟨rfl, rfl⟩
  try simp only [↓reduceIte, namesOf, List.any, I.names, aops, aopsI, aopsT, qstep, CPt, qget, Tbl.get, astep, ev, setd, List.set, List.getD, List.getElem?_cons_zero, List.getElem?_cons_succ, List.getElem?_nil, List.cons_append, List.nil_append, List.length_cons, List.length_nil, List.replicate, then_normal, inBlock_normal, Option.getD_some, Option.getD_none, Bool.or_false, Bool.or_true, Bool.true_or, Bool.false_or, Bool.false_eq_true, if_false, if_true, up_zero, Nat.reduceAdd, Nat.reduceSub, binv, ↓opt_def, AV.isAny, AV.cells, ldc, List.map_cons, List.map_nil, St.set_next, St.set_same, St.up_next, Int.natCast_nonneg, lt_len, le_len, Int.toNat_natCast, true_and, and_true, eq_self, reduceCtorEq, decide_true, List.length_singleton, er_int, er_bool, er_str, srcR, up_zero]
  refine h1 _ _ ?_
  try clear h1 K_h1
  have i1 : (0 : Int) < 3 := by decide
  have i2 : (3 : Int) ≤ ((24 : Nat) : Int) := by decide
  have i3 : ((3 : Int) - 0).toNat = 3 := rfl
  refine T.seq_k (fun K_h1 h1 => ?_)
  refine T.regi hm ?_
  simp only [↓reduceIte, namesOf, List.any, I.names, aopsI, astep, ev, setd, List.set, List.getD, List.getElem?_cons_zero, List.getElem?_cons_succ, then_normal, Option.getD_some, Bool.or_false, Bool.false_eq_true, up_zero, List.map_cons, List.map_nil, idx, i1, i2, i3, Int.le_refl, and_self, Int.toNat_zero, Nat.zero_mul, Nat.add_zero]
  refine (fb10_ok hn hm0).mono ?_
  rintro v σ2 ⟨rfl, rfl⟩
  try simp only [↓reduceIte, namesOf, List.any, I.names, aops, aopsI, aopsT, qstep, CPt, qget, Tbl.get, astep, ev, setd, List.set, List.getD, List.getElem?_cons_zero, List.getElem?_cons_succ, List.getElem?_nil, List.cons_append, List.nil_append, List.length_cons, List.length_nil, List.replicate, then_normal, inBlock_normal, Option.getD_some, Option.getD_none, Bool.or_false, Bool.or_true, Bool.true_or, Bool.false_or, Bool.false_eq_true, if_false, if_true, up_zero, Nat.reduceAdd, Nat.reduceSub, binv, ↓opt_def, AV.isAny, AV.cells, ldc, List.map_cons, List.map_nil, St.set_next, St.set_same, St.up_next, Int.natCast_nonneg, lt_len, le_len, Int.toNat_natCast, true_and, and_true, eq_self, reduceCtorEq, decide_true, List.length_singleton, er_int, er_bool, er_str, srcR, up_zero]
  refine h1 _ _ ?_
  try clear h1 K_h1
  have hm1 : (σ1.set m (.obj (bytesAV (dg 10 3 n) ++ zeros 21 (.int .u8 0)))).res m = some (.obj (bytesAV (dg 10 3 n) ++ zeros 21 (.int .u8 0))) := St.set_same _ _ _
  have hl3 : (bytesAV (dg 10 3 n)).length = 3 := by rw [bytesAV_len, dg_len]
  have j2 : 0 + 3 ≤ (bytesAV (dg 10 3 n) ++ zeros 21 (AV.int .u8 0)).length := by rw [List.length_append, hl3]; omega
  have j3 : ((bytesAV (dg 10 3 n) ++ zeros 21 (AV.int .u8 0)).drop 0).take 3 = bytesAV (dg 10 3 n) := by
    rw [List.drop_zero, List.take_append_of_le_length (by omega), List.take_of_length_le (by omega)]
  refine T.seq_k (fun K_h0 h0 => ?_)
  refine T.regi hm ?_
  simp only [↓reduceIte, namesOf, List.any, I.names, aopsI, astep, ev, setd, List.set, List.getD, List.getElem?_cons_zero, List.getElem?_cons_succ, then_normal, Option.getD_some, Bool.or_false, Bool.false_eq_true, up_zero, Nat.reduceAdd, ↓opt_def, St.set_same, idx, i1, i2, i3, j2, j3, Int.le_refl, and_self, Int.toNat_zero, Nat.zero_mul, Nat.add_zero, toBytes_bytes]
  refine h0 _ _ ?_
  try clear h0 K_h0
  exact T.ret (Fin.quiet rfl trivial ((hL0.set _ hlo).quiet wf) ⟨⟨3, by omega, by omega, by omega, rfl⟩, rfl⟩)

theorem fmtU_ok {b n most : Nat} {σ : St} (hT : Tabs σ) (hb : (b = 16 ∧ most = 16 ∧ n < 18446744073709551616) ∨ (b = 10 ∧ most = 3 ∧ n < 1000)) :
    ACalls Tryz.prog n_fmtU [.int .u64 (n : Int), .int .i64 (b : Int)] σ (fun v σ' => Writ b n most v ∧ σ' = σ) := by
  refine s_fmtU (fun wf => ?_)
  unfold c_fmtU
  refine T.seq_k (fun K_h0 h0 => ?_)
  refine T.regi hm ?_
  simp only [↓reduceIte, namesOf, List.any, I.names, aopsI, astep, ev, setd, List.set, List.cons_append, List.nil_append, List.length_cons, List.length_nil, List.replicate, then_normal, Bool.or_false, Bool.false_eq_true, up_zero, Nat.reduceAdd, Nat.reduceSub]
  refine h0 _ _ ?_
  try clear h0 K_h0
  refine T.seq_k (fun K_h1 h1 => ?_)
  refine T.regi hm ?_
  simp only [↓reduceIte, namesOf, List.any, I.names, aopsI, astep, ev, setd, List.set, List.getD, List.getElem?_cons_zero, List.getElem?_cons_succ, then_normal, Option.getD_some, Bool.or_false, Bool.false_eq_true, up_zero, List.map_cons, List.map_nil]
  have key : ACalls Tryz.prog n_ifmtU [.int .u64 (n : Int), .int .i64 (b : Int)] σ (fun v σ' => Writ b n most v ∧ σ' = σ) := by
    rcases hb with ⟨rfl, rfl, hn⟩ | ⟨rfl, rfl, hn⟩
    · exact ifmtU16_ok hT hn
    · exact ifmtU10_ok hT hn
  refine key.mono ?_
  rintro v σ1 ⟨hv, rfl⟩
  try simp only [↓reduceIte, namesOf, List.any, I.names, aops, aopsI, aopsT, qstep, CPt, qget, Tbl.get, astep, ev, setd, List.set, List.getD, List.getElem?_cons_zero, List.getElem?_cons_succ, List.getElem?_nil, List.cons_append, List.nil_append, List.length_cons, List.length_nil, List.replicate, then_normal, inBlock_normal, Option.getD_some, Option.getD_none, Bool.or_false, Bool.or_true, Bool.true_or, Bool.false_or, Bool.false_eq_true, if_false, if_true, up_zero, Nat.reduceAdd, Nat.reduceSub, binv, ↓opt_def, AV.isAny, AV.cells, ldc, List.map_cons, List.map_nil, St.set_next, St.set_same, St.up_next, Int.natCast_nonneg, lt_len, le_len, Int.toNat_natCast, true_and, and_true, eq_self, reduceCtorEq, decide_true, List.length_singleton, er_int, er_bool, er_str, srcR, up_zero]
  refine h1 _ _ ?_
  try clear h1 K_h1
  exact T.ret (Fin.ret rfl ⟨hv, rfl⟩)

theorem slHasPre_ok {s p : ByteArray} {σ : St} : ACalls Tryz.prog n_slHasPre [.str s, .str p] σ (fun v σ' => v = .bool (decide (p.size ≤ s.size ∧ s.extract 0 p.size = p)) ∧ σ' = σ) := by
  refine s_slHasPre (fun wf => ?_)
  unfold c_slHasPre
  refine T.seq_k (fun K_h0 h0 => ?_)
  refine T.regi hm ?_
  simp only [↓reduceIte, namesOf, List.any, I.names, aopsI, astep, ev, setd, List.set, List.cons_append, List.nil_append, List.length_cons, List.length_nil, List.replicate, then_normal, Bool.or_false, Bool.false_eq_true, up_zero, Nat.reduceAdd, Nat.reduceSub]
  refine h0 _ _ ?_
  try clear h0 K_h0
  refine T.seq_k (fun K_h1 h1 => ?_)
  by_cases hl : p.size ≤ s.size
  · have f1 : decide ((s.size : Int) ≥ (p.size : Int)) = true := decide_eq_true (by omega)
    have i1 : (p.size : Int) ≤ (s.size : Int) := by omega
    have e : decide (p.size ≤ s.size ∧ s.extract 0 p.size = p) = decide (s.extract 0 p.size = p) := by simp [hl]
    refine T.regi hm ?_
    simp only [↓reduceIte, namesOf, List.any, I.names, aopsI, astep, ev, setd, List.set, List.getD, List.getElem?_cons_zero, List.getElem?_cons_succ, then_normal, Option.getD_some, Bool.or_false, Bool.false_eq_true, up_zero, binv, ↓opt_def, Int.natCast_nonneg, Int.toNat_natCast, eq_self, decide_true, idx, i1, Int.le_refl, and_self, Int.toNat_zero, sbinv]
    refine h1 _ _ ?_
    try clear h1 K_h1
    exact T.ret (Fin.ret rfl ⟨by rw [e]; rfl, rfl⟩)
  · have f1 : decide ((s.size : Int) ≥ (p.size : Int)) = false := decide_eq_false (by omega)
    have e : decide (p.size ≤ s.size ∧ s.extract 0 p.size = p) = false := decide_eq_false (fun h => hl h.1)
    refine T.regi hm ?_
    simp only [↓reduceIte, namesOf, List.any, I.names, aopsI, astep, ev, setd, List.set, List.getD, List.getElem?_cons_zero, List.getElem?_cons_succ, then_normal, Option.getD_some, Bool.or_false, Bool.false_eq_true, up_zero, binv, ↓opt_def, eq_self, f1]
    refine h1 _ _ ?_
    try clear h1 K_h1
    exact T.ret (Fin.ret rfl ⟨by rw [e]; rfl, rfl⟩)

theorem hasPre_ok {s p : ByteArray} {σ : St} : ACalls Tryz.prog n_hasPre [.str s, .str p] σ (fun v σ' => v = .bool (decide (p.size ≤ s.size ∧ s.extract 0 p.size = p)) ∧ σ' = σ) := by
  refine s_hasPre (fun wf => ?_)
  unfold c_hasPre
  refine T.seq_k (fun K_h0 h0 => ?_)
  refine T.regi hm ?_
  simp only [↓reduceIte, namesOf, List.any, I.names, aopsI, astep, ev, setd, List.set, List.cons_append, List.nil_append, List.length_cons, List.length_nil, List.replicate, then_normal, Bool.or_false, Bool.false_eq_true, up_zero, Nat.reduceAdd, Nat.reduceSub]
  refine h0 _ _ ?_
  try clear h0 K_h0
  refine T.seq_k (fun K_h1 h1 => ?_)
  refine T.regi hm ?_
  simp only [↓reduceIte, namesOf, List.any, I.names, aopsI, astep, ev, setd, List.set, List.getD, List.getElem?_cons_zero, List.getElem?_cons_succ, then_normal, Option.getD_some, Bool.or_false, Bool.false_eq_true, up_zero, List.map_cons, List.map_nil]
  refine slHasPre_ok.mono ?_
  rintro v σ1 ⟨rfl, rfl⟩
  try simp only [↓reduceIte, namesOf, List.any, I.names, aops, aopsI, aopsT, qstep, CPt, qget, Tbl.get, astep, ev, setd, List.set, List.getD, List.getElem?_cons_zero, List.getElem?_cons_succ, List.getElem?_nil, List.cons_append, List.nil_append, List.length_cons, List.length_nil, List.replicate, then_normal, inBlock_normal, Option.getD_some, Option.getD_none, Bool.or_false, Bool.or_true, Bool.true_or, Bool.false_or, Bool.false_eq_true, if_false, if_true, up_zero, Nat.reduceAdd, Nat.reduceSub, binv, ↓opt_def, AV.isAny, AV.cells, ldc, List.map_cons, List.map_nil, St.set_next, St.set_same, St.up_next, Int.natCast_nonneg, lt_len, le_len, Int.toNat_natCast, true_and, and_true, eq_self, reduceCtorEq, decide_true, List.length_singleton, er_int, er_bool, er_str, srcR, up_zero]
  refine h1 _ _ ?_
  try clear h1 K_h1
  exact T.ret (Fin.ret rfl ⟨rfl, rfl⟩)

theorem bmul64_ok {c : Nat} {σ : St} (hc : c ≤ 1000) : ACalls Tryz.prog n_bmul64 [.int .u64 1, .int .u64 (c : Int)] σ (fun v σ' => v = .tup [.int .u64 0, .int .u64 (c : Int)] ∧ σ' = σ) := by
  refine s_bmul64 (fun wf => ?_)
  unfold c_bmul64
  have a1 : IntKind.u64.wrap ((BitVec.ofInt IntKind.u64.bits 1 &&& BitVec.ofInt IntKind.u64.bits 4294967295).toNat : Int) = 1 := by decide +kernel
  have a0 : IntKind.u64.wrap ((BitVec.ofInt IntKind.u64.bits 0 &&& BitVec.ofInt IntKind.u64.bits 4294967295).toNat : Int) = 0 := by decide +kernel
  have ac : IntKind.u64.wrap ((BitVec.ofInt IntKind.u64.bits (c : Int) &&& BitVec.ofInt IntKind.u64.bits 4294967295).toNat : Int) = (c : Int) := by
    rw [u64_and32 (by omega)]; congr 1; exact Nat.mod_eq_of_lt (by omega)
  have b1 : Int.fdiv 1 (2 ^ min (32 : Int).toNat IntKind.u64.bits) = 0 := by decide +kernel
  have b0 : Int.fdiv 0 (2 ^ min (32 : Int).toNat IntKind.u64.bits) = 0 := by decide +kernel
  have bc : Int.fdiv (c : Int) (2 ^ min (32 : Int).toNat IntKind.u64.bits) = 0 := by
    rw [u64_shr32, Nat.div_eq_of_lt (by omega)]; rfl
  have s32 : ¬ ((32 : Int) < 0) := by decide
  have m1 : IntKind.u64.wrap (1 * (c : Int)) = (c : Int) := by rw [Int.one_mul]; exact u64w (by omega)
  have m0 : IntKind.u64.wrap (0 * (c : Int)) = 0 := by rw [Int.zero_mul]; decide
  have z0 : IntKind.u64.wrap (0 + 0) = 0 := by decide
  have z1 : IntKind.u64.wrap (1 * 0) = 0 := by decide
  have z2 : IntKind.u64.wrap (0 * 0) = 0 := by decide
  refine T.seq_k (fun K_h0 h0 => ?_)
  refine T.regi hm ?_
  simp only [↓reduceIte, namesOf, List.any, I.names, aopsI, astep, ev, setd, List.set, List.cons_append, List.nil_append, List.length_cons, List.length_nil, List.replicate, then_normal, Bool.or_false, Bool.false_eq_true, up_zero, Nat.reduceAdd, Nat.reduceSub]
  refine h0 _ _ ?_
  try clear h0 K_h0
  refine T.seq_k (fun K_h0 h0 => ?_)
  refine T.regi hm ?_
  simp only [↓reduceIte, namesOf, List.any, I.names, aopsI, astep, ev, setd, List.set, List.getD, List.getElem?_cons_zero, List.getElem?_cons_succ, then_normal, Option.getD_some, Bool.or_false, Bool.false_eq_true, up_zero, binv, ↓opt_def, eq_self, a1]
  refine h0 _ _ ?_
  try clear h0 K_h0
  refine T.seq_k (fun K_h0 h0 => ?_)
  refine T.regi hm ?_
  simp only [↓reduceIte, namesOf, List.any, I.names, aopsI, astep, ev, setd, List.set, List.getD, List.getElem?_cons_zero, List.getElem?_cons_succ, then_normal, Option.getD_some, Bool.or_false, Bool.false_eq_true, up_zero, binv, ↓opt_def, eq_self, b1, s32]
  refine h0 _ _ ?_
  try clear h0 K_h0
  refine T.seq_k (fun K_h0 h0 => ?_)
  refine T.regi hm ?_
  simp only [↓reduceIte, namesOf, List.any, I.names, aopsI, astep, ev, setd, List.set, List.getD, List.getElem?_cons_zero, List.getElem?_cons_succ, then_normal, Option.getD_some, Bool.or_false, Bool.false_eq_true, up_zero, binv, ↓opt_def, eq_self, ac]
  refine h0 _ _ ?_
  try clear h0 K_h0
  refine T.seq_k (fun K_h0 h0 => ?_)
  refine T.regi hm ?_
  simp only [↓reduceIte, namesOf, List.any, I.names, aopsI, astep, ev, setd, List.set, List.getD, List.getElem?_cons_zero, List.getElem?_cons_succ, then_normal, Option.getD_some, Bool.or_false, Bool.false_eq_true, up_zero, binv, ↓opt_def, eq_self, bc, s32]
  refine h0 _ _ ?_
  try clear h0 K_h0
  refine T.seq_k (fun K_h0 h0 => ?_)
  refine T.regi hm ?_
  simp only [↓reduceIte, namesOf, List.any, I.names, aopsI, astep, ev, setd, List.set, List.getD, List.getElem?_cons_zero, List.getElem?_cons_succ, then_normal, Option.getD_some, Bool.or_false, Bool.false_eq_true, up_zero, binv, ↓opt_def, eq_self, m1]
  refine h0 _ _ ?_
  try clear h0 K_h0
  refine T.seq_k (fun K_h0 h0 => ?_)
  refine T.regi hm ?_
  simp only [↓reduceIte, namesOf, List.any, I.names, aopsI, astep, ev, setd, List.set, List.getD, List.getElem?_cons_zero, List.getElem?_cons_succ, then_normal, Option.getD_some, Bool.or_false, Bool.false_eq_true, up_zero, binv, ↓opt_def, eq_self, m0, bc, s32, z0]
  refine h0 _ _ ?_
  try clear h0 K_h0
  refine T.seq_k (fun K_h0 h0 => ?_)
  refine T.regi hm ?_
  simp only [↓reduceIte, namesOf, List.any, I.names, aopsI, astep, ev, setd, List.set, List.getD, List.getElem?_cons_zero, List.getElem?_cons_succ, then_normal, Option.getD_some, Bool.or_false, Bool.false_eq_true, up_zero, binv, ↓opt_def, eq_self, a0]
  refine h0 _ _ ?_
  try clear h0 K_h0
  refine T.seq_k (fun K_h0 h0 => ?_)
  refine T.regi hm ?_
  simp only [↓reduceIte, namesOf, List.any, I.names, aopsI, astep, ev, setd, List.set, List.getD, List.getElem?_cons_zero, List.getElem?_cons_succ, then_normal, Option.getD_some, Bool.or_false, Bool.false_eq_true, up_zero, binv, ↓opt_def, eq_self, b0, s32]
  refine h0 _ _ ?_
  try clear h0 K_h0
  refine T.seq_k (fun K_h0 h0 => ?_)
  refine T.regi hm ?_
  simp only [↓reduceIte, namesOf, List.any, I.names, aopsI, astep, ev, setd, List.set, List.getD, List.getElem?_cons_zero, List.getElem?_cons_succ, then_normal, Option.getD_some, Bool.or_false, Bool.false_eq_true, up_zero, binv, ↓opt_def, eq_self, z1, z0]
  refine h0 _ _ ?_
  try clear h0 K_h0
  refine T.seq_k (fun K_h0 h0 => ?_)
  refine T.regi hm ?_
  simp only [↓reduceIte, namesOf, List.any, I.names, aopsI, astep, ev, setd, List.set, List.getD, List.getElem?_cons_zero, List.getElem?_cons_succ, then_normal, Option.getD_some, Bool.or_false, Bool.false_eq_true, up_zero, binv, ↓opt_def, eq_self, z2, z0, b0, s32]
  refine h0 _ _ ?_
  try clear h0 K_h0
  refine T.seq_k (fun K_h0 h0 => ?_)
  refine T.regi hm ?_
  simp only [↓reduceIte, namesOf, List.any, I.names, aopsI, astep, ev, setd, List.set, List.getD, List.getElem?_cons_zero, List.getElem?_cons_succ, then_normal, Option.getD_some, Bool.or_false, Bool.false_eq_true, up_zero, binv, ↓opt_def, eq_self, m1]
  refine h0 _ _ ?_
  try clear h0 K_h0
  exact T.ret (Fin.ret rfl ⟨rfl, rfl⟩)

theorem bmul_ok {c : Nat} {σ : St} (hc : c ≤ 1000) : ACalls Tryz.prog n_bmul [.int .u64 1, .int .u64 (c : Int)] σ (fun v σ' => v = .tup [.int .u64 0, .int .u64 (c : Int)] ∧ σ' = σ) := by
  refine s_bmul (fun wf => ?_)
  unfold c_bmul
  refine T.seq_k (fun K_h0 h0 => ?_)
  refine T.regi hm ?_
  simp only [↓reduceIte, namesOf, List.any, I.names, aopsI, astep, ev, setd, List.set, List.cons_append, List.nil_append, List.length_cons, List.length_nil, List.replicate, then_normal, Bool.or_false, Bool.false_eq_true, up_zero, Nat.reduceAdd, Nat.reduceSub]
  refine h0 _ _ ?_
  try clear h0 K_h0
  refine T.seq_k (fun K_h1 h1 => ?_)
  refine T.cond rfl (fun h => by cases h) (fun _ => T.skip ?_)
  refine h1 _ _ ?_
  try clear h1 K_h1
  refine T.seq_k (fun K_h1 h1 => ?_)
  refine T.regi hm ?_
  simp only [↓reduceIte, namesOf, List.any, I.names, aopsI, astep, ev, setd, List.set, List.getD, List.getElem?_cons_zero, List.getElem?_cons_succ, then_normal, Option.getD_some, Bool.or_false, Bool.false_eq_true, up_zero, ↓opt_def, List.map_cons, List.map_nil]
  refine (bmul64_ok hc).mono ?_
  rintro v σ1 ⟨rfl, rfl⟩
  try simp only [List.getElem?_cons_zero, List.getElem?_cons_succ]
  refine h1 _ _ ?_
  try clear h1 K_h1
  refine T.seq_k (fun K_h0 h0 => ?_)
  refine T.regi hm ?_
  simp only [↓reduceIte, namesOf, List.any, I.names, aopsI, astep, ev, setd, List.set, List.getD, List.getElem?_cons_zero, List.getElem?_cons_succ, then_normal, Option.getD_some, Bool.or_false, Bool.false_eq_true, up_zero]
  refine h0 _ _ ?_
  try clear h0 K_h0
  exact T.ret (Fin.ret rfl ⟨rfl, rfl⟩)

theorem zeros_cut (c : Nat) (h : c ≤ 64) : sZe.extract 0 c = ⟨(List.replicate c 48).toArray⟩ := by
  have : ∀ c : Nat, c < 65 → sZe.extract 0 c = ⟨(List.replicate c 48).toArray⟩ := by decide +kernel
  exact this c (by omega)

set_option maxRecDepth 10000 in
theorem srep_ok {c : Nat} {σ : St} (hc : c ≤ 16) : ACalls Tryz.prog n_srep [.str ⟨#[48]⟩, .int .i64 (c : Int)] σ (fun v σ' => v = .str ⟨(List.replicate c 48).toArray⟩ ∧ σ' = σ) := by
  refine s_srep (fun wf => ?_)
  unfold c_srep
  refine T.seq_k (fun K_h0 h0 => ?_)
  refine T.regi hm ?_
  simp only [↓reduceIte, namesOf, List.any, I.names, aopsI, astep, ev, setd, List.set, List.cons_append, List.nil_append, List.length_cons, List.length_nil, List.replicate, then_normal, Bool.or_false, Bool.false_eq_true, up_zero, Nat.reduceAdd, Nat.reduceSub]
  refine h0 _ _ ?_
  try clear h0 K_h0
  refine T.seq_k (fun K_h1 h1 => ?_)
  refine T.seq_k (fun K_h0 h0 => ?_)
  refine T.regi hm ?_
  simp only [↓reduceIte, namesOf, List.any, I.names, aopsI, astep, ev, setd, List.set, List.getD, List.getElem?_cons_zero, List.getElem?_cons_succ, then_normal, Option.getD_some, Bool.or_false, Bool.false_eq_true, up_zero]
  refine h0 _ _ ?_
  try clear h0 K_h0
  refine T.block ?_
  by_cases h0 : c = 0
  · subst h0
    have f0 : (((0 : Nat) : Int) == 0) = true := rfl
    refine T.seq_k (fun K_h0 h0 => ?_)
    refine T.regi hm ?_
    simp only [↓reduceIte, namesOf, List.any, I.names, aopsI, astep, ev, setd, List.set, List.getD, List.getElem?_cons_zero, List.getElem?_cons_succ, List.replicate, then_normal, Option.getD_some, Bool.or_false, Bool.false_eq_true, up_zero, binv, ↓opt_def, eq_self, f0]
    refine h0 _ _ ?_
    try clear h0 K_h0
    refine T.cond rfl (fun _ => ?_) (fun h => by cases h)
    refine T.seq_k (fun K_h0 h0 => ?_)
    refine T.regi hm ?_
    simp only [↓reduceIte, namesOf, List.any, I.names, aopsI, astep, ev, setd, List.set, List.replicate, then_normal, Bool.or_false, Bool.false_eq_true, up_zero]
    refine h0 _ _ ?_
    try clear h0 K_h0
    exact T.ret (Fin.ret rfl ⟨rfl, rfl⟩)
  have f0 : ((c : Int) == 0) = false := by simpa using h0
  refine T.seq_k (fun K_h0 h0 => ?_)
  refine T.regi hm ?_
  simp only [↓reduceIte, namesOf, List.any, I.names, aopsI, astep, ev, setd, List.set, List.getD, List.getElem?_cons_zero, List.getElem?_cons_succ, then_normal, Option.getD_some, Bool.or_false, Bool.false_eq_true, up_zero, binv, ↓opt_def, eq_self, f0]
  refine h0 _ _ ?_
  try clear h0 K_h0
  refine T.cond rfl (fun h => by cases h) (fun _ => ?_)
  by_cases h1c : c = 1
  · subst h1c
    have f1 : (((1 : Nat) : Int) == 1) = true := rfl
    refine T.seq_k (fun K_h0 h0 => ?_)
    refine T.regi hm ?_
    simp only [↓reduceIte, namesOf, List.any, I.names, aopsI, astep, ev, setd, List.set, List.getD, List.getElem?_cons_zero, List.getElem?_cons_succ, List.replicate, then_normal, Option.getD_some, Bool.or_false, Bool.false_eq_true, up_zero, binv, ↓opt_def, eq_self, f1]
    refine h0 _ _ ?_
    try clear h0 K_h0
    refine T.cond rfl (fun _ => ?_) (fun h => by cases h)
    refine T.seq_k (fun K_h0 h0 => ?_)
    refine T.regi hm ?_
    simp only [↓reduceIte, namesOf, List.any, I.names, aopsI, astep, ev, setd, List.set, List.getD, List.getElem?_cons_zero, List.getElem?_cons_succ, List.replicate, then_normal, Option.getD_some, Bool.or_false, Bool.false_eq_true, up_zero]
    refine h0 _ _ ?_
    try clear h0 K_h0
    exact T.ret (Fin.ret rfl ⟨rfl, rfl⟩)
  have f1 : ((c : Int) == 1) = false := by simp; omega
  refine T.seq_k (fun K_h0 h0 => ?_)
  refine T.regi hm ?_
  simp only [↓reduceIte, namesOf, List.any, I.names, aopsI, astep, ev, setd, List.set, List.getD, List.getElem?_cons_zero, List.getElem?_cons_succ, then_normal, Option.getD_some, Bool.or_false, Bool.false_eq_true, up_zero, binv, ↓opt_def, eq_self, f1]
  refine h0 _ _ ?_
  try clear h0 K_h0
  refine T.cond rfl (fun h => by cases h) (fun _ => T.skip ?_)
  try simp only [then_normal, inBlock_normal, inBlock_normal]
  refine h1 _ _ ?_
  try clear h1 K_h1
  refine T.seq_k (fun K_h1 h1 => ?_)
  have f2 : decide ((c : Int) < 0) = false := decide_eq_false (by omega)
  refine T.seq_k (fun K_h0 h0 => ?_)
  refine T.regi hm ?_
  simp only [↓reduceIte, namesOf, List.any, I.names, aopsI, astep, ev, setd, List.set, List.getD, List.getElem?_cons_zero, List.getElem?_cons_succ, then_normal, Option.getD_some, Bool.or_false, Bool.false_eq_true, up_zero, binv, ↓opt_def, eq_self, f2]
  refine h0 _ _ ?_
  try clear h0 K_h0
  refine T.cond rfl (fun h => by cases h) (fun _ => T.skip ?_)
  refine h1 _ _ ?_
  try clear h1 K_h1
  refine T.seq_k (fun K_h1 h1 => ?_)
  have hs1 : ((⟨#[48]⟩ : ByteArray).size : Int) = 1 := rfl
  have w1 : IntKind.u64.wrap 1 = 1 := by decide
  have w2 : IntKind.u64.wrap (c : Int) = (c : Int) := u64w (by omega)
  refine T.regi hm ?_
  simp only [↓reduceIte, namesOf, List.any, I.names, aopsI, astep, ev, setd, List.set, List.getD, List.getElem?_cons_zero, List.getElem?_cons_succ, then_normal, Option.getD_some, Bool.or_false, Bool.false_eq_true, up_zero, ↓opt_def, List.map_cons, List.map_nil, hs1, w1, w2]
  refine (bmul_ok (by omega)).mono ?_
  rintro v σ1 ⟨rfl, rfl⟩
  try simp only [List.getElem?_cons_zero, List.getElem?_cons_succ]
  refine h1 _ _ ?_
  try clear h1 K_h1
  refine T.seq_k (fun K_h1 h1 => ?_)
  have f3 : decide ((0 : Int) > 0) = false := rfl
  have f4 : decide ((c : Int) > 9223372036854775807) = false := decide_eq_false (by omega)
  refine T.seq_k (fun K_h0 h0 => ?_)
  refine T.regi hm ?_
  simp only [↓reduceIte, namesOf, List.any, I.names, aopsI, astep, ev, setd, List.set, List.getD, List.getElem?_cons_zero, List.getElem?_cons_succ, then_normal, Option.getD_some, Bool.or_false, Bool.false_eq_true, up_zero, binv, ↓opt_def, eq_self, f3, f4]
  refine h0 _ _ ?_
  try clear h0 K_h0
  refine T.cond rfl (fun h => by cases h) (fun _ => T.skip ?_)
  refine h1 _ _ ?_
  try clear h1 K_h1
  have w3 : IntKind.i64.wrap (c : Int) = (c : Int) := wrap64 (by omega) (by omega)
  refine T.seq_k (fun K_h0 h0 => ?_)
  refine T.regi hm ?_
  simp only [↓reduceIte, namesOf, List.any, I.names, aopsI, astep, ev, setd, List.set, List.getD, List.getElem?_cons_zero, List.getElem?_cons_succ, then_normal, Option.getD_some, Bool.or_false, Bool.false_eq_true, up_zero, w3]
  refine h0 _ _ ?_
  try clear h0 K_h0
  refine T.seq_k (fun K_h1 h1 => ?_)
  have f5 : ((1 : Int) == 0) = false := rfl
  refine T.seq_k (fun K_h0 h0 => ?_)
  refine T.regi hm ?_
  simp only [↓reduceIte, namesOf, List.any, I.names, aopsI, astep, ev, setd, List.set, List.getD, List.getElem?_cons_zero, List.getElem?_cons_succ, then_normal, Option.getD_some, Bool.or_false, Bool.false_eq_true, up_zero, binv, ↓opt_def, eq_self, hs1, f5]
  refine h0 _ _ ?_
  try clear h0 K_h0
  refine T.cond rfl (fun h => by cases h) (fun _ => T.skip ?_)
  refine h1 _ _ ?_
  try clear h1 K_h1
  refine T.seq_k (fun K_h1 h1 => ?_)
  have i0 : (0 : Int) < 1 := by decide
  have g0 : (⟨#[48]⟩ : ByteArray).data.toList[(0 : Int).toNat]? = some 48 := rfl
  have n48 : (((48 : UInt8).toNat : Nat) : Int) = 48 := rfl
  refine T.seq_k (fun K_h0 h0 => ?_)
  refine T.regi hm ?_
  simp only [↓reduceIte, namesOf, List.any, I.names, aopsI, astep, ev, setd, List.set, List.getD, List.getElem?_cons_zero, List.getElem?_cons_succ, then_normal, Option.getD_some, Bool.or_false, Bool.false_eq_true, up_zero, hs1, i0, g0, n48, Int.le_refl, and_self]
  refine h0 _ _ ?_
  try clear h0 K_h0
  refine T.block ?_
  refine T.seq_k (fun K_h2 h2 => ?_)
  have k1 : ((48 : Int) == 32) = false := rfl
  have k2 : ((48 : Int) == 45) = false := rfl
  have k3 : ((48 : Int) == 48) = true := rfl
  refine T.seq_k (fun K_h0 h0 => ?_)
  refine T.regi hm ?_
  simp only [↓reduceIte, namesOf, List.any, I.names, aopsI, astep, ev, setd, List.set, List.getD, List.getElem?_cons_zero, List.getElem?_cons_succ, then_normal, Option.getD_some, Bool.or_false, Bool.false_eq_true, up_zero, binv, ↓opt_def, eq_self, k1]
  refine h0 _ _ ?_
  try clear h0 K_h0
  refine T.cond rfl (fun h => by cases h) (fun _ => ?_)
  refine T.seq_k (fun K_h0 h0 => ?_)
  refine T.regi hm ?_
  simp only [↓reduceIte, namesOf, List.any, I.names, aopsI, astep, ev, setd, List.set, List.getD, List.getElem?_cons_zero, List.getElem?_cons_succ, then_normal, Option.getD_some, Bool.or_false, Bool.false_eq_true, up_zero, binv, ↓opt_def, eq_self, k2]
  refine h0 _ _ ?_
  try clear h0 K_h0
  refine T.cond rfl (fun h => by cases h) (fun _ => ?_)
  refine T.seq_k (fun K_h0 h0 => ?_)
  refine T.regi hm ?_
  simp only [↓reduceIte, namesOf, List.any, I.names, aopsI, astep, ev, setd, List.set, List.getD, List.getElem?_cons_zero, List.getElem?_cons_succ, then_normal, Option.getD_some, Bool.or_false, Bool.false_eq_true, up_zero, binv, ↓opt_def, eq_self, k3]
  refine h0 _ _ ?_
  try clear h0 K_h0
  refine T.cond rfl (fun _ => T.skip ?_) (fun h => by cases h)
  refine h2 _ _ ?_
  try clear h2 K_h2
  refine T.cond rfl (fun _ => ?_) (fun h => by cases h)
  refine T.block ?_
  have q1 : decide ((⟨#[48]⟩ : ByteArray).size ≤ sSp.size ∧ sSp.extract 0 (⟨#[48]⟩ : ByteArray).size = ⟨#[48]⟩) = false := by decide +kernel
  have q2 : decide ((⟨#[48]⟩ : ByteArray).size ≤ sDa.size ∧ sDa.extract 0 (⟨#[48]⟩ : ByteArray).size = ⟨#[48]⟩) = false := by decide +kernel
  have q3 : decide ((⟨#[48]⟩ : ByteArray).size ≤ sZe.size ∧ sZe.extract 0 (⟨#[48]⟩ : ByteArray).size = ⟨#[48]⟩) = true := by decide +kernel
  have l1 : decide ((c : Int) ≤ 128) = true := decide_eq_true (by omega)
  have l2 : decide ((c : Int) ≤ 64) = true := decide_eq_true (by omega)
  refine T.seq_k (fun K_h2 h2 => ?_)
  refine T.regi hm ?_
  simp only [↓reduceIte, namesOf, List.any, I.names, aopsI, astep, ev, setd, List.set, List.getD, List.getElem?_cons_zero, List.getElem?_cons_succ, then_normal, Option.getD_some, Bool.or_false, Bool.false_eq_true, up_zero, binv, ↓opt_def, List.map_cons, List.map_nil, eq_self, l1]
  refine hasPre_ok.mono ?_
  rintro v σ1 ⟨rfl, rfl⟩
  try simp only [q1]
  refine h2 _ _ ?_
  try clear h2 K_h2
  refine T.cond rfl (fun h => by cases h) (fun _ => ?_)
  refine T.seq_k (fun K_h2 h2 => ?_)
  refine T.regi hm ?_
  simp only [↓reduceIte, namesOf, List.any, I.names, aopsI, astep, ev, setd, List.set, List.getD, List.getElem?_cons_zero, List.getElem?_cons_succ, then_normal, Option.getD_some, Bool.or_false, Bool.false_eq_true, up_zero, binv, ↓opt_def, List.map_cons, List.map_nil, eq_self, l1]
  refine hasPre_ok.mono ?_
  rintro v σ1 ⟨rfl, rfl⟩
  try simp only [q2]
  refine h2 _ _ ?_
  try clear h2 K_h2
  refine T.cond rfl (fun h => by cases h) (fun _ => ?_)
  refine T.seq_k (fun K_h2 h2 => ?_)
  refine T.regi hm ?_
  simp only [↓reduceIte, namesOf, List.any, I.names, aopsI, astep, ev, setd, List.set, List.getD, List.getElem?_cons_zero, List.getElem?_cons_succ, then_normal, Option.getD_some, Bool.or_false, Bool.false_eq_true, up_zero, binv, ↓opt_def, List.map_cons, List.map_nil, eq_self, l2]
  refine hasPre_ok.mono ?_
  rintro v σ1 ⟨rfl, rfl⟩
  try simp only [q3]
  refine h2 _ _ ?_
  try clear h2 K_h2
  refine T.cond rfl (fun _ => ?_) (fun h => by cases h)
  have i3 : (c : Int) ≤ (sZe.size : Int) := by rw [sZe_size]; omega
  refine T.seq_k (fun K_h0 h0 => ?_)
  refine T.regi hm ?_
  simp only [↓reduceIte, namesOf, List.any, I.names, aopsI, astep, ev, setd, List.set, List.getD, List.getElem?_cons_zero, List.getElem?_cons_succ, then_normal, Option.getD_some, Bool.or_false, Bool.false_eq_true, up_zero, Int.natCast_nonneg, Int.toNat_natCast, idx, i3, Int.le_refl, and_self, Int.toNat_zero, zeros_cut c (by omega)]
  refine h0 _ _ ?_
  try clear h0 K_h0
  exact T.ret (Fin.ret rfl ⟨rfl, rfl⟩)

/-- so many digits of a number, with leading zeros -/
theorem mDig_ok {b n most : Nat} {σ : St} (hT : Tabs σ) (hb : (b = 16 ∧ most = 16 ∧ n < 18446744073709551616) ∨ (b = 10 ∧ most = 3 ∧ n < 1000)) :
    ACalls Tryz.prog n_mDig [.int .u64 (n : Int), .int .i64 (b : Int), .int .i64 (most : Int)] σ (fun v σ' => v = .str ⟨(dg b most n).toArray⟩ ∧ σ' = σ) := by
  have hmost : most ≤ 16 := by rcases hb with ⟨_, rfl, _⟩ | ⟨_, rfl, _⟩ <;> omega
  refine s_mDig (fun wf => ?_)
  unfold c_mDig
  refine T.seq_k (fun K_h0 h0 => ?_)
  refine T.regi hm ?_
  simp only [↓reduceIte, namesOf, List.any, I.names, aopsI, astep, ev, setd, List.set, List.cons_append, List.nil_append, List.length_cons, List.length_nil, List.replicate, then_normal, Bool.or_false, Bool.false_eq_true, up_zero, Nat.reduceAdd, Nat.reduceSub]
  refine h0 _ _ ?_
  try clear h0 K_h0
  refine T.seq_k (fun K_h1 h1 => ?_)
  refine T.regi hm ?_
  simp only [↓reduceIte, namesOf, List.any, I.names, aopsI, astep, ev, setd, List.set, List.getD, List.getElem?_cons_zero, List.getElem?_cons_succ, then_normal, Option.getD_some, Bool.or_false, Bool.false_eq_true, up_zero, List.map_cons, List.map_nil]
  refine (fmtU_ok hT hb).mono ?_
  rintro v σ1 ⟨⟨k, k1, k2, k3, rfl⟩, rfl⟩
  try simp only [↓reduceIte, namesOf, List.any, I.names, aops, aopsI, aopsT, qstep, CPt, qget, Tbl.get, astep, ev, setd, List.set, List.getD, List.getElem?_cons_zero, List.getElem?_cons_succ, List.getElem?_nil, List.cons_append, List.nil_append, List.length_cons, List.length_nil, List.replicate, then_normal, inBlock_normal, Option.getD_some, Option.getD_none, Bool.or_false, Bool.or_true, Bool.true_or, Bool.false_or, Bool.false_eq_true, if_false, if_true, up_zero, Nat.reduceAdd, Nat.reduceSub, binv, ↓opt_def, AV.isAny, AV.cells, ldc, List.map_cons, List.map_nil, St.set_next, St.set_same, St.up_next, Int.natCast_nonneg, lt_len, le_len, Int.toNat_natCast, true_and, and_true, eq_self, reduceCtorEq, decide_true, List.length_singleton, er_int, er_bool, er_str, srcR, up_zero]
  refine h1 _ _ ?_
  try clear h1 K_h1
  have hsz : ((⟨(dg b k n).toArray⟩ : ByteArray).size : Int) = (k : Int) := by rw [sz_mk, dg_len]
  have w1 : IntKind.i64.wrap ((most : Int) - (k : Int)) = ((most - k : Nat) : Int) := by rw [wrap64 (by omega) (by omega)]; omega
  have w2 : ((0 : Int) > ((most - k : Nat) : Int)) = False := eq_false (by omega)
  have hadd : sbinv .add ⟨(List.replicate (most - k) (48 : UInt8)).toArray⟩ ⟨(dg b k n).toArray⟩ = some (.str ⟨(dg b most n).toArray⟩) := by
    rw [sb_add (by rw [List.length_replicate, dg_len]; omega), ← dg_pad k3, show most - k + k = most by omega]
  refine T.seq_k (fun K_h1 h1 => ?_)
  refine T.regi hm ?_
  simp only [↓reduceIte, namesOf, List.any, I.names, aopsI, astep, ev, setd, List.set, List.getD, List.getElem?_cons_zero, List.getElem?_cons_succ, then_normal, Option.getD_some, Bool.or_false, Bool.false_eq_true, up_zero, binv, ↓opt_def, List.map_cons, List.map_nil, eq_self, hsz, w1, w2, mx2, List.foldlM, bind, Option.bind, pure]
  refine (srep_ok (by omega)).mono ?_
  rintro v σ1 ⟨rfl, rfl⟩
  try simp only [hadd]
  refine h1 _ _ ?_
  try clear h1 K_h1
  exact T.ret (Fin.ret rfl ⟨rfl, rfl⟩)

end Go.VL

namespace Go.VL

open Go.Proofs

theorem slIdxB_ok {s : ByteArray} {c : UInt8} {σ : St} : ACalls Tryz.prog n_slIdxB [.str s, .int .u8 (c.toNat : Int)] σ (fun v σ' => v = .int .i64 (Lib.indexByte s.data.toList c) ∧ σ' = σ) := by
  refine s_slIdxB (fun wf => ?_)
  unfold c_slIdxB
  have hc : c.toNat.toUInt8 = c := by simp
  refine T.seq_k (fun K_h0 h0 => ?_)
  refine T.regi hm ?_
  simp only [↓reduceIte, namesOf, List.any, I.names, aopsI, astep, ev, setd, List.set, List.cons_append, List.nil_append, List.length_cons, List.length_nil, List.replicate, then_normal, Bool.or_false, Bool.false_eq_true, up_zero, Nat.reduceAdd, Nat.reduceSub]
  refine h0 _ _ ?_
  try clear h0 K_h0
  refine T.seq_k (fun K_h0 h0 => ?_)
  refine T.regi hm ?_
  simp only [↓reduceIte, namesOf, List.any, I.names, aopsI, astep, ev, setd, List.set, List.getD, List.getElem?_cons_zero, List.getElem?_cons_succ, then_normal, Option.getD_some, Bool.or_false, Bool.false_eq_true, up_zero, Int.toNat_natCast, hc]
  refine h0 _ _ ?_
  try clear h0 K_h0
  exact T.ret (Fin.ret rfl ⟨rfl, rfl⟩)

set_option maxRecDepth 10000 in
theorem slIndex_ok {l : List UInt8} {c : UInt8} {σ : St} : ACalls Tryz.prog n_slIndex [.str ⟨l.toArray⟩, .str ⟨[c].toArray⟩] σ (fun v σ' => v = .int .i64 (Lib.indexByte l c) ∧ σ' = σ) := by
  refine s_slIndex (fun wf => ?_)
  unfold c_slIndex
  have h1s : ((⟨[c].toArray⟩ : ByteArray).size : Int) = 1 := rfl
  have e0 : ((1 : Int) == 0) = false := rfl
  have e1 : ((1 : Int) == 1) = true := rfl
  refine T.seq_k (fun K_h0 h0 => ?_)
  refine T.regi hm ?_
  simp only [↓reduceIte, namesOf, List.any, I.names, aopsI, astep, ev, setd, List.set, List.cons_append, List.nil_append, List.length_cons, List.length_nil, List.replicate, then_normal, Bool.or_false, Bool.false_eq_true, up_zero, Nat.reduceAdd, Nat.reduceSub]
  refine h0 _ _ ?_
  try clear h0 K_h0
  refine T.seq_k (fun K_h0 h0 => ?_)
  refine T.regi hm ?_
  simp only [↓reduceIte, namesOf, List.any, I.names, aopsI, astep, ev, setd, List.set, List.getD, List.getElem?_cons_zero, List.getElem?_cons_succ, then_normal, Option.getD_some, Bool.or_false, Bool.false_eq_true, up_zero, h1s]
  refine h0 _ _ ?_
  try clear h0 K_h0
  refine T.seq_k (fun K_h1 h1 => ?_)
  refine T.block ?_
  by_cases hl : [c] = l
  · have f1 : decide ([c] = l) = true := decide_eq_true hl
    have hi : Lib.indexByte l c = 0 := by rw [← hl]; simp [Lib.indexByte]
    refine T.seq_k (fun K_h0 h0 => ?_)
    refine T.regi hm ?_
    simp only [↓reduceIte, namesOf, List.any, I.names, aopsI, astep, ev, setd, List.set, List.getD, List.getElem?_cons_zero, List.getElem?_cons_succ, then_normal, Option.getD_some, Bool.or_false, Bool.false_eq_true, up_zero, binv, ↓opt_def, eq_self, e0, sbinv, ba_eq, f1]
    refine h0 _ _ ?_
    try clear h0 K_h0
    refine T.cond rfl (fun _ => ?_) (fun h => by cases h)
    refine T.seq_k (fun K_h0 h0 => ?_)
    refine T.regi hm ?_
    simp only [↓reduceIte, namesOf, List.any, I.names, aopsI, astep, ev, setd, List.set, then_normal, Bool.or_false, Bool.false_eq_true, up_zero]
    refine h0 _ _ ?_
    try clear h0 K_h0
    exact T.ret (Fin.ret rfl ⟨by rw [hi]; rfl, rfl⟩)
  · have f1 : decide ([c] = l) = false := decide_eq_false hl
    refine T.seq_k (fun K_h0 h0 => ?_)
    refine T.regi hm ?_
    simp only [↓reduceIte, namesOf, List.any, I.names, aopsI, astep, ev, setd, List.set, List.getD, List.getElem?_cons_zero, List.getElem?_cons_succ, then_normal, Option.getD_some, Bool.or_false, Bool.false_eq_true, up_zero, binv, ↓opt_def, eq_self, e0, sbinv, ba_eq, f1]
    refine h0 _ _ ?_
    try clear h0 K_h0
    refine T.cond rfl (fun h => by cases h) (fun _ => ?_)
    refine T.seq_k (fun K_h0 h0 => ?_)
    refine T.regi hm ?_
    simp only [↓reduceIte, namesOf, List.any, I.names, aopsI, astep, ev, setd, List.set, List.getD, List.getElem?_cons_zero, List.getElem?_cons_succ, then_normal, Option.getD_some, Bool.or_false, Bool.false_eq_true, up_zero, binv, ↓opt_def, eq_self, e1]
    refine h0 _ _ ?_
    try clear h0 K_h0
    refine T.cond rfl (fun _ => ?_) (fun h => by cases h)
    have i0 : (0 : Int) < 1 := by decide
    have g0 : (⟨[c].toArray⟩ : ByteArray).data.toList[(0 : Int).toNat]? = some c := rfl
    refine T.seq_k (fun K_h2 h2 => ?_)
    refine T.regi hm ?_
    simp only [↓reduceIte, namesOf, List.any, I.names, aopsI, astep, ev, setd, List.set, List.getD, List.getElem?_cons_zero, List.getElem?_cons_succ, then_normal, Option.getD_some, Bool.or_false, Bool.false_eq_true, up_zero, List.map_cons, List.map_nil, h1s, i0, g0, Int.le_refl, and_self]
    refine slIdxB_ok.mono ?_
    rintro v σ1 ⟨rfl, rfl⟩
    try simp only []
    refine h2 _ _ ?_
    try clear h2 K_h2
    exact T.ret (Fin.ret rfl ⟨rfl, rfl⟩)

theorem sindex_ok {l : List UInt8} {c : UInt8} {σ : St} : ACalls Tryz.prog n_sindex [.str ⟨l.toArray⟩, .str ⟨[c].toArray⟩] σ (fun v σ' => v = .int .i64 (Lib.indexByte l c) ∧ σ' = σ) := by
  refine s_sindex (fun wf => ?_)
  unfold c_sindex
  refine T.seq_k (fun K_h0 h0 => ?_)
  refine T.regi hm ?_
  simp only [↓reduceIte, namesOf, List.any, I.names, aopsI, astep, ev, setd, List.set, List.cons_append, List.nil_append, List.length_cons, List.length_nil, List.replicate, then_normal, Bool.or_false, Bool.false_eq_true, up_zero, Nat.reduceAdd, Nat.reduceSub]
  refine h0 _ _ ?_
  try clear h0 K_h0
  refine T.seq_k (fun K_h1 h1 => ?_)
  refine T.regi hm ?_
  simp only [↓reduceIte, namesOf, List.any, I.names, aopsI, astep, ev, setd, List.set, List.getD, List.getElem?_cons_zero, List.getElem?_cons_succ, then_normal, Option.getD_some, Bool.or_false, Bool.false_eq_true, up_zero, List.map_cons, List.map_nil]
  refine slIndex_ok.mono ?_
  rintro v σ1 ⟨rfl, rfl⟩
  try simp only [↓reduceIte, namesOf, List.any, I.names, aops, aopsI, aopsT, qstep, CPt, qget, Tbl.get, astep, ev, setd, List.set, List.getD, List.getElem?_cons_zero, List.getElem?_cons_succ, List.getElem?_nil, List.cons_append, List.nil_append, List.length_cons, List.length_nil, List.replicate, then_normal, inBlock_normal, Option.getD_some, Option.getD_none, Bool.or_false, Bool.or_true, Bool.true_or, Bool.false_or, Bool.false_eq_true, if_false, if_true, up_zero, Nat.reduceAdd, Nat.reduceSub, binv, ↓opt_def, AV.isAny, AV.cells, ldc, List.map_cons, List.map_nil, St.set_next, St.set_same, St.up_next, Int.natCast_nonneg, lt_len, le_len, Int.toNat_natCast, true_and, and_true, eq_self, reduceCtorEq, decide_true, List.length_singleton, er_int, er_bool, er_str, srcR, up_zero]
  refine h1 _ _ ?_
  try clear h1 K_h1
  exact T.ret (Fin.ret rfl ⟨rfl, rfl⟩)

theorem scont_ok {l : List UInt8} {c : UInt8} {σ : St} : ACalls Tryz.prog n_scont [.str ⟨l.toArray⟩, .str ⟨[c].toArray⟩] σ (fun v σ' => v = .bool (decide (Lib.indexByte l c ≥ 0)) ∧ σ' = σ) := by
  refine s_scont (fun wf => ?_)
  unfold c_scont
  refine T.seq_k (fun K_h0 h0 => ?_)
  refine T.regi hm ?_
  simp only [↓reduceIte, namesOf, List.any, I.names, aopsI, astep, ev, setd, List.set, List.cons_append, List.nil_append, List.length_cons, List.length_nil, List.replicate, then_normal, Bool.or_false, Bool.false_eq_true, up_zero, Nat.reduceAdd, Nat.reduceSub]
  refine h0 _ _ ?_
  try clear h0 K_h0
  refine T.seq_k (fun K_h1 h1 => ?_)
  refine T.regi hm ?_
  simp only [↓reduceIte, namesOf, List.any, I.names, aopsI, astep, ev, setd, List.set, List.getD, List.getElem?_cons_zero, List.getElem?_cons_succ, then_normal, Option.getD_some, Bool.or_false, Bool.false_eq_true, up_zero, binv, ↓opt_def, List.map_cons, List.map_nil]
  refine sindex_ok.mono ?_
  rintro v σ1 ⟨rfl, rfl⟩
  try simp only [↓reduceIte, eq_self]
  refine h1 _ _ ?_
  try clear h1 K_h1
  exact T.ret (Fin.ret rfl ⟨rfl, rfl⟩)

theorem idx_mifx (c : UInt8) : decide (Lib.indexByte [109, 105, 102, 120] c ≥ 0) = decide ([c] = [109] ∨ [c] = [105] ∨ [c] = [102] ∨ [c] = [120]) := by
  have : ∀ n : _root_.Fin 256, decide (Lib.indexByte [109, 105, 102, 120] (UInt8.ofNat n.val) ≥ 0) = decide ([UInt8.ofNat n.val] = [109] ∨ [UInt8.ofNat n.val] = [105] ∨ [UInt8.ofNat n.val] = [102] ∨ [UInt8.ofNat n.val] = [120]) := by decide +kernel
  have h := this ⟨c.toNat, c.toNat_lt⟩
  simpa using h

theorem mx_page (page : Int) : (if (0 : Int) > page then (0 : Int) else page) = ((page.toNat : Nat) : Int) := by split <;> omega

theorem rem_page (n : Nat) : ((n : Nat) : Int).tmod 1000 = ((n % 1000 : Nat) : Int) := tmodN n 1000

def nmTop (id : Nat) : List UInt8 := [98, 47] ++ dg 16 16 id

theorem head_len (id : Nat) : (nmHead id).length = 19 := by simp [nmHead, dg_len]

set_option maxRecDepth 10000 in
set_option maxHeartbeats 1000000 in
theorem mName_ok {id : Nat} {what : List UInt8} {page : Int} {σ : St} (hT : Tabs σ) (hid : id < 18446744073709551616) (hp : -9223372036854775808 ≤ page ∧ page ≤ 9223372036854775807) (hw : what.length ≤ 1000000000) :
    ACalls Tryz.prog n_mName [.int .u64 (id : Int), .str ⟨what.toArray⟩, .int .i64 page] σ (fun v σ' => v = .str ⟨(nmF id what page).toArray⟩ ∧ σ' = σ) := by
  refine s_mName (fun wf => ?_)
  unfold c_mName
  have a1 : sbinv .add ⟨#[98, 47]⟩ ⟨(dg 16 16 id).toArray⟩ = some (.str ⟨(nmTop id).toArray⟩) := sb_add (a := [98, 47]) (by rw [dg_len]; simp)
  have a2 : sbinv .add ⟨(nmTop id).toArray⟩ ⟨#[47, 112]⟩ = some (.str ⟨(nmHead id ++ [112]).toArray⟩) := by
    rw [sb_add (a := nmTop id) (b := [47, 112]) (by simp [nmTop, dg_len])]; simp [nmHead, nmTop]
  have a3 : sbinv .add ⟨(nmTop id).toArray⟩ ⟨#[47]⟩ = some (.str ⟨(nmHead id).toArray⟩) := sb_add (a := nmTop id) (b := [47]) (by simp [nmTop, dg_len])
  refine T.seq_k (fun K_h0 h0 => ?_)
  refine T.regi hm ?_
  simp only [↓reduceIte, namesOf, List.any, I.names, aopsI, astep, ev, setd, List.set, List.cons_append, List.nil_append, List.length_cons, List.length_nil, List.replicate, then_normal, Bool.or_false, Bool.false_eq_true, up_zero, Nat.reduceAdd, Nat.reduceSub]
  refine h0 _ _ ?_
  try clear h0 K_h0
  refine T.seq_k (fun K_h1 h1 => ?_)
  refine T.block ?_
  by_cases hwp : what = [112]
  · have f1 : sbinv .eql ⟨what.toArray⟩ ⟨#[112]⟩ = some (.bool true) := by
      simp only [sbinv, ba_eq what [112]]; rw [decide_eq_true hwp]
    have hmx := mx_page page
    have hrem := rem_page page.toNat
    have z1 : ((1000 : Int) = 0) = False := eq_false (by decide)
    have hlt : page.toNat % 1000 < 1000 := Nat.mod_lt _ (by omega)
    have w1 : IntKind.u64.wrap ((page.toNat % 1000 : Nat) : Int) = ((page.toNat % 1000 : Nat) : Int) := u64w (by omega)
    have a4 : sbinv .add ⟨(nmHead id ++ [112]).toArray⟩ ⟨(dg 10 3 (page.toNat % 1000)).toArray⟩ = some (.str ⟨(nmF id what page).toArray⟩) := by
      rw [sb_add (by simp [head_len, dg_len])]; unfold nmF; rw [if_pos hwp]
    refine T.seq_k (fun K_h0 h0 => ?_)
    refine T.regi hm ?_
    simp only [↓reduceIte, namesOf, List.any, I.names, aopsI, astep, ev, setd, List.set, List.getD, List.getElem?_cons_zero, List.getElem?_cons_succ, then_normal, Option.getD_some, Bool.or_false, Bool.false_eq_true, up_zero, ↓opt_def, f1]
    refine h0 _ _ ?_
    try clear h0 K_h0
    refine T.cond rfl (fun _ => ?_) (fun h => by cases h)
    refine T.seq_k (fun K_h2 h2 => ?_)
    refine T.regi hm ?_
    simp only [↓reduceIte, namesOf, List.any, I.names, aopsI, astep, ev, setd, List.set, List.getD, List.getElem?_cons_zero, List.getElem?_cons_succ, then_normal, Option.getD_some, Bool.or_false, Bool.false_eq_true, up_zero, binv, ↓opt_def, List.map_cons, List.map_nil]
    refine (mDig_ok (b := 16) (most := 16) hT (.inl ⟨rfl, rfl, hid⟩)).mono ?_
    rintro v σ1 ⟨rfl, rfl⟩
    try simp only [↓reduceIte, eq_self, a1, a2, mx2, List.foldlM, bind, Option.bind, pure, hmx, hrem, z1, w1]
    refine (mDig_ok (b := 10) (most := 3) (n := page.toNat % 1000) hT (.inr ⟨rfl, rfl, hlt⟩)).mono ?_
    rintro v σ2 ⟨rfl, rfl⟩
    try simp only [a4]
    refine h2 _ _ ?_
    try clear h2 K_h2
    exact T.ret (Fin.ret rfl ⟨rfl, rfl⟩)
  have f1 : sbinv .eql ⟨what.toArray⟩ ⟨#[112]⟩ = some (.bool false) := by
    simp only [sbinv, ba_eq what [112]]; rw [decide_eq_false hwp]
  refine T.seq_k (fun K_h0 h0 => ?_)
  refine T.regi hm ?_
  simp only [↓reduceIte, namesOf, List.any, I.names, aopsI, astep, ev, setd, List.set, List.getD, List.getElem?_cons_zero, List.getElem?_cons_succ, then_normal, Option.getD_some, Bool.or_false, Bool.false_eq_true, up_zero, ↓opt_def, f1]
  refine h0 _ _ ?_
  try clear h0 K_h0
  refine T.cond rfl (fun h => by cases h) (fun _ => ?_)
  have hsz : ((⟨what.toArray⟩ : ByteArray).size : Int) = (what.length : Int) := by rw [sz_mk]
  by_cases hone : ∃ c, what = [c]
  · obtain ⟨c, rfl⟩ := hone
    have e1 : ((⟨[c].toArray⟩ : ByteArray).size : Int) = 1 := rfl
    have e2 : ((1 : Int) == 1) = true := rfl
    refine T.seq_k (fun K_h2 h2 => ?_)
    refine T.regi hm ?_
    simp only [↓reduceIte, namesOf, List.any, I.names, aopsI, astep, ev, setd, List.set, List.getD, List.getElem?_cons_zero, List.getElem?_cons_succ, then_normal, Option.getD_some, Bool.or_false, Bool.false_eq_true, up_zero, binv, ↓opt_def, List.map_cons, List.map_nil, eq_self, e1, e2]
    refine (scont_ok (l := [109, 105, 102, 120])).mono ?_
    rintro v σ1 ⟨rfl, rfl⟩
    rw [idx_mifx]
    try simp only [↓reduceIte, namesOf, List.any, I.names, aops, aopsI, aopsT, qstep, CPt, qget, Tbl.get, astep, ev, setd, List.set, List.getD, List.getElem?_cons_zero, List.getElem?_cons_succ, List.getElem?_nil, List.cons_append, List.nil_append, List.length_cons, List.length_nil, List.replicate, then_normal, inBlock_normal, Option.getD_some, Option.getD_none, Bool.or_false, Bool.or_true, Bool.true_or, Bool.false_or, Bool.false_eq_true, if_false, if_true, up_zero, Nat.reduceAdd, Nat.reduceSub, binv, ↓opt_def, AV.isAny, AV.cells, ldc, List.map_cons, List.map_nil, St.set_next, St.set_same, St.up_next, Int.natCast_nonneg, lt_len, le_len, Int.toNat_natCast, true_and, and_true, eq_self, reduceCtorEq, decide_true, List.length_singleton, er_int, er_bool, er_str, srcR, up_zero]
    refine h2 _ _ ?_
    try clear h2 K_h2
    by_cases hin : [c] = [109] ∨ [c] = [105] ∨ [c] = [102] ∨ [c] = [120]
    · rw [decide_eq_true hin]
      refine T.cond rfl (fun _ => ?_) (fun h => by cases h)
      have a4 : sbinv .add ⟨(nmHead id).toArray⟩ ⟨[c].toArray⟩ = some (.str ⟨(nmF id [c] page).toArray⟩) := by
        rw [sb_add (by simp [head_len])]; unfold nmF; rw [if_neg hwp, if_pos hin]
      refine T.seq_k (fun K_h2 h2 => ?_)
      refine T.regi hm ?_
      simp only [↓reduceIte, namesOf, List.any, I.names, aopsI, astep, ev, setd, List.set, List.getD, List.getElem?_cons_zero, List.getElem?_cons_succ, then_normal, Option.getD_some, Bool.or_false, Bool.false_eq_true, up_zero, ↓opt_def, List.map_cons, List.map_nil]
      refine (mDig_ok (b := 16) (most := 16) hT (.inl ⟨rfl, rfl, hid⟩)).mono ?_
      rintro v σ1 ⟨rfl, rfl⟩
      try simp only [a1, a3, a4]
      refine h2 _ _ ?_
      try clear h2 K_h2
      exact T.ret (Fin.ret rfl ⟨rfl, rfl⟩)
    · rw [decide_eq_false hin]
      refine T.cond rfl (fun h => by cases h) (fun _ => T.skip ?_)
      try simp only [then_normal, inBlock_normal, inBlock_normal]
      refine h1 _ _ ?_
      try clear h1 K_h1
      refine T.seq_k (fun K_h0 h0 => ?_)
      refine T.regi hm ?_
      simp only [↓reduceIte, namesOf, List.any, I.names, aopsI, astep, ev, setd, List.set, then_normal, Bool.or_false, Bool.false_eq_true, up_zero]
      refine h0 _ _ ?_
      try clear h0 K_h0
      exact T.ret (Fin.ret rfl ⟨by unfold nmF; rw [if_neg hwp, if_neg hin]; rfl, rfl⟩)
  · have hl1 : what.length ≠ 1 := fun h => hone (List.length_eq_one_iff.1 h)
    have e2 : ((what.length : Int) == 1) = false := by simp; omega
    have hin : ¬ (what = [109] ∨ what = [105] ∨ what = [102] ∨ what = [120]) := fun h => by
      rcases h with rfl | rfl | rfl | rfl <;> simp at hl1
    refine T.seq_k (fun K_h0 h0 => ?_)
    refine T.regi hm ?_
    simp only [↓reduceIte, namesOf, List.any, I.names, aopsI, astep, ev, setd, List.set, List.getD, List.getElem?_cons_zero, List.getElem?_cons_succ, then_normal, Option.getD_some, Bool.or_false, Bool.false_eq_true, up_zero, binv, ↓opt_def, eq_self, hsz, e2]
    refine h0 _ _ ?_
    try clear h0 K_h0
    refine T.cond rfl (fun h => by cases h) (fun _ => T.skip ?_)
    try simp only [then_normal, inBlock_normal, inBlock_normal]
    refine h1 _ _ ?_
    try clear h1 K_h1
    refine T.seq_k (fun K_h0 h0 => ?_)
    refine T.regi hm ?_
    simp only [↓reduceIte, namesOf, List.any, I.names, aopsI, astep, ev, setd, List.set, then_normal, Bool.or_false, Bool.false_eq_true, up_zero]
    refine h0 _ _ ?_
    try clear h0 K_h0
    exact T.ret (Fin.ret rfl ⟨by unfold nmF; rw [if_neg hwp, if_neg hin]; rfl, rfl⟩)

end Go.VL
