/- Texts put together, of these what the theorem needs: The compiled code of functions of this seat. MADE BY PROGRAM (mkc.py). Texts cut at '/': strings.Count, strings.Split. Digits read: internal/strconv.ParseUint, to the bases 16 and 10. strings.Clone, whose work the model does with frozen memory. strings.Clone at this seat. MADE BY PROGRAM (mkcl.py). Errors of strconv; strconv.ParseUint. The value logic, part Y: a row that is owned is lent for a while, and comes back; a row that a call made is told to be owned. Where only package variables are owned: a row that a call made is owned, or lent; a box that nobody writes any more. What a row that lists the tables, and strconv's errors, is given; a world that meets it. strings.Split at '/'. Digits read: strconv.Atoi. Digits read: strconv.Atoi. -/
import Derived.Test.YtnifkggcldalbaaGreatDoorKMetaGetsCard4
import Derived.Test.YtnifkggcldalbaaGreatDoorChecked

set_option linter.unusedSimpArgs false
set_option linter.unusedVariables false

namespace Go.VL

open Go.Proofs

abbrev n_mParse : Nat := 64

def c_mParse : C := (.seq (.reg [⟨(some 2), (.mv (.c (.int .u64 0))), none⟩, ⟨(some 3), (.mv (.c (.str ⟨#[]⟩))), none⟩, ⟨(some 4), (.mv (.c (.int .i64 0))), none⟩, ⟨(some 5), (.mv (.c (.bool false))), none⟩]) (.seq (.reg [⟨(some 13), (.mv (.t 0)), none⟩, ⟨(some 14), (.call 115 [(.t 13), (.c (.str ⟨#[47]⟩))]), none⟩, ⟨(some 6), (.mv (.t 14)), none⟩]) (.seq (.seq (.reg [⟨(some 15), (.mv (.t 6)), none⟩, ⟨(some 16), (.len (.t 15)), none⟩, ⟨(some 17), (.bin .neq .i64 (.t 16) (.c (.int .i64 3))), none⟩, ⟨(some 18), (.mv (.t 17)), none⟩, ⟨(some 19), (.mv (.t 6)), (some (18, false))⟩, ⟨(some 20), (.iaddr 1 (.t 19) (.c (.int .i64 2))), (some (18, false))⟩, ⟨(some 21), (.load none (.t 20)), (some (18, false))⟩, ⟨(some 22), (.sbin .eql (.t 21) (.c (.str ⟨#[]⟩))), (some (18, false))⟩, ⟨(some 23), (.pick (.t 18) (.c (.bool true)) (.t 22)), none⟩]) (.cond (.t 23) (.seq (.reg [⟨(some 2), (.mv (.c (.int .u64 0))), none⟩, ⟨(some 3), (.mv (.c (.str ⟨#[]⟩))), none⟩, ⟨(some 4), (.mv (.c (.int .i64 0))), none⟩, ⟨(some 5), (.mv (.c (.bool false))), none⟩]) .ret) .skip)) (.seq (.reg [⟨(some 25), (.mv (.t 6)), none⟩, ⟨(some 26), (.iaddr 1 (.t 25) (.c (.int .i64 1))), none⟩, ⟨(some 27), (.load none (.t 26)), none⟩, ⟨(some 28), (.call 116 [(.t 27), (.c (.int .i64 16)), (.c (.int .i64 64))]), none⟩, ⟨(some 24), (.mv (.t 28)), none⟩, ⟨(some 29), (.ext (.t 24) 0), none⟩, ⟨(some 30), (.ext (.t 24) 1), none⟩, ⟨(some 7), (.mv (.t 29)), none⟩, ⟨(some 8), (.mv (.t 30)), none⟩]) (.seq (.seq (.reg [⟨(some 31), (.mv (.t 8)), none⟩, ⟨(some 32), (.eqI true true [(57, .i64)] (.t 31) (.c .nili)), none⟩]) (.cond (.t 32) (.seq (.reg [⟨(some 2), (.mv (.c (.int .u64 0))), none⟩, ⟨(some 3), (.mv (.c (.str ⟨#[]⟩))), none⟩, ⟨(some 4), (.mv (.c (.int .i64 0))), none⟩, ⟨(some 5), (.mv (.c (.bool false))), none⟩]) .ret) .skip)) (.seq (.reg [⟨(some 33), (.mv (.t 6)), none⟩, ⟨(some 34), (.iaddr 1 (.t 33) (.c (.int .i64 2))), none⟩, ⟨(some 35), (.load none (.t 34)), none⟩, ⟨(some 36), (.sslice (.t 35) none (some (.c (.int .i64 1)))), none⟩, ⟨(some 9), (.mv (.t 36)), none⟩, ⟨(some 10), (.mv (.c (.int .i64 0))), none⟩]) (.seq (.seq (.reg [⟨(some 37), (.mv (.t 9)), none⟩, ⟨(some 38), (.sbin .eql (.t 37) (.c (.str ⟨#[112]⟩))), none⟩]) (.cond (.t 38) (.seq (.reg [⟨(some 40), (.mv (.t 6)), none⟩, ⟨(some 41), (.iaddr 1 (.t 40) (.c (.int .i64 2))), none⟩, ⟨(some 42), (.load none (.t 41)), none⟩, ⟨(some 43), (.sslice (.t 42) (some (.c (.int .i64 1))) none), none⟩, ⟨(some 44), (.call 117 [(.t 43)]), none⟩, ⟨(some 39), (.mv (.t 44)), none⟩, ⟨(some 45), (.ext (.t 39) 0), none⟩, ⟨(some 46), (.ext (.t 39) 1), none⟩, ⟨(some 11), (.mv (.t 45)), none⟩, ⟨(some 12), (.mv (.t 46)), none⟩]) (.seq (.seq (.reg [⟨(some 47), (.mv (.t 12)), none⟩, ⟨(some 48), (.eqI true true [(57, .i64)] (.t 47) (.c .nili)), none⟩]) (.cond (.t 48) (.seq (.reg [⟨(some 2), (.mv (.c (.int .u64 0))), none⟩, ⟨(some 3), (.mv (.c (.str ⟨#[]⟩))), none⟩, ⟨(some 4), (.mv (.c (.int .i64 0))), none⟩, ⟨(some 5), (.mv (.c (.bool false))), none⟩]) .ret) .skip)) (.reg [⟨(some 49), (.mv (.t 11)), none⟩, ⟨(some 10), (.mv (.t 49)), none⟩]))) .skip)) (.seq (.seq (.reg [⟨(some 50), (.mv (.t 7)), none⟩, ⟨(some 51), (.mv (.t 9)), none⟩, ⟨(some 52), (.mv (.t 10)), none⟩, ⟨(some 53), (.call 66 [(.t 50), (.t 51), (.t 52)]), none⟩, ⟨(some 54), (.mv (.t 0)), none⟩, ⟨(some 55), (.sbin .neq (.t 53) (.t 54)), none⟩]) (.cond (.t 55) (.seq (.reg [⟨(some 2), (.mv (.c (.int .u64 0))), none⟩, ⟨(some 3), (.mv (.c (.str ⟨#[]⟩))), none⟩, ⟨(some 4), (.mv (.c (.int .i64 0))), none⟩, ⟨(some 5), (.mv (.c (.bool false))), none⟩]) .ret) .skip)) (.seq (.reg [⟨(some 56), (.mv (.t 7)), none⟩, ⟨(some 57), (.mv (.t 9)), none⟩, ⟨(some 58), (.mv (.t 10)), none⟩, ⟨(some 2), (.mv (.t 56)), none⟩, ⟨(some 3), (.mv (.t 57)), none⟩, ⟨(some 4), (.mv (.t 58)), none⟩, ⟨(some 5), (.mv (.c (.bool true))), none⟩]) .ret)))))))))

set_option maxRecDepth 100000 in
theorem k_mParse : compileC Tryz.prog ann (Tryz.f64.body.getD .skip) = some c_mParse := by kernel_rfl

theorem s_mParse {args : List AV} {σ : St} {K : AV → St → Prop} (h : WF σ → T Tryz.prog ann c_mParse (Fin σ [(.t 2), (.t 3), (.t 4), (.t 5)] K) (args ++ List.replicate (59 - args.length) (.tup [])) σ) : ACalls Tryz.prog n_mParse args σ K :=
  calls_ok Tryz.func64 (by kernel_rfl) (by kernel_rfl) k_mParse (by kernel_rfl) (by kernel_rfl) h

abbrev n_split : Nat := 115

def c_split : C := (.seq (.reg [⟨(some 4), (.mv (.c (.sl [] .nil))), none⟩]) (.seq (.reg [⟨(some 5), (.mv (.t 0)), none⟩, ⟨(some 6), (.mv (.t 1)), none⟩, ⟨(some 7), (.call 152 [(.t 5), (.t 6), (.c (.int .i64 0)), (.c (.int .i64 (-1)))]), none⟩, ⟨(some 4), (.mv (.t 7)), none⟩]) .ret))

set_option maxRecDepth 100000 in
theorem k_split : compileC Tryz.prog ann (Tryz.f115.body.getD .skip) = some c_split := by kernel_rfl

theorem s_split {args : List AV} {σ : St} {K : AV → St → Prop} (h : WF σ → T Tryz.prog ann c_split (Fin σ [(.t 4)] K) (args ++ List.replicate (8 - args.length) (.tup [])) σ) : ACalls Tryz.prog n_split args σ K :=
  calls_ok Tryz.func115 (by kernel_rfl) (by kernel_rfl) k_split (by kernel_rfl) (by kernel_rfl) h

abbrev n_gsplit : Nat := 152

def c_gsplit : C := (.seq (.reg [⟨(some 8), (.mv (.c (.sl [] .nil))), none⟩]) (.seq (.seq (.reg [⟨(some 12), (.mv (.t 3)), none⟩, ⟨(some 13), (.bin .eql .i64 (.t 12) (.c (.int .i64 0))), none⟩]) (.cond (.t 13) (.seq (.reg [⟨(some 8), (.mv (.c (.sl [] .nil))), none⟩]) .ret) .skip)) (.seq (.seq (.reg [⟨(some 14), (.mv (.t 1)), none⟩, ⟨(some 15), (.sbin .eql (.t 14) (.c (.str ⟨#[]⟩))), none⟩]) (.cond (.t 15) (.seq (.reg [⟨(some 16), (.mv (.t 0)), none⟩, ⟨(some 17), (.mv (.t 3)), none⟩, ⟨(some 18), (.call 173 [(.t 16), (.t 17)]), none⟩, ⟨(some 8), (.mv (.t 18)), none⟩]) .ret) .skip)) (.seq (.seq (.reg [⟨(some 19), (.mv (.t 3)), none⟩, ⟨(some 20), (.bin .lss .i64 (.t 19) (.c (.int .i64 0))), none⟩]) (.cond (.t 20) (.reg [⟨(some 21), (.mv (.t 0)), none⟩, ⟨(some 22), (.mv (.t 1)), none⟩, ⟨(some 23), (.call 174 [(.t 21), (.t 22)]), none⟩, ⟨(some 24), (.bin .add .i64 (.t 23) (.c (.int .i64 1))), none⟩, ⟨(some 3), (.mv (.t 24)), none⟩]) .skip)) (.seq (.reg [⟨(some 25), (.mv (.t 3)), none⟩, ⟨(some 26), (.mv (.t 0)), none⟩, ⟨(some 27), (.slen (.t 26)), none⟩, ⟨(some 28), (.bin .add .i64 (.t 27) (.c (.int .i64 1))), none⟩, ⟨(some 29), (.mn [(.t 25), (.t 28)]), none⟩, ⟨(some 3), (.mv (.t 29)), none⟩]) (.seq (.reg [⟨(some 30), (.mv (.t 3)), none⟩, ⟨(some 31), (.mkS 1 16 .own (.str ⟨#[]⟩) (.t 30) (.t 30)), none⟩, ⟨(some 9), (.mv (.t 31)), none⟩]) (.seq (.reg [⟨(some 32), (.mv (.t 3)), none⟩, ⟨(some 33), (.bin .sub .i64 (.t 32) (.c (.int .i64 1))), none⟩, ⟨(some 3), (.mv (.t 33)), none⟩]) (.seq (.reg [⟨(some 10), (.mv (.c (.int .i64 0))), none⟩]) (.seq (.block 0 (.loop (.seq (.seq (.reg [⟨(some 34), (.mv (.t 10)), none⟩, ⟨(some 35), (.mv (.t 3)), none⟩, ⟨(some 36), (.bin .lss .i64 (.t 34) (.t 35)), none⟩]) (.cond (.t 36) .skip (.exit 0))) (.block 1 (.seq (.reg [⟨(some 37), (.mv (.t 0)), none⟩, ⟨(some 38), (.mv (.t 1)), none⟩, ⟨(some 39), (.call 158 [(.t 37), (.t 38)]), none⟩, ⟨(some 11), (.mv (.t 39)), none⟩]) (.seq (.seq (.reg [⟨(some 40), (.mv (.t 11)), none⟩, ⟨(some 41), (.bin .lss .i64 (.t 40) (.c (.int .i64 0))), none⟩]) (.cond (.t 41) (.exit 0) .skip)) (.seq (.reg [⟨(some 42), (.mv (.t 9)), none⟩, ⟨(some 43), (.mv (.t 10)), none⟩, ⟨(some 44), (.mv (.t 0)), none⟩, ⟨(some 45), (.mv (.t 11)), none⟩, ⟨(some 46), (.mv (.t 2)), none⟩, ⟨(some 47), (.bin .add .i64 (.t 45) (.t 46)), none⟩, ⟨(some 48), (.sslice (.t 44) none (some (.t 47))), none⟩, ⟨(some 49), (.iaddr 1 (.t 42) (.t 43)), none⟩, ⟨none, (.store 1 (.t 49) (.t 48)), none⟩]) (.seq (.reg [⟨(some 50), (.mv (.t 0)), none⟩, ⟨(some 51), (.mv (.t 11)), none⟩, ⟨(some 52), (.mv (.t 1)), none⟩, ⟨(some 53), (.slen (.t 52)), none⟩, ⟨(some 54), (.bin .add .i64 (.t 51) (.t 53)), none⟩, ⟨(some 55), (.sslice (.t 50) (some (.t 54)) none), none⟩, ⟨(some 0), (.mv (.t 55)), none⟩]) (.reg [⟨(some 56), (.mv (.t 10)), none⟩, ⟨(some 57), (.bin .add .i64 (.t 56) (.c (.int .i64 1))), none⟩, ⟨(some 10), (.mv (.t 57)), none⟩]))))))))) (.seq (.reg [⟨(some 58), (.mv (.t 9)), none⟩, ⟨(some 59), (.mv (.t 10)), none⟩, ⟨(some 60), (.mv (.t 0)), none⟩, ⟨(some 61), (.iaddr 1 (.t 58) (.t 59)), none⟩, ⟨none, (.store 1 (.t 61) (.t 60)), none⟩]) (.seq (.reg [⟨(some 62), (.mv (.t 9)), none⟩, ⟨(some 63), (.mv (.t 10)), none⟩, ⟨(some 64), (.bin .add .i64 (.t 63) (.c (.int .i64 1))), none⟩, ⟨(some 65), (.slice 1 (.t 62) none (some (.t 64))), none⟩, ⟨(some 8), (.mv (.t 65)), none⟩]) .ret)))))))))))

set_option maxRecDepth 100000 in
theorem k_gsplit : compileC Tryz.prog ann (Tryz.f152.body.getD .skip) = some c_gsplit := by kernel_rfl

theorem s_gsplit {args : List AV} {σ : St} {K : AV → St → Prop} (h : WF σ → T Tryz.prog ann c_gsplit (Fin σ [(.t 8)] K) (args ++ List.replicate (66 - args.length) (.tup [])) σ) : ACalls Tryz.prog n_gsplit args σ K :=
  calls_ok Tryz.func152 (by kernel_rfl) (by kernel_rfl) k_gsplit (by kernel_rfl) (by kernel_rfl) h

abbrev n_scount : Nat := 174

def c_scount : C := (.seq (.reg [⟨(some 4), (.mv (.c (.int .i64 0))), none⟩]) (.seq (.seq (.reg [⟨(some 7), (.mv (.t 1)), none⟩, ⟨(some 8), (.slen (.t 7)), none⟩, ⟨(some 9), (.bin .eql .i64 (.t 8) (.c (.int .i64 0))), none⟩]) (.cond (.t 9) (.seq (.reg [⟨(some 10), (.mv (.t 0)), none⟩, ⟨(some 11), (.call 195 [(.t 10)]), none⟩, ⟨(some 12), (.bin .add .i64 (.t 11) (.c (.int .i64 1))), none⟩, ⟨(some 4), (.mv (.t 12)), none⟩]) .ret) .skip)) (.seq (.seq (.reg [⟨(some 13), (.mv (.t 1)), none⟩, ⟨(some 14), (.slen (.t 13)), none⟩, ⟨(some 15), (.bin .eql .i64 (.t 14) (.c (.int .i64 1))), none⟩]) (.cond (.t 15) (.seq (.reg [⟨(some 16), (.mv (.t 0)), none⟩, ⟨(some 17), (.mv (.t 1)), none⟩, ⟨(some 18), (.idxS (.t 17) (.c (.int .i64 0))), none⟩, ⟨(some 19), (.xcnt (.t 16) (.t 18)), none⟩, ⟨(some 4), (.mv (.t 19)), none⟩]) .ret) .skip)) (.seq (.reg [⟨(some 5), (.mv (.c (.int .i64 0))), none⟩]) (.block 0 (.loop (.block 1 (.seq (.reg [⟨(some 20), (.mv (.t 0)), none⟩, ⟨(some 21), (.mv (.t 1)), none⟩, ⟨(some 22), (.call 158 [(.t 20), (.t 21)]), none⟩, ⟨(some 6), (.mv (.t 22)), none⟩]) (.seq (.seq (.reg [⟨(some 23), (.mv (.t 6)), none⟩, ⟨(some 24), (.bin .eql .i64 (.t 23) (.c (.int .i64 (-1)))), none⟩]) (.cond (.t 24) (.seq (.reg [⟨(some 25), (.mv (.t 5)), none⟩, ⟨(some 4), (.mv (.t 25)), none⟩]) .ret) .skip)) (.seq (.reg [⟨(some 26), (.mv (.t 5)), none⟩, ⟨(some 27), (.bin .add .i64 (.t 26) (.c (.int .i64 1))), none⟩, ⟨(some 5), (.mv (.t 27)), none⟩]) (.reg [⟨(some 28), (.mv (.t 0)), none⟩, ⟨(some 29), (.mv (.t 6)), none⟩, ⟨(some 30), (.mv (.t 1)), none⟩, ⟨(some 31), (.slen (.t 30)), none⟩, ⟨(some 32), (.bin .add .i64 (.t 29) (.t 31)), none⟩, ⟨(some 33), (.sslice (.t 28) (some (.t 32)) none), none⟩, ⟨(some 0), (.mv (.t 33)), none⟩])))))))))))

set_option maxRecDepth 100000 in
theorem k_scount : compileC Tryz.prog ann (Tryz.f174.body.getD .skip) = some c_scount := by kernel_rfl

theorem s_scount {args : List AV} {σ : St} {K : AV → St → Prop} (h : WF σ → T Tryz.prog ann c_scount (Fin σ [(.t 4)] K) (args ++ List.replicate (34 - args.length) (.tup [])) σ) : ACalls Tryz.prog n_scount args σ K :=
  calls_ok Tryz.func174 (by kernel_rfl) (by kernel_rfl) k_scount (by kernel_rfl) (by kernel_rfl) h

abbrev n_parU : Nat := 116

def c_parU : C := (.seq (.reg [⟨(some 6), (.mv (.c (.int .u64 0))), none⟩, ⟨(some 7), (.mv (.c .nili)), none⟩]) (.seq (.reg [⟨(some 11), (.mv (.t 0)), none⟩, ⟨(some 12), (.mv (.t 1)), none⟩, ⟨(some 13), (.mv (.t 2)), none⟩, ⟨(some 14), (.call 153 [(.t 11), (.t 12), (.t 13)]), none⟩, ⟨(some 10), (.mv (.t 14)), none⟩, ⟨(some 15), (.ext (.t 10) 0), none⟩, ⟨(some 16), (.ext (.t 10) 1), none⟩, ⟨(some 8), (.mv (.t 15)), none⟩, ⟨(some 9), (.mv (.t 16)), none⟩]) (.seq (.seq (.reg [⟨(some 17), (.mv (.t 9)), none⟩, ⟨(some 18), (.eqI true true [(57, .i64)] (.t 17) (.c .nili)), none⟩]) (.cond (.t 18) (.seq (.reg [⟨(some 19), (.mv (.t 8)), none⟩, ⟨(some 20), (.mv (.t 0)), none⟩, ⟨(some 21), (.mv (.t 1)), none⟩, ⟨(some 22), (.mv (.t 2)), none⟩, ⟨(some 23), (.mv (.t 9)), none⟩, ⟨(some 24), (.call 154 [(.c (.str ⟨#[80, 97, 114, 115, 101, 85, 105, 110, 116]⟩)), (.t 20), (.t 21), (.t 22), (.t 23)]), none⟩, ⟨(some 6), (.mv (.t 19)), none⟩, ⟨(some 7), (.mv (.t 24)), none⟩]) .ret) .skip)) (.seq (.reg [⟨(some 25), (.mv (.t 8)), none⟩, ⟨(some 6), (.mv (.t 25)), none⟩, ⟨(some 7), (.mv (.c .nili)), none⟩]) .ret))))

set_option maxRecDepth 100000 in
theorem k_parU : compileC Tryz.prog ann (Tryz.f116.body.getD .skip) = some c_parU := by kernel_rfl

theorem s_parU {args : List AV} {σ : St} {K : AV → St → Prop} (h : WF σ → T Tryz.prog ann c_parU (Fin σ [(.t 6), (.t 7)] K) (args ++ List.replicate (26 - args.length) (.tup [])) σ) : ACalls Tryz.prog n_parU args σ K :=
  calls_ok Tryz.func116 (by kernel_rfl) (by kernel_rfl) k_parU (by kernel_rfl) (by kernel_rfl) h

abbrev n_iparU : Nat := 153

def c_iparU : C := (.seq (.reg [⟨(some 6), (.mv (.c (.int .u64 0))), none⟩, ⟨(some 7), (.mv (.c .nili)), none⟩]) (.seq (.seq (.reg [⟨(some 18), (.mv (.t 0)), none⟩, ⟨(some 19), (.sbin .eql (.t 18) (.c (.str ⟨#[]⟩))), none⟩]) (.cond (.t 19) (.seq (.reg [⟨(some 20), (.mkI 242 (.c (.int .i64 2))), none⟩, ⟨(some 6), (.mv (.c (.int .u64 0))), none⟩, ⟨(some 7), (.mv (.t 20)), none⟩]) .ret) .skip)) (.seq (.reg [⟨(some 21), (.mv (.t 1)), none⟩, ⟨(some 22), (.bin .eql .i64 (.t 21) (.c (.int .i64 0))), none⟩, ⟨(some 8), (.mv (.t 22)), none⟩]) (.seq (.reg [⟨(some 23), (.mv (.t 0)), none⟩, ⟨(some 9), (.mv (.t 23)), none⟩]) (.seq (.block 0 (.seq (.reg [⟨(some 26), (.mv (.t 1)), none⟩, ⟨(some 27), (.bin .leq .i64 (.c (.int .i64 2)) (.t 26)), none⟩, ⟨(some 28), (.mv (.t 27)), none⟩, ⟨(some 29), (.mv (.t 1)), (some (28, true))⟩, ⟨(some 30), (.bin .leq .i64 (.t 29) (.c (.int .i64 36))), (some (28, true))⟩, ⟨(some 31), (.pick (.t 28) (.t 30) (.c (.bool false))), none⟩, ⟨(some 25), (.mv (.t 31)), none⟩]) (.cond (.t 25) .skip (.seq (.reg [⟨(some 33), (.mv (.t 1)), none⟩, ⟨(some 34), (.bin .eql .i64 (.t 33) (.c (.int .i64 0))), none⟩, ⟨(some 32), (.mv (.t 34)), none⟩]) (.cond (.t 32) (.seq (.reg [⟨(some 1), (.mv (.c (.int .i64 10))), none⟩]) (.seq (.reg [⟨(some 35), (.mv (.t 0)), none⟩, ⟨(some 36), (.idxS (.t 35) (.c (.int .i64 0))), none⟩, ⟨(some 37), (.bin .eql .u8 (.t 36) (.c (.int .u8 48))), none⟩]) (.cond (.t 37) (.block 1 (.seq (.reg [⟨(some 41), (.mv (.t 0)), none⟩, ⟨(some 42), (.slen (.t 41)), none⟩, ⟨(some 43), (.bin .geq .i64 (.t 42) (.c (.int .i64 3))), none⟩, ⟨(some 44), (.mv (.t 43)), none⟩, ⟨(some 45), (.mv (.t 0)), (some (44, true))⟩, ⟨(some 46), (.idxS (.t 45) (.c (.int .i64 1))), (some (44, true))⟩, ⟨(some 47), (.call 175 [(.t 46)]), (some (44, true))⟩, ⟨(some 48), (.bin .eql .u8 (.t 47) (.c (.int .u8 98))), (some (44, true))⟩, ⟨(some 49), (.pick (.t 44) (.t 48) (.c (.bool false))), none⟩, ⟨(some 40), (.mv (.t 49)), none⟩]) (.cond (.t 40) (.seq (.reg [⟨(some 1), (.mv (.c (.int .i64 2))), none⟩]) (.reg [⟨(some 50), (.mv (.t 0)), none⟩, ⟨(some 51), (.sslice (.t 50) (some (.c (.int .i64 2))) none), none⟩, ⟨(some 0), (.mv (.t 51)), none⟩])) (.seq (.reg [⟨(some 53), (.mv (.t 0)), none⟩, ⟨(some 54), (.slen (.t 53)), none⟩, ⟨(some 55), (.bin .geq .i64 (.t 54) (.c (.int .i64 3))), none⟩, ⟨(some 56), (.mv (.t 55)), none⟩, ⟨(some 57), (.mv (.t 0)), (some (56, true))⟩, ⟨(some 58), (.idxS (.t 57) (.c (.int .i64 1))), (some (56, true))⟩, ⟨(some 59), (.call 175 [(.t 58)]), (some (56, true))⟩, ⟨(some 60), (.bin .eql .u8 (.t 59) (.c (.int .u8 111))), (some (56, true))⟩, ⟨(some 61), (.pick (.t 56) (.t 60) (.c (.bool false))), none⟩, ⟨(some 52), (.mv (.t 61)), none⟩]) (.cond (.t 52) (.seq (.reg [⟨(some 1), (.mv (.c (.int .i64 8))), none⟩]) (.reg [⟨(some 62), (.mv (.t 0)), none⟩, ⟨(some 63), (.sslice (.t 62) (some (.c (.int .i64 2))) none), none⟩, ⟨(some 0), (.mv (.t 63)), none⟩])) (.seq (.reg [⟨(some 65), (.mv (.t 0)), none⟩, ⟨(some 66), (.slen (.t 65)), none⟩, ⟨(some 67), (.bin .geq .i64 (.t 66) (.c (.int .i64 3))), none⟩, ⟨(some 68), (.mv (.t 67)), none⟩, ⟨(some 69), (.mv (.t 0)), (some (68, true))⟩, ⟨(some 70), (.idxS (.t 69) (.c (.int .i64 1))), (some (68, true))⟩, ⟨(some 71), (.call 175 [(.t 70)]), (some (68, true))⟩, ⟨(some 72), (.bin .eql .u8 (.t 71) (.c (.int .u8 120))), (some (68, true))⟩, ⟨(some 73), (.pick (.t 68) (.t 72) (.c (.bool false))), none⟩, ⟨(some 64), (.mv (.t 73)), none⟩]) (.cond (.t 64) (.seq (.reg [⟨(some 1), (.mv (.c (.int .i64 16))), none⟩]) (.reg [⟨(some 74), (.mv (.t 0)), none⟩, ⟨(some 75), (.sslice (.t 74) (some (.c (.int .i64 2))) none), none⟩, ⟨(some 0), (.mv (.t 75)), none⟩])) (.seq (.reg [⟨(some 1), (.mv (.c (.int .i64 8))), none⟩]) (.reg [⟨(some 38), (.mv (.t 0)), none⟩, ⟨(some 39), (.sslice (.t 38) (some (.c (.int .i64 1))) none), none⟩, ⟨(some 0), (.mv (.t 39)), none⟩]))))))))) .skip))) (.seq (.reg [⟨(some 24), (.mkI 242 (.c (.int .i64 3))), none⟩, ⟨(some 6), (.mv (.c (.int .u64 0))), none⟩, ⟨(some 7), (.mv (.t 24)), none⟩]) .ret)))))) (.seq (.seq (.reg [⟨(some 76), (.mv (.t 2)), none⟩, ⟨(some 77), (.bin .eql .i64 (.t 76) (.c (.int .i64 0))), none⟩]) (.cond (.t 77) (.reg [⟨(some 2), (.mv (.c (.int .i64 64))), none⟩]) (.seq (.reg [⟨(some 78), (.mv (.t 2)), none⟩, ⟨(some 79), (.bin .lss .i64 (.t 78) (.c (.int .i64 0))), none⟩, ⟨(some 80), (.mv (.t 79)), none⟩, ⟨(some 81), (.mv (.t 2)), (some (80, false))⟩, ⟨(some 82), (.bin .gtr .i64 (.t 81) (.c (.int .i64 64))), (some (80, false))⟩, ⟨(some 83), (.pick (.t 80) (.c (.bool true)) (.t 82)), none⟩]) (.cond (.t 83) (.seq (.reg [⟨(some 84), (.mkI 242 (.c (.int .i64 4))), none⟩, ⟨(some 6), (.mv (.c (.int .u64 0))), none⟩, ⟨(some 7), (.mv (.t 84)), none⟩]) .ret) .skip)))) (.seq (.reg [⟨(some 10), (.mv (.c (.int .u64 0))), none⟩]) (.seq (.seq (.reg [⟨(some 85), (.mv (.t 1)), none⟩]) (.block 2 (.seq (.reg [⟨(some 91), (.bin .eql .i64 (.t 85) (.c (.int .i64 10))), none⟩, ⟨(some 90), (.mv (.t 91)), none⟩]) (.cond (.t 90) (.reg [⟨(some 10), (.mv (.c (.int .u64 1844674407370955162))), none⟩]) (.seq (.reg [⟨(some 93), (.bin .eql .i64 (.t 85) (.c (.int .i64 16))), none⟩, ⟨(some 92), (.mv (.t 93)), none⟩]) (.cond (.t 92) (.reg [⟨(some 10), (.mv (.c (.int .u64 1152921504606846976))), none⟩]) (.reg [⟨(some 86), (.mv (.t 1)), none⟩, ⟨(some 87), (.conv .u64 (.t 86)), none⟩, ⟨(some 88), (.bin .quo .u64 (.c (.int .u64 18446744073709551615)) (.t 87)), none⟩, ⟨(some 89), (.bin .add .u64 (.t 88) (.c (.int .u64 1))), none⟩, ⟨(some 10), (.mv (.t 89)), none⟩]))))))) (.seq (.reg [⟨(some 94), (.mv (.t 2)), none⟩, ⟨(some 95), (.conv .u64 (.t 94)), none⟩, ⟨(some 96), (.bin .shl .u64 (.c (.int .u64 1)) (.t 95)), none⟩, ⟨(some 97), (.bin .sub .u64 (.t 96) (.c (.int .u64 1))), none⟩, ⟨(some 11), (.mv (.t 97)), none⟩]) (.seq (.reg [⟨(some 12), (.mv (.c (.bool false))), none⟩]) (.seq (.reg [⟨(some 13), (.mv (.c (.int .u64 0))), none⟩]) (.seq (.seq (.reg [⟨(some 98), (.mv (.t 0)), none⟩, ⟨(some 99), (.convSB .tip (.t 98)), none⟩, ⟨(some 100), (.len (.t 99)), none⟩, ⟨(some 101), (.mv (.c (.int .i64 0))), none⟩]) (.block 3 (.loop (.seq (.reg [⟨(some 102), (.bin .lss .i64 (.t 101) (.t 100)), none⟩]) (.seq (.cond (.t 102) .skip (.exit 3)) (.seq (.block 4 (.seq (.reg [⟨(some 103), (.iaddr 1 (.t 99) (.t 101)), none⟩, ⟨(some 104), (.load none (.t 103)), none⟩, ⟨(some 15), (.mv (.t 104)), none⟩]) (.seq (.reg [⟨(some 16), (.mv (.c (.int .u8 0))), none⟩]) (.seq (.block 5 (.seq (.reg [⟨(some 107), (.mv (.t 15)), none⟩, ⟨(some 108), (.bin .eql .u8 (.t 107) (.c (.int .u8 95))), none⟩, ⟨(some 109), (.mv (.t 108)), none⟩, ⟨(some 110), (.mv (.t 8)), (some (109, true))⟩, ⟨(some 111), (.pick (.t 109) (.t 110) (.c (.bool false))), none⟩, ⟨(some 106), (.mv (.t 111)), none⟩]) (.cond (.t 106) (.seq (.reg [⟨(some 12), (.mv (.c (.bool true))), none⟩]) (.exit 4)) (.seq (.reg [⟨(some 113), (.mv (.t 15)), none⟩, ⟨(some 114), (.bin .leq .u8 (.c (.int .u8 48)) (.t 113)), none⟩, ⟨(some 115), (.mv (.t 114)), none⟩, ⟨(some 116), (.mv (.t 15)), (some (115, true))⟩, ⟨(some 117), (.bin .leq .u8 (.t 116) (.c (.int .u8 57))), (some (115, true))⟩, ⟨(some 118), (.pick (.t 115) (.t 117) (.c (.bool false))), none⟩, ⟨(some 112), (.mv (.t 118)), none⟩]) (.cond (.t 112) (.reg [⟨(some 119), (.mv (.t 15)), none⟩, ⟨(some 120), (.bin .sub .u8 (.t 119) (.c (.int .u8 48))), none⟩, ⟨(some 16), (.mv (.t 120)), none⟩]) (.seq (.reg [⟨(some 122), (.mv (.t 15)), none⟩, ⟨(some 123), (.call 175 [(.t 122)]), none⟩, ⟨(some 124), (.bin .leq .u8 (.c (.int .u8 97)) (.t 123)), none⟩, ⟨(some 125), (.mv (.t 124)), none⟩, ⟨(some 126), (.mv (.t 15)), (some (125, true))⟩, ⟨(some 127), (.call 175 [(.t 126)]), (some (125, true))⟩, ⟨(some 128), (.bin .leq .u8 (.t 127) (.c (.int .u8 122))), (some (125, true))⟩, ⟨(some 129), (.pick (.t 125) (.t 128) (.c (.bool false))), none⟩, ⟨(some 121), (.mv (.t 129)), none⟩]) (.cond (.t 121) (.reg [⟨(some 130), (.mv (.t 15)), none⟩, ⟨(some 131), (.call 175 [(.t 130)]), none⟩, ⟨(some 132), (.bin .sub .u8 (.t 131) (.c (.int .u8 97))), none⟩, ⟨(some 133), (.bin .add .u8 (.t 132) (.c (.int .u8 10))), none⟩, ⟨(some 16), (.mv (.t 133)), none⟩]) (.seq (.reg [⟨(some 105), (.mkI 242 (.c (.int .i64 2))), none⟩, ⟨(some 6), (.mv (.c (.int .u64 0))), none⟩, ⟨(some 7), (.mv (.t 105)), none⟩]) .ret)))))))) (.seq (.seq (.reg [⟨(some 134), (.mv (.t 16)), none⟩, ⟨(some 135), (.mv (.t 1)), none⟩, ⟨(some 136), (.conv .u8 (.t 135)), none⟩, ⟨(some 137), (.bin .geq .u8 (.t 134) (.t 136)), none⟩]) (.cond (.t 137) (.seq (.reg [⟨(some 138), (.mkI 242 (.c (.int .i64 2))), none⟩, ⟨(some 6), (.mv (.c (.int .u64 0))), none⟩, ⟨(some 7), (.mv (.t 138)), none⟩]) .ret) .skip)) (.seq (.seq (.reg [⟨(some 139), (.mv (.t 13)), none⟩, ⟨(some 140), (.mv (.t 10)), none⟩, ⟨(some 141), (.bin .geq .u64 (.t 139) (.t 140)), none⟩]) (.cond (.t 141) (.seq (.reg [⟨(some 142), (.mv (.t 11)), none⟩, ⟨(some 143), (.mkI 242 (.c (.int .i64 1))), none⟩, ⟨(some 6), (.mv (.t 142)), none⟩, ⟨(some 7), (.mv (.t 143)), none⟩]) .ret) .skip)) (.seq (.reg [⟨(some 144), (.mv (.t 13)), none⟩, ⟨(some 145), (.mv (.t 1)), none⟩, ⟨(some 146), (.conv .u64 (.t 145)), none⟩, ⟨(some 147), (.bin .mul .u64 (.t 144) (.t 146)), none⟩, ⟨(some 13), (.mv (.t 147)), none⟩]) (.seq (.reg [⟨(some 148), (.mv (.t 13)), none⟩, ⟨(some 149), (.mv (.t 16)), none⟩, ⟨(some 150), (.conv .u64 (.t 149)), none⟩, ⟨(some 151), (.bin .add .u64 (.t 148) (.t 150)), none⟩, ⟨(some 17), (.mv (.t 151)), none⟩]) (.seq (.seq (.reg [⟨(some 152), (.mv (.t 17)), none⟩, ⟨(some 153), (.mv (.t 13)), none⟩, ⟨(some 154), (.bin .lss .u64 (.t 152) (.t 153)), none⟩, ⟨(some 155), (.mv (.t 154)), none⟩, ⟨(some 156), (.mv (.t 17)), (some (155, false))⟩, ⟨(some 157), (.mv (.t 11)), (some (155, false))⟩, ⟨(some 158), (.bin .gtr .u64 (.t 156) (.t 157)), (some (155, false))⟩, ⟨(some 159), (.pick (.t 155) (.c (.bool true)) (.t 158)), none⟩]) (.cond (.t 159) (.seq (.reg [⟨(some 160), (.mv (.t 11)), none⟩, ⟨(some 161), (.mkI 242 (.c (.int .i64 1))), none⟩, ⟨(some 6), (.mv (.t 160)), none⟩, ⟨(some 7), (.mv (.t 161)), none⟩]) .ret) .skip)) (.reg [⟨(some 162), (.mv (.t 17)), none⟩, ⟨(some 13), (.mv (.t 162)), none⟩])))))))))) (.reg [⟨(some 163), (.bin .add .i64 (.t 101) (.c (.int .i64 1))), none⟩, ⟨(some 101), (.mv (.t 163)), none⟩]))))))) (.seq (.seq (.reg [⟨(some 164), (.mv (.t 12)), none⟩, ⟨(some 165), (.mv (.t 164)), none⟩, ⟨(some 166), (.mv (.t 9)), (some (165, true))⟩, ⟨(some 167), (.call 176 [(.t 166)]), (some (165, true))⟩, ⟨(some 168), (.not (.t 167)), (some (165, true))⟩, ⟨(some 169), (.pick (.t 165) (.t 168) (.c (.bool false))), none⟩]) (.cond (.t 169) (.seq (.reg [⟨(some 170), (.mkI 242 (.c (.int .i64 2))), none⟩, ⟨(some 6), (.mv (.c (.int .u64 0))), none⟩, ⟨(some 7), (.mv (.t 170)), none⟩]) .ret) .skip)) (.seq (.reg [⟨(some 171), (.mv (.t 13)), none⟩, ⟨(some 6), (.mv (.t 171)), none⟩, ⟨(some 7), (.mv (.c .nili)), none⟩]) .ret))))))))))))))

set_option maxRecDepth 100000 in
theorem k_iparU : compileC Tryz.prog ann (Tryz.f153.body.getD .skip) = some c_iparU := by kernel_rfl

theorem s_iparU {args : List AV} {σ : St} {K : AV → St → Prop} (h : WF σ → T Tryz.prog ann c_iparU (Fin σ [(.t 6), (.t 7)] K) (args ++ List.replicate (172 - args.length) (.tup [])) σ) : ACalls Tryz.prog n_iparU args σ K :=
  calls_ok Tryz.func153 (by kernel_rfl) (by kernel_rfl) k_iparU (by kernel_rfl) (by kernel_rfl) h

abbrev n_lower : Nat := 175

def c_lower : C := (.seq (.reg [⟨(some 2), (.mv (.c (.int .u8 0))), none⟩]) (.seq (.reg [⟨(some 3), (.mv (.t 0)), none⟩, ⟨(some 4), (.bin .or .u8 (.t 3) (.c (.int .u8 32))), none⟩, ⟨(some 2), (.mv (.t 4)), none⟩]) .ret))

set_option maxRecDepth 100000 in
theorem k_lower : compileC Tryz.prog ann (Tryz.f175.body.getD .skip) = some c_lower := by kernel_rfl

theorem s_lower {args : List AV} {σ : St} {K : AV → St → Prop} (h : WF σ → T Tryz.prog ann c_lower (Fin σ [(.t 2)] K) (args ++ List.replicate (5 - args.length) (.tup [])) σ) : ACalls Tryz.prog n_lower args σ K :=
  calls_ok Tryz.func175 (by kernel_rfl) (by kernel_rfl) k_lower (by kernel_rfl) (by kernel_rfl) h

abbrev ann_toErr : Ann := { errs := [(57, .i64), (242, .i64)] }

abbrev n_toErr : Nat := 154

def c_toErr : C := (.seq (.reg [⟨(some 10), (.mv (.c .nili)), none⟩]) (.seq (.seq (.reg [⟨(some 11), (.mv (.t 4)), none⟩]) (.block 0 (.seq (.reg [⟨(some 13), (.mkI 242 (.c (.int .i64 2))), none⟩, ⟨(some 14), (.eqI false false [(57, .i64), (242, .i64)] (.t 11) (.t 13)), none⟩, ⟨(some 12), (.mv (.t 14)), none⟩]) (.cond (.t 12) (.seq (.reg [⟨(some 15), (.mv (.t 0)), none⟩, ⟨(some 16), (.mv (.t 1)), none⟩, ⟨(some 17), (.call 177 [(.t 15), (.t 16)]), none⟩, ⟨(some 18), (.mkI 244 (.t 17)), none⟩, ⟨(some 10), (.mv (.t 18)), none⟩]) .ret) (.seq (.reg [⟨(some 20), (.mkI 242 (.c (.int .i64 1))), none⟩, ⟨(some 21), (.eqI false false [(57, .i64), (242, .i64)] (.t 11) (.t 20)), none⟩, ⟨(some 19), (.mv (.t 21)), none⟩]) (.cond (.t 19) (.seq (.reg [⟨(some 22), (.mv (.t 0)), none⟩, ⟨(some 23), (.mv (.t 1)), none⟩, ⟨(some 24), (.call 178 [(.t 22), (.t 23)]), none⟩, ⟨(some 25), (.mkI 244 (.t 24)), none⟩, ⟨(some 10), (.mv (.t 25)), none⟩]) .ret) (.seq (.reg [⟨(some 27), (.mkI 242 (.c (.int .i64 3))), none⟩, ⟨(some 28), (.eqI false false [(57, .i64), (242, .i64)] (.t 11) (.t 27)), none⟩, ⟨(some 26), (.mv (.t 28)), none⟩]) (.cond (.t 26) (.seq (.reg [⟨(some 29), (.mv (.t 0)), none⟩, ⟨(some 30), (.mv (.t 1)), none⟩, ⟨(some 31), (.mv (.t 2)), none⟩, ⟨(some 32), (.call 179 [(.t 29), (.t 30), (.t 31)]), none⟩, ⟨(some 33), (.mkI 244 (.t 32)), none⟩, ⟨(some 10), (.mv (.t 33)), none⟩]) .ret) (.seq (.reg [⟨(some 35), (.mkI 242 (.c (.int .i64 4))), none⟩, ⟨(some 36), (.eqI false false [(57, .i64), (242, .i64)] (.t 11) (.t 35)), none⟩, ⟨(some 34), (.mv (.t 36)), none⟩]) (.cond (.t 34) (.seq (.reg [⟨(some 37), (.mv (.t 0)), none⟩, ⟨(some 38), (.mv (.t 1)), none⟩, ⟨(some 39), (.mv (.t 3)), none⟩, ⟨(some 40), (.call 180 [(.t 37), (.t 38), (.t 39)]), none⟩, ⟨(some 41), (.mkI 244 (.t 40)), none⟩, ⟨(some 10), (.mv (.t 41)), none⟩]) .ret) .skip)))))))))) (.seq (.reg [⟨(some 42), (.mv (.t 4)), none⟩, ⟨(some 10), (.mv (.t 42)), none⟩]) .ret)))

set_option maxRecDepth 100000 in
theorem k_toErr : compileC Tryz.prog ann_toErr (Tryz.f154.body.getD .skip) = some c_toErr := by kernel_rfl

theorem s_toErr {args : List AV} {σ : St} {K : AV → St → Prop} (h : WF σ → T Tryz.prog ann_toErr c_toErr (Fin σ [(.t 10)] K) (args ++ List.replicate (43 - args.length) (.tup [])) σ) : ACalls Tryz.prog n_toErr args σ K :=
  calls_ok Tryz.func154 (by kernel_rfl) (by kernel_rfl) k_toErr (by kernel_rfl) (by kernel_rfl) h

abbrev n_synErr : Nat := 177

def c_synErr : C := (.seq (.reg [⟨(some 4), (.mv (.c .nilp)), none⟩]) (.seq (.reg [⟨(some 5), (.mv (.t 0)), none⟩, ⟨(some 6), (.mv (.t 1)), none⟩, ⟨(some 7), (.qcall 198 [(.t 6)]), none⟩, ⟨(some 8), (.gload 0 none), none⟩, ⟨(some 9), (.build [(.str ⟨#[]⟩), (.str ⟨#[]⟩), .nili] [(0, (1, (.t 5))), (1, (1, (.t 7))), (2, (1, (.t 8)))]), none⟩, ⟨(some 10), (.box (.t 9)), none⟩, ⟨(some 4), (.mv (.t 10)), none⟩]) .ret))

set_option maxRecDepth 100000 in
theorem k_synErr : compileC Tryz.prog ann (Tryz.f177.body.getD .skip) = some c_synErr := by kernel_rfl

theorem s_synErr {args : List AV} {σ : St} {K : AV → St → Prop} (h : WF σ → T Tryz.prog ann c_synErr (Fin σ [(.t 4)] K) (args ++ List.replicate (11 - args.length) (.tup [])) σ) : ACalls Tryz.prog n_synErr args σ K :=
  calls_ok Tryz.func177 (by kernel_rfl) (by kernel_rfl) k_synErr (by kernel_rfl) (by kernel_rfl) h

abbrev n_rngErr : Nat := 178

def c_rngErr : C := (.seq (.reg [⟨(some 4), (.mv (.c .nilp)), none⟩]) (.seq (.reg [⟨(some 5), (.mv (.t 0)), none⟩, ⟨(some 6), (.mv (.t 1)), none⟩, ⟨(some 7), (.qcall 198 [(.t 6)]), none⟩, ⟨(some 8), (.gload 1 none), none⟩, ⟨(some 9), (.build [(.str ⟨#[]⟩), (.str ⟨#[]⟩), .nili] [(0, (1, (.t 5))), (1, (1, (.t 7))), (2, (1, (.t 8)))]), none⟩, ⟨(some 10), (.box (.t 9)), none⟩, ⟨(some 4), (.mv (.t 10)), none⟩]) .ret))

set_option maxRecDepth 100000 in
theorem k_rngErr : compileC Tryz.prog ann (Tryz.f178.body.getD .skip) = some c_rngErr := by kernel_rfl

theorem s_rngErr {args : List AV} {σ : St} {K : AV → St → Prop} (h : WF σ → T Tryz.prog ann c_rngErr (Fin σ [(.t 4)] K) (args ++ List.replicate (11 - args.length) (.tup [])) σ) : ACalls Tryz.prog n_rngErr args σ K :=
  calls_ok Tryz.func178 (by kernel_rfl) (by kernel_rfl) k_rngErr (by kernel_rfl) (by kernel_rfl) h

abbrev n_atoi : Nat := 117

def c_atoi : C := (.seq (.reg [⟨(some 2), (.mv (.c (.int .i64 0))), none⟩, ⟨(some 3), (.mv (.c .nili)), none⟩]) (.seq (.reg [⟨(some 7), (.mv (.t 0)), none⟩, ⟨(some 8), (.call 155 [(.t 7)]), none⟩, ⟨(some 6), (.mv (.t 8)), none⟩, ⟨(some 9), (.ext (.t 6) 0), none⟩, ⟨(some 10), (.ext (.t 6) 1), none⟩, ⟨(some 4), (.mv (.t 9)), none⟩, ⟨(some 5), (.mv (.t 10)), none⟩]) (.seq (.seq (.reg [⟨(some 11), (.mv (.t 5)), none⟩, ⟨(some 12), (.eqI true true [(57, .i64)] (.t 11) (.c .nili)), none⟩]) (.cond (.t 12) (.seq (.reg [⟨(some 13), (.mv (.t 4)), none⟩, ⟨(some 14), (.mv (.t 0)), none⟩, ⟨(some 15), (.mv (.t 5)), none⟩, ⟨(some 16), (.call 154 [(.c (.str ⟨#[65, 116, 111, 105]⟩)), (.t 14), (.c (.int .i64 0)), (.c (.int .i64 0)), (.t 15)]), none⟩, ⟨(some 2), (.mv (.t 13)), none⟩, ⟨(some 3), (.mv (.t 16)), none⟩]) .ret) .skip)) (.seq (.reg [⟨(some 17), (.mv (.t 4)), none⟩, ⟨(some 2), (.mv (.t 17)), none⟩, ⟨(some 3), (.mv (.c .nili)), none⟩]) .ret))))

set_option maxRecDepth 100000 in
theorem k_atoi : compileC Tryz.prog ann (Tryz.f117.body.getD .skip) = some c_atoi := by kernel_rfl

theorem s_atoi {args : List AV} {σ : St} {K : AV → St → Prop} (h : WF σ → T Tryz.prog ann c_atoi (Fin σ [(.t 2), (.t 3)] K) (args ++ List.replicate (18 - args.length) (.tup [])) σ) : ACalls Tryz.prog n_atoi args σ K :=
  calls_ok Tryz.func117 (by kernel_rfl) (by kernel_rfl) k_atoi (by kernel_rfl) (by kernel_rfl) h

abbrev n_iatoi : Nat := 155

def c_iatoi : C := (.seq (.reg [⟨(some 2), (.mv (.c (.int .i64 0))), none⟩, ⟨(some 3), (.mv (.c .nili)), none⟩]) (.seq (.reg [⟨(some 11), (.mv (.t 0)), none⟩, ⟨(some 12), (.slen (.t 11)), none⟩, ⟨(some 4), (.mv (.t 12)), none⟩]) (.seq (.seq (.reg [⟨(some 13), (.mv (.c (.bool false))), none⟩, ⟨(some 14), (.mv (.t 4)), (some (13, true))⟩, ⟨(some 15), (.bin .lss .i64 (.c (.int .i64 0)) (.t 14)), (some (13, true))⟩, ⟨(some 16), (.mv (.t 15)), (some (13, true))⟩, ⟨(some 17), (.mv (.t 4)), (some (16, true))⟩, ⟨(some 18), (.bin .lss .i64 (.t 17) (.c (.int .i64 10))), (some (16, true))⟩, ⟨(some 19), (.pick (.t 16) (.t 18) (.c (.bool false))), (some (13, true))⟩, ⟨(some 20), (.pick (.t 13) (.t 19) (.c (.bool false))), none⟩, ⟨(some 21), (.mv (.t 20)), none⟩, ⟨(some 22), (.mv (.c (.bool true))), (some (21, false))⟩, ⟨(some 23), (.mv (.t 4)), (some (22, true))⟩, ⟨(some 24), (.bin .lss .i64 (.c (.int .i64 0)) (.t 23)), (some (22, true))⟩, ⟨(some 25), (.mv (.t 24)), (some (22, true))⟩, ⟨(some 26), (.mv (.t 4)), (some (25, true))⟩, ⟨(some 27), (.bin .lss .i64 (.t 26) (.c (.int .i64 19))), (some (25, true))⟩, ⟨(some 28), (.pick (.t 25) (.t 27) (.c (.bool false))), (some (22, true))⟩, ⟨(some 29), (.pick (.t 22) (.t 28) (.c (.bool false))), (some (21, false))⟩, ⟨(some 30), (.pick (.t 21) (.c (.bool true)) (.t 29)), none⟩]) (.cond (.t 30) (.seq (.reg [⟨(some 31), (.mv (.t 0)), none⟩, ⟨(some 5), (.mv (.t 31)), none⟩]) (.seq (.seq (.reg [⟨(some 32), (.mv (.t 0)), none⟩, ⟨(some 33), (.idxS (.t 32) (.c (.int .i64 0))), none⟩, ⟨(some 34), (.bin .eql .u8 (.t 33) (.c (.int .u8 45))), none⟩, ⟨(some 35), (.mv (.t 34)), none⟩, ⟨(some 36), (.mv (.t 0)), (some (35, false))⟩, ⟨(some 37), (.idxS (.t 36) (.c (.int .i64 0))), (some (35, false))⟩, ⟨(some 38), (.bin .eql .u8 (.t 37) (.c (.int .u8 43))), (some (35, false))⟩, ⟨(some 39), (.pick (.t 35) (.c (.bool true)) (.t 38)), none⟩]) (.cond (.t 39) (.seq (.reg [⟨(some 40), (.mv (.t 0)), none⟩, ⟨(some 41), (.sslice (.t 40) (some (.c (.int .i64 1))) none), none⟩, ⟨(some 0), (.mv (.t 41)), none⟩]) (.seq (.reg [⟨(some 42), (.mv (.t 0)), none⟩, ⟨(some 43), (.slen (.t 42)), none⟩, ⟨(some 44), (.bin .lss .i64 (.t 43) (.c (.int .i64 1))), none⟩]) (.cond (.t 44) (.seq (.reg [⟨(some 45), (.mkI 242 (.c (.int .i64 2))), none⟩, ⟨(some 2), (.mv (.c (.int .i64 0))), none⟩, ⟨(some 3), (.mv (.t 45)), none⟩]) .ret) .skip))) .skip)) (.seq (.reg [⟨(some 6), (.mv (.c (.int .i64 0))), none⟩]) (.seq (.seq (.reg [⟨(some 46), (.mv (.t 0)), none⟩, ⟨(some 47), (.convSB .tip (.t 46)), none⟩, ⟨(some 48), (.len (.t 47)), none⟩, ⟨(some 49), (.mv (.c (.int .i64 0))), none⟩]) (.block 0 (.loop (.seq (.reg [⟨(some 50), (.bin .lss .i64 (.t 49) (.t 48)), none⟩]) (.seq (.cond (.t 50) .skip (.exit 0)) (.seq (.block 1 (.seq (.reg [⟨(some 51), (.iaddr 1 (.t 47) (.t 49)), none⟩, ⟨(some 52), (.load none (.t 51)), none⟩, ⟨(some 8), (.mv (.t 52)), none⟩]) (.seq (.reg [⟨(some 53), (.mv (.t 8)), none⟩, ⟨(some 54), (.bin .sub .u8 (.t 53) (.c (.int .u8 48))), none⟩, ⟨(some 8), (.mv (.t 54)), none⟩]) (.seq (.seq (.reg [⟨(some 55), (.mv (.t 8)), none⟩, ⟨(some 56), (.bin .gtr .u8 (.t 55) (.c (.int .u8 9))), none⟩]) (.cond (.t 56) (.seq (.reg [⟨(some 57), (.mkI 242 (.c (.int .i64 2))), none⟩, ⟨(some 2), (.mv (.c (.int .i64 0))), none⟩, ⟨(some 3), (.mv (.t 57)), none⟩]) .ret) .skip)) (.reg [⟨(some 58), (.mv (.t 6)), none⟩, ⟨(some 59), (.bin .mul .i64 (.t 58) (.c (.int .i64 10))), none⟩, ⟨(some 60), (.mv (.t 8)), none⟩, ⟨(some 61), (.conv .i64 (.t 60)), none⟩, ⟨(some 62), (.bin .add .i64 (.t 59) (.t 61)), none⟩, ⟨(some 6), (.mv (.t 62)), none⟩]))))) (.reg [⟨(some 63), (.bin .add .i64 (.t 49) (.c (.int .i64 1))), none⟩, ⟨(some 49), (.mv (.t 63)), none⟩]))))))) (.seq (.seq (.reg [⟨(some 64), (.mv (.t 5)), none⟩, ⟨(some 65), (.idxS (.t 64) (.c (.int .i64 0))), none⟩, ⟨(some 66), (.bin .eql .u8 (.t 65) (.c (.int .u8 45))), none⟩]) (.cond (.t 66) (.reg [⟨(some 67), (.mv (.t 6)), none⟩, ⟨(some 68), (.un .neg .i64 (.t 67)), none⟩, ⟨(some 6), (.mv (.t 68)), none⟩]) .skip)) (.seq (.reg [⟨(some 69), (.mv (.t 6)), none⟩, ⟨(some 2), (.mv (.t 69)), none⟩, ⟨(some 3), (.mv (.c .nili)), none⟩]) .ret)))))) .skip)) (.seq (.reg [⟨(some 71), (.mv (.t 0)), none⟩, ⟨(some 72), (.call 181 [(.t 71), (.c (.int .i64 10)), (.c (.int .i64 0))]), none⟩, ⟨(some 70), (.mv (.t 72)), none⟩, ⟨(some 73), (.ext (.t 70) 0), none⟩, ⟨(some 74), (.ext (.t 70) 1), none⟩, ⟨(some 9), (.mv (.t 73)), none⟩, ⟨(some 10), (.mv (.t 74)), none⟩]) (.seq (.reg [⟨(some 75), (.mv (.t 9)), none⟩, ⟨(some 76), (.mv (.t 10)), none⟩, ⟨(some 2), (.mv (.t 75)), none⟩, ⟨(some 3), (.mv (.t 76)), none⟩]) .ret)))))

set_option maxRecDepth 100000 in
theorem k_iatoi : compileC Tryz.prog ann (Tryz.f155.body.getD .skip) = some c_iatoi := by kernel_rfl

theorem s_iatoi {args : List AV} {σ : St} {K : AV → St → Prop} (h : WF σ → T Tryz.prog ann c_iatoi (Fin σ [(.t 2), (.t 3)] K) (args ++ List.replicate (77 - args.length) (.tup [])) σ) : ACalls Tryz.prog n_iatoi args σ K :=
  calls_ok Tryz.func155 (by kernel_rfl) (by kernel_rfl) k_iatoi (by kernel_rfl) (by kernel_rfl) h

abbrev ann_iparI : Ann := { errs := [(57, .i64), (242, .i64)] }

abbrev n_iparI : Nat := 181

def c_iparI : C := (.seq (.reg [⟨(some 6), (.mv (.c (.int .i64 0))), none⟩, ⟨(some 7), (.mv (.c .nili)), none⟩]) (.seq (.seq (.reg [⟨(some 12), (.mv (.t 0)), none⟩, ⟨(some 13), (.sbin .eql (.t 12) (.c (.str ⟨#[]⟩))), none⟩]) (.cond (.t 13) (.seq (.reg [⟨(some 14), (.mkI 242 (.c (.int .i64 2))), none⟩, ⟨(some 6), (.mv (.c (.int .i64 0))), none⟩, ⟨(some 7), (.mv (.t 14)), none⟩]) .ret) .skip)) (.seq (.reg [⟨(some 8), (.mv (.c (.bool false))), none⟩]) (.seq (.seq (.reg [⟨(some 15), (.mv (.t 0)), none⟩, ⟨(some 16), (.idxS (.t 15) (.c (.int .i64 0))), none⟩]) (.block 0 (.seq (.reg [⟨(some 18), (.bin .eql .u8 (.t 16) (.c (.int .u8 43))), none⟩, ⟨(some 17), (.mv (.t 18)), none⟩]) (.cond (.t 17) (.reg [⟨(some 19), (.mv (.t 0)), none⟩, ⟨(some 20), (.sslice (.t 19) (some (.c (.int .i64 1))) none), none⟩, ⟨(some 0), (.mv (.t 20)), none⟩]) (.seq (.reg [⟨(some 22), (.bin .eql .u8 (.t 16) (.c (.int .u8 45))), none⟩, ⟨(some 21), (.mv (.t 22)), none⟩]) (.cond (.t 21) (.seq (.reg [⟨(some 23), (.mv (.t 0)), none⟩, ⟨(some 24), (.sslice (.t 23) (some (.c (.int .i64 1))) none), none⟩, ⟨(some 0), (.mv (.t 24)), none⟩]) (.reg [⟨(some 8), (.mv (.c (.bool true))), none⟩])) .skip)))))) (.seq (.reg [⟨(some 9), (.mv (.c (.int .u64 0))), none⟩]) (.seq (.reg [⟨(some 26), (.mv (.t 0)), none⟩, ⟨(some 27), (.mv (.t 1)), none⟩, ⟨(some 28), (.mv (.t 2)), none⟩, ⟨(some 29), (.call 153 [(.t 26), (.t 27), (.t 28)]), none⟩, ⟨(some 25), (.mv (.t 29)), none⟩, ⟨(some 30), (.ext (.t 25) 0), none⟩, ⟨(some 31), (.ext (.t 25) 1), none⟩, ⟨(some 9), (.mv (.t 30)), none⟩, ⟨(some 7), (.mv (.t 31)), none⟩]) (.seq (.seq (.reg [⟨(some 32), (.mv (.t 7)), none⟩, ⟨(some 33), (.eqI true true [(57, .i64), (242, .i64)] (.t 32) (.c .nili)), none⟩, ⟨(some 34), (.mv (.t 33)), none⟩, ⟨(some 35), (.mv (.t 7)), (some (34, true))⟩, ⟨(some 36), (.mkI 242 (.c (.int .i64 1))), (some (34, true))⟩, ⟨(some 37), (.eqI true false [(57, .i64), (242, .i64)] (.t 35) (.t 36)), (some (34, true))⟩, ⟨(some 38), (.pick (.t 34) (.t 37) (.c (.bool false))), none⟩]) (.cond (.t 38) (.seq (.reg [⟨(some 39), (.mv (.t 7)), none⟩, ⟨(some 6), (.mv (.c (.int .i64 0))), none⟩, ⟨(some 7), (.mv (.t 39)), none⟩]) .ret) .skip)) (.seq (.seq (.reg [⟨(some 40), (.mv (.t 2)), none⟩, ⟨(some 41), (.bin .eql .i64 (.t 40) (.c (.int .i64 0))), none⟩]) (.cond (.t 41) (.reg [⟨(some 2), (.mv (.c (.int .i64 64))), none⟩]) .skip)) (.seq (.reg [⟨(some 42), (.mv (.t 2)), none⟩, ⟨(some 43), (.bin .sub .i64 (.t 42) (.c (.int .i64 1))), none⟩, ⟨(some 44), (.conv .u64 (.t 43)), none⟩, ⟨(some 45), (.bin .shl .u64 (.c (.int .u64 1)) (.t 44)), none⟩, ⟨(some 10), (.mv (.t 45)), none⟩]) (.seq (.seq (.reg [⟨(some 46), (.mv (.t 8)), none⟩, ⟨(some 47), (.not (.t 46)), none⟩, ⟨(some 48), (.mv (.t 47)), none⟩, ⟨(some 49), (.mv (.t 9)), (some (48, true))⟩, ⟨(some 50), (.mv (.t 10)), (some (48, true))⟩, ⟨(some 51), (.bin .geq .u64 (.t 49) (.t 50)), (some (48, true))⟩, ⟨(some 52), (.pick (.t 48) (.t 51) (.c (.bool false))), none⟩]) (.cond (.t 52) (.seq (.reg [⟨(some 53), (.mv (.t 10)), none⟩, ⟨(some 54), (.bin .sub .u64 (.t 53) (.c (.int .u64 1))), none⟩, ⟨(some 55), (.conv .i64 (.t 54)), none⟩, ⟨(some 56), (.mkI 242 (.c (.int .i64 1))), none⟩, ⟨(some 6), (.mv (.t 55)), none⟩, ⟨(some 7), (.mv (.t 56)), none⟩]) .ret) .skip)) (.seq (.seq (.reg [⟨(some 57), (.mv (.t 8)), none⟩, ⟨(some 58), (.mv (.t 57)), none⟩, ⟨(some 59), (.mv (.t 9)), (some (58, true))⟩, ⟨(some 60), (.mv (.t 10)), (some (58, true))⟩, ⟨(some 61), (.bin .gtr .u64 (.t 59) (.t 60)), (some (58, true))⟩, ⟨(some 62), (.pick (.t 58) (.t 61) (.c (.bool false))), none⟩]) (.cond (.t 62) (.seq (.reg [⟨(some 63), (.mv (.t 10)), none⟩, ⟨(some 64), (.conv .i64 (.t 63)), none⟩, ⟨(some 65), (.un .neg .i64 (.t 64)), none⟩, ⟨(some 66), (.mkI 242 (.c (.int .i64 1))), none⟩, ⟨(some 6), (.mv (.t 65)), none⟩, ⟨(some 7), (.mv (.t 66)), none⟩]) .ret) .skip)) (.seq (.reg [⟨(some 67), (.mv (.t 9)), none⟩, ⟨(some 68), (.conv .i64 (.t 67)), none⟩, ⟨(some 11), (.mv (.t 68)), none⟩]) (.seq (.seq (.reg [⟨(some 69), (.mv (.t 8)), none⟩]) (.cond (.t 69) (.reg [⟨(some 70), (.mv (.t 11)), none⟩, ⟨(some 71), (.un .neg .i64 (.t 70)), none⟩, ⟨(some 11), (.mv (.t 71)), none⟩]) .skip)) (.seq (.reg [⟨(some 72), (.mv (.t 11)), none⟩, ⟨(some 6), (.mv (.t 72)), none⟩, ⟨(some 7), (.mv (.c .nili)), none⟩]) .ret))))))))))))))

set_option maxRecDepth 100000 in
theorem k_iparI : compileC Tryz.prog ann_iparI (Tryz.f181.body.getD .skip) = some c_iparI := by kernel_rfl

theorem s_iparI {args : List AV} {σ : St} {K : AV → St → Prop} (h : WF σ → T Tryz.prog ann_iparI c_iparI (Fin σ [(.t 6), (.t 7)] K) (args ++ List.replicate (73 - args.length) (.tup [])) σ) : ACalls Tryz.prog n_iparI args σ K :=
  calls_ok Tryz.func181 (by kernel_rfl) (by kernel_rfl) k_iparI (by kernel_rfl) (by kernel_rfl) h

abbrev n_up13 : Nat := 24

def c_up13 : C := (.seq (.reg [⟨(some 0), (.mv (.c (.bool false))), none⟩]) (.seq (.reg [⟨(some 8), (.call 64 [(.c (.str ⟨#[98, 47, 48, 48, 48, 48, 48, 48, 48, 48, 48, 48, 48, 48, 48, 48, 102, 102, 47, 109]⟩))]), none⟩, ⟨(some 7), (.mv (.t 8)), none⟩, ⟨(some 9), (.ext (.t 7) 0), none⟩, ⟨(some 10), (.ext (.t 7) 1), none⟩, ⟨(some 11), (.ext (.t 7) 2), none⟩, ⟨(some 12), (.ext (.t 7) 3), none⟩, ⟨(some 1), (.mv (.t 9)), none⟩, ⟨(some 2), (.mv (.t 10)), none⟩, ⟨(some 3), (.mv (.t 11)), none⟩, ⟨(some 4), (.mv (.t 12)), none⟩]) (.seq (.reg [⟨(some 14), (.build [(.int .u64 0), (.int .i64 0), (.int .i64 0), (.int .i64 0), (.int .i64 0), (.int .i64 0)] []), none⟩, ⟨(some 15), (.call 65 [(.t 14)]), none⟩, ⟨(some 13), (.mv (.t 15)), none⟩, ⟨(some 16), (.ext (.t 13) 0), none⟩, ⟨(some 17), (.ext (.t 13) 1), none⟩, ⟨(some 5), (.mv (.t 16)), none⟩, ⟨(some 6), (.mv (.t 17)), none⟩]) (.seq (.reg [⟨(some 18), (.call 66 [(.c (.int .u64 255)), (.c (.str ⟨#[109]⟩)), (.c (.int .i64 0))]), none⟩, ⟨(some 19), (.sbin .eql (.t 18) (.c (.str ⟨#[98, 47, 48, 48, 48, 48, 48, 48, 48, 48, 48, 48, 48, 48, 48, 48, 102, 102, 47, 109]⟩))), none⟩, ⟨(some 20), (.mv (.t 19)), none⟩, ⟨(some 21), (.mv (.t 1)), (some (20, true))⟩, ⟨(some 22), (.bin .eql .u64 (.t 21) (.c (.int .u64 255))), (some (20, true))⟩, ⟨(some 23), (.pick (.t 20) (.t 22) (.c (.bool false))), none⟩, ⟨(some 24), (.mv (.t 23)), none⟩, ⟨(some 25), (.mv (.t 2)), (some (24, true))⟩, ⟨(some 26), (.sbin .eql (.t 25) (.c (.str ⟨#[109]⟩))), (some (24, true))⟩, ⟨(some 27), (.pick (.t 24) (.t 26) (.c (.bool false))), none⟩, ⟨(some 28), (.mv (.t 27)), none⟩, ⟨(some 29), (.mv (.t 4)), (some (28, true))⟩, ⟨(some 30), (.pick (.t 28) (.t 29) (.c (.bool false))), none⟩, ⟨(some 31), (.mv (.t 30)), none⟩, ⟨(some 32), (.mv (.t 6)), (some (31, true))⟩, ⟨(some 33), (.mkI 57 (.c (.int .i64 1))), (some (31, true))⟩, ⟨(some 34), (.eqI false false [(57, .i64)] (.t 32) (.t 33)), (some (31, true))⟩, ⟨(some 35), (.pick (.t 31) (.t 34) (.c (.bool false))), none⟩, ⟨(some 0), (.mv (.t 35)), none⟩]) .ret))))

set_option maxRecDepth 100000 in
theorem k_up13 : compileC Tryz.prog ann (Tryz.f24.body.getD .skip) = some c_up13 := by kernel_rfl

theorem s_up13 {args : List AV} {σ : St} {K : AV → St → Prop} (h : WF σ → T Tryz.prog ann c_up13 (Fin σ [(.t 0)] K) (args ++ List.replicate (36 - args.length) (.tup [])) σ) : ACalls Tryz.prog n_up13 args σ K :=
  calls_ok Tryz.func24 (by kernel_rfl) (by kernel_rfl) k_up13 (by kernel_rfl) (by kernel_rfl) h

abbrev n_metaGets : Nat := 5

def c_metaGets : C := (.seq (.reg [⟨(some 2), (.mv (.c (.bool false))), none⟩]) (.seq (.reg [⟨(some 12), (.call 24 []), none⟩, ⟨(some 3), (.mv (.t 12)), none⟩]) (.seq (.seq (.reg [⟨(some 13), (.mv (.t 0)), none⟩, ⟨(some 14), (.len (.t 13)), none⟩, ⟨(some 15), (.bin .gtr .i64 (.t 14) (.c (.int .i64 5000))), none⟩]) (.cond (.t 15) (.seq (.reg [⟨(some 16), (.mv (.t 3)), none⟩, ⟨(some 2), (.mv (.t 16)), none⟩]) .ret) .skip)) (.seq (.reg [⟨(some 18), (.mv (.t 0)), none⟩, ⟨(some 19), (.call 25 [(.t 18)]), none⟩, ⟨(some 17), (.mv (.t 19)), none⟩, ⟨(some 20), (.ext (.t 17) 0), none⟩, ⟨(some 21), (.ext (.t 17) 1), none⟩, ⟨(some 4), (.alloc [(.int .u64 0), (.int .i64 0), (.int .i64 0), (.int .i64 0), (.int .i64 0), (.int .i64 0)]), none⟩, ⟨none, (.store 6 (.t 4) (.t 20)), none⟩, ⟨(some 5), (.mv (.t 21)), none⟩]) (.seq (.reg [⟨(some 23), (.mv (.t 0)), none⟩, ⟨(some 24), (.call 26 [(.t 23)]), none⟩, ⟨(some 22), (.mv (.t 24)), none⟩, ⟨(some 25), (.ext (.t 22) 0), none⟩, ⟨(some 26), (.ext (.t 22) 1), none⟩, ⟨(some 6), (.alloc [(.int .u64 0), (.int .i64 0), (.int .u64 0)]), none⟩, ⟨none, (.store 3 (.t 6) (.t 25)), none⟩, ⟨(some 7), (.mv (.t 26)), none⟩]) (.seq (.reg [⟨(some 28), (.mv (.t 0)), none⟩, ⟨(some 29), (.call 27 [(.t 28)]), none⟩, ⟨(some 27), (.mv (.t 29)), none⟩, ⟨(some 30), (.ext (.t 27) 0), none⟩, ⟨(some 31), (.ext (.t 27) 1), none⟩, ⟨(some 8), (.alloc [(.int .u64 0), (.int .i64 0), (.int .i64 0), (.int .i64 0), (.int .i64 0), (.int .i64 0)]), none⟩, ⟨none, (.store 6 (.t 8) (.t 30)), none⟩, ⟨(some 9), (.mv (.t 31)), none⟩]) (.seq (.reg [⟨(some 33), (.mv (.t 0)), none⟩, ⟨(some 34), (.call 28 [(.t 33)]), none⟩, ⟨(some 32), (.mv (.t 34)), none⟩, ⟨(some 35), (.ext (.t 32) 0), none⟩, ⟨(some 36), (.ext (.t 32) 1), none⟩, ⟨(some 10), (.alloc [(.int .u64 0), (.int .i64 0), (.int .u64 0)]), none⟩, ⟨none, (.store 3 (.t 10) (.t 35)), none⟩, ⟨(some 11), (.mv (.t 36)), none⟩]) (.seq (.reg [⟨(some 37), (.mv (.t 3)), none⟩, ⟨(some 38), (.mv (.t 37)), none⟩, ⟨(some 39), (.load (some 6) (.t 4)), (some (38, true))⟩, ⟨(some 40), (.load (some 6) (.t 8)), (some (38, true))⟩, ⟨(some 41), (.eqA false 6 (.t 39) (.t 40)), (some (38, true))⟩, ⟨(some 42), (.pick (.t 38) (.t 41) (.c (.bool false))), none⟩, ⟨(some 43), (.mv (.t 42)), none⟩, ⟨(some 44), (.load (some 3) (.t 6)), (some (43, true))⟩, ⟨(some 45), (.load (some 3) (.t 10)), (some (43, true))⟩, ⟨(some 46), (.eqA false 3 (.t 44) (.t 45)), (some (43, true))⟩, ⟨(some 47), (.pick (.t 43) (.t 46) (.c (.bool false))), none⟩, ⟨(some 48), (.mv (.t 47)), none⟩, ⟨(some 49), (.mv (.t 5)), (some (48, true))⟩, ⟨(some 50), (.call 14 [(.t 49)]), (some (48, true))⟩, ⟨(some 51), (.mv (.t 9)), (some (48, true))⟩, ⟨(some 52), (.bin .eql .i64 (.t 50) (.t 51)), (some (48, true))⟩, ⟨(some 53), (.pick (.t 48) (.t 52) (.c (.bool false))), none⟩, ⟨(some 54), (.mv (.t 53)), none⟩, ⟨(some 55), (.mv (.t 7)), (some (54, true))⟩, ⟨(some 56), (.call 14 [(.t 55)]), (some (54, true))⟩, ⟨(some 57), (.mv (.t 11)), (some (54, true))⟩, ⟨(some 58), (.bin .eql .i64 (.t 56) (.t 57)), (some (54, true))⟩, ⟨(some 59), (.pick (.t 54) (.t 58) (.c (.bool false))), none⟩, ⟨(some 2), (.mv (.t 59)), none⟩]) .ret))))))))

set_option maxRecDepth 100000 in
theorem k_metaGets : compileC Tryz.prog ann (Tryz.f5.body.getD .skip) = some c_metaGets := by kernel_rfl

theorem s_metaGets {args : List AV} {σ : St} {K : AV → St → Prop} (h : WF σ → T Tryz.prog ann c_metaGets (Fin σ [(.t 2)] K) (args ++ List.replicate (60 - args.length) (.tup [])) σ) : ACalls Tryz.prog n_metaGets args σ K :=
  calls_ok Tryz.func5 (by kernel_rfl) (by kernel_rfl) k_metaGets (by kernel_rfl) (by kernel_rfl) h

abbrev n_rMay : Nat := 129

def c_rMay : C := (.seq (.reg [⟨(some 1), (.box (.t 0)), none⟩, ⟨(some 2), (.mv (.c (.bool false))), none⟩]) (.seq (.reg [⟨(some 3), (.faddr 0 (.t 1)), none⟩, ⟨(some 4), (.load none (.t 3)), none⟩, ⟨(some 5), (.bin .gtr .u64 (.t 4) (.c (.int .u64 0))), none⟩, ⟨(some 6), (.mv (.t 5)), none⟩, ⟨(some 7), (.faddr 1 (.t 1)), (some (6, true))⟩, ⟨(some 8), (.load none (.t 7)), (some (6, true))⟩, ⟨(some 9), (.bin .geq .i64 (.t 8) (.c (.int .i64 0))), (some (6, true))⟩, ⟨(some 10), (.pick (.t 6) (.t 9) (.c (.bool false))), none⟩, ⟨(some 11), (.mv (.t 10)), none⟩, ⟨(some 12), (.faddr 1 (.t 1)), (some (11, true))⟩, ⟨(some 13), (.load none (.t 12)), (some (11, true))⟩, ⟨(some 14), (.bin .leq .i64 (.t 13) (.c (.int .i64 10))), (some (11, true))⟩, ⟨(some 15), (.pick (.t 11) (.t 14) (.c (.bool false))), none⟩, ⟨(some 16), (.mv (.t 15)), none⟩, ⟨(some 17), (.faddr 2 (.t 1)), (some (16, true))⟩, ⟨(some 18), (.load none (.t 17)), (some (16, true))⟩, ⟨(some 19), (.bin .geq .i64 (.t 18) (.c (.int .i64 0))), (some (16, true))⟩, ⟨(some 20), (.pick (.t 16) (.t 19) (.c (.bool false))), none⟩, ⟨(some 21), (.mv (.t 20)), none⟩, ⟨(some 22), (.faddr 2 (.t 1)), (some (21, true))⟩, ⟨(some 23), (.load none (.t 22)), (some (21, true))⟩, ⟨(some 24), (.faddr 3 (.t 1)), (some (21, true))⟩, ⟨(some 25), (.load none (.t 24)), (some (21, true))⟩, ⟨(some 26), (.bin .leq .i64 (.t 23) (.t 25)), (some (21, true))⟩, ⟨(some 27), (.pick (.t 21) (.t 26) (.c (.bool false))), none⟩, ⟨(some 28), (.mv (.t 27)), none⟩, ⟨(some 29), (.faddr 3 (.t 1)), (some (28, true))⟩, ⟨(some 30), (.load none (.t 29)), (some (28, true))⟩, ⟨(some 31), (.bin .leq .i64 (.t 30) (.c (.int .i64 1099511627776))), (some (28, true))⟩, ⟨(some 32), (.pick (.t 28) (.t 31) (.c (.bool false))), none⟩, ⟨(some 33), (.mv (.t 32)), none⟩, ⟨(some 34), (.faddr 4 (.t 1)), (some (33, true))⟩, ⟨(some 35), (.load none (.t 34)), (some (33, true))⟩, ⟨(some 36), (.bin .geq .i64 (.t 35) (.c (.int .i64 1))), (some (33, true))⟩, ⟨(some 37), (.pick (.t 33) (.t 36) (.c (.bool false))), none⟩, ⟨(some 38), (.mv (.t 37)), none⟩, ⟨(some 39), (.faddr 4 (.t 1)), (some (38, true))⟩, ⟨(some 40), (.load none (.t 39)), (some (38, true))⟩, ⟨(some 41), (.bin .leq .i64 (.t 40) (.c (.int .i64 200))), (some (38, true))⟩, ⟨(some 42), (.pick (.t 38) (.t 41) (.c (.bool false))), none⟩, ⟨(some 43), (.mv (.t 42)), none⟩, ⟨(some 44), (.faddr 5 (.t 1)), (some (43, true))⟩, ⟨(some 45), (.load none (.t 44)), (some (43, true))⟩, ⟨(some 46), (.faddr 4 (.t 1)), (some (43, true))⟩, ⟨(some 47), (.load none (.t 46)), (some (43, true))⟩, ⟨(some 48), (.bin .geq .i64 (.t 45) (.t 47)), (some (43, true))⟩, ⟨(some 49), (.pick (.t 43) (.t 48) (.c (.bool false))), none⟩, ⟨(some 50), (.mv (.t 49)), none⟩, ⟨(some 51), (.faddr 5 (.t 1)), (some (50, true))⟩, ⟨(some 52), (.load none (.t 51)), (some (50, true))⟩, ⟨(some 53), (.faddr 4 (.t 1)), (some (50, true))⟩, ⟨(some 54), (.load none (.t 53)), (some (50, true))⟩, ⟨(some 55), (.bin .mul .i64 (.c (.int .i64 64)) (.t 54)), (some (50, true))⟩, ⟨(some 56), (.bin .leq .i64 (.t 52) (.t 55)), (some (50, true))⟩, ⟨(some 57), (.pick (.t 50) (.t 56) (.c (.bool false))), none⟩, ⟨(some 2), (.mv (.t 57)), none⟩]) .ret))

set_option maxRecDepth 100000 in
theorem k_rMay : compileC Tryz.prog ann (Tryz.f129.body.getD .skip) = some c_rMay := by kernel_rfl

theorem s_rMay {args : List AV} {σ : St} {K : AV → St → Prop} (h : WF σ → T Tryz.prog ann c_rMay (Fin σ [(.t 2)] K) (args ++ List.replicate (58 - args.length) (.tup [])) σ) : ACalls Tryz.prog n_rMay args σ K :=
  calls_ok Tryz.func129 (by kernel_rfl) (by kernel_rfl) k_rMay (by kernel_rfl) (by kernel_rfl) h

abbrev n_mGet : Nat := 25

def c_mGet : C := (.seq (.reg [⟨(some 2), (.alloc [(.int .u64 0), (.int .i64 0), (.int .i64 0), (.int .i64 0), (.int .i64 0), (.int .i64 0)]), none⟩, ⟨(some 3), (.mv (.c .nili)), none⟩]) (.seq (.reg [⟨(some 4), (.alloc [(.int .u64 0), (.int .i64 0), (.int .i64 0), (.int .i64 0), (.int .i64 0), (.int .i64 0)]), none⟩]) (.seq (.reg [⟨(some 6), (.mv (.t 0)), none⟩, ⟨(some 7), (.mkF 68 [] [(.t 4)]), none⟩, ⟨(some 8), (.call 67 [(.t 6), (.t 7)]), none⟩, ⟨(some 5), (.mv (.t 8)), none⟩]) (.seq (.seq (.reg [⟨(some 9), (.mv (.t 5)), none⟩, ⟨(some 10), (.eqI true true [(57, .i64)] (.t 9) (.c .nili)), none⟩]) (.cond (.t 10) (.seq (.reg [⟨(some 11), (.build [(.int .u64 0), (.int .i64 0), (.int .i64 0), (.int .i64 0), (.int .i64 0), (.int .i64 0)] []), none⟩, ⟨(some 12), (.mv (.t 5)), none⟩, ⟨none, (.store 6 (.t 2) (.t 11)), none⟩, ⟨(some 3), (.mv (.t 12)), none⟩]) .ret) .skip)) (.seq (.reg [⟨(some 13), (.load (some 6) (.t 4)), none⟩, ⟨none, (.store 6 (.t 2) (.t 13)), none⟩, ⟨(some 3), (.mv (.c .nili)), none⟩]) .ret)))))

set_option maxRecDepth 100000 in
theorem k_mGet : compileC Tryz.prog ann (Tryz.f25.body.getD .skip) = some c_mGet := by kernel_rfl

theorem s_mGet {args : List AV} {σ : St} {K : AV → St → Prop} (h : WF σ → T Tryz.prog ann c_mGet (Fin σ [(.cell 2 (some 6)), (.t 3)] K) (args ++ List.replicate (14 - args.length) (.tup [])) σ) : ACalls Tryz.prog n_mGet args σ K :=
  calls_ok Tryz.func25 (by kernel_rfl) (by kernel_rfl) k_mGet (by kernel_rfl) (by kernel_rfl) h

abbrev n_mGet1 : Nat := 68

def c_mGet1 : C := (.seq (.reg [⟨(some 3), (.mv (.c (.bool false))), none⟩]) (.seq (.reg [⟨(some 4), (.mv (.t 0)), none⟩, ⟨(some 5), (.call 69 [(.t 4), (.c (.int .i64 8))]), none⟩, ⟨(some 6), (.faddr 0 (.t 1)), none⟩, ⟨none, (.store 1 (.t 6) (.t 5)), none⟩]) (.seq (.reg [⟨(some 7), (.mv (.t 0)), none⟩, ⟨(some 8), (.call 69 [(.t 7), (.c (.int .i64 8))]), none⟩, ⟨(some 9), (.conv .i64 (.t 8)), none⟩, ⟨(some 10), (.faddr 2 (.t 1)), none⟩, ⟨none, (.store 1 (.t 10) (.t 9)), none⟩]) (.seq (.reg [⟨(some 11), (.mv (.t 0)), none⟩, ⟨(some 12), (.call 69 [(.t 11), (.c (.int .i64 8))]), none⟩, ⟨(some 13), (.conv .i64 (.t 12)), none⟩, ⟨(some 14), (.faddr 3 (.t 1)), none⟩, ⟨none, (.store 1 (.t 14) (.t 13)), none⟩]) (.seq (.reg [⟨(some 15), (.mv (.t 0)), none⟩, ⟨(some 16), (.call 69 [(.t 15), (.c (.int .i64 1))]), none⟩, ⟨(some 17), (.conv .i64 (.t 16)), none⟩, ⟨(some 18), (.faddr 1 (.t 1)), none⟩, ⟨none, (.store 1 (.t 18) (.t 17)), none⟩]) (.seq (.reg [⟨(some 19), (.mv (.t 0)), none⟩, ⟨(some 20), (.call 69 [(.t 19), (.c (.int .i64 2))]), none⟩, ⟨(some 21), (.conv .i64 (.t 20)), none⟩, ⟨(some 22), (.faddr 4 (.t 1)), none⟩, ⟨none, (.store 1 (.t 22) (.t 21)), none⟩]) (.seq (.reg [⟨(some 23), (.mv (.t 0)), none⟩, ⟨(some 24), (.call 69 [(.t 23), (.c (.int .i64 4))]), none⟩, ⟨(some 25), (.conv .i64 (.t 24)), none⟩, ⟨(some 26), (.faddr 5 (.t 1)), none⟩, ⟨none, (.store 1 (.t 26) (.t 25)), none⟩]) (.seq (.reg [⟨(some 27), (.load (some 6) (.t 1)), none⟩, ⟨(some 28), (.call 70 [(.t 27)]), none⟩, ⟨(some 3), (.mv (.t 28)), none⟩]) .ret))))))))

set_option maxRecDepth 100000 in
theorem k_mGet1 : compileC Tryz.prog ann (Tryz.f68.body.getD .skip) = some c_mGet1 := by kernel_rfl

theorem s_mGet1 {args : List AV} {σ : St} {K : AV → St → Prop} (h : WF σ → T Tryz.prog ann c_mGet1 (Fin σ [(.t 3)] K) (args ++ List.replicate (29 - args.length) (.tup [])) σ) : ACalls Tryz.prog n_mGet1 args σ K :=
  calls_ok Tryz.func68 (by kernel_rfl) (by kernel_rfl) k_mGet1 (by kernel_rfl) (by kernel_rfl) h

abbrev n_mOpen : Nat := 67

def c_mOpen : C := (.seq (.reg [⟨(some 4), (.mv (.c .nili)), none⟩]) (.seq (.reg [⟨(some 10), (.mv (.t 0)), none⟩, ⟨(some 11), (.call 121 [(.t 10)]), none⟩, ⟨(some 9), (.mv (.t 11)), none⟩, ⟨(some 12), (.ext (.t 9) 0), none⟩, ⟨(some 13), (.ext (.t 9) 1), none⟩, ⟨(some 5), (.mv (.t 12)), none⟩, ⟨(some 6), (.mv (.t 13)), none⟩]) (.seq (.seq (.reg [⟨(some 14), (.mv (.t 6)), none⟩, ⟨(some 15), (.eqI true true [(57, .i64)] (.t 14) (.c .nili)), none⟩]) (.cond (.t 15) (.seq (.reg [⟨(some 16), (.mv (.t 6)), none⟩, ⟨(some 4), (.mv (.t 16)), none⟩]) .ret) .skip)) (.seq (.reg [⟨(some 17), (.mv (.t 5)), none⟩, ⟨(some 18), (.call 122 [(.t 17)]), none⟩, ⟨(some 7), (.mv (.t 18)), none⟩]) (.seq (.seq (.reg [⟨(some 19), (.mv (.t 1)), none⟩, ⟨(some 20), (.mv (.t 7)), none⟩, ⟨(some 21), (.callv (.t 19) [(.t 20)]), none⟩, ⟨(some 8), (.mv (.t 21)), none⟩]) (.seq (.reg [⟨(some 22), (.mv (.t 8)), none⟩, ⟨(some 23), (.not (.t 22)), none⟩, ⟨(some 24), (.mv (.t 23)), none⟩, ⟨(some 25), (.mv (.t 7)), (some (24, false))⟩, ⟨(some 26), (.call 123 [(.t 25)]), (some (24, false))⟩, ⟨(some 27), (.bin .geq .i64 (.t 26) (.c (.int .i64 0))), (some (24, false))⟩, ⟨(some 28), (.pick (.t 24) (.c (.bool true)) (.t 27)), none⟩, ⟨(some 29), (.mv (.t 28)), none⟩, ⟨(some 30), (.mv (.t 7)), (some (29, false))⟩, ⟨(some 31), (.call 124 [(.t 30)]), (some (29, false))⟩, ⟨(some 32), (.bin .gtr .i64 (.t 31) (.c (.int .i64 0))), (some (29, false))⟩, ⟨(some 33), (.pick (.t 29) (.c (.bool true)) (.t 32)), none⟩]) (.cond (.t 33) (.seq (.reg [⟨(some 34), (.mkI 57 (.c (.int .i64 2))), none⟩, ⟨(some 4), (.mv (.t 34)), none⟩]) .ret) .skip))) (.seq (.reg [⟨(some 4), (.mv (.c .nili)), none⟩]) .ret))))))

set_option maxRecDepth 100000 in
theorem k_mOpen : compileC Tryz.prog ann (Tryz.f67.body.getD .skip) = some c_mOpen := by kernel_rfl

theorem s_mOpen {args : List AV} {σ : St} {K : AV → St → Prop} (h : WF σ → T Tryz.prog ann c_mOpen (Fin σ [(.t 4)] K) (args ++ List.replicate (35 - args.length) (.tup [])) σ) : ACalls Tryz.prog n_mOpen args σ K :=
  calls_ok Tryz.func67 (by kernel_rfl) (by kernel_rfl) k_mOpen (by kernel_rfl) (by kernel_rfl) h

abbrev n_mMarked : Nat := 26

def c_mMarked : C := (.seq (.reg [⟨(some 2), (.alloc [(.int .u64 0), (.int .i64 0), (.int .u64 0)]), none⟩, ⟨(some 3), (.mv (.c .nili)), none⟩]) (.seq (.reg [⟨(some 4), (.alloc [(.int .u64 0), (.int .i64 0), (.int .u64 0)]), none⟩]) (.seq (.reg [⟨(some 6), (.mv (.t 0)), none⟩, ⟨(some 7), (.mkF 71 [] [(.t 4)]), none⟩, ⟨(some 8), (.call 67 [(.t 6), (.t 7)]), none⟩, ⟨(some 5), (.mv (.t 8)), none⟩]) (.seq (.seq (.reg [⟨(some 9), (.mv (.t 5)), none⟩, ⟨(some 10), (.eqI true true [(57, .i64)] (.t 9) (.c .nili)), none⟩]) (.cond (.t 10) (.seq (.reg [⟨(some 11), (.build [(.int .u64 0), (.int .i64 0), (.int .u64 0)] []), none⟩, ⟨(some 12), (.mv (.t 5)), none⟩, ⟨none, (.store 3 (.t 2) (.t 11)), none⟩, ⟨(some 3), (.mv (.t 12)), none⟩]) .ret) .skip)) (.seq (.reg [⟨(some 13), (.load (some 3) (.t 4)), none⟩, ⟨none, (.store 3 (.t 2) (.t 13)), none⟩, ⟨(some 3), (.mv (.c .nili)), none⟩]) .ret)))))

set_option maxRecDepth 100000 in
theorem k_mMarked : compileC Tryz.prog ann (Tryz.f26.body.getD .skip) = some c_mMarked := by kernel_rfl

theorem s_mMarked {args : List AV} {σ : St} {K : AV → St → Prop} (h : WF σ → T Tryz.prog ann c_mMarked (Fin σ [(.cell 2 (some 3)), (.t 3)] K) (args ++ List.replicate (14 - args.length) (.tup [])) σ) : ACalls Tryz.prog n_mMarked args σ K :=
  calls_ok Tryz.func26 (by kernel_rfl) (by kernel_rfl) k_mMarked (by kernel_rfl) (by kernel_rfl) h

abbrev n_mMarked1 : Nat := 71

def c_mMarked1 : C := (.seq (.reg [⟨(some 3), (.mv (.c (.bool false))), none⟩]) (.seq (.reg [⟨(some 4), (.mv (.t 0)), none⟩, ⟨(some 5), (.call 69 [(.t 4), (.c (.int .i64 8))]), none⟩, ⟨(some 6), (.faddr 0 (.t 1)), none⟩, ⟨none, (.store 1 (.t 6) (.t 5)), none⟩]) (.seq (.reg [⟨(some 7), (.mv (.t 0)), none⟩, ⟨(some 8), (.call 69 [(.t 7), (.c (.int .i64 8))]), none⟩, ⟨(some 9), (.conv .i64 (.t 8)), none⟩, ⟨(some 10), (.faddr 1 (.t 1)), none⟩, ⟨none, (.store 1 (.t 10) (.t 9)), none⟩]) (.seq (.reg [⟨(some 11), (.mv (.t 0)), none⟩, ⟨(some 12), (.call 69 [(.t 11), (.c (.int .i64 8))]), none⟩, ⟨(some 13), (.faddr 2 (.t 1)), none⟩, ⟨none, (.store 1 (.t 13) (.t 12)), none⟩]) (.seq (.reg [⟨(some 14), (.load (some 3) (.t 1)), none⟩, ⟨(some 15), (.call 72 [(.t 14)]), none⟩, ⟨(some 3), (.mv (.t 15)), none⟩]) .ret)))))

set_option maxRecDepth 100000 in
theorem k_mMarked1 : compileC Tryz.prog ann (Tryz.f71.body.getD .skip) = some c_mMarked1 := by kernel_rfl

theorem s_mMarked1 {args : List AV} {σ : St} {K : AV → St → Prop} (h : WF σ → T Tryz.prog ann c_mMarked1 (Fin σ [(.t 3)] K) (args ++ List.replicate (16 - args.length) (.tup [])) σ) : ACalls Tryz.prog n_mMarked1 args σ K :=
  calls_ok Tryz.func71 (by kernel_rfl) (by kernel_rfl) k_mMarked1 (by kernel_rfl) (by kernel_rfl) h

abbrev n_rMetaG : Nat := 27

def c_rMetaG : C := (.seq (.reg [⟨(some 2), (.alloc [(.int .u64 0), (.int .i64 0), (.int .i64 0), (.int .i64 0), (.int .i64 0), (.int .i64 0)]), none⟩, ⟨(some 3), (.mv (.c (.int .i64 0))), none⟩]) (.seq (.reg [⟨(some 9), (.mv (.t 0)), none⟩, ⟨(some 10), (.call 73 [(.t 9)]), none⟩, ⟨(some 8), (.mv (.t 10)), none⟩, ⟨(some 11), (.ext (.t 8) 0), none⟩, ⟨(some 12), (.ext (.t 8) 1), none⟩, ⟨(some 4), (.mv (.t 11)), none⟩, ⟨(some 5), (.mv (.t 12)), none⟩]) (.seq (.seq (.reg [⟨(some 13), (.mv (.t 5)), none⟩, ⟨(some 14), (.bin .neq .i64 (.t 13) (.c (.int .i64 0))), none⟩]) (.cond (.t 14) (.seq (.reg [⟨(some 15), (.build [(.int .u64 0), (.int .i64 0), (.int .i64 0), (.int .i64 0), (.int .i64 0), (.int .i64 0)] []), none⟩, ⟨(some 16), (.mv (.t 5)), none⟩, ⟨none, (.store 6 (.t 2) (.t 15)), none⟩, ⟨(some 3), (.mv (.t 16)), none⟩]) .ret) .skip)) (.seq (.reg [⟨(some 18), (.mv (.t 4)), none⟩, ⟨(some 19), (.call 74 [(.t 18)]), none⟩, ⟨(some 17), (.mv (.t 19)), none⟩, ⟨(some 20), (.ext (.t 17) 0), none⟩, ⟨(some 21), (.ext (.t 17) 1), none⟩, ⟨(some 6), (.alloc [(.int .u64 0), (.int .i64 0), (.int .i64 0), (.int .i64 0), (.int .i64 0), (.int .i64 0)]), none⟩, ⟨none, (.store 6 (.t 6) (.t 20)), none⟩, ⟨(some 7), (.mv (.t 21)), none⟩]) (.seq (.seq (.reg [⟨(some 22), (.mv (.t 7)), none⟩, ⟨(some 23), (.not (.t 22)), none⟩]) (.cond (.t 23) (.seq (.reg [⟨(some 24), (.build [(.int .u64 0), (.int .i64 0), (.int .i64 0), (.int .i64 0), (.int .i64 0), (.int .i64 0)] []), none⟩, ⟨none, (.store 6 (.t 2) (.t 24)), none⟩, ⟨(some 3), (.mv (.c (.int .i64 2))), none⟩]) .ret) .skip)) (.seq (.reg [⟨(some 25), (.load (some 6) (.t 6)), none⟩, ⟨none, (.store 6 (.t 2) (.t 25)), none⟩, ⟨(some 3), (.mv (.c (.int .i64 0))), none⟩]) .ret))))))

set_option maxRecDepth 100000 in
theorem k_rMetaG : compileC Tryz.prog ann (Tryz.f27.body.getD .skip) = some c_rMetaG := by kernel_rfl

theorem s_rMetaG {args : List AV} {σ : St} {K : AV → St → Prop} (h : WF σ → T Tryz.prog ann c_rMetaG (Fin σ [(.cell 2 (some 6)), (.t 3)] K) (args ++ List.replicate (26 - args.length) (.tup [])) σ) : ACalls Tryz.prog n_rMetaG args σ K :=
  calls_ok Tryz.func27 (by kernel_rfl) (by kernel_rfl) k_rMetaG (by kernel_rfl) (by kernel_rfl) h

abbrev n_rTold : Nat := 74

def c_rTold : C := (.seq (.reg [⟨(some 2), (.alloc [(.int .u64 0), (.int .i64 0), (.int .i64 0), (.int .i64 0), (.int .i64 0), (.int .i64 0)]), none⟩, ⟨(some 3), (.mv (.c (.bool false))), none⟩]) (.seq (.seq (.reg [⟨(some 13), (.mv (.t 0)), none⟩, ⟨(some 14), (.len (.t 13)), none⟩, ⟨(some 15), (.bin .neq .i64 (.t 14) (.c (.int .i64 31))), none⟩]) (.cond (.t 15) (.seq (.reg [⟨(some 16), (.build [(.int .u64 0), (.int .i64 0), (.int .i64 0), (.int .i64 0), (.int .i64 0), (.int .i64 0)] []), none⟩, ⟨none, (.store 6 (.t 2) (.t 16)), none⟩, ⟨(some 3), (.mv (.c (.bool false))), none⟩]) .ret) .skip)) (.seq (.reg [⟨(some 17), (.mv (.t 0)), none⟩, ⟨(some 18), (.build [(.sl [] .nil), (.int .i64 0), (.int .i64 0)] [(0, (1, (.t 17))), (2, (1, (.c (.int .i64 (-1)))))]), none⟩, ⟨(some 19), (.box (.t 18)), none⟩, ⟨(some 4), (.mv (.t 19)), none⟩]) (.seq (.reg [⟨(some 20), (.mv (.t 4)), none⟩, ⟨(some 21), (.call 128 [(.t 20), (.c (.int .i64 8))]), none⟩, ⟨(some 5), (.mv (.t 21)), none⟩]) (.seq (.reg [⟨(some 22), (.mv (.t 4)), none⟩, ⟨(some 23), (.call 128 [(.t 22), (.c (.int .i64 8))]), none⟩, ⟨(some 6), (.mv (.t 23)), none⟩]) (.seq (.reg [⟨(some 24), (.mv (.t 4)), none⟩, ⟨(some 25), (.call 128 [(.t 24), (.c (.int .i64 8))]), none⟩, ⟨(some 7), (.mv (.t 25)), none⟩]) (.seq (.reg [⟨(some 26), (.mv (.t 4)), none⟩, ⟨(some 27), (.call 128 [(.t 26), (.c (.int .i64 1))]), none⟩, ⟨(some 8), (.mv (.t 27)), none⟩]) (.seq (.reg [⟨(some 28), (.mv (.t 4)), none⟩, ⟨(some 29), (.call 128 [(.t 28), (.c (.int .i64 2))]), none⟩, ⟨(some 9), (.mv (.t 29)), none⟩]) (.seq (.reg [⟨(some 30), (.mv (.t 4)), none⟩, ⟨(some 31), (.call 128 [(.t 30), (.c (.int .i64 4))]), none⟩, ⟨(some 10), (.mv (.t 31)), none⟩]) (.seq (.reg [⟨(some 32), (.mv (.t 5)), none⟩, ⟨(some 33), (.mv (.t 8)), none⟩, ⟨(some 34), (.conv .i64 (.t 33)), none⟩, ⟨(some 35), (.mv (.t 6)), none⟩, ⟨(some 36), (.conv .i64 (.t 35)), none⟩, ⟨(some 37), (.mv (.t 7)), none⟩, ⟨(some 38), (.conv .i64 (.t 37)), none⟩, ⟨(some 39), (.mv (.t 9)), none⟩, ⟨(some 40), (.conv .i64 (.t 39)), none⟩, ⟨(some 41), (.mv (.t 10)), none⟩, ⟨(some 42), (.conv .i64 (.t 41)), none⟩, ⟨(some 43), (.build [(.int .u64 0), (.int .i64 0), (.int .i64 0), (.int .i64 0), (.int .i64 0), (.int .i64 0)] [(0, (1, (.t 32))), (1, (1, (.t 34))), (2, (1, (.t 36))), (3, (1, (.t 38))), (4, (1, (.t 40))), (5, (1, (.t 42)))]), none⟩, ⟨(some 11), (.alloc [(.int .u64 0), (.int .i64 0), (.int .i64 0), (.int .i64 0), (.int .i64 0), (.int .i64 0)]), none⟩, ⟨none, (.store 6 (.t 11) (.t 43)), none⟩]) (.seq (.reg [⟨(some 44), (.load (some 6) (.t 11)), none⟩, ⟨(some 45), (.call 129 [(.t 44)]), none⟩, ⟨(some 12), (.mv (.t 45)), none⟩]) (.seq (.reg [⟨(some 46), (.load (some 6) (.t 11)), none⟩, ⟨(some 47), (.mv (.t 12)), none⟩, ⟨none, (.store 6 (.t 2) (.t 46)), none⟩, ⟨(some 3), (.mv (.t 47)), none⟩]) .ret))))))))))))

set_option maxRecDepth 100000 in
theorem k_rTold : compileC Tryz.prog ann (Tryz.f74.body.getD .skip) = some c_rTold := by kernel_rfl

theorem s_rTold {args : List AV} {σ : St} {K : AV → St → Prop} (h : WF σ → T Tryz.prog ann c_rTold (Fin σ [(.cell 2 (some 6)), (.t 3)] K) (args ++ List.replicate (48 - args.length) (.tup [])) σ) : ACalls Tryz.prog n_rTold args σ K :=
  calls_ok Tryz.func74 (by kernel_rfl) (by kernel_rfl) k_rTold (by kernel_rfl) (by kernel_rfl) h

end Go.VL

namespace Go.VL

open Go.Proofs

/-- a text, cut at each '/' -/
def splitB : List UInt8 → List (List UInt8)
  | [] => [[]]
  | c :: r => if c = 47 then [] :: splitB r else match splitB r with
    | [] => [[c]]
    | p :: ps => (c :: p) :: ps

theorem split_ne : ∀ l, splitB l ≠ []
  | [] => by simp [splitB]
  | c :: r => by
    unfold splitB
    split
    · simp
    · split <;> simp

theorem split_no : ∀ {l : List UInt8}, 47 ∉ l → splitB l = [l]
  | [], _ => rfl
  | c :: r, h => by
    have hc : c ≠ 47 := fun e => h (by simp [e])
    rw [splitB, if_neg hc, split_no (fun hr => h (List.mem_cons_of_mem _ hr))]

theorem split_at {b : List UInt8} : ∀ {a : List UInt8}, 47 ∉ a → splitB (a ++ 47 :: b) = a :: splitB b
  | [], _ => by rw [List.nil_append, splitB, if_pos rfl]
  | c :: r, h => by
    have hc : c ≠ 47 := fun e => h (by simp [e])
    rw [List.cons_append, splitB, if_neg hc, split_at (fun hr => h (List.mem_cons_of_mem _ hr))]

theorem split_len : ∀ l : List UInt8, (splitB l).length = l.count 47 + 1
  | [] => rfl
  | c :: r => by
    have ih := split_len r
    rw [splitB]
    split
    · rename_i hc
      subst hc
      simp [ih]
    · rename_i hc
      rw [List.count_cons_of_ne (by simpa using hc)]
      cases hs : splitB r with
      | nil => exact absurd hs (split_ne r)
      | cons p ps => rw [hs] at ih; simpa using ih

theorem split_sum : ∀ (l p : List UInt8), p ∈ splitB l → p.length ≤ l.length
  | [], p, h => by simp [splitB] at h; subst h; simp
  | c :: r, p, h => by
    rw [splitB] at h
    split at h
    · rcases List.mem_cons.1 h with rfl | h
      · simp
      · have := split_sum r p h; simp; omega
    · split at h
      · rename_i hs; exact absurd hs (split_ne r)
      · rename_i q qs hs
        rcases List.mem_cons.1 h with rfl | h
        · have := split_sum r q (by rw [hs]; simp); simp; omega
        · have := split_sum r p (by rw [hs]; exact List.mem_cons_of_mem _ h); simp; omega

theorem idx_at {b : List UInt8} : ∀ {a : List UInt8}, 47 ∉ a → Lib.indexByte (a ++ 47 :: b) 47 = (a.length : Int)
  | [], _ => by simp [Lib.indexByte]
  | c :: r, h => by
    have hc : c ≠ 47 := fun e => h (by simp [e])
    have ih := idx_at (b := b) (fun hr => h (List.mem_cons_of_mem _ hr))
    have h1 : (c == 47) = false := by simpa using hc
    have h2 : ((r.length : Int) == -1) = false := by rw [beq_eq_false_iff_ne]; omega
    rw [List.cons_append, Lib.indexByte, ih, h1, h2]
    simp

/-- where there is a '/' -/
theorem cut_at {l : List UInt8} (h : 0 < l.count 47) : ∃ a b, l = a ++ 47 :: b ∧ 47 ∉ a ∧ Lib.indexByte l 47 = (a.length : Int) ∧ splitB l = a :: splitB b ∧ l.count 47 = b.count 47 + 1 := by
  obtain ⟨a, b, rfl, ha⟩ := List.eq_append_cons_of_mem (List.count_pos_iff.1 h)
  refine ⟨a, b, rfl, ha, idx_at ha, split_at ha, ?_⟩
  rw [List.count_append, List.count_cons_self, List.count_eq_zero.2 ha]
  omega

def strsAV (ps : List (List UInt8)) : List AV := ps.map fun p => .str ⟨p.toArray⟩

theorem strs_len (ps : List (List UInt8)) : (strsAV ps).length = ps.length := by simp [strsAV]

theorem strs_cells (ps : List (List UInt8)) : (strsAV ps).flatMap AV.cells = strsAV ps := by
  induction ps with
  | nil => rfl
  | cons p ps ih => show AV.str _ :: _ = _; exact congrArg _ ih

theorem splice_mid {A B : List AV} {z x : AV} : splice (A ++ z :: B) A.length [x] = A ++ x :: B := by
  unfold splice
  rw [List.take_left' rfl, List.drop_append]
  simp

theorem ba_cut {l : List UInt8} {i j : Nat} : (⟨l.toArray⟩ : ByteArray).extract i j = ⟨((l.take j).drop i).toArray⟩ := by
  apply ByteArray.ext
  rw [ByteArray.data_extract]
  simp [List.extract_toArray, List.drop_take]

theorem scount_ok {l : List UInt8} {σ : St} : ACalls Tryz.prog n_scount [.str ⟨l.toArray⟩, .str ⟨[47].toArray⟩] σ (fun v σ' => v = .int .i64 (l.count 47 : Nat) ∧ σ' = σ) := by
  refine s_scount (fun wf => ?_)
  unfold c_scount
  have h1s : ((⟨[47].toArray⟩ : ByteArray).size : Int) = 1 := rfl
  have e0 : ((1 : Int) == 0) = false := rfl
  have e1 : ((1 : Int) == 1) = true := rfl
  have i0 : (0 : Int) < 1 := by decide
  have g0 : (⟨[47].toArray⟩ : ByteArray).data.toList[(0 : Int).toNat]? = some 47 := rfl
  have c0 : ((47 : UInt8).toNat : Int).toNat.toUInt8 = 47 := rfl
  refine T.seq_k (fun K_h0 h0 => ?_)
  refine T.regi hm ?_
  simp only [↓reduceIte, namesOf, List.any, I.names, aopsI, astep, ev, setd, List.set, List.cons_append, List.nil_append, List.length_cons, List.length_nil, List.replicate, then_normal, Bool.or_false, Bool.false_eq_true, up_zero, Nat.reduceAdd, Nat.reduceSub]
  refine h0 _ _ ?_
  try clear h0 K_h0
  refine T.seq_k (fun K_h1 h1 => ?_)
  refine T.seq_k (fun K_h0 h0 => ?_)
  refine T.regi hm ?_
  simp only [↓reduceIte, namesOf, List.any, I.names, aopsI, astep, ev, setd, List.set, List.getD, List.getElem?_cons_zero, List.getElem?_cons_succ, then_normal, Option.getD_some, Bool.or_false, Bool.false_eq_true, up_zero, binv, ↓opt_def, eq_self, h1s, e0]
  refine h0 _ _ ?_
  try clear h0 K_h0
  refine T.cond rfl (fun h => by cases h) (fun _ => T.skip ?_)
  refine h1 _ _ ?_
  try clear h1 K_h1
  refine T.seq_k (fun K_h1 h1 => ?_)
  refine T.seq_k (fun K_h0 h0 => ?_)
  refine T.regi hm ?_
  simp only [↓reduceIte, namesOf, List.any, I.names, aopsI, astep, ev, setd, List.set, List.getD, List.getElem?_cons_zero, List.getElem?_cons_succ, then_normal, Option.getD_some, Bool.or_false, Bool.false_eq_true, up_zero, binv, ↓opt_def, eq_self, h1s, e1]
  refine h0 _ _ ?_
  try clear h0 K_h0
  refine T.cond rfl (fun _ => ?_) (fun h => by cases h)
  refine T.seq_k (fun K_h0 h0 => ?_)
  refine T.regi hm ?_
  simp only [↓reduceIte, namesOf, List.any, I.names, aopsI, astep, ev, setd, List.set, List.getD, List.getElem?_cons_zero, List.getElem?_cons_succ, then_normal, Option.getD_some, Bool.or_false, Bool.false_eq_true, up_zero, Int.toNat_natCast, h1s, i0, g0, Int.le_refl, and_self]
  refine h0 _ _ ?_
  try clear h0 K_h0
  exact T.ret (Fin.ret rfl ⟨rfl, rfl⟩)

end Go.VL

namespace Go.VL

open Go.Proofs

/-- a letter's lower case, as strconv reckons it -/
def lowN (n : Nat) : Nat := n ||| 32

theorem low_wrap : ∀ n : Nat, n < 256 → IntKind.u8.wrap ((BitVec.ofInt IntKind.u8.bits (n : Int) ||| BitVec.ofInt IntKind.u8.bits 32).toNat : Int) = (lowN n : Int) := by decide +kernel

theorem low_facts : ∀ n : Nat, n < 256 → lowN n < 256 ∧ (97 ≤ lowN n → lowN n ≤ 122 → 57 < n ∧ n ≠ 95) ∧ (n < 48 → lowN n < 97) := by decide +kernel

theorem lower_ok {k : Nat} {σ : St} (hk : k < 256) : ACalls Tryz.prog n_lower [.int .u8 (k : Int)] σ (fun v σ' => v = .int .u8 (lowN k : Int) ∧ σ' = σ) := by
  refine s_lower (fun wf => ?_)
  unfold c_lower
  have hw := low_wrap k hk
  refine T.seq_k (fun K_h0 h0 => ?_)
  refine T.regi hm ?_
  simp only [↓reduceIte, namesOf, List.any, I.names, aopsI, astep, ev, setd, List.set, List.cons_append, List.nil_append, List.length_cons, List.length_nil, List.replicate, then_normal, Bool.or_false, Bool.false_eq_true, up_zero, Nat.reduceAdd, Nat.reduceSub]
  refine h0 _ _ ?_
  try clear h0 K_h0
  refine T.seq_k (fun K_h0 h0 => ?_)
  refine T.regi hm ?_
  simp only [↓reduceIte, namesOf, List.any, I.names, aopsI, astep, ev, setd, List.set, List.getD, List.getElem?_cons_zero, List.getElem?_cons_succ, then_normal, Option.getD_some, Bool.or_false, Bool.false_eq_true, up_zero, binv, ↓opt_def, eq_self, hw]
  refine h0 _ _ ?_
  try clear h0 K_h0
  exact T.ret (Fin.ret rfl ⟨rfl, rfl⟩)

theorem u64_natx (x : Int) : ∃ m : Nat, IntKind.u64.wrap x = (m : Int) ∧ m < 18446744073709551616 ∧ (0 ≤ x → x < 18446744073709551616 → (m : Int) = x) := by
  refine ⟨(IntKind.u64.wrap x).toNat, ?_, ?_, ?_⟩ <;> simp [IntKind.wrap, IntKind.bits, IntKind.signed] <;> omega

theorem dgc_facts : ∀ d : Nat, d < 16 → (d < 10 ∧ (dgc d).toNat = 48 + d) ∨ (10 ≤ d ∧ (dgc d).toNat = 87 + d ∧ lowN (dgc d).toNat = 87 + d) := by decide +kernel

/-- the text is just the number's sixteen digits -/
def canU (b : Nat) (l : List UInt8) (id : Nat) : Prop := b = 16 ∧ id < 18446744073709551616 ∧ l = dg 16 16 id

theorem canU.len {b : Nat} {l : List UInt8} {id : Nat} (h : canU b l id) : l.length = 16 := by rw [h.2.2, dg_len]

theorem dg_get (b : Nat) : ∀ (m n i : Nat), i < m → (dg b m n)[i]? = some (dgc (n / b ^ (m - 1 - i) % b))
  | 0, n, i, h => by omega
  | m + 1, n, i, h => by
    rw [dg_cons]
    cases i with
    | zero => simp
    | succ i =>
      rw [List.getElem?_cons_succ, dg_get b m n i (by omega)]
      rw [show m + 1 - 1 - (i + 1) = m - 1 - i by omega]

theorem canU.digit {b : Nat} {l : List UInt8} {id i : Nat} {c : UInt8} (h : canU b l id) (hc : l[i]? = some c) : i < 16 ∧ c = dgc (id / 16 ^ (15 - i) % 16) := by
  have hi : i < l.length := (List.getElem?_eq_some_iff.1 hc).1
  rw [h.len] at hi
  rw [h.2.2, dg_get 16 16 id i hi] at hc
  exact ⟨hi, (Option.some.inj hc).symm⟩

/-- what reading digits tells: the number; or an error -/
def UOut (b : Nat) (l : List UInt8) (v : AV) : Prop :=
  (∃ n : Nat, n < 18446744073709551616 ∧ v = .tup [.int .u64 (n : Int), .nili] ∧ ∀ id, canU b l id → n = id) ∨
  (∃ (n : Nat) (e : Int), n < 18446744073709551616 ∧ (e = 1 ∨ e = 2) ∧ v = .tup [.int .u64 (n : Int), .iface t_serr (.int .i64 e)] ∧ ∀ id, ¬ canU b l id)

set_option maxRecDepth 10000 in
set_option maxHeartbeats 2000000 in
theorem iparU_ok {b : Nat} {l : List UInt8} {bs : Int} {σ : St} (hb : b = 16 ∨ b = 10) (hbs : bs = 64 ∨ bs = 0) (hl : l.length ≤ 1000000000) :
    ACalls Tryz.prog n_iparU [.str ⟨l.toArray⟩, .int .i64 (b : Int), .int .i64 bs] σ (fun v σ' => σ' = σ ∧ UOut b l v) := by
  refine s_iparU (fun wf => ?_)
  unfold c_iparU
  have q0 : sbinv .eql ⟨l.toArray⟩ ⟨#[]⟩ = some (.bool (decide (l = []))) := by simp only [sbinv, ba_eq l []]
  refine T.seq_k (fun K_h0 h0 => ?_)
  refine T.regi hm ?_
  simp only [↓reduceIte, namesOf, List.any, I.names, aopsI, astep, ev, setd, List.set, List.cons_append, List.nil_append, List.length_cons, List.length_nil, List.replicate, then_normal, Bool.or_false, Bool.false_eq_true, up_zero, Nat.reduceAdd, Nat.reduceSub]
  refine h0 _ _ ?_
  try clear h0 K_h0
  refine T.seq_k (fun K_h1 h1 => ?_)
  by_cases hnil : l = []
  · have q1 : decide (l = []) = true := decide_eq_true hnil
    rw [q1] at q0
    refine T.seq_k (fun K_h0 h0 => ?_)
    refine T.regi hm ?_
    simp only [↓reduceIte, namesOf, List.any, I.names, aopsI, astep, ev, setd, List.set, List.getD, List.getElem?_cons_zero, List.getElem?_cons_succ, then_normal, Option.getD_some, Bool.or_false, Bool.false_eq_true, up_zero, ↓opt_def, q0]
    refine h0 _ _ ?_
    try clear h0 K_h0
    refine T.cond rfl (fun _ => ?_) (fun h => by cases h)
    refine T.seq_k (fun K_h0 h0 => ?_)
    refine T.regi hm ?_
    simp only [↓reduceIte, namesOf, List.any, I.names, aopsI, astep, ev, setd, List.set, List.getD, List.getElem?_cons_zero, List.getElem?_cons_succ, then_normal, Option.getD_some, Bool.or_false, Bool.false_eq_true, up_zero]
    refine h0 _ _ ?_
    try clear h0 K_h0
    exact T.ret (Fin.ret rfl ⟨rfl, .inr ⟨0, 2, by omega, .inr rfl, rfl, fun id h => by have := h.len; rw [hnil] at this; simp at this⟩⟩)
  have q1 : decide (l = []) = false := decide_eq_false hnil
  rw [q1] at q0
  have eb0 : ((b : Int) == 0) = false := by rw [beq_eq_false_iff_ne]; omega
  have eb2 : decide ((2 : Int) ≤ (b : Int)) = true := decide_eq_true (by omega)
  have eb36 : decide ((b : Int) ≤ 36) = true := decide_eq_true (by omega)
  refine T.seq_k (fun K_h0 h0 => ?_)
  refine T.regi hm ?_
  simp only [↓reduceIte, namesOf, List.any, I.names, aopsI, astep, ev, setd, List.set, List.getD, List.getElem?_cons_zero, List.getElem?_cons_succ, then_normal, Option.getD_some, Bool.or_false, Bool.false_eq_true, up_zero, ↓opt_def, q0]
  refine h0 _ _ ?_
  try clear h0 K_h0
  refine T.cond rfl (fun h => by cases h) (fun _ => T.skip ?_)
  refine h1 _ _ ?_
  try clear h1 K_h1
  refine T.seq_k (fun K_h0 h0 => ?_)
  refine T.regi hm ?_
  simp only [↓reduceIte, namesOf, List.any, I.names, aopsI, astep, ev, setd, List.set, List.getD, List.getElem?_cons_zero, List.getElem?_cons_succ, then_normal, Option.getD_some, Bool.or_false, Bool.false_eq_true, up_zero, binv, ↓opt_def, eq_self, eb0]
  refine h0 _ _ ?_
  try clear h0 K_h0
  refine T.seq_k (fun K_h0 h0 => ?_)
  refine T.regi hm ?_
  simp only [↓reduceIte, namesOf, List.any, I.names, aopsI, astep, ev, setd, List.set, List.getD, List.getElem?_cons_zero, List.getElem?_cons_succ, then_normal, Option.getD_some, Bool.or_false, Bool.false_eq_true, up_zero]
  refine h0 _ _ ?_
  try clear h0 K_h0
  refine T.seq_k (fun K_h1 h1 => ?_)
  refine T.block ?_
  refine T.seq_k (fun K_h0 h0 => ?_)
  refine T.regi hm ?_
  simp only [↓reduceIte, namesOf, List.any, I.names, aopsI, astep, ev, setd, List.set, List.getD, List.getElem?_cons_zero, List.getElem?_cons_succ, then_normal, Option.getD_some, Bool.or_false, Bool.false_eq_true, up_zero, binv, ↓opt_def, eq_self, eb2, eb36]
  refine h0 _ _ ?_
  try clear h0 K_h0
  refine T.cond rfl (fun _ => T.skip ?_) (fun h => by cases h)
  try simp only [then_normal, inBlock_normal, inBlock_normal]
  refine h1 _ _ ?_
  try clear h1 K_h1
  refine T.seq_k (fun K_h1 h1 => ?_)
  have nxt : ∀ ρ', keep [0, 1, 2, 8] 0 ρ' = [.str ⟨l.toArray⟩, .int .i64 (b : Int), .int .i64 64, .any, .any, .any, .any, .any, .bool false] ++ List.replicate 163 .any → K_h1 ρ' σ := by
    intro ρ' hρ
    refine h1 _ _ ?_
    try clear h1 K_h1
    refine T.gh (Gh.keep [0, 1, 2, 8]) ?_
    rw [hρ]
    clear hρ ρ'
    refine T.seq_k (fun K_h0 h0 => ?_)
    refine T.regi hm ?_
    simp only [↓reduceIte, namesOf, List.any, I.names, aopsI, astep, ev, setd, List.set, List.cons_append, List.nil_append, List.replicate, then_normal, Bool.or_false, Bool.false_eq_true, up_zero]
    refine h0 _ _ ?_
    try clear h0 K_h0
    refine T.seq_k (fun K_h1 h1 => ?_)
    refine T.seq_k (fun K_h0 h0 => ?_)
    refine T.regi hm ?_
    simp only [↓reduceIte, namesOf, List.any, I.names, aopsI, astep, ev, setd, List.set, List.getD, List.getElem?_cons_zero, List.getElem?_cons_succ, then_normal, Option.getD_some, Bool.or_false, Bool.false_eq_true, up_zero]
    refine h0 _ _ ?_
    try clear h0 K_h0
    refine T.block ?_
    obtain ⟨cut, hcut⟩ : ∃ cut : Nat, cut = if b = 16 then 1152921504606846976 else 1844674407370955162 := ⟨_, rfl⟩
    have nxt2 : ∀ ρ', keep [0, 1, 2, 8, 10] 0 ρ' = [.str ⟨l.toArray⟩, .int .i64 (b : Int), .int .i64 64, .any, .any, .any, .any, .any, .bool false, .any, .int .u64 (cut : Int)] ++ List.replicate 161 .any → K_h1 ρ' σ := by
      intro ρ' hρ
      refine h1 _ _ ?_
      try clear h1 K_h1
      refine T.gh (Gh.keep [0, 1, 2, 8, 10]) ?_
      rw [hρ]
      clear hρ ρ'
      have s1 : IntKind.u64.wrap 64 = 64 := by decide
      have s2 : ¬ ((64 : Int) < 0) := by decide
      have s3 : IntKind.u64.wrap (1 * 2 ^ min (64 : Int).toNat IntKind.u64.bits) = 0 := by decide
      obtain ⟨M, hM⟩ : ∃ M : Int, IntKind.u64.wrap (0 - 1) = M := ⟨_, rfl⟩
      have hM2 : M = 18446744073709551615 := by rw [← hM]; decide
      refine T.seq_k (fun K_h0 h0 => ?_)
      refine T.regi hm ?_
      simp only [↓reduceIte, namesOf, List.any, I.names, aopsI, astep, ev, setd, List.set, List.getD, List.getElem?_cons_zero, List.getElem?_cons_succ, List.cons_append, List.nil_append, List.replicate, then_normal, Option.getD_some, Bool.or_false, Bool.false_eq_true, up_zero, binv, ↓opt_def, eq_self, s1, s2, s3, hM]
      refine h0 _ _ ?_
      try clear h0 K_h0
      refine T.seq_k (fun K_h0 h0 => ?_)
      refine T.regi hm ?_
      simp only [↓reduceIte, namesOf, List.any, I.names, aopsI, astep, ev, setd, List.set, then_normal, Bool.or_false, Bool.false_eq_true, up_zero]
      refine h0 _ _ ?_
      try clear h0 K_h0
      refine T.seq_k (fun K_h0 h0 => ?_)
      refine T.regi hm ?_
      simp only [↓reduceIte, namesOf, List.any, I.names, aopsI, astep, ev, setd, List.set, then_normal, Bool.or_false, Bool.false_eq_true, up_zero]
      refine h0 _ _ ?_
      try clear h0 K_h0
      refine T.seq_k (fun K_h1 h1 => ?_)
      have hd : (⟨l.toArray⟩ : ByteArray).data.toList = l := rfl
      refine T.seq_k (fun K_h0 h0 => ?_)
      refine T.regi hm ?_
      simp only [↓reduceIte, namesOf, List.any, I.names, aopsI, astep, ev, setd, List.set, List.getD, List.getElem?_cons_zero, List.getElem?_cons_succ, List.length_cons, List.length_nil, then_normal, Option.getD_some, Bool.or_false, Bool.or_true, Nat.reduceAdd, eq_self, held, bytesAV_er, bytesAV_len]
      refine h0 _ _ ?_
      try clear h0 K_h0
      have hL0 : Like σ ((σ.up 4).set (σ.next + 1) (.tip 1)) := (Like.refl σ).box (n := 4) (i := 1) _
      generalize ((σ.up 4).set (σ.next + 1) (.tip 1)) = t0 at hL0 ⊢
      generalize σ.next + 1 = g
      refine T.block ?_
      refine T.gh (Gh.keep [1, 8, 10, 11, 12, 13, 99, 100, 101]) ?_
      refine T.loopi (fun i ρ t => ∃ n : Nat, n < 18446744073709551616 ∧ (∀ id, canU b l id → n = id / 16 ^ (16 - i)) ∧ Like σ t ∧
          ρ = [.any, .int .i64 (b : Int), .any, .any, .any, .any, .any, .any, .bool false, .any, .int .u64 (cut : Int), .int .u64 M, .bool false, .int .u64 (n : Int)] ++ List.replicate 85 .any ++ [.sl (bytesAV l) (.tip g), .int .i64 (l.length : Int), .int .i64 (i : Int)] ++ List.replicate 70 .any)
        l.length 0 (Nat.zero_le _) ⟨0, by omega, fun id h => by rw [Nat.div_eq_of_lt (by have := h.2.1; omega)], hL0, rfl⟩ ?_
      clear hL0 t0
      rintro i ρ t hi ⟨n, hn, hcan, hL, rfl⟩
      refine T.seq_k (fun K_h0 h0 => ?_)
      refine T.regi hm ?_
      simp only [↓reduceIte, namesOf, List.any, I.names, aopsI, astep, ev, setd, List.set, List.getD, List.getElem?_cons_zero, List.getElem?_cons_succ, List.cons_append, List.nil_append, List.replicate, then_normal, Option.getD_some, Bool.or_false, Bool.false_eq_true, up_zero, binv, ↓opt_def, lt_len, eq_self]
      refine h0 _ _ ?_
      try clear h0 K_h0
      refine T.seq_k (fun K_h2 h2 => ?_)
      by_cases hil : i < l.length
      case neg =>
        refine T.cond (b := false) (by simp [ev]; omega) (fun h => by cases h) (fun _ => T.exit ?_)
        have hie : i = l.length := by omega
        try simp only [List.cons_append, List.nil_append, List.replicate, then_normal, inBlock_exit, then_exit]
        refine h1 _ _ ?_
        try clear h1 K_h1
        refine T.seq_k (fun K_h1 h1 => ?_)
        refine T.seq_k (fun K_h0 h0 => ?_)
        refine T.regi hm ?_
        simp only [↓reduceIte, namesOf, List.any, I.names, aopsI, astep, ev, setd, List.set, List.getD, List.getElem?_cons_zero, List.getElem?_cons_succ, then_normal, Option.getD_some, Bool.or_false, Bool.false_eq_true, up_zero]
        refine h0 _ _ ?_
        try clear h0 K_h0
        refine T.cond rfl (fun h => by cases h) (fun _ => T.skip ?_)
        refine h1 _ _ ?_
        try clear h1 K_h1
        refine T.seq_k (fun K_h0 h0 => ?_)
        refine T.regi hm ?_
        simp only [↓reduceIte, namesOf, List.any, I.names, aopsI, astep, ev, setd, List.set, List.getD, List.getElem?_cons_zero, List.getElem?_cons_succ, then_normal, Option.getD_some, Bool.or_false, Bool.false_eq_true, up_zero]
        refine h0 _ _ ?_
        try clear h0 K_h0
        exact T.ret (Fin.quiet rfl ⟨trivial, trivial, trivial⟩ (hL.quiet wf) ⟨rfl, .inl ⟨n, hn, rfl, fun id h => by
          rw [hcan id h, hie, h.len, Nat.sub_self, Nat.pow_zero, Nat.div_one]⟩⟩)
      refine T.cond (b := true) (by simp [ev]; omega) (fun _ => T.skip ?_) (fun h => by cases h)
      refine h2 _ _ ?_
      try clear h2 K_h2
      obtain ⟨c, hc⟩ : ∃ c, l[i]? = some c := ⟨_, List.getElem?_eq_getElem hil⟩
      have hgc : (bytesAV l)[i]? = some (.int .u8 ((c.toNat : Nat) : Int)) := by simp [bytesAV, hc]
      have hk : c.toNat < 256 := c.toNat_lt
      have hdig : ∀ id, canU b l id → i < 16 ∧ c = dgc (id / 16 ^ (15 - i) % 16) := fun id h => h.digit hc
      have hinc := inc64' hil (by omega)
      generalize hkc : c.toNat = k at hgc hk
      refine T.seq_k (fun K_h3 h3 => ?_)
      refine T.block ?_
      refine T.seq_k (fun K_h0 h0 => ?_)
      refine T.regi hm ?_
      simp only [↓reduceIte, namesOf, List.any, I.names, aopsI, astep, ev, setd, List.set, List.getD, List.getElem?_cons_zero, List.getElem?_cons_succ, List.cons_append, List.nil_append, List.length_cons, List.length_nil, List.replicate, then_normal, Option.getD_some, Bool.or_false, Bool.false_eq_true, up_zero, ↓opt_def, AV.cells, ldc, Int.natCast_nonneg, lt_len, Int.toNat_natCast, true_and, and_true, eq_self, decide_true, hil, bytesAV_len, hgc, Nat.zero_add]
      refine h0 _ _ ?_
      try clear h0 K_h0
      refine T.seq_k (fun K_h0 h0 => ?_)
      refine T.regi hm ?_
      simp only [↓reduceIte, namesOf, List.any, I.names, aopsI, astep, ev, setd, List.set, List.cons_append, List.nil_append, List.replicate, then_normal, Bool.or_false, Bool.false_eq_true, up_zero]
      refine h0 _ _ ?_
      try clear h0 K_h0
      refine T.seq_k (fun K_h4 h4 => ?_)
      have nxt3 : ∀ (ρ' : List AV) (d : Nat), d < 256 → (∀ id, canU b l id → d = id / 16 ^ (15 - i) % 16) →
          keep [1, 8, 10, 11, 12, 13, 16, 99, 100, 101] 0 ρ' = [.any, .int .i64 (b : Int), .any, .any, .any, .any, .any, .any, .bool false, .any, .int .u64 (cut : Int), .int .u64 M, .bool false, .int .u64 (n : Int), .any, .any, .int .u8 (d : Int)] ++ List.replicate 82 .any ++ [.sl (bytesAV l) (.tip g), .int .i64 (l.length : Int), .int .i64 (i : Int)] ++ List.replicate 70 .any → K_h4 ρ' t := by
        intro ρ' d hd256 hdd hρ
        refine h4 _ _ ?_
        try clear h4 K_h4
        refine T.gh (Gh.keep [1, 8, 10, 11, 12, 13, 16, 99, 100, 101]) ?_
        rw [hρ]
        clear hρ ρ'
        have wb8 : IntKind.u8.wrap (b : Int) = (b : Int) := by rcases hb with rfl | rfl <;> rfl
        have wb64 : IntKind.u64.wrap (b : Int) = (b : Int) := by rcases hb with rfl | rfl <;> rfl
        have wd64 : IntKind.u64.wrap (d : Int) = (d : Int) := u64w (by omega)
        obtain ⟨nb, hnb, hnb1, hnb2⟩ := u64_natx ((n : Int) * (b : Int))
        obtain ⟨n1, hn1, hn11, hn12⟩ := u64_natx ((nb : Int) + (d : Int))
        refine T.seq_k (fun K_h4 h4 => ?_)
        by_cases hdb : b ≤ d
        · have f1 : decide ((d : Int) ≥ (b : Int)) = true := decide_eq_true (by omega)
          refine T.seq_k (fun K_h0 h0 => ?_)
          refine T.regi hm ?_
          simp only [↓reduceIte, namesOf, List.any, I.names, aopsI, astep, ev, setd, List.set, List.getD, List.getElem?_cons_zero, List.getElem?_cons_succ, List.cons_append, List.nil_append, List.replicate, then_normal, Option.getD_some, Bool.or_false, Bool.false_eq_true, up_zero, binv, ↓opt_def, eq_self, wb8, f1]
          refine h0 _ _ ?_
          try clear h0 K_h0
          refine T.cond rfl (fun _ => ?_) (fun h => by cases h)
          refine T.seq_k (fun K_h0 h0 => ?_)
          refine T.regi hm ?_
          simp only [↓reduceIte, namesOf, List.any, I.names, aopsI, astep, ev, setd, List.set, List.getD, List.getElem?_cons_zero, List.getElem?_cons_succ, List.cons_append, List.nil_append, List.replicate, then_normal, Option.getD_some, Bool.or_false, Bool.false_eq_true, up_zero]
          refine h0 _ _ ?_
          try clear h0 K_h0
          refine T.ret (Fin.quiet rfl ⟨trivial, trivial, trivial⟩ (hL.quiet wf) ⟨rfl, .inr ⟨0, 2, by omega, .inr rfl, rfl, fun id h => ?_⟩⟩)
          have h1 := hdd id h
          have h2 := h.1
          omega
        have f1 : decide ((d : Int) ≥ (b : Int)) = false := decide_eq_false (by omega)
        refine T.seq_k (fun K_h0 h0 => ?_)
        refine T.regi hm ?_
        simp only [↓reduceIte, namesOf, List.any, I.names, aopsI, astep, ev, setd, List.set, List.getD, List.getElem?_cons_zero, List.getElem?_cons_succ, List.cons_append, List.nil_append, List.replicate, then_normal, Option.getD_some, Bool.or_false, Bool.false_eq_true, up_zero, binv, ↓opt_def, eq_self, wb8, f1]
        refine h0 _ _ ?_
        try clear h0 K_h0
        refine T.cond rfl (fun h => by cases h) (fun _ => T.skip ?_)
        refine h4 _ _ ?_
        try clear h4 K_h4
        refine T.seq_k (fun K_h4 h4 => ?_)
        by_cases hnc : cut ≤ n
        · have f2 : decide ((n : Int) ≥ (cut : Int)) = true := decide_eq_true (by omega)
          refine T.seq_k (fun K_h0 h0 => ?_)
          refine T.regi hm ?_
          simp only [↓reduceIte, namesOf, List.any, I.names, aopsI, astep, ev, setd, List.set, List.getD, List.getElem?_cons_zero, List.getElem?_cons_succ, List.cons_append, List.nil_append, List.replicate, then_normal, Option.getD_some, Bool.or_false, Bool.false_eq_true, up_zero, binv, ↓opt_def, eq_self, f2]
          refine h0 _ _ ?_
          try clear h0 K_h0
          refine T.cond rfl (fun _ => ?_) (fun h => by cases h)
          refine T.seq_k (fun K_h0 h0 => ?_)
          refine T.regi hm ?_
          simp only [↓reduceIte, namesOf, List.any, I.names, aopsI, astep, ev, setd, List.set, List.getD, List.getElem?_cons_zero, List.getElem?_cons_succ, List.cons_append, List.nil_append, List.replicate, then_normal, Option.getD_some, Bool.or_false, Bool.false_eq_true, up_zero]
          refine h0 _ _ ?_
          try clear h0 K_h0
          obtain ⟨M', hM'⟩ : ∃ m : Nat, M = (m : Int) := ⟨18446744073709551615, hM2⟩
          rw [hM']
          refine T.ret (Fin.quiet rfl ⟨trivial, trivial, trivial⟩ (hL.quiet wf) ⟨rfl, .inr ⟨M', 1, by omega, .inl rfl, rfl, fun id h => ?_⟩⟩)
          have h1 := hcan id h
          have h2 := h.1
          have h3 := (hdig id h).1
          have h4 := h.2.1
          rw [if_pos h2] at hcut
          have h5 : id / 16 ^ (16 - i) ≤ id / 16 := by
            rw [show 16 - i = (15 - i) + 1 by omega, Nat.pow_succ', ← Nat.div_div_eq_div_mul]
            exact Nat.div_le_self _ _
          omega
        have f2 : decide ((n : Int) ≥ (cut : Int)) = false := decide_eq_false (by omega)
        refine T.seq_k (fun K_h0 h0 => ?_)
        refine T.regi hm ?_
        simp only [↓reduceIte, namesOf, List.any, I.names, aopsI, astep, ev, setd, List.set, List.getD, List.getElem?_cons_zero, List.getElem?_cons_succ, List.cons_append, List.nil_append, List.replicate, then_normal, Option.getD_some, Bool.or_false, Bool.false_eq_true, up_zero, binv, ↓opt_def, eq_self, f2]
        refine h0 _ _ ?_
        try clear h0 K_h0
        refine T.cond rfl (fun h => by cases h) (fun _ => T.skip ?_)
        refine h4 _ _ ?_
        try clear h4 K_h4
        refine T.seq_k (fun K_h0 h0 => ?_)
        refine T.regi hm ?_
        simp only [↓reduceIte, namesOf, List.any, I.names, aopsI, astep, ev, setd, List.set, List.getD, List.getElem?_cons_zero, List.getElem?_cons_succ, List.cons_append, List.nil_append, List.replicate, then_normal, Option.getD_some, Bool.or_false, Bool.false_eq_true, up_zero, binv, ↓opt_def, eq_self, wb64, hnb]
        refine h0 _ _ ?_
        try clear h0 K_h0
        refine T.seq_k (fun K_h0 h0 => ?_)
        refine T.regi hm ?_
        simp only [↓reduceIte, namesOf, List.any, I.names, aopsI, astep, ev, setd, List.set, List.getD, List.getElem?_cons_zero, List.getElem?_cons_succ, List.cons_append, List.nil_append, List.replicate, then_normal, Option.getD_some, Bool.or_false, Bool.false_eq_true, up_zero, binv, ↓opt_def, eq_self, wd64, hn1]
        refine h0 _ _ ?_
        try clear h0 K_h0
        -- what it comes to where the text is a number's digits
        have hnext : ∀ id, canU b l id → nb = n * 16 ∧ n1 = n * 16 + d ∧ n1 = id / 16 ^ (16 - (i + 1)) := by
          intro id h
          have h1 := hcan id h
          have h2 := h.1
          have h3 := (hdig id h).1
          have h4 := h.2.1
          have h6 := hdd id h
          have h7 : id / 16 ^ (16 - i) = id / 16 ^ (15 - i) / 16 := by
            rw [show 16 - i = (15 - i) + 1 by omega, Nat.pow_succ, Nat.div_div_eq_div_mul]
          have h8 : id / 16 ^ (15 - i) ≤ id := Nat.div_le_self _ _
          rw [show 16 - (i + 1) = 15 - i by omega]
          rw [h7] at h1
          generalize id / 16 ^ (15 - i) = y at h1 h6 h8 ⊢
          subst h2
          have h9 := hnb2 (by omega) (by omega)
          have h10 : nb = n * 16 := by omega
          have h11 := hn12 (by omega) (by omega)
          refine ⟨h10, by omega, by omega⟩
        refine T.seq_k (fun K_h4 h4 => ?_)
        by_cases hov : n1 < nb
        · have f3 : decide ((n1 : Int) < (nb : Int)) = true := decide_eq_true (by omega)
          refine T.seq_k (fun K_h0 h0 => ?_)
          refine T.regi hm ?_
          simp only [↓reduceIte, namesOf, List.any, I.names, aopsI, astep, ev, setd, List.set, List.getD, List.getElem?_cons_zero, List.getElem?_cons_succ, List.cons_append, List.nil_append, List.replicate, then_normal, Option.getD_some, Bool.or_false, Bool.false_eq_true, up_zero, binv, ↓opt_def, eq_self, reduceCtorEq, f3]
          refine h0 _ _ ?_
          try clear h0 K_h0
          refine T.cond rfl (fun _ => ?_) (fun h => by cases h)
          refine T.seq_k (fun K_h0 h0 => ?_)
          refine T.regi hm ?_
          simp only [↓reduceIte, namesOf, List.any, I.names, aopsI, astep, ev, setd, List.set, List.getD, List.getElem?_cons_zero, List.getElem?_cons_succ, List.cons_append, List.nil_append, List.replicate, then_normal, Option.getD_some, Bool.or_false, Bool.false_eq_true, up_zero]
          refine h0 _ _ ?_
          try clear h0 K_h0
          obtain ⟨M', hM'⟩ : ∃ m : Nat, M = (m : Int) := ⟨18446744073709551615, hM2⟩
          rw [hM']
          refine T.ret (Fin.quiet rfl ⟨trivial, trivial, trivial⟩ (hL.quiet wf) ⟨rfl, .inr ⟨M', 1, by omega, .inl rfl, rfl, fun id h => ?_⟩⟩)
          have := hnext id h
          omega
        have f3 : decide ((n1 : Int) < (nb : Int)) = false := decide_eq_false (by omega)
        have f4 : decide ((n1 : Int) > M) = false := decide_eq_false (by omega)
        refine T.seq_k (fun K_h0 h0 => ?_)
        refine T.regi hm ?_
        simp only [↓reduceIte, namesOf, List.any, I.names, aopsI, astep, ev, setd, List.set, List.getD, List.getElem?_cons_zero, List.getElem?_cons_succ, List.cons_append, List.nil_append, List.replicate, then_normal, Option.getD_some, Bool.or_false, Bool.false_eq_true, up_zero, binv, ↓opt_def, eq_self, f3, f4]
        refine h0 _ _ ?_
        try clear h0 K_h0
        refine T.cond rfl (fun h => by cases h) (fun _ => T.skip ?_)
        refine h4 _ _ ?_
        try clear h4 K_h4
        refine T.regi hm ?_
        simp only [↓reduceIte, namesOf, List.any, I.names, aopsI, astep, ev, setd, List.set, List.getD, List.getElem?_cons_zero, List.getElem?_cons_succ, List.cons_append, List.nil_append, List.replicate, then_normal, inBlock_normal, Option.getD_some, Bool.or_false, Bool.false_eq_true, up_zero]
        try simp only [↓reduceIte, namesOf, List.any, I.names, aops, aopsI, aopsT, qstep, CPt, qget, Tbl.get, astep, ev, setd, List.set, List.getD, List.getElem?_cons_zero, List.getElem?_cons_succ, List.getElem?_nil, List.cons_append, List.nil_append, List.length_cons, List.length_nil, List.replicate, then_normal, inBlock_normal, Option.getD_some, Option.getD_none, Bool.or_false, Bool.or_true, Bool.true_or, Bool.false_or, Bool.false_eq_true, if_false, if_true, up_zero, Nat.reduceAdd, Nat.reduceSub, binv, ↓opt_def, AV.isAny, AV.cells, ldc, List.map_cons, List.map_nil, St.set_next, St.set_same, St.up_next, Int.natCast_nonneg, lt_len, le_len, Int.toNat_natCast, true_and, and_true, eq_self, reduceCtorEq, decide_true, List.length_singleton, er_int, er_bool, er_str, srcR, inBlock_normal]
        refine h3 _ _ ?_
        try clear h3 K_h3
        refine T.regi hm ?_
        simp only [↓reduceIte, namesOf, List.any, I.names, aopsI, astep, ev, setd, List.set, List.getD, List.getElem?_cons_zero, List.getElem?_cons_succ, List.cons_append, List.nil_append, List.replicate, then_normal, Option.getD_some, Bool.or_false, Bool.false_eq_true, up_zero, binv, ↓opt_def, eq_self, hinc]
        exact ⟨hil, _, _, Gh.keep [1, 8, 10, 11, 12, 13, 99, 100, 101], n1, hn11, fun id h => (hnext id h).2.2, hL, rfl⟩
      clear hinc h3
      refine T.block ?_
      by_cases hA : 48 ≤ k ∧ k ≤ 57
      · have g95 : ((k : Int) == 95) = false := by rw [beq_eq_false_iff_ne]; omega
        have f1 : decide ((48 : Int) ≤ (k : Int)) = true := decide_eq_true (by omega)
        have f2 : decide ((k : Int) ≤ 57) = true := decide_eq_true (by omega)
        have wA : IntKind.u8.wrap ((k : Int) - 48) = ((k - 48 : Nat) : Int) := by simp [IntKind.wrap, IntKind.bits, IntKind.signed]; omega
        refine T.seq_k (fun K_h0 h0 => ?_)
        refine T.regi hm ?_
        simp only [↓reduceIte, namesOf, List.any, I.names, aopsI, astep, ev, setd, List.set, List.getD, List.getElem?_cons_zero, List.getElem?_cons_succ, List.cons_append, List.nil_append, List.replicate, then_normal, Option.getD_some, Bool.or_false, Bool.false_eq_true, up_zero, binv, ↓opt_def, eq_self, g95]
        refine h0 _ _ ?_
        try clear h0 K_h0
        refine T.cond rfl (fun h => by cases h) (fun _ => ?_)
        refine T.seq_k (fun K_h0 h0 => ?_)
        refine T.regi hm ?_
        simp only [↓reduceIte, namesOf, List.any, I.names, aopsI, astep, ev, setd, List.set, List.getD, List.getElem?_cons_zero, List.getElem?_cons_succ, List.cons_append, List.nil_append, List.replicate, then_normal, Option.getD_some, Bool.or_false, Bool.false_eq_true, up_zero, binv, ↓opt_def, eq_self, f1, f2]
        refine h0 _ _ ?_
        try clear h0 K_h0
        refine T.cond rfl (fun _ => ?_) (fun h => by cases h)
        refine T.regi hm ?_
        simp only [↓reduceIte, namesOf, List.any, I.names, aopsI, astep, ev, setd, List.set, List.getD, List.getElem?_cons_zero, List.getElem?_cons_succ, List.cons_append, List.nil_append, List.replicate, then_normal, inBlock_normal, Option.getD_some, Bool.or_false, Bool.false_eq_true, up_zero, binv, ↓opt_def, eq_self, wA]
        refine nxt3 _ (k - 48) (by omega) (fun id h => ?_) rfl
        obtain ⟨h1, h2⟩ := hdig id h
        have h3 := dgc_facts (id / 16 ^ (15 - i) % 16) (Nat.mod_lt _ (by omega))
        rw [← h2, hkc] at h3
        omega
      obtain ⟨lw1, lw2, lw3⟩ := low_facts k hk
      by_cases hB : 97 ≤ lowN k ∧ lowN k ≤ 122
      · obtain ⟨hk57, hk95⟩ := lw2 hB.1 hB.2
        have g95 : ((k : Int) == 95) = false := by rw [beq_eq_false_iff_ne]; omega
        have f1 : decide ((48 : Int) ≤ (k : Int)) = true := decide_eq_true (by omega)
        have f2 : decide ((k : Int) ≤ 57) = false := decide_eq_false (by omega)
        have f3 : decide ((97 : Int) ≤ (lowN k : Int)) = true := decide_eq_true (by omega)
        have f4 : decide ((lowN k : Int) ≤ 122) = true := decide_eq_true (by omega)
        have wB : IntKind.u8.wrap ((lowN k : Int) - 97) = ((lowN k - 97 : Nat) : Int) := by simp [IntKind.wrap, IntKind.bits, IntKind.signed]; omega
        have wB2 : IntKind.u8.wrap (((lowN k - 97 : Nat) : Int) + 10) = ((lowN k - 87 : Nat) : Int) := by simp [IntKind.wrap, IntKind.bits, IntKind.signed]; omega
        refine T.seq_k (fun K_h0 h0 => ?_)
        refine T.regi hm ?_
        simp only [↓reduceIte, namesOf, List.any, I.names, aopsI, astep, ev, setd, List.set, List.getD, List.getElem?_cons_zero, List.getElem?_cons_succ, List.cons_append, List.nil_append, List.replicate, then_normal, Option.getD_some, Bool.or_false, Bool.false_eq_true, up_zero, binv, ↓opt_def, eq_self, g95]
        refine h0 _ _ ?_
        try clear h0 K_h0
        refine T.cond rfl (fun h => by cases h) (fun _ => ?_)
        refine T.seq_k (fun K_h0 h0 => ?_)
        refine T.regi hm ?_
        simp only [↓reduceIte, namesOf, List.any, I.names, aopsI, astep, ev, setd, List.set, List.getD, List.getElem?_cons_zero, List.getElem?_cons_succ, List.cons_append, List.nil_append, List.replicate, then_normal, Option.getD_some, Bool.or_false, Bool.false_eq_true, up_zero, binv, ↓opt_def, eq_self, f1, f2]
        refine h0 _ _ ?_
        try clear h0 K_h0
        refine T.cond rfl (fun h => by cases h) (fun _ => ?_)
        refine T.seq_k (fun K_h5 h5 => ?_)
        refine T.regi hm ?_
        simp only [↓reduceIte, namesOf, List.any, I.names, aopsI, astep, ev, setd, List.set, List.getD, List.getElem?_cons_zero, List.getElem?_cons_succ, List.cons_append, List.nil_append, List.replicate, then_normal, Option.getD_some, Bool.or_false, Bool.false_eq_true, up_zero, binv, ↓opt_def, List.map_cons, List.map_nil]
        refine (lower_ok hk).mono ?_
        rintro v t1 ⟨rfl, rfl⟩
        try simp only [↓reduceIte, eq_self, f3]
        refine (lower_ok hk).mono ?_
        rintro v t1 ⟨rfl, rfl⟩
        try simp only [↓reduceIte, eq_self, f4]
        refine h5 _ _ ?_
        try clear h5 K_h5
        refine T.cond rfl (fun _ => ?_) (fun h => by cases h)
        refine T.regi hm ?_
        simp only [↓reduceIte, namesOf, List.any, I.names, aopsI, astep, ev, setd, List.set, List.getD, List.getElem?_cons_zero, List.getElem?_cons_succ, List.cons_append, List.nil_append, List.replicate, then_normal, inBlock_normal, Option.getD_some, Bool.or_false, Bool.false_eq_true, up_zero, binv, ↓opt_def, List.map_cons, List.map_nil]
        refine (lower_ok hk).mono ?_
        rintro v t1 ⟨rfl, rfl⟩
        try simp only [↓reduceIte, eq_self, wB, wB2]
        refine nxt3 _ (lowN k - 87) (by omega) (fun id h => ?_) rfl
        obtain ⟨h1, h2⟩ := hdig id h
        have h3 := dgc_facts (id / 16 ^ (15 - i) % 16) (Nat.mod_lt _ (by omega))
        rw [← h2, hkc] at h3
        omega
      have hno : ∀ id, ¬ canU b l id := by
        intro id h
        obtain ⟨h1, h2⟩ := hdig id h
        have h3 := dgc_facts (id / 16 ^ (15 - i) % 16) (Nat.mod_lt _ (by omega))
        rw [← h2, hkc] at h3
        omega
      have fin : ∀ ρ', rvals ρ' t [.t 6, .t 7] = some [.int .u64 ((0 : Nat) : Int), .iface t_serr (.int .i64 2)] → Fin σ [.t 6, .t 7] (fun v σ' => σ' = σ ∧ UOut b l v) .ret ρ' t := fun ρ' hr =>
        Fin.quiet hr ⟨trivial, trivial, trivial⟩ (hL.quiet wf) ⟨rfl, .inr ⟨0, 2, by omega, .inr rfl, rfl, hno⟩⟩
      clear nxt3
      by_cases h95 : k = 95
      · subst h95
        have f3 : decide ((97 : Int) ≤ (lowN 95 : Int)) = true := by decide
        have f4 : decide ((lowN 95 : Int) ≤ 122) = false := by decide
        have g95 : (((95 : Nat) : Int) == 95) = true := rfl
        have f1 : decide ((48 : Int) ≤ ((95 : Nat) : Int)) = true := rfl
        have f2 : decide (((95 : Nat) : Int) ≤ 57) = false := rfl
        refine T.seq_k (fun K_h0 h0 => ?_)
        refine T.regi hm ?_
        simp only [↓reduceIte, namesOf, List.any, I.names, aopsI, astep, ev, setd, List.set, List.getD, List.getElem?_cons_zero, List.getElem?_cons_succ, List.cons_append, List.nil_append, List.replicate, then_normal, Option.getD_some, Bool.or_false, Bool.false_eq_true, up_zero, binv, ↓opt_def, eq_self, g95]
        refine h0 _ _ ?_
        try clear h0 K_h0
        refine T.cond rfl (fun h => by cases h) (fun _ => ?_)
        refine T.seq_k (fun K_h0 h0 => ?_)
        refine T.regi hm ?_
        simp only [↓reduceIte, namesOf, List.any, I.names, aopsI, astep, ev, setd, List.set, List.getD, List.getElem?_cons_zero, List.getElem?_cons_succ, List.cons_append, List.nil_append, List.replicate, then_normal, Option.getD_some, Bool.or_false, Bool.false_eq_true, up_zero, binv, ↓opt_def, eq_self, f1, f2]
        refine h0 _ _ ?_
        try clear h0 K_h0
        refine T.cond rfl (fun h => by cases h) (fun _ => ?_)
        refine T.seq_k (fun K_h5 h5 => ?_)
        refine T.regi hm ?_
        simp only [↓reduceIte, namesOf, List.any, I.names, aopsI, astep, ev, setd, List.set, List.getD, List.getElem?_cons_zero, List.getElem?_cons_succ, List.cons_append, List.nil_append, List.replicate, then_normal, Option.getD_some, Bool.or_false, Bool.false_eq_true, up_zero, binv, ↓opt_def, List.map_cons, List.map_nil]
        refine (lower_ok hk).mono ?_
        rintro v t1 ⟨rfl, rfl⟩
        try simp only [↓reduceIte, eq_self, f3]
        refine (lower_ok hk).mono ?_
        rintro v t1 ⟨rfl, rfl⟩
        try simp only [↓reduceIte, eq_self, f4]
        refine h5 _ _ ?_
        try clear h5 K_h5
        refine T.cond rfl (fun h => by cases h) (fun _ => ?_)
        refine T.seq_k (fun K_h0 h0 => ?_)
        refine T.regi hm ?_
        simp only [↓reduceIte, namesOf, List.any, I.names, aopsI, astep, ev, setd, List.set, List.getD, List.getElem?_cons_zero, List.getElem?_cons_succ, List.cons_append, List.nil_append, List.replicate, then_normal, Option.getD_some, Bool.or_false, Bool.false_eq_true, up_zero]
        refine h0 _ _ ?_
        try clear h0 K_h0
        exact T.ret (fin _ rfl)
      have g95 : ((k : Int) == 95) = false := by rw [beq_eq_false_iff_ne]; omega
      by_cases hk48 : k < 48
      · have f1 : decide ((48 : Int) ≤ (k : Int)) = false := decide_eq_false (by omega)
        have f3 : decide ((97 : Int) ≤ (lowN k : Int)) = false := decide_eq_false (by have := lw3 hk48; omega)
        refine T.seq_k (fun K_h0 h0 => ?_)
        refine T.regi hm ?_
        simp only [↓reduceIte, namesOf, List.any, I.names, aopsI, astep, ev, setd, List.set, List.getD, List.getElem?_cons_zero, List.getElem?_cons_succ, List.cons_append, List.nil_append, List.replicate, then_normal, Option.getD_some, Bool.or_false, Bool.false_eq_true, up_zero, binv, ↓opt_def, eq_self, g95]
        refine h0 _ _ ?_
        try clear h0 K_h0
        refine T.cond rfl (fun h => by cases h) (fun _ => ?_)
        refine T.seq_k (fun K_h0 h0 => ?_)
        refine T.regi hm ?_
        simp only [↓reduceIte, namesOf, List.any, I.names, aopsI, astep, ev, setd, List.set, List.getD, List.getElem?_cons_zero, List.getElem?_cons_succ, List.cons_append, List.nil_append, List.replicate, then_normal, Option.getD_some, Bool.or_false, Bool.false_eq_true, up_zero, binv, ↓opt_def, eq_self, f1]
        refine h0 _ _ ?_
        try clear h0 K_h0
        refine T.cond rfl (fun h => by cases h) (fun _ => ?_)
        refine T.seq_k (fun K_h5 h5 => ?_)
        refine T.regi hm ?_
        simp only [↓reduceIte, namesOf, List.any, I.names, aopsI, astep, ev, setd, List.set, List.getD, List.getElem?_cons_zero, List.getElem?_cons_succ, List.cons_append, List.nil_append, List.replicate, then_normal, Option.getD_some, Bool.or_false, Bool.false_eq_true, up_zero, binv, ↓opt_def, List.map_cons, List.map_nil]
        refine (lower_ok hk).mono ?_
        rintro v t1 ⟨rfl, rfl⟩
        try simp only [↓reduceIte, Bool.false_eq_true, eq_self, f3]
        refine h5 _ _ ?_
        try clear h5 K_h5
        refine T.cond rfl (fun h => by cases h) (fun _ => ?_)
        refine T.seq_k (fun K_h0 h0 => ?_)
        refine T.regi hm ?_
        simp only [↓reduceIte, namesOf, List.any, I.names, aopsI, astep, ev, setd, List.set, List.getD, List.getElem?_cons_zero, List.getElem?_cons_succ, List.cons_append, List.nil_append, List.replicate, then_normal, Option.getD_some, Bool.or_false, Bool.false_eq_true, up_zero]
        refine h0 _ _ ?_
        try clear h0 K_h0
        exact T.ret (fin _ rfl)
      have f1 : decide ((48 : Int) ≤ (k : Int)) = true := decide_eq_true (by omega)
      have f2 : decide ((k : Int) ≤ 57) = false := decide_eq_false (by omega)
      refine T.seq_k (fun K_h0 h0 => ?_)
      refine T.regi hm ?_
      simp only [↓reduceIte, namesOf, List.any, I.names, aopsI, astep, ev, setd, List.set, List.getD, List.getElem?_cons_zero, List.getElem?_cons_succ, List.cons_append, List.nil_append, List.replicate, then_normal, Option.getD_some, Bool.or_false, Bool.false_eq_true, up_zero, binv, ↓opt_def, eq_self, g95]
      refine h0 _ _ ?_
      try clear h0 K_h0
      refine T.cond rfl (fun h => by cases h) (fun _ => ?_)
      refine T.seq_k (fun K_h0 h0 => ?_)
      refine T.regi hm ?_
      simp only [↓reduceIte, namesOf, List.any, I.names, aopsI, astep, ev, setd, List.set, List.getD, List.getElem?_cons_zero, List.getElem?_cons_succ, List.cons_append, List.nil_append, List.replicate, then_normal, Option.getD_some, Bool.or_false, Bool.false_eq_true, up_zero, binv, ↓opt_def, eq_self, f1, f2]
      refine h0 _ _ ?_
      try clear h0 K_h0
      refine T.cond rfl (fun h => by cases h) (fun _ => ?_)
      refine T.seq_k (fun K_h5 h5 => ?_)
      by_cases hl97 : 97 ≤ lowN k
      · have f3 : decide ((97 : Int) ≤ (lowN k : Int)) = true := decide_eq_true (by omega)
        have f4 : decide ((lowN k : Int) ≤ 122) = false := decide_eq_false (by omega)
        refine T.regi hm ?_
        simp only [↓reduceIte, namesOf, List.any, I.names, aopsI, astep, ev, setd, List.set, List.getD, List.getElem?_cons_zero, List.getElem?_cons_succ, List.cons_append, List.nil_append, List.replicate, then_normal, Option.getD_some, Bool.or_false, Bool.false_eq_true, up_zero, binv, ↓opt_def, List.map_cons, List.map_nil]
        refine (lower_ok hk).mono ?_
        rintro v t1 ⟨rfl, rfl⟩
        try simp only [↓reduceIte, eq_self, f3]
        refine (lower_ok hk).mono ?_
        rintro v t1 ⟨rfl, rfl⟩
        try simp only [↓reduceIte, eq_self, f4]
        refine h5 _ _ ?_
        try clear h5 K_h5
        refine T.cond rfl (fun h => by cases h) (fun _ => ?_)
        refine T.seq_k (fun K_h0 h0 => ?_)
        refine T.regi hm ?_
        simp only [↓reduceIte, namesOf, List.any, I.names, aopsI, astep, ev, setd, List.set, List.getD, List.getElem?_cons_zero, List.getElem?_cons_succ, List.cons_append, List.nil_append, List.replicate, then_normal, Option.getD_some, Bool.or_false, Bool.false_eq_true, up_zero]
        refine h0 _ _ ?_
        try clear h0 K_h0
        exact T.ret (fin _ rfl)
      · have f3 : decide ((97 : Int) ≤ (lowN k : Int)) = false := decide_eq_false (by omega)
        refine T.regi hm ?_
        simp only [↓reduceIte, namesOf, List.any, I.names, aopsI, astep, ev, setd, List.set, List.getD, List.getElem?_cons_zero, List.getElem?_cons_succ, List.cons_append, List.nil_append, List.replicate, then_normal, Option.getD_some, Bool.or_false, Bool.false_eq_true, up_zero, binv, ↓opt_def, List.map_cons, List.map_nil]
        refine (lower_ok hk).mono ?_
        rintro v t1 ⟨rfl, rfl⟩
        try simp only [↓reduceIte, Bool.false_eq_true, eq_self, f3]
        refine h5 _ _ ?_
        try clear h5 K_h5
        refine T.cond rfl (fun h => by cases h) (fun _ => ?_)
        refine T.seq_k (fun K_h0 h0 => ?_)
        refine T.regi hm ?_
        simp only [↓reduceIte, namesOf, List.any, I.names, aopsI, astep, ev, setd, List.set, List.getD, List.getElem?_cons_zero, List.getElem?_cons_succ, List.cons_append, List.nil_append, List.replicate, then_normal, Option.getD_some, Bool.or_false, Bool.false_eq_true, up_zero]
        refine h0 _ _ ?_
        try clear h0 K_h0
        exact T.ret (fin _ rfl)
    rcases hb with rfl | rfl
    · have e1 : (((16 : Nat) : Int) == 10) = false := rfl
      have e2 : (((16 : Nat) : Int) == 16) = true := rfl
      rw [if_pos rfl] at hcut
      refine T.seq_k (fun K_h0 h0 => ?_)
      refine T.regi hm ?_
      simp only [↓reduceIte, namesOf, List.any, I.names, aopsI, astep, ev, setd, List.set, List.getD, List.getElem?_cons_zero, List.getElem?_cons_succ, then_normal, Option.getD_some, Bool.or_false, Bool.false_eq_true, up_zero, binv, ↓opt_def, eq_self, e1]
      refine h0 _ _ ?_
      try clear h0 K_h0
      refine T.cond rfl (fun h => by cases h) (fun _ => ?_)
      refine T.seq_k (fun K_h0 h0 => ?_)
      refine T.regi hm ?_
      simp only [↓reduceIte, namesOf, List.any, I.names, aopsI, astep, ev, setd, List.set, List.getD, List.getElem?_cons_zero, List.getElem?_cons_succ, then_normal, Option.getD_some, Bool.or_false, Bool.false_eq_true, up_zero, binv, ↓opt_def, eq_self, e2]
      refine h0 _ _ ?_
      try clear h0 K_h0
      refine T.cond rfl (fun _ => ?_) (fun h => by cases h)
      refine T.regi hm ?_
      simp only [↓reduceIte, namesOf, List.any, I.names, aopsI, astep, ev, setd, List.set, then_normal, inBlock_normal, Bool.or_false, Bool.false_eq_true, up_zero]
      exact nxt2 _ (by rw [hcut]; rfl)
    · have e1 : (((10 : Nat) : Int) == 10) = true := rfl
      rw [if_neg (by omega)] at hcut
      refine T.seq_k (fun K_h0 h0 => ?_)
      refine T.regi hm ?_
      simp only [↓reduceIte, namesOf, List.any, I.names, aopsI, astep, ev, setd, List.set, List.getD, List.getElem?_cons_zero, List.getElem?_cons_succ, then_normal, Option.getD_some, Bool.or_false, Bool.false_eq_true, up_zero, binv, ↓opt_def, eq_self, e1]
      refine h0 _ _ ?_
      try clear h0 K_h0
      refine T.cond rfl (fun _ => ?_) (fun h => by cases h)
      refine T.regi hm ?_
      simp only [↓reduceIte, namesOf, List.any, I.names, aopsI, astep, ev, setd, List.set, then_normal, inBlock_normal, Bool.or_false, Bool.false_eq_true, up_zero]
      exact nxt2 _ (by rw [hcut]; rfl)
  rcases hbs with rfl | rfl
  · have e1 : ((64 : Int) == 0) = false := rfl
    have e2 : decide ((64 : Int) < 0) = false := rfl
    have e3 : decide ((64 : Int) > 64) = false := rfl
    refine T.seq_k (fun K_h0 h0 => ?_)
    refine T.regi hm ?_
    simp only [↓reduceIte, namesOf, List.any, I.names, aopsI, astep, ev, setd, List.set, List.getD, List.getElem?_cons_zero, List.getElem?_cons_succ, then_normal, Option.getD_some, Bool.or_false, Bool.false_eq_true, up_zero, binv, ↓opt_def, eq_self, e1]
    refine h0 _ _ ?_
    try clear h0 K_h0
    refine T.cond rfl (fun h => by cases h) (fun _ => ?_)
    refine T.seq_k (fun K_h0 h0 => ?_)
    refine T.regi hm ?_
    simp only [↓reduceIte, namesOf, List.any, I.names, aopsI, astep, ev, setd, List.set, List.getD, List.getElem?_cons_zero, List.getElem?_cons_succ, then_normal, Option.getD_some, Bool.or_false, Bool.false_eq_true, up_zero, binv, ↓opt_def, eq_self, e2, e3]
    refine h0 _ _ ?_
    try clear h0 K_h0
    refine T.cond rfl (fun h => by cases h) (fun _ => T.skip ?_)
    exact nxt _ rfl
  · have e1 : ((0 : Int) == 0) = true := rfl
    refine T.seq_k (fun K_h0 h0 => ?_)
    refine T.regi hm ?_
    simp only [↓reduceIte, namesOf, List.any, I.names, aopsI, astep, ev, setd, List.set, List.getD, List.getElem?_cons_zero, List.getElem?_cons_succ, then_normal, Option.getD_some, Bool.or_false, Bool.false_eq_true, up_zero, binv, ↓opt_def, eq_self, e1]
    refine h0 _ _ ?_
    try clear h0 K_h0
    refine T.cond rfl (fun _ => ?_) (fun h => by cases h)
    refine T.regi hm ?_
    simp only [↓reduceIte, namesOf, List.any, I.names, aopsI, astep, ev, setd, List.set, then_normal, Bool.or_false, Bool.false_eq_true, up_zero]
    exact nxt _ rfl

end Go.VL

namespace Go.VL

open Go.RowKit

variable {P : Program}

/-- a call that leaves what was there alone -/
theorem R.lateC {κ : Kx} {w : World} {B : Nat} {F : Nat → Prop} {σ : St} (hR : R B F κ w σ) {w' : World} (hb : RowKit.Below w.heap.size w w') (hd : w.drawn ≤ w'.drawn) : Ext κ w κ w' ∧ R w.heap.size (ownd κ σ) κ w' σ ∧ Fr (ownd κ σ) w w' := by
  have e : Ext κ w κ w' := ⟨fun _ _ h => h, fun _ _ => rfl, fun _ _ => rfl, fun _ _ => rfl, fun _ _ => rfl, fun _ h => h, fun b o hi => cell_same (hb.block b (hR.imm b o hi)) o⟩
  have hR1 : R B F κ w' σ := hR.step e hR.dom (fun b o hi => Nat.lt_of_lt_of_le (hR.imm b o hi) hb.size) (fun n r hr => .inl ⟨hr, hb.block _ (hR.lt hr), fun _ h => h⟩)
  exact ⟨e, ⟨hR1.dom, hR1.own, hR1.apart, hR1.imm, fun n r hr hrl => .inl ⟨n, r, hr, hrl, rfl⟩⟩, ⟨hb.os, hd⟩, hb.tape, hb.output, hb.size, fun b hlt _ => hb.block b hlt⟩

def clCode (tS tI tB tL tP t0 : Nat) : Code := ((Code.region 0 #[{ dst := some 2, op := Op.assign (Operand.const (Value.string { data := #[] })), type := tS, pos := "strings.go:115", after := #[], guard := none }] false).seq
  (((Code.region 1 #[{ dst := some 4, op := Op.move (Operand.tmp 0), type := tS, pos := "strings.go:116", after := #[], guard := none },
      { dst := some 5, op := Op.call { callee := Callee.builtin Builtin.len, args := #[Operand.tmp 4], argTypes := #[tS] }, type := tI, pos := "strings.go:116", after := #[{ on := 0, ground := Ground.data }], guard := none },
      { dst := some 6, op := Op.binOp BinOp.eql tI (Operand.tmp 5) (Operand.const (Value.int IntKind.i64 0)) tI, type := tB, pos := "strings.go:116", after := #[{ on := 1, ground := Ground.data }], guard := none }] false).seq
    (Code.cond (Operand.tmp 6) ((Code.region 2 #[{ dst := some 2, op := Op.assign (Operand.const (Value.string { data := #[] })), type := tS, pos := "strings.go:117", after := #[], guard := none }] false).seq Code.ret) Code.skip)).seq
  ((Code.region 3 #[{ dst := some 7, op := Op.move (Operand.tmp 0), type := tS, pos := "strings.go:119", after := #[], guard := none },
      { dst := some 8, op := Op.call { callee := Callee.builtin Builtin.len, args := #[Operand.tmp 7], argTypes := #[tS] }, type := tI, pos := "strings.go:119", after := #[{ on := 0, ground := Ground.data }], guard := none },
      { dst := some 9, op := Op.makeSlice tL (Operand.tmp 8) (Operand.tmp 8), type := tL, pos := "strings.go:119", after := #[{ on := 1, ground := Ground.data }, { on := 1, ground := Ground.data }], guard := none },
      { dst := some 3, op := Op.assign (Operand.tmp 9), type := tL, pos := "strings.go:119", after := #[{ on := 2, ground := Ground.data }, { on := 0, ground := Ground.phase }, { on := 1, ground := Ground.phase }, { on := 2, ground := Ground.phase }], guard := none }] false).seq
  ((Code.region 4 #[{ dst := some 10, op := Op.move (Operand.tmp 3), type := tL, pos := "strings.go:120", after := #[], guard := none },
      { dst := some 11, op := Op.move (Operand.tmp 0), type := tS, pos := "strings.go:120", after := #[], guard := none },
      { dst := some 12, op := Op.call { callee := Callee.builtin Builtin.copy, args := #[Operand.tmp 10, Operand.tmp 11], argTypes := #[tL, tS] }, type := tI, pos := "strings.go:120", after := #[{ on := 0, ground := Ground.data }, { on := 1, ground := Ground.data }], guard := none }] false).seq
  ((Code.region 5 #[{ dst := some 13, op := Op.move (Operand.tmp 3), type := tL, pos := "strings.go:121", after := #[], guard := none },
      { dst := some 14, op := Op.indexAddr tL (Operand.tmp 13) (Operand.const (Value.int IntKind.i64 0)), type := t0, pos := "strings.go:121", after := #[{ on := 0, ground := Ground.data }], guard := none },
      { dst := some 15, op := Op.move (Operand.tmp 3), type := tL, pos := "strings.go:121", after := #[], guard := none },
      { dst := some 16, op := Op.call { callee := Callee.builtin Builtin.len, args := #[Operand.tmp 15], argTypes := #[tL] }, type := tI, pos := "strings.go:121", after := #[{ on := 2, ground := Ground.data }], guard := none },
      { dst := some 17, op := Op.call { callee := Callee.builtin Builtin.unsafeString, args := #[Operand.tmp 14, Operand.tmp 16], argTypes := #[tP, tI] }, type := tS, pos := "strings.go:121", after := #[{ on := 1, ground := Ground.data }, { on := 3, ground := Ground.data }], guard := none },
      { dst := some 2, op := Op.assign (Operand.tmp 17), type := tS, pos := "strings.go:121", after := #[{ on := 4, ground := Ground.data }, { on := 0, ground := Ground.phase }, { on := 1, ground := Ground.phase }, { on := 2, ground := Ground.phase }, { on := 3, ground := Ground.phase }, { on := 4, ground := Ground.phase }], guard := none }] false).seq Code.ret)))))

set_option maxRecDepth 100000 in
set_option maxHeartbeats 4000000 in
theorem clone_gen {f tS tI tB tL tP tE t0 : Nat} {fn : Func} (mixed : P.follows .mixedOrders = true) (hf : P.funcs[f]? = some fn) (hfb : fn.body = some (clCode tS tI tB tL tP t0)) (hft : fn.ntmps = 18) (hfr : fn.results = #[.tmp 2]) (hfn : (fn.name == "runtime.NumGoroutine") = false)
    (uS : P.underlying tS = some .string) (aS : ∀ w, (isAgg tS).run P w = .ok false w) (zS : ∀ w, (Go.sizeOf tS).run P w = .ok 1 w) (vS : ∀ w, (zeroValue tS).run P w = .ok (Value.string { data := #[] }) w)
    (uI : P.underlying tI = some (.int .i64)) (aI : ∀ w, (isAgg tI).run P w = .ok false w) (zI : ∀ w, (Go.sizeOf tI).run P w = .ok 1 w) (vI : ∀ w, (zeroValue tI).run P w = .ok (Value.int IntKind.i64 0) w)
    (uB : P.underlying tB = some .bool) (aB : ∀ w, (isAgg tB).run P w = .ok false w) (zB : ∀ w, (Go.sizeOf tB).run P w = .ok 1 w)
    (uL : P.underlying tL = some (.slice tE)) (aL : ∀ w, (isAgg tL).run P w = .ok false w) (zL : ∀ w, (Go.sizeOf tL).run P w = .ok 1 w)
    (uE : P.underlying tE = some (.int .u8)) (aE : ∀ w, (isAgg tE).run P w = .ok false w) (zE : ∀ w, (Go.sizeOf tE).run P w = .ok 1 w)
    (uP : P.underlying tP = some (.pointer tE)) (iE : (P.info? tE).map (fun i => (i.zero, i.size, i.bytes)) = some (some (Value.int IntKind.u8 0), 1, 1))
    (a0 : ∀ w, (isAgg t0).run P w = .ok false w)
    {s : ByteArray} {σ : St} (hlim : s.size ≤ 1000000000) : ACalls P f [.str s] σ (fun v σ' => v = .str s ∧ σ' = σ) := by
  refine ⟨⟨fn, hf, by simp [hfb], hfn⟩, fun κ w vs B F hR hv => ?_⟩
  cases hv with
  | cons v1 _ r1 _ k1 m1 =>
  cases m1
  have hv1 := k1.str_inv
  subst hv1
  suffices Calls P f #[.string s] w fun e w' => e = .returned (.string s) ∧ Below w.heap.size w w' ∧ w.drawn ≤ w'.drawn by
    refine Calls.mono this ?_
    rintro e w' ⟨rfl, hb, hd⟩
    obtain ⟨e0, hR', hfr'⟩ := hR.lateC hb hd
    exact ⟨_, _, κ, σ, rfl, e0, fun n hn => .inl hn, hR', hfr', Nat.le_refl _, .str _, rfl, rfl⟩
  clear k1
  cases fn
  simp only at hfb hft hfr
  subst hfb hft hfr
  by_cases h0 : s.size = 0
  · have hs : s = ⟨#[]⟩ := ByteArray.ext (Array.eq_empty_of_size_eq_zero h0)
    subst hs
    refine calls_of_wp hf rfl ?_
    unfold clCode
    simp only [List.size_toArray, List.length_cons, List.length_nil, Nat.reduceAdd, Nat.reduceSub, Array.replicate_succ, Array.replicate_zero, List.push_toArray, List.append_toArray, List.nil_append, List.cons_append]
    go_wp2
    refine bodyPost_ret (results_tmp rfl _ _ _) rfl ?_
    exact ⟨rfl, Below.refl _ _, Nat.le_refl _⟩
  obtain ⟨i0, hi, hz0, hz1, hz2⟩ := info_parts iE
  have hinfo : (P.info? tE).map (·.size) = some 1 := by rw [hi]; simp [hz1]
  have hco : P.cellsOf tE = 1 := by simp [Program.cellsOf, hi, hz1]
  obtain ⟨M, hM⟩ : ∃ M, M = madeCells (Value.int .u8 0).cells (((s.size : Nat) : Int).toNat * i0.size) := ⟨_, rfl⟩
  have hMs : M.size = s.size := by rw [hM, size_madeCells, hz1]; simp
  have hmk : ∀ W : World, (Instr.makeSlice tL (.int .i64 (s.size : Int)) (.int .i64 (s.size : Int))).run P W = .ok (.slice (some ⟨W.heap.size, 0, none⟩) s.size s.size) (W.alloc (.cells M tE)) := fun W => by
    have h := run_make (P := P) W tL tE i0 (.int .u8 0) uL hi hz0 .i64 .i64 (s.size : Int) (s.size : Int) (by omega) (by omega) (by rw [hz2]; omega) (by omega)
    rw [← hM] at h
    simpa using h
  clear hM
  have hcp := Lib.run_copy_row_string (P := P) (w.alloc (.cells M tE)) tL tS tI tE w.heap.size 0 s.size s.size s M tE uL hinfo (heap_alloc_new w _) (Nat.le_refl _) (by omega)
  obtain ⟨Y, hY⟩ : ∃ Y, Y = (M.toList.take 0 ++ Lib.byteCells s.data.toList ++ M.toList.drop (0 + s.size)).toArray := ⟨_, rfl⟩
  rw [← hY] at hcp
  have hYl : Y.toList = Lib.byteCells s.data.toList := by
    rw [hY, List.toList_toArray, List.take_zero, List.nil_append, List.drop_of_length_le (by rw [Array.length_toList]; omega), List.append_nil]
  have hYs : Y.size = s.size := by rw [← Array.length_toList, hYl, Lib.byteCells_length, ← Lib.size_eq]
  have hgY : ((w.alloc (.cells M tE)).setRow w.heap.size Y).heap[w.heap.size]? = some (.cells Y tE (0, 0)) := setRow_heap _ _ M _ tE (0, 0) (heap_alloc_new w _)
  have hne : s.data.toList ≠ [] := fun e => h0 (by rw [Lib.size_eq, e]; rfl)
  have hUS := Lib.run_unsafeString_row (P := P) ((w.alloc (.cells M tE)).setRow w.heap.size Y) tP tI tS tE uP hco w.heap.size Y.size (by unfold World.shape?; rw [hgY]) s.data.toList hne (by rw [← Lib.size_eq]; omega) (by rw [← Lib.size_eq]; omega)
    (fun j x hx => Lib.cells_of_row hgY Y.size j _ (by rw [List.take_of_length_le (by rw [Array.length_toList]; exact Nat.le_refl _), hYl]; simp [Lib.byteCells, hx]))
  rw [← Lib.size_eq] at hUS
  clear hY
  have hb1 : Below w.heap.size w (w.alloc (.cells M tE)) := (Below.refl _ w).alloc (Nat.le_refl _) _
  have hb2 : Below w.heap.size (w.alloc (.cells M tE)) ((w.alloc (.cells M tE)).setRow w.heap.size Y) := ⟨rfl, rfl, rfl, by simp, fun k hk => setRow_other _ _ _ _ (by omega)⟩
  have hd : w.drawn ≤ (((w.alloc (.cells M tE)).setRow w.heap.size Y).freeze ⟨w.heap.size, 0, none⟩ s.size).drawn := by
    unfold World.freeze
    split <;> exact Nat.le_refl _
  refine calls_of_wp hf rfl ?_
  unfold clCode
  simp only [List.size_toArray, List.length_cons, List.length_nil, Nat.reduceAdd, Nat.reduceSub, Array.replicate_succ, Array.replicate_zero, List.push_toArray, List.append_toArray, List.nil_append, List.cons_append]
  go_wp2
  refine bodyPost_ret (results_tmp rfl _ _ _) rfl ?_
  exact ⟨rfl, Lib.below_freeze (hb1.trans hb2) (p := ⟨w.heap.size, 0, none⟩) (Nat.le_refl _) _, hd⟩

end Go.VL

namespace Go.VL

open Go.Proofs

abbrev n_slClone : Nat := 198

set_option maxRecDepth 100000 in
theorem slClone_ok {s : ByteArray} {σ : St} (hlim : s.size ≤ 1000000000) : ACalls Tryz.prog n_slClone [.str s] σ (fun v σ' => v = .str s ∧ σ' = σ) :=
  clone_gen (tS := 9) (tI := 3) (tB := 4) (tL := 40) (tP := 274) (tE := 5) (t0 := 0) (by kernel_rfl) Tryz.func198 (by kernel_rfl) rfl rfl (by kernel_rfl)
    Tryz.underlying9 Tryz.isAgg9 Tryz.sizeOf9 Tryz.zeroValue9 Tryz.underlying3 Tryz.isAgg3 Tryz.sizeOf3 Tryz.zeroValue3 Tryz.underlying4 Tryz.isAgg4 Tryz.sizeOf4 Tryz.underlying40 Tryz.isAgg40 Tryz.sizeOf40 Tryz.underlying5 Tryz.isAgg5 Tryz.sizeOf5 Tryz.underlying274 (by kernel_rfl) Tryz.isAgg0 hlim

end Go.VL

namespace Go.VL

open Go.Proofs

/-- strconv's errors are there -/
structure Errs (σ : St) : Prop where
  syn : ∃ t, σ.res g_esyn = some (.gl g_esyn [.iface t .any])
  rng : ∃ t, σ.res g_erng = some (.gl g_erng [.iface t .any])

theorem Errs.mono {σ t : St} (h : Errs σ) (hq : ∀ n r, σ.res n = some r → t.res n = some r) : Errs t := ⟨h.syn.imp fun _ => hq _ _, h.rng.imp fun _ => hq _ _⟩

theorem Errs.like {σ t : St} (h : Errs σ) (wf : WF σ) (hL : Like σ t) : Errs t := h.mono (hL.quiet wf)

theorem Wk.iface (t : Nat) (x : AV) : Wk (.iface t x) (.iface t .any) := fun κ w v h => by
  obtain ⟨u, rfl, _⟩ := h.iface_inv
  exact V.iface t u AV.any (V.any u)

theorem synErr_ok {a b : ByteArray} {σ : St} (hE : Errs σ) (hb : b.size ≤ 1000000000) : ACalls Tryz.prog n_synErr [.str a, .str b] σ (fun v σ' => ∃ p, v = .ptr p 0 ∧ Like σ σ') := by
  refine s_synErr (fun wf => ?_)
  unfold c_synErr
  refine T.seq_k (fun K_h0 h0 => ?_)
  refine T.regi hm ?_
  simp only [↓reduceIte, namesOf, List.any, I.names, aopsI, astep, ev, setd, List.set, List.cons_append, List.nil_append, List.length_cons, List.length_nil, List.replicate, then_normal, Bool.or_false, Bool.false_eq_true, up_zero, Nat.reduceAdd, Nat.reduceSub]
  refine h0 _ _ ?_
  try clear h0 K_h0
  obtain ⟨te, hs⟩ := hE.syn
  refine T.seq_k (fun K_h1 h1 => ?_)
  refine T.regi hm ?_
  simp only [↓reduceIte, namesOf, List.any, I.names, aopsI, astep, ev, setd, List.set, List.getD, List.getElem?_cons_zero, List.getElem?_cons_succ, List.length_cons, List.length_nil, then_normal, Option.getD_some, Bool.or_false, Bool.or_true, Nat.reduceAdd, ↓opt_def, AV.isAny, AV.cells, ldc, List.map_cons, List.map_nil, eq_self]
  refine ⟨_, slClone_ok (by omega), ?_⟩
  try simp only [↓reduceIte, ev, List.getD, List.getElem?_cons_zero, List.getElem?_cons_succ, List.cons_append, List.nil_append, List.length_cons, List.length_nil, Option.getD_some, Bool.false_eq_true, Nat.reduceAdd, AV.isAny, AV.cells, and_true, eq_self, St.up_res, hs, fillA, ↓Option.map_some, AV.fits, AV.one, List.all_cons, List.all_nil, Nat.reduceBEq, Bool.not_false, Bool.and_self, Nat.zero_add, splice, List.take, List.drop, Nat.reduceLeDiff]
  refine h1 _ _ ?_
  try clear h1 K_h1
  exact T.ret (Fin.ret rfl ⟨_, rfl, (Like.refl σ).box _⟩)

theorem rngErr_ok {a b : ByteArray} {σ : St} (hE : Errs σ) (hb : b.size ≤ 1000000000) : ACalls Tryz.prog n_rngErr [.str a, .str b] σ (fun v σ' => ∃ p, v = .ptr p 0 ∧ Like σ σ') := by
  refine s_rngErr (fun wf => ?_)
  unfold c_rngErr
  refine T.seq_k (fun K_h0 h0 => ?_)
  refine T.regi hm ?_
  simp only [↓reduceIte, namesOf, List.any, I.names, aopsI, astep, ev, setd, List.set, List.cons_append, List.nil_append, List.length_cons, List.length_nil, List.replicate, then_normal, Bool.or_false, Bool.false_eq_true, up_zero, Nat.reduceAdd, Nat.reduceSub]
  refine h0 _ _ ?_
  try clear h0 K_h0
  obtain ⟨te, hs⟩ := hE.rng
  refine T.seq_k (fun K_h1 h1 => ?_)
  refine T.regi hm ?_
  simp only [↓reduceIte, namesOf, List.any, I.names, aopsI, astep, ev, setd, List.set, List.getD, List.getElem?_cons_zero, List.getElem?_cons_succ, List.length_cons, List.length_nil, then_normal, Option.getD_some, Bool.or_false, Bool.or_true, Nat.reduceAdd, ↓opt_def, AV.isAny, AV.cells, ldc, List.map_cons, List.map_nil, eq_self]
  refine ⟨_, slClone_ok (by omega), ?_⟩
  try simp only [↓reduceIte, ev, List.getD, List.getElem?_cons_zero, List.getElem?_cons_succ, List.cons_append, List.nil_append, List.length_cons, List.length_nil, Option.getD_some, Bool.false_eq_true, Nat.reduceAdd, AV.isAny, AV.cells, and_true, eq_self, St.up_res, hs, fillA, ↓Option.map_some, AV.fits, AV.one, List.all_cons, List.all_nil, Nat.reduceBEq, Bool.not_false, Bool.and_self, Nat.zero_add, splice, List.take, List.drop, Nat.reduceLeDiff]
  refine h1 _ _ ?_
  try clear h1 K_h1
  exact T.ret (Fin.ret rfl ⟨_, rfl, (Like.refl σ).box _⟩)

/-- an error that is one -/
theorem toErr_ok {a b : ByteArray} {x y e : Int} {σ : St} (hE : Errs σ) (hb : b.size ≤ 1000000000) (he : e = 1 ∨ e = 2) :
    ACalls Tryz.prog n_toErr [.str a, .str b, .int .i64 x, .int .i64 y, .iface t_serr (.int .i64 e)] σ (fun v σ' => v = .iface t_nerr .any ∧ σ' = σ) := by
  refine s_toErr (fun wf => ?_)
  unfold c_toErr
  refine T.seq_k (fun K_h0 h0 => ?_)
  refine T.regi hm ?_
  simp only [↓reduceIte, namesOf, List.any, I.names, aopsI, astep, ev, setd, List.set, List.cons_append, List.nil_append, List.length_cons, List.length_nil, List.replicate, then_normal, Bool.or_false, Bool.false_eq_true, up_zero, Nat.reduceAdd, Nat.reduceSub]
  refine h0 _ _ ?_
  try clear h0 K_h0
  refine T.seq_k (fun K_h1 h1 => ?_)
  refine T.seq_k (fun K_h0 h0 => ?_)
  refine T.regi hm ?_
  simp only [↓reduceIte, namesOf, List.any, I.names, aopsI, astep, ev, setd, List.set, List.getD, List.getElem?_cons_zero, List.getElem?_cons_succ, then_normal, Option.getD_some, Bool.or_false, Bool.false_eq_true, up_zero]
  refine h0 _ _ ?_
  try clear h0 K_h0
  refine T.block ?_
  rcases he with rfl | rfl
  · have g1 : eqIv false [(tCode, .i64), (t_serr, .i64)] (.iface t_serr (.int .i64 1)) (.iface t_serr (.int .i64 2)) = some false := rfl
    have g2 : eqIv false [(tCode, .i64), (t_serr, .i64)] (.iface t_serr (.int .i64 1)) (.iface t_serr (.int .i64 1)) = some true := rfl
    refine T.seq_k (fun K_h0 h0 => ?_)
    refine T.regi hm ?_
    simp only [↓reduceIte, namesOf, List.any, I.names, aopsI, astep, ev, setd, List.set, List.getD, List.getElem?_cons_zero, List.getElem?_cons_succ, then_normal, Option.getD_some, Bool.or_false, Bool.false_eq_true, up_zero, g1, bne_self_eq_false]
    refine h0 _ _ ?_
    try clear h0 K_h0
    refine T.cond rfl (fun h => by cases h) (fun _ => ?_)
    refine T.seq_k (fun K_h0 h0 => ?_)
    refine T.regi hm ?_
    simp only [↓reduceIte, namesOf, List.any, I.names, aopsI, astep, ev, setd, List.set, List.getD, List.getElem?_cons_zero, List.getElem?_cons_succ, then_normal, Option.getD_some, Bool.or_false, Bool.false_eq_true, up_zero, g2, Bool.bne_false]
    refine h0 _ _ ?_
    try clear h0 K_h0
    refine T.cond rfl (fun _ => ?_) (fun h => by cases h)
    refine T.seq_k (fun K_h2 h2 => ?_)
    refine T.regi hm ?_
    simp only [↓reduceIte, namesOf, List.any, I.names, aopsI, astep, ev, setd, List.set, List.getD, List.getElem?_cons_zero, List.getElem?_cons_succ, then_normal, Option.getD_some, Bool.or_false, Bool.false_eq_true, up_zero, List.map_cons, List.map_nil]
    refine (rngErr_ok hE hb).mono ?_
    rintro v σ1 ⟨p, rfl, hL⟩
    try simp only [↓reduceIte, namesOf, List.any, I.names, aops, aopsI, aopsT, qstep, CPt, qget, Tbl.get, astep, ev, setd, List.set, List.getD, List.getElem?_cons_zero, List.getElem?_cons_succ, List.getElem?_nil, List.cons_append, List.nil_append, List.length_cons, List.length_nil, List.replicate, then_normal, inBlock_normal, Option.getD_some, Option.getD_none, Bool.or_false, Bool.or_true, Bool.true_or, Bool.false_or, Bool.false_eq_true, if_false, if_true, up_zero, Nat.reduceAdd, Nat.reduceSub, binv, ↓opt_def, AV.isAny, AV.cells, ldc, List.map_cons, List.map_nil, St.set_next, St.set_same, St.up_next, Int.natCast_nonneg, lt_len, le_len, Int.toNat_natCast, true_and, and_true, eq_self, reduceCtorEq, decide_true, List.length_singleton, er_int, er_bool, er_str, srcR, up_zero]
    refine h2 _ _ ?_
    try clear h2 K_h2
    exact T.ret (Fin.quietw rfl (Wk.iface _ _) trivial (hL.quiet wf) ⟨rfl, rfl⟩)
  · have g1 : eqIv false [(tCode, .i64), (t_serr, .i64)] (.iface t_serr (.int .i64 2)) (.iface t_serr (.int .i64 2)) = some true := rfl
    refine T.seq_k (fun K_h0 h0 => ?_)
    refine T.regi hm ?_
    simp only [↓reduceIte, namesOf, List.any, I.names, aopsI, astep, ev, setd, List.set, List.getD, List.getElem?_cons_zero, List.getElem?_cons_succ, then_normal, Option.getD_some, Bool.or_false, Bool.false_eq_true, up_zero, g1, Bool.bne_false]
    refine h0 _ _ ?_
    try clear h0 K_h0
    refine T.cond rfl (fun _ => ?_) (fun h => by cases h)
    refine T.seq_k (fun K_h2 h2 => ?_)
    refine T.regi hm ?_
    simp only [↓reduceIte, namesOf, List.any, I.names, aopsI, astep, ev, setd, List.set, List.getD, List.getElem?_cons_zero, List.getElem?_cons_succ, then_normal, Option.getD_some, Bool.or_false, Bool.false_eq_true, up_zero, List.map_cons, List.map_nil]
    refine (synErr_ok hE hb).mono ?_
    rintro v σ1 ⟨p, rfl, hL⟩
    try simp only [↓reduceIte, namesOf, List.any, I.names, aops, aopsI, aopsT, qstep, CPt, qget, Tbl.get, astep, ev, setd, List.set, List.getD, List.getElem?_cons_zero, List.getElem?_cons_succ, List.getElem?_nil, List.cons_append, List.nil_append, List.length_cons, List.length_nil, List.replicate, then_normal, inBlock_normal, Option.getD_some, Option.getD_none, Bool.or_false, Bool.or_true, Bool.true_or, Bool.false_or, Bool.false_eq_true, if_false, if_true, up_zero, Nat.reduceAdd, Nat.reduceSub, binv, ↓opt_def, AV.isAny, AV.cells, ldc, List.map_cons, List.map_nil, St.set_next, St.set_same, St.up_next, Int.natCast_nonneg, lt_len, le_len, Int.toNat_natCast, true_and, and_true, eq_self, reduceCtorEq, decide_true, List.length_singleton, er_int, er_bool, er_str, srcR, up_zero]
    refine h2 _ _ ?_
    try clear h2 K_h2
    exact T.ret (Fin.quietw rfl (Wk.iface _ _) trivial (hL.quiet wf) ⟨rfl, rfl⟩)

/-- strconv.ParseUint to the base 16: the number, or an error -/
def POut (l : List UInt8) (v : AV) : Prop :=
  (∃ n : Nat, n < 18446744073709551616 ∧ v = .tup [.int .u64 (n : Int), .nili] ∧ ∀ id, canU 16 l id → n = id) ∨
  (∃ n : Nat, n < 18446744073709551616 ∧ v = .tup [.int .u64 (n : Int), .iface t_nerr .any] ∧ ∀ id, ¬ canU 16 l id)

theorem parU_ok {l : List UInt8} {σ : St} (hE : Errs σ) (hl : l.length ≤ 1000000000) :
    ACalls Tryz.prog n_parU [.str ⟨l.toArray⟩, .int .i64 16, .int .i64 64] σ (fun v σ' => σ' = σ ∧ POut l v) := by
  refine s_parU (fun wf => ?_)
  unfold c_parU
  have hsz : (⟨l.toArray⟩ : ByteArray).size ≤ 1000000000 := by rw [sz_mk]; exact hl
  refine T.seq_k (fun K_h0 h0 => ?_)
  refine T.regi hm ?_
  simp only [↓reduceIte, namesOf, List.any, I.names, aopsI, astep, ev, setd, List.set, List.cons_append, List.nil_append, List.length_cons, List.length_nil, List.replicate, then_normal, Bool.or_false, Bool.false_eq_true, up_zero, Nat.reduceAdd, Nat.reduceSub]
  refine h0 _ _ ?_
  try clear h0 K_h0
  refine T.seq_k (fun K_h1 h1 => ?_)
  refine T.regi hm ?_
  simp only [↓reduceIte, namesOf, List.any, I.names, aopsI, astep, ev, setd, List.set, List.getD, List.getElem?_cons_zero, List.getElem?_cons_succ, then_normal, Option.getD_some, Bool.or_false, Bool.false_eq_true, up_zero, ↓opt_def, List.map_cons, List.map_nil]
  refine (iparU_ok (b := 16) (.inl rfl) (.inl rfl) hl).mono ?_
  rintro v σ1 ⟨rfl, (⟨n, hn, rfl, hc⟩ | ⟨n, e, hn, he, rfl, hc⟩)⟩
  · have g1 : eqIv true [(tCode, .i64)] .nili .nili = some true := rfl
    try simp only [List.getElem?_cons_zero, List.getElem?_cons_succ]
    refine h1 _ _ ?_
    try clear h1 K_h1
    refine T.seq_k (fun K_h1 h1 => ?_)
    refine T.seq_k (fun K_h0 h0 => ?_)
    refine T.regi hm ?_
    simp only [↓reduceIte, namesOf, List.any, I.names, aopsI, astep, ev, setd, List.set, List.getD, List.getElem?_cons_zero, List.getElem?_cons_succ, then_normal, Option.getD_some, Bool.or_false, Bool.false_eq_true, up_zero, g1, bne_self_eq_false]
    refine h0 _ _ ?_
    try clear h0 K_h0
    refine T.cond rfl (fun h => by cases h) (fun _ => T.skip ?_)
    refine h1 _ _ ?_
    try clear h1 K_h1
    refine T.seq_k (fun K_h0 h0 => ?_)
    refine T.regi hm ?_
    simp only [↓reduceIte, namesOf, List.any, I.names, aopsI, astep, ev, setd, List.set, List.getD, List.getElem?_cons_zero, List.getElem?_cons_succ, then_normal, Option.getD_some, Bool.or_false, Bool.false_eq_true, up_zero]
    refine h0 _ _ ?_
    try clear h0 K_h0
    exact T.ret (Fin.quiet rfl ⟨trivial, trivial, trivial⟩ (fun _ _ h => h) ⟨rfl, .inl ⟨n, hn, rfl, hc⟩⟩)
  · have g1 : eqIv true [(tCode, .i64)] (.iface t_serr (.int .i64 e)) .nili = some false := rfl
    try simp only [List.getElem?_cons_zero, List.getElem?_cons_succ]
    refine h1 _ _ ?_
    try clear h1 K_h1
    refine T.seq_k (fun K_h1 h1 => ?_)
    refine T.seq_k (fun K_h0 h0 => ?_)
    refine T.regi hm ?_
    simp only [↓reduceIte, namesOf, List.any, I.names, aopsI, astep, ev, setd, List.set, List.getD, List.getElem?_cons_zero, List.getElem?_cons_succ, then_normal, Option.getD_some, Bool.or_false, Bool.false_eq_true, up_zero, g1, Bool.bne_true, Bool.not_false]
    refine h0 _ _ ?_
    try clear h0 K_h0
    refine T.cond rfl (fun _ => ?_) (fun h => by cases h)
    refine T.seq_k (fun K_h2 h2 => ?_)
    refine T.regi hm ?_
    simp only [↓reduceIte, namesOf, List.any, I.names, aopsI, astep, ev, setd, List.set, List.getD, List.getElem?_cons_zero, List.getElem?_cons_succ, then_normal, Option.getD_some, Bool.or_false, Bool.false_eq_true, up_zero, List.map_cons, List.map_nil]
    refine (toErr_ok hE hsz he).mono ?_
    rintro v σ2 ⟨rfl, rfl⟩
    try simp only [↓reduceIte, namesOf, List.any, I.names, aops, aopsI, aopsT, qstep, CPt, qget, Tbl.get, astep, ev, setd, List.set, List.getD, List.getElem?_cons_zero, List.getElem?_cons_succ, List.getElem?_nil, List.cons_append, List.nil_append, List.length_cons, List.length_nil, List.replicate, then_normal, inBlock_normal, Option.getD_some, Option.getD_none, Bool.or_false, Bool.or_true, Bool.true_or, Bool.false_or, Bool.false_eq_true, if_false, if_true, up_zero, Nat.reduceAdd, Nat.reduceSub, binv, ↓opt_def, AV.isAny, AV.cells, ldc, List.map_cons, List.map_nil, St.set_next, St.set_same, St.up_next, Int.natCast_nonneg, lt_len, le_len, Int.toNat_natCast, true_and, and_true, eq_self, reduceCtorEq, decide_true, List.length_singleton, er_int, er_bool, er_str, srcR, up_zero]
    refine h2 _ _ ?_
    try clear h2 K_h2
    exact T.ret (Fin.quiet rfl ⟨trivial, trivial, trivial⟩ (fun _ _ h => h) ⟨rfl, .inr ⟨n, hn, rfl, hc⟩⟩)

end Go.VL

namespace Go.VL

/-- what the code does not write is known still -/
def mask (c : C) (k : Nat) : List AV → List AV
  | [] => []
  | x :: r => (if c.wr k then .any else x) :: mask c (k + 1) r

theorem mask_vl {κ : Kx} {w : World} {c : C} : ∀ {k : Nat} {vs : List Value} {ρ : List AV}, Vl κ w vs ρ → ∀ {us : List Value}, us.length = vs.length → (∀ i, c.wr (k + i) = false → us[i]? = vs[i]?) → Vl κ w us (mask c k ρ)
  | _, _, _, .nil, us, hl, _ => by
    cases us with
    | nil => exact .nil
    | cons u r => simp at hl
  | k, _, _, .cons v x vs xs h t, us, hl, hu => by
    cases us with
    | nil => simp at hl
    | cons u r =>
      refine .cons _ _ _ _ ?_ (mask_vl t (by simpa using hl) (fun i hi => by simpa using hu (i + 1) (by rw [← hi]; congr 1; omega)))
      split
      · exact .any u
      · rename_i hc
        have := hu 0 (by simpa using hc)
        simp only [List.getElem?_cons_zero, Option.some.injEq] at this
        rw [this]; exact h

section

variable {P : Program} {A : Ann} {κ0 : Kx} {w0 : World} {σ0 : St} {F : Nat → Prop} {a a' : Act} {w w' : World} {κ κ1 : Kx} {ρ ρs : List AV} {σ σs : St} {Q : Ex → List AV → St → Prop}

/-- nothing of what is owned is touched -/
theorem Run.stay (h : Run κ0 w0 σ0 F κ1 a w ρs σs) (hf : Fr (fun _ => False) w w') {c : C} (hs : AsWas (fun i => c.wr i = true) a a') (hd : a'.defers = []) : Run κ0 w0 σ0 F κ1 a' w' (mask c 0 ρs) σs := by
  have hb : ∀ b, b < w.heap.size → w'.heap[b]? = w.heap[b]? := fun b hb => hf.block b hb (fun x => x)
  have e : Ext κ1 w κ1 w' := ⟨fun _ _ x => x, fun _ _ => rfl, fun _ _ => rfl, fun _ _ => rfl, fun _ _ => rfl, fun _ x => x, fun b o hi => cell_same (hb b (h.inv.r.imm b o hi)) o⟩
  refine ⟨⟨h.inv.r.step e h.inv.r.dom (fun b o hi => Nat.lt_of_lt_of_le (h.inv.r.imm b o hi) hf.size) (fun n r hr => .inl ⟨hr, hb _ (h.inv.r.lt hr), fun _ x => x⟩), ?_, ?_, hd⟩, h.ext.trans e, h.dom, h.next⟩
  · exact ⟨hf.os.trans h.inv.fr.os, hf.tape.trans h.inv.fr.tape, hf.output.trans h.inv.fr.output, Nat.le_trans h.inv.fr.size hf.size, fun b hb' hF => (hb b (Nat.lt_of_lt_of_le hb' h.inv.fr.size)).trans (h.inv.fr.block b hb' hF)⟩
  · refine mask_vl (h.inv.env.mono e) (by simpa using hs.1) (fun i hi => ?_)
    rw [Nat.zero_add] at hi
    have := hs.2 i (by simp only [hi]; simp)
    simpa using this

/-- the code c, seen as ρ σ, while it could still be seen as ρs σs -/
def TL (P : Program) (A : Ann) (ρs : List AV) (σs : St) (c : C) (Q : Ex → List AV → St → Prop) (ρ : List AV) (σ : St) : Prop :=
  ∀ (code : Code), compileC P A code = some c → ∀ (κ0 : Kx) (w0 : World) (σ0 : St) (F : Nat → Prop) (κ κ1 : Kx) (a : Act) (w : World), Run κ0 w0 σ0 F κ a w ρ σ → Run κ0 w0 σ0 F κ1 a w ρs σs →
    code.wp P (fun e a' w' => ∃ e' κ' ρ' σ', e = Ex.to e' ∧ Run κ0 w0 σ0 F κ' a' w' ρ' σ' ∧ Q e' ρ' σ' ∧ AsWas (fun i => c.wr i = true) a a') a w

theorem TL.gh {c : C} {ρ' : List AV} {σ' : St} (g : Gh ρ σ ρ' σ') (h : TL P A ρs σs c Q ρ' σ') : TL P A ρs σs c Q ρ σ := fun code hc κ0 w0 σ0 F κ κ1 a w hR hR1 => by
  obtain ⟨κ', hR'⟩ := g κ0 w0 σ0 F κ a w hR
  exact h code hc κ0 w0 σ0 F κ' κ1 a w hR' hR1

theorem TL.seq {x y : C} (hno : ∀ n, σ.res n = none) (h : T P A x (Ex.then (TL P A (mask x 0 ρs) σs y Q) Q) ρ σ) : TL P A ρs σs (.seq x y) Q ρ σ := fun code hc κ0 w0 σ0 F κ κ1 a w hR hR1 => by
  obtain ⟨c1, c2, rfl, h1, h2⟩ := compile_seq hc
  have hB : Run κ w σ (fun _ => False) κ a w ρ σ :=
    ⟨⟨⟨hR.inv.r.dom, hR.inv.r.own, hR.inv.r.apart, hR.inv.r.imm, fun n r hr _ => by rw [hno n] at hr; cases hr⟩, .refl _ _, hR.inv.env, hR.inv.defers⟩, .refl _ _, fun n hn => .inl hn, Nat.le_refl _⟩
  refine wp_seq (wp_mono (h c1 h1 κ w σ _ κ a w hB) ?_)
  rintro e a1 w1 ⟨e', κ', ρ', σ', rfl, hR', hq, hs⟩
  have hs' : AsWas (fun i => (C.seq x y).wr i = true) a a1 := hs.wider fun i hi => by simp [C.wr, hi]
  have hRn : Run κ0 w0 σ0 F κ' a1 w1 ρ' σ' := by
    refine ⟨⟨⟨hR'.inv.r.dom, hR'.inv.r.own, hR'.inv.r.apart, hR'.inv.r.imm, fun n r hr hrl => ?_⟩, ?_, hR'.inv.env, hR'.inv.defers⟩, hR.ext.trans hR'.ext, fun n hn => ?_, Nat.le_trans hR.next hR'.next⟩
    · rcases hR'.inv.r.foot n r hr hrl with hx | hx
      · exact hx.elim
      · exact .inr (Nat.le_trans hR.inv.fr.size hx)
    · have hf := hR'.inv.fr
      have h0 := hR.inv.fr
      exact ⟨hf.os.trans h0.os, hf.tape.trans h0.tape, hf.output.trans h0.output, Nat.le_trans h0.size hf.size, fun b hb hF => (hf.block b (Nat.lt_of_lt_of_le hb h0.size) (fun x => x)).trans (h0.block b hb hF)⟩
    · rcases hR'.dom n hn with hx | hx
      · exact hR.dom n hx
      · exact .inr (Nat.le_trans hR.next hx)
  cases e' with
  | normal =>
    refine wp_mono (hq c2 h2 κ0 w0 σ0 F κ' κ1 a1 w1 hRn (hR1.stay hR'.inv.fr hs hR'.inv.defers)) ?_
    rintro e a2 w2 ⟨e2, κ2, ρ2, σ2, g1, g2, g3, g4⟩
    exact ⟨e2, κ2, ρ2, σ2, g1, g2, g3, hs'.trans (g4.wider fun i hi => by simp [C.wr, hi])⟩
  | exit id => exact ⟨.exit id, κ', ρ', σ', rfl, hRn, hq, hs'⟩
  | ret => exact ⟨.ret, κ', ρ', σ', rfl, hRn, hq, hs'⟩

theorem TL.seq_k {x y : C} (hno : ∀ n, σ.res n = none) (h : ∀ K : List AV → St → Prop, (∀ ρ σ, TL P A (mask x 0 ρs) σs y Q ρ σ → K ρ σ) → T P A x (Ex.then K Q) ρ σ) : TL P A ρs σs (.seq x y) Q ρ σ :=
  TL.seq hno (h _ fun _ _ h => h)

theorem TL.cond {x : X} {c1 c2 : C} {b : Bool} (hb : ev ρ x = .bool b) (h1 : b = true → TL P A ρs σs c1 Q ρ σ) (h2 : b = false → TL P A ρs σs c2 Q ρ σ) : TL P A ρs σs (.cond x c1 c2) Q ρ σ := fun code hc κ0 w0 σ0 F κ κ1 a w hR hR1 => by
  obtain ⟨c, d1, d2, rfl, hx, k1, k2⟩ := compile_cond hc
  have hv := hR.inv.opX hx
  rw [hb] at hv
  refine wp_cond_split (t := b) hv.bool_inv (fun hb => wp_mono (h1 hb d1 k1 κ0 w0 σ0 F κ κ1 a w hR hR1) ?_) (fun hb => wp_mono (h2 hb d2 k2 κ0 w0 σ0 F κ κ1 a w hR hR1) ?_)
  · rintro e a2 w2 ⟨e2, κ2, ρ2, σ2, g1, g2, g3, g4⟩
    exact ⟨e2, κ2, ρ2, σ2, g1, g2, g3, g4.wider fun i hi => by simp [C.wr, hi]⟩
  · rintro e a2 w2 ⟨e2, κ2, ρ2, σ2, g1, g2, g3, g4⟩
    exact ⟨e2, κ2, ρ2, σ2, g1, g2, g3, g4.wider fun i hi => by simp [C.wr, hi]⟩

end

/-- a value that reads so in whatever world of names -/
def Flat (x : AV) : Prop := ∀ (κ κ' : Kx) (w : World) (v : Value), V κ w v x → V κ' w v x

theorem Flat.int (k : IntKind) (n : Int) : Flat (.int k n) := fun _ _ _ _ h => by rw [h.int_inv]; exact .int k n

theorem Flat.vl {κ κ' : Kx} {w : World} : ∀ {vs : List Value} {xs : List AV}, Vl κ w vs xs → (∀ x ∈ xs, Flat x) → Vl κ' w vs xs
  | _, _, .nil, _ => .nil
  | _, _, .cons v x vs xs h t, hf => .cons v x vs xs (hf x (by simp) κ κ' w v h) (Flat.vl t (fun y hy => hf y (List.mem_cons_of_mem _ hy)))

end Go.VL

namespace Go.VL

/-- nothing that could be written is owned -/
def NoReal (σ : St) : Prop := ∀ n r, σ.res n = some r → r.real = true → False

theorem NoReal.same {σ t : St} (h : NoReal σ) (he : t.res = σ.res) : NoReal t := fun n r hr => h n r (by rw [← he]; exact hr)

section

variable {P : Program} {A : Ann} {κ0 : Kx} {w0 : World} {σ0 : St} {F : Nat → Prop} {a a' : Act} {w w' : World} {κ κ1 : Kx} {ρ ρs : List AV} {σ σs : St} {Q : Ex → List AV → St → Prop}

end

/-- a box that nobody writes any more -/
theorem Gh.box {ρ : List AV} {σ : St} {t n off : Nat} {cs : List AV} (ht : ρ[t]? = some (.ptr n off)) (hr : σ.res n = some (.obj cs)) : Gh ρ σ (ρ.set t (.eptr (cs.drop off))) (σ.del n) := by
  intro κ0 w0 σ0 F κ a w h
  obtain ⟨hd, us, rest, ty, fz, h1, h2, h3, h4, _⟩ := h.inv.r.own n _ hr
  have e : Ext κ w { κ with I := fun b o => κ.I b o ∨ (b = κ.φ n ∧ o < us.length) } w := ⟨fun _ _ x => .inl x, fun _ _ => rfl, fun _ _ => rfl, fun _ _ => rfl, fun _ _ => rfl, fun _ x => x, fun _ _ _ => rfl⟩
  have hlt := h.inv.r.lt hr
  have hR : R w0.heap.size F { κ with I := fun b o => κ.I b o ∨ (b = κ.φ n ∧ o < us.length) } w (σ.del n) := by
    refine h.inv.r.step e (fun m hm => h.inv.r.dom m hm) (fun b o hi => ?_) (fun m r hm => ?_)
    · rcases hi with hi | ⟨rfl, _⟩
      · exact h.inv.r.imm b o hi
      · exact hlt
    · have hmn : m ≠ n := by intro e; subst e; simp [St.del] at hm
      have hm' : σ.res m = some r := by simpa [St.del, hmn] using hm
      refine .inl ⟨hm', rfl, fun o hi => ?_⟩
      rcases hi with hi | ⟨hx, _⟩
      · exact hi
      · exact absurd (h.inv.r.apart _ _ _ _ hm' hr hx) hmn
  refine ⟨_, ⟨hR, h.inv.fr, ?_, h.inv.defers⟩, h.ext.trans e, h.dom, h.next⟩
  obtain ⟨v, hv, hvv⟩ := h.inv.env.get? t _ ht
  have henv := h.inv.env.mono e
  obtain ⟨rfl, _⟩ := hvv.ptr_inv
  have hset : a.tmps.toList.set t (.pointer (some ⟨κ.φ n, off, none⟩)) = a.tmps.toList := by
    apply List.ext_getElem?
    intro i
    rw [List.getElem?_set]
    split
    · rename_i hi; subst hi
      split
      · rw [hv]
      · rename_i hge; rw [List.getElem?_eq_none (by omega)] at hv; cases hv
    · rfl
  rw [← hset]
  refine henv.set t (.eptr _ _ _ ?_)
  refine Vs.mk (us := us.drop off) ((h3.mono e).drop off) (fun i u hu => ?_)
  have hu2 : us[off + i]? = some u := by simpa using hu
  have hil : off + i < us.length := (List.getElem?_eq_some_iff.1 hu2).1
  exact ⟨.inr ⟨rfl, hil⟩, by rw [cell_of h1, List.getElem?_append_left hil]; exact hu2⟩

/-- a call that ends with one end named, and names that nobody knows -/
theorem Fin.tip {σ0 : St} {rs : List RX} {K : AV → St → Prop} {ρ : List AV} {σ : St} {xs : List AV} {g k : Nat} (wf : WF σ0) (h1 : rvals ρ σ rs = some xs) (q : Tq σ0 σ g k) (hx : (pack xs).nb σ.next) (h2 : ∀ σ', OneTip σ0 σ' g k → K (pack xs) σ') : Fin σ0 rs K .ret ρ σ := by
  refine ⟨ρ, σ, xs, pack xs, ⟨σ.next, (σ0.set g (.tip k)).res⟩, .refl, h1, .cut q.like.next hx (fun n r hr => ?_), h2 _ ⟨q.lo, q.hi, rfl⟩⟩
  by_cases hn : n = g
  · subst hn
    have hr' : (σ0.set n (.tip k)).res n = some r := hr
    rw [St.set_same] at hr'
    obtain rfl := Option.some.inj hr'
    exact ⟨q.at_, .inr ⟨q.hi, trivial⟩⟩
  · have hr' : (σ0.set g (.tip k)).res n = some r := hr
    rw [St.set_other _ _ hn] at hr'
    exact ⟨q.quiet wf n r hr', .inl hr'⟩

end Go.VL

namespace Go.VL

open Go.RowKit Go.Proofs

def κU (W : World) : Kx := ⟨fun b _ => b < W.heap.size, fun n => n, fun _ => 0, fun _ => 0, fun _ => 0, fun n => n = g_pow10 ∨ n = g_deB64 ∨ n = g_esyn ∨ n = g_erng⟩

def σU (t1 t2 : Nat) : St := ⟨g_pow10 + g_deB64 + g_esyn + g_erng + 1, fun n => if n = g_pow10 then some (.gl g_pow10 pow10L) else if n = g_deB64 then some (.gl g_deB64 deB64) else if n = g_esyn then some (.gl g_esyn [.iface t1 .any]) else if n = g_erng then some (.gl g_erng [.iface t2 .any]) else none⟩

theorem σU_only {t1 t2 n : Nat} {r : Res} (h : (σU t1 t2).res n = some r) : (n = g_pow10 ∧ r = .gl g_pow10 pow10L) ∨ (n = g_deB64 ∧ r = .gl g_deB64 deB64) ∨ (n = g_esyn ∧ r = .gl g_esyn [.iface t1 .any]) ∨ (n = g_erng ∧ r = .gl g_erng [.iface t2 .any]) := by
  unfold σU at h
  simp only at h
  split at h
  · rename_i e; exact .inl ⟨e, (Option.some.inj h).symm⟩
  · split at h
    · rename_i e; exact .inr (.inl ⟨e, (Option.some.inj h).symm⟩)
    · split at h
      · rename_i e; exact .inr (.inr (.inl ⟨e, (Option.some.inj h).symm⟩))
      · split at h
        · rename_i e; exact .inr (.inr (.inr ⟨e, (Option.some.inj h).symm⟩))
        · cases h

theorem σU_real {t1 t2 n : Nat} {r : Res} (h : (σU t1 t2).res n = some r) (hr : r.real = true) : False := by
  rcases σU_only h with ⟨_, rfl⟩ | ⟨_, rfl⟩ | ⟨_, rfl⟩ | ⟨_, rfl⟩ <;> cases hr

theorem tabsU (t1 t2 : Nat) : Tabs (σU t1 t2) ∧ Errs (σU t1 t2) := by
  refine ⟨⟨?_, ?_⟩, ⟨t1, ?_⟩, ⟨t2, ?_⟩⟩
  · unfold σU; simp only; rw [if_pos trivial]
  · unfold σU; simp only; rw [if_neg (by decide), if_pos trivial]
  · unfold σU; simp only; rw [if_neg (by decide), if_neg (by decide), if_pos trivial]
  · unfold σU; simp only; rw [if_neg (by decide), if_neg (by decide), if_neg (by decide), if_pos trivial]

def ErrW (W : World) (t1 t2 : Nat) : Prop := (∃ v, W.cell? ⟨g_esyn, 0, none⟩ = some (.iface t1 v)) ∧ (∃ v, W.cell? ⟨g_erng, 0, none⟩ = some (.iface t2 v))

section

variable {H : Type} {enc : TypeId × Value → H} {P : Program} {W : World}

theorem RU {t1 t2 : Nat} (h : TabsW W) (he : ErrW W t1 t2) : R 0 (fun _ => False) (κU W) W (σU t1 t2) := by
  have l1 := cell_lt (h.1 0 (by decide))
  have l2 := cell_lt (h.2 0 (by decide))
  obtain ⟨⟨v3, c3⟩, ⟨v4, c4⟩⟩ := he
  have l3 := cell_lt c3
  have l4 := cell_lt c4
  refine ⟨fun n hn => ?_, fun n r hr => ?_, fun n m r s _ _ hx => hx, fun _ _ h => h, fun n r hr hrl => (σU_real hr hrl).elim⟩
  · have hn' : n = g_pow10 ∨ n = g_deB64 ∨ n = g_esyn ∨ n = g_erng := hn
    show n < g_pow10 + g_deB64 + g_esyn + g_erng + 1
    omega
  · rcases σU_only hr with ⟨rfl, rfl⟩ | ⟨rfl, rfl⟩ | ⟨rfl, rfl⟩ | ⟨rfl, rfl⟩
    · refine ⟨.inl rfl, rfl, l1, ?_⟩
      rw [pow_eq]
      exact vs_tab powZ 0 (fun i hi => by rw [Nat.zero_add]; exact h.1 i hi) (fun _ => l1)
    · refine ⟨.inr (.inl rfl), rfl, l2, ?_⟩
      exact vs_tab deBZ 0 (fun i hi => by rw [Nat.zero_add]; exact h.2 i hi) (fun _ => l2)
    · exact ⟨.inr (.inr (.inl rfl)), rfl, l3, .cons _ _ _ _ _ l3 c3 (.iface _ _ _ (.any _)) (.nil _ _)⟩
    · exact ⟨.inr (.inr (.inr rfl)), rfl, l4, .cons _ _ _ _ _ l4 c4 (.iface _ _ _ (.any _)) (.nil _ _)⟩

theorem ExtU (W : World) : Ext (κ0 W) W (κU W) W := ⟨fun _ _ h => h, fun _ h => h.elim, fun _ h => h.elim, fun _ h => h.elim, fun _ h => h.elim, fun _ h => h.elim, fun _ _ _ => rfl⟩

/-- THE ROW's CONTRACT, where the tables' and the errors' cells are known -/
theorem law_calls_tabsU (n : Nat) {f : FuncId} {fn : Func} {s : ChangeSpec} {tb : TypeId} (hl : laidOutB P = true)
    (hps : fn.params.toList.all (fun t => goodT P n t && P.readableRec t && decide (t < P.types.size)) = true) (hvars : s.vars = []) (hrt : fn.resultTypes = #[tb]) (hb : P.underlying tb = some .bool)
    (hfn : ∀ ds : List (DataW H), ds.length = fn.params.toList.length → s.fn H ds = { results := [.lit (.bool true)], args := ds })
    (hwalk : ∀ xs, HasAll P n fn.params.toList xs → ∀ σ, Tabs σ ∧ Errs σ → NoReal σ → ACalls P f xs σ (fun v _ => v = .bool true))
    {base : Nat} {args : Array Value} {ds gs : List (DataW H)} {before : List MemPlace}
    (hval : ∀ (j : Nat) t v, fn.params[j]? = some t → args[j]? = some v → Value.okWide P W .any base t v)
    (hW : DataW.Whole enc P fn.params.toList s.vars false W args.toList ds gs before) (hg : TabsW W ∧ ∃ t1 t2, ErrW W t1 t2) :
    Calls P f args W fun e W' => ∃ v, e = .returned v ∧ s.post enc P fn false true false false W args v W' := by
  obtain ⟨hg, t1, t2, hge⟩ := hg
  simp only [List.all_eq_true, Bool.and_eq_true, decide_eq_true_eq] at hps
  have hW' := hW
  obtain ⟨p, q, hA, hV, hbf, _, _⟩ := hW
  rw [hvars] at hV
  have hgs : gs = [] ∧ q = [] := by
    cases gs with
    | nil => exact ⟨rfl, by simpa [DataW.TrodVars] using hV⟩
    | cons _ _ => simp [DataW.TrodVars] at hV
  obtain ⟨rfl, rfl⟩ := hgs
  obtain ⟨xs, h1, h2⟩ := args_has (n := n) (fun t ht => (hps t ht).1.1) (fun j t v ht hv => hval j t v (by simpa using ht) (by simpa using hv)) hA
  obtain ⟨l⟩ := args
  refine ((hwalk xs h2 _ (tabsU t1 t2) (fun n r hr hrl => σU_real hr hrl)).2 (κU W) W l 0 (fun _ => False) (RU hg hge) (h1.mono (ExtU W))).mono ?_
  rintro e W' ⟨v, x, κ', σ', rfl, _, _, _, hfr, _, hv, hx⟩
  subst hx
  refine ⟨v, rfl, ?_⟩
  rw [hv.bool_inv]
  have hbelow : Below W.heap.size W W' := ⟨hfr.os.os, hfr.tape, hfr.output, hfr.size, fun b hlt => hfr.block b hlt (by rintro ⟨n, r, hn, hrl, _⟩; exact σU_real hn hrl)⟩
  have hd := hfn ds (trodAll_len hA)
  refine ⟨ds, [], before, [], p, [], hW', ?_, ?_, ?_, hbelow.frame _, fun h => by cases h⟩
  · rw [List.append_nil, hd, hrt]
    exact ⟨[], [], shut_bool hb true, rfl, rfl⟩
  · rw [List.append_nil, hd]
    exact trodAll_below hl hbelow (fun t ht => ⟨(hps t ht).1.2, (hps t ht).2⟩) hA
  · rw [hvars, List.append_nil, hd]
    rfl

def isIf : Option TypeDesc → Bool
  | some (.interface _) => true
  | _ => false

/-- a variable that reads as an interface value that is not nil holds one -/
theorem trod_if {sp : Nat → Bool} {fuel : Nat} {t : TypeId} {cs : List Value} {nm : String} {d : DataW Unit} {p : List MemPlace} (hi : isIf (P.underlying t) = true) (h : DataW.trod (fun _ => ()) P W 0 sp false fuel t cs = some (.iface nm d, p)) : ∃ u v, cs = [.iface u v] := by
  cases fuel with
  | zero => simp [DataW.trod] at h
  | succ fuel =>
    unfold DataW.trod at h
    unfold isIf at hi
    split at hi
    · rename_i ms hu
      rw [hu] at h
      split at h
      all_goals first | exact ⟨_, _, rfl⟩ | (simp_all; done)
    · cases hi

theorem laid_if {name nm : String} {d : DataW Unit} {r : List (String × DataW Unit)} {g t : Nat} (hg : P.globalNamed name = some g) (ht : (P.globals[g]?).map (·.type) = some t) (hi : isIf (P.underlying t) = true)
    (h : laidMet P ((name, .iface nm d) :: r) W) : ∃ u v, W.cell? ⟨g, 0, none⟩ = some (.iface u v) := by
  obtain ⟨ps, ⟨g0, t0, cs0, f0, p0, q0, hg0, ht0, hv0, hd0, _, _⟩, _⟩ := h
  obtain rfl := Option.some.inj (hg.symm.trans hg0)
  obtain rfl := Option.some.inj (ht.symm.trans ht0)
  obtain ⟨u, v, hcs⟩ := trod_if hi hd0
  refine ⟨u, v, ?_⟩
  rw [World.var?_cell hg0 hv0 0]
  have : cs0.toList[0]? = some (.iface u v) := by rw [hcs]; rfl
  simpa using this

end

end Go.VL

namespace Go.Proofs.YtnifkggcldalbaaGreatDoor

open Go.ChangeShapes Go.WideShapes Go.ChangeAt Go.RowKit Go.VL

def laidU : List (String × DataW Unit) := [("math/bits.deBruijn32tab", Rows.laid_math_bits_deBruijn32tab), ("math/bits.deBruijn64tab", Rows.laid_math_bits_deBruijn64tab), ("internal/strconv.uint64pow10", Rows.laid_internal_strconv_uint64pow10), ("unicode/utf8.acceptRanges", Rows.laid_unicode_utf8_acceptRanges), ("strconv.ErrRange", Rows.laid_strconv_ErrRange), ("strconv.ErrSyntax", Rows.laid_strconv_ErrSyntax), ("unicode/utf8.first", Rows.laid_unicode_utf8_first)]

theorem esyn_at : Tryz.prog.globalNamed "strconv.ErrSyntax" = some g_esyn := by kernel_rfl

theorem erng_at : Tryz.prog.globalNamed "strconv.ErrRange" = some g_erng := by kernel_rfl

theorem esyn_ty : (Tryz.prog.globals[g_esyn]?).map (·.type) = some t_err := by kernel_rfl

theorem erng_ty : (Tryz.prog.globals[g_erng]?).map (·.type) = some t_err := by kernel_rfl

theorem err_if : isIf (Tryz.prog.underlying t_err) = true := by kernel_rfl

theorem tabsU_of_laid {W : World} (h : laidMetH Tryz.prog laidU W) : TabsW W ∧ ∃ t1 t2, ErrW W t1 t2 := by
  rw [MakeChecks.laidMetH_plain _ _ _ (by kernel_rfl)] at h
  have h1 := laidMet.tail h
  have h2 := laidMet.tail h1
  have h4 := laidMet.tail (laidMet.tail h2)
  have h5 := laidMet.tail h4
  have i1 : Lib.TabIs Tryz.prog W "math/bits.deBruijn64tab" .u8 deBZ := Lib.tabIs_of_head d64_at d64_ty a64_un u8_un (by kernel_rfl) (by kernel_rfl) h1
  have i2 : Lib.TabIs Tryz.prog W "internal/strconv.uint64pow10" .u64 powZ := Lib.tabIs_of_head p10_at p10_ty a20_un u64_un (by kernel_rfl) (by kernel_rfl) h2
  obtain ⟨u2, v2, e2⟩ := laid_if erng_at erng_ty err_if h4
  obtain ⟨u1, v1, e1⟩ := laid_if esyn_at esyn_ty err_if h5
  exact ⟨⟨fun i hi => i2.cell p10_at i hi, fun i hi => i1.cell d64_at i hi⟩, u1, u2, ⟨v1, e1⟩, ⟨v2, e2⟩⟩

/-- A world that meets the condition: the settled one, the variables laid. -/
noncomputable def laidWorldU (os : Os) : World := (World.holding Tryz.prog os ⟨#[], #[], []⟩).layVars Tryz.prog laidU

theorem laidWorldU_met (os : Os) (args : Array Value) : laidMetH Tryz.prog laidU ((laidWorldU os).forCall (fun _ _ => 0) ⟨#[], args, []⟩).memory :=
  laidMetH_of_parts (laidMet_of_run' 8 (by kernel_rfl) (by kernel_rfl)) (by kernel_rfl)

end Go.Proofs.YtnifkggcldalbaaGreatDoor

namespace Go.VL

open Go.Proofs

theorem nb_strs (m : Nat) : ∀ ps : List (List UInt8), nbs m (strsAV ps)
  | [] => trivial
  | _ :: ps => ⟨trivial, nb_strs m ps⟩

theorem rep_str (N : Nat) : (List.replicate N (AV.str ⟨#[]⟩)).flatMap AV.cells = List.replicate N (AV.str ⟨#[]⟩) := by
  induction N with
  | zero => rfl
  | succ n ih => rw [List.replicate_succ, List.flatMap_cons, ih]; rfl

set_option maxRecDepth 10000 in
set_option maxHeartbeats 1000000 in
theorem gsplit_ok {l : List UInt8} {σ : St} (hl : l.length ≤ 1000000) : ACalls Tryz.prog n_gsplit [.str ⟨l.toArray⟩, .str ⟨[47].toArray⟩, .int .i64 0, .int .i64 (-1)] σ (fun v σ' => v = .sl (strsAV (splitB l)) .none ∧ σ' = σ) := by
  refine s_gsplit (fun wf => ?_)
  unfold c_gsplit
  have e0 : ((-1 : Int) == 0) = false := rfl
  have q0 : sbinv .eql ⟨[47].toArray⟩ ⟨#[]⟩ = some (.bool false) := by simp only [sbinv, ba_eq [47] []]; rfl
  have e1 : decide ((-1 : Int) < 0) = true := rfl
  have h1s : ((⟨[47].toArray⟩ : ByteArray).size : Int) = 1 := rfl
  have hcl : l.count 47 ≤ l.length := List.count_le_length
  have hcount := scount_ok (l := l) (σ := σ)
  have hlen0 := split_len l
  generalize hn : l.count 47 = n at hcl hcount hlen0
  obtain ⟨N, hN⟩ : ∃ N, N = n + 1 := ⟨_, rfl⟩
  have w1 : IntKind.i64.wrap ((n : Int) + 1) = (N : Int) := by rw [wrap64 (by omega) (by omega)]; omega
  have w2 : IntKind.i64.wrap ((l.length : Int) + 1) = ((l.length + 1 : Nat) : Int) := by rw [wrap64 (by omega) (by omega)]; omega
  have w3 : IntKind.i64.wrap ((N : Int) - 1) = (n : Int) := by rw [wrap64 (by omega) (by omega)]; omega
  have hmin : (if ((l.length + 1 : Nat) : Int) < (N : Int) then ((l.length + 1 : Nat) : Int) else (N : Int)) = (N : Int) := if_neg (by omega)
  have hsz : ((⟨l.toArray⟩ : ByteArray).size : Int) = (l.length : Int) := by rw [sz_mk]
  refine T.seq_k (fun K_h0 h0 => ?_)
  refine T.regi hm ?_
  simp only [↓reduceIte, namesOf, List.any, I.names, aopsI, astep, ev, setd, List.set, List.cons_append, List.nil_append, List.length_cons, List.length_nil, List.replicate, then_normal, Bool.or_false, Bool.false_eq_true, up_zero, Nat.reduceAdd, Nat.reduceSub]
  refine h0 _ _ ?_
  try clear h0 K_h0
  refine T.seq_k (fun K_h1 h1 => ?_)
  refine T.seq_k (fun K_h0 h0 => ?_)
  refine T.regi hm ?_
  simp only [↓reduceIte, namesOf, List.any, I.names, aopsI, astep, ev, setd, List.set, List.getD, List.getElem?_cons_zero, List.getElem?_cons_succ, then_normal, Option.getD_some, Bool.or_false, Bool.false_eq_true, up_zero, binv, ↓opt_def, eq_self, e0]
  refine h0 _ _ ?_
  try clear h0 K_h0
  refine T.cond rfl (fun h => by cases h) (fun _ => T.skip ?_)
  refine h1 _ _ ?_
  try clear h1 K_h1
  refine T.seq_k (fun K_h1 h1 => ?_)
  refine T.seq_k (fun K_h0 h0 => ?_)
  refine T.regi hm ?_
  simp only [↓reduceIte, namesOf, List.any, I.names, aopsI, astep, ev, setd, List.set, List.getD, List.getElem?_cons_zero, List.getElem?_cons_succ, then_normal, Option.getD_some, Bool.or_false, Bool.false_eq_true, up_zero, ↓opt_def, q0]
  refine h0 _ _ ?_
  try clear h0 K_h0
  refine T.cond rfl (fun h => by cases h) (fun _ => T.skip ?_)
  refine h1 _ _ ?_
  try clear h1 K_h1
  refine T.seq_k (fun K_h1 h1 => ?_)
  refine T.seq_k (fun K_h0 h0 => ?_)
  refine T.regi hm ?_
  simp only [↓reduceIte, namesOf, List.any, I.names, aopsI, astep, ev, setd, List.set, List.getD, List.getElem?_cons_zero, List.getElem?_cons_succ, then_normal, Option.getD_some, Bool.or_false, Bool.false_eq_true, up_zero, binv, ↓opt_def, eq_self, e1]
  refine h0 _ _ ?_
  try clear h0 K_h0
  refine T.cond rfl (fun _ => ?_) (fun h => by cases h)
  refine T.regi hm ?_
  simp only [↓reduceIte, namesOf, List.any, I.names, aopsI, astep, ev, setd, List.set, List.getD, List.getElem?_cons_zero, List.getElem?_cons_succ, then_normal, Option.getD_some, Bool.or_false, Bool.false_eq_true, up_zero, binv, ↓opt_def, List.map_cons, List.map_nil]
  refine hcount.mono ?_
  rintro v σ ⟨rfl, rfl⟩
  try simp only [↓reduceIte, eq_self, w1]
  refine h1 _ _ ?_
  try clear h1 K_h1
  refine T.seq_k (fun K_h0 h0 => ?_)
  refine T.regi hm ?_
  simp only [↓reduceIte, namesOf, List.any, I.names, aopsI, astep, ev, setd, List.set, List.getD, List.getElem?_cons_zero, List.getElem?_cons_succ, then_normal, Option.getD_some, Bool.or_false, Bool.false_eq_true, up_zero, binv, ↓opt_def, List.map_cons, List.map_nil, eq_self, hsz, w2, mn2, List.foldlM, bind, Option.bind, pure, hmin]
  refine h0 _ _ ?_
  try clear h0 K_h0
  have hmk : ((0 : Int) ≤ (N : Int) ∧ (N : Int) ≤ (N : Int) ∧ (N : Int) * ((16 : Nat) : Int) ≤ 140737488355328 ∧ (N : Int) ≤ 9223372036854775807 ∧ AV.fits 1 (.str ⟨#[]⟩) = true ∧ (N : Int) = (N : Int)) := ⟨by omega, by omega, by omega, by omega, rfl, rfl⟩
  have hrep := rep_str N
  refine T.seq_k (fun K_h0 h0 => ?_)
  refine T.regi hm ?_
  simp only [↓reduceIte, namesOf, List.any, I.names, aopsI, astep, ev, setd, List.set, List.getD, List.getElem?_cons_zero, List.getElem?_cons_succ, List.length_cons, List.length_nil, then_normal, Option.getD_some, Bool.or_false, Bool.or_true, Nat.reduceAdd, Int.toNat_natCast, eq_self, hmk, held, hrep, List.length_replicate, and_self]
  refine h0 _ _ ?_
  try clear h0 K_h0
  have hq0 : ((σ.up 3).set (σ.next + 1) (.obj (List.replicate N (AV.str ⟨#[]⟩)))).res (σ.next + 1) = some (.obj (List.replicate N (AV.str ⟨#[]⟩))) := St.set_same _ _ _
  have hL0 : Like σ ((σ.up 3).set (σ.next + 1) (.obj (List.replicate N (AV.str ⟨#[]⟩)))) := (Like.refl σ).box (n := 3) (i := 1) _
  have hlo : σ.next ≤ σ.next + 1 := by omega
  have hlt0 : σ.next + 1 < ((σ.up 3).set (σ.next + 1) (.obj (List.replicate N (AV.str ⟨#[]⟩)))).next := by simp
  generalize ((σ.up 3).set (σ.next + 1) (.obj (List.replicate N (AV.str ⟨#[]⟩)))) = t0 at hq0 hL0 hlt0 ⊢
  generalize σ.next + 1 = q at hq0 hlo hlt0 ⊢
  clear hmk hrep hmin hcount
  refine T.seq_k (fun K_h0 h0 => ?_)
  refine T.regi hm ?_
  simp only [↓reduceIte, namesOf, List.any, I.names, aopsI, astep, ev, setd, List.set, List.getD, List.getElem?_cons_zero, List.getElem?_cons_succ, then_normal, Option.getD_some, Bool.or_false, Bool.false_eq_true, up_zero, binv, ↓opt_def, eq_self, w3]
  refine h0 _ _ ?_
  try clear h0 K_h0
  refine T.seq_k (fun K_h0 h0 => ?_)
  refine T.regi hm ?_
  simp only [↓reduceIte, namesOf, List.any, I.names, aopsI, astep, ev, setd, List.set, then_normal, Bool.or_false, Bool.false_eq_true, up_zero]
  refine h0 _ _ ?_
  try clear h0 K_h0
  refine T.seq_k (fun K_h1 h1 => ?_)
  refine T.block ?_
  refine T.gh (Gh.keep [0, 1, 2, 3, 9, 10]) ?_
  refine T.loopi (fun i ρ t => ∃ done rest, splitB l = done ++ splitB rest ∧ done.length = i ∧ i + rest.count 47 = n ∧ rest.length ≤ 1000000 ∧ Like σ t ∧ q < t.next ∧ t.res q = some (.obj (strsAV done ++ List.replicate (N - i) (AV.str ⟨#[]⟩))) ∧
      ρ = [.str ⟨rest.toArray⟩, .str ⟨[47].toArray⟩, .int .i64 0, .int .i64 (n : Int)] ++ List.replicate 5 .any ++ [.ref q 0 N, .int .i64 (i : Int)] ++ List.replicate 55 .any)
    n 0 (Nat.zero_le _) ⟨[], l, rfl, rfl, by omega, hl, hL0, hlt0, hq0, rfl⟩ ?_
  clear hq0 hL0 hlt0
  rintro i ρ t hi ⟨done, rest, hsp, hdl, hcn, hrl, hL, hlt, hob, rfl⟩
  have hrs : ((⟨rest.toArray⟩ : ByteArray).size : Int) = (rest.length : Int) := by rw [sz_mk]
  have hob' : t.res q = some (.obj (strsAV done ++ (AV.str ⟨#[]⟩) :: List.replicate (N - (i + 1)) (AV.str ⟨#[]⟩))) := by
    rw [hob, show N - i = (N - (i + 1)) + 1 by omega]; rfl
  have hspl : ∀ x : List UInt8, splice (strsAV done ++ (AV.str ⟨#[]⟩) :: List.replicate (N - (i + 1)) (AV.str ⟨#[]⟩)) i [AV.str ⟨x.toArray⟩] = strsAV (done ++ [x]) ++ List.replicate (N - (i + 1)) (AV.str ⟨#[]⟩) := fun x => by
    rw [show i = (strsAV done).length by rw [strs_len]; exact hdl.symm, splice_mid]
    simp [strsAV]
  have hle : i + 1 ≤ (strsAV done ++ (AV.str ⟨#[]⟩) :: List.replicate (N - (i + 1)) (AV.str ⟨#[]⟩)).length := by rw [List.length_append, strs_len]; simp; omega
  have hiN : (i : Int) < (N : Int) := by omega
  generalize hrow : strsAV done ++ (AV.str ⟨#[]⟩) :: List.replicate (N - (i + 1)) (AV.str ⟨#[]⟩) = row at hob' hspl hle
  have wi : IntKind.i64.wrap ((i : Int) + 1) = ((i + 1 : Nat) : Int) := by rw [wrap64 (by omega) (by omega)]; omega
  refine T.seq_k (fun K_h2 h2 => ?_)
  by_cases hil : i < n
  case neg =>
    have hin : i = n := by omega
    have e : decide ((i : Int) < (n : Int)) = false := decide_eq_false (by omega)
    refine T.seq_k (fun K_h0 h0 => ?_)
    refine T.regi hm ?_
    simp only [↓reduceIte, namesOf, List.any, I.names, aopsI, astep, ev, setd, List.set, List.getD, List.getElem?_cons_zero, List.getElem?_cons_succ, List.cons_append, List.nil_append, List.replicate, then_normal, Option.getD_some, Bool.or_false, Bool.false_eq_true, up_zero, binv, ↓opt_def, eq_self, e]
    refine h0 _ _ ?_
    try clear h0 K_h0
    refine T.cond rfl (fun h => by cases h) (fun _ => T.exit ?_)
    try simp only [List.cons_append, List.nil_append, List.replicate, then_normal, inBlock_exit, then_exit]
    refine h1 _ _ ?_
    try clear h1 K_h1
    have hno : 47 ∉ rest := List.count_eq_zero.1 (by omega)
    have hall : splitB l = done ++ [rest] := by rw [hsp, split_no hno]
    refine T.seq_k (fun K_h0 h0 => ?_)
    refine T.regi hm ?_
    simp only [↓reduceIte, namesOf, List.any, I.names, aopsI, astep, ev, setd, List.set, List.getD, List.getElem?_cons_zero, List.getElem?_cons_succ, List.length_cons, List.length_nil, then_normal, Option.getD_some, Bool.or_false, Bool.false_eq_true, up_zero, AV.isAny, AV.cells, Int.natCast_nonneg, Int.toNat_natCast, and_true, eq_self, decide_true, hob', hiN, hle, hspl, AV.fits, AV.one, List.all_cons, List.all_nil, Nat.reduceBEq, Bool.not_false, Bool.and_self, Nat.zero_add, Nat.mul_one]
    refine h0 _ _ ?_
    try clear h0 K_h0
    have hz : N - (i + 1) = 0 := by omega
    rw [hz, ← hall, List.replicate_zero, List.append_nil]
    have hob2 : (t.set q (.obj (strsAV (splitB l)))).res q = some (.obj (strsAV (splitB l))) := St.set_same _ _ _
    have hL2 : Like σ (t.set q (.obj (strsAV (splitB l)))) := hL.set _ hlo
    generalize (t.set q (.obj (strsAV (splitB l)))) = u at hob2 hL2 ⊢
    have wN : IntKind.i64.wrap ((i : Int) + 1) = (N : Int) := by rw [wi]; omega
    have hN0 : ((0 : Int) = (N : Int)) = False := eq_false (by omega)
    have hNs : ((N : Int) - 0).toNat = N := by omega
    have hN1 : (0 : Int) ≤ (N : Int) ∧ (N : Int) ≤ (N : Int) := by omega
    refine T.seq_k (fun K_h0 h0 => ?_)
    refine T.regi hm ?_
    simp only [↓reduceIte, namesOf, List.any, I.names, aopsI, astep, ev, setd, List.set, List.getD, List.getElem?_cons_zero, List.getElem?_cons_succ, then_normal, Option.getD_some, Bool.or_false, Bool.false_eq_true, up_zero, binv, ↓opt_def, eq_self, wN, idx, hN0, hNs, hN1, Int.le_refl, and_self, Int.toNat_zero, Nat.zero_mul, Nat.zero_add]
    refine h0 _ _ ?_
    try clear h0 K_h0
    refine T.gh (Gh.keep [8]) ?_
    refine T.gh (Gh.freeze (t := 8) (k := 1) (xs := strsAV (splitB l)) rfl hob2 (by rw [strs_len, hlen0, hN]) (fun x hx => by obtain ⟨c, _, rfl⟩ := List.mem_map.1 hx; rfl) (by rw [strs_cells, List.drop_zero, List.take_of_length_le (by rw [strs_len, hlen0, hN]; omega)]) (Nat.zero_le _)) ?_
    exact T.ret (Fin.quiet (xs := [.sl (strsAV (splitB l)) .none]) rfl ⟨nb_strs _ _, trivial⟩ ((hL2.del hlo).quiet wf) ⟨rfl, rfl⟩)
  have e : decide ((i : Int) < (n : Int)) = true := decide_eq_true (by omega)
  obtain ⟨a, b, hrab, ha, hix, hsb, hcb⟩ := cut_at (l := rest) (by omega)
  have hral : rest.length = a.length + 1 + b.length := by rw [hrab]; simp; omega
  have hex1 : (⟨rest.toArray⟩ : ByteArray).extract 0 a.length = ⟨a.toArray⟩ := by rw [ba_cut, hrab]; simp
  have hex2 : (⟨rest.toArray⟩ : ByteArray).extract (a.length + 1) rest.length = ⟨b.toArray⟩ := by
    rw [ba_cut, List.take_length, hrab, ← List.drop_drop, List.drop_left' rfl]; simp
  have hidx := sindex_ok (l := rest) (c := 47) (σ := t)
  rw [hix] at hidx
  have hneg : decide ((a.length : Int) < 0) = false := decide_eq_false (by omega)
  have wa0 : IntKind.i64.wrap ((a.length : Int) + 0) = (a.length : Int) := by rw [wrap64 (by omega) (by omega)]; omega
  have wa1 : IntKind.i64.wrap ((a.length : Int) + 1) = ((a.length + 1 : Nat) : Int) := by rw [wrap64 (by omega) (by omega)]; omega
  have ha1 : (a.length : Int) ≤ (rest.length : Int) := by omega
  have ha2 : ((a.length + 1 : Nat) : Int) ≤ (rest.length : Int) := by omega
  have haz : (0 : Int) ≤ (a.length : Int) := by omega
  have haz1 : (0 : Int) ≤ ((a.length + 1 : Nat) : Int) := by omega
  refine T.seq_k (fun K_h0 h0 => ?_)
  refine T.regi hm ?_
  simp only [↓reduceIte, namesOf, List.any, I.names, aopsI, astep, ev, setd, List.set, List.getD, List.getElem?_cons_zero, List.getElem?_cons_succ, List.cons_append, List.nil_append, List.replicate, then_normal, Option.getD_some, Bool.or_false, Bool.false_eq_true, up_zero, binv, ↓opt_def, eq_self, e]
  refine h0 _ _ ?_
  try clear h0 K_h0
  refine T.cond rfl (fun _ => T.skip ?_) (fun h => by cases h)
  refine h2 _ _ ?_
  try clear h2 K_h2
  refine T.block ?_
  refine T.seq_k (fun K_h3 h3 => ?_)
  refine T.regi hm ?_
  simp only [↓reduceIte, namesOf, List.any, I.names, aopsI, astep, ev, setd, List.set, List.getD, List.getElem?_cons_zero, List.getElem?_cons_succ, List.cons_append, List.nil_append, List.replicate, then_normal, Option.getD_some, Bool.or_false, Bool.false_eq_true, up_zero, List.map_cons, List.map_nil]
  refine hidx.mono ?_
  rintro v t1 ⟨rfl, rfl⟩
  try simp only [↓reduceIte, namesOf, List.any, I.names, aops, aopsI, aopsT, qstep, CPt, qget, Tbl.get, astep, ev, setd, List.set, List.getD, List.getElem?_cons_zero, List.getElem?_cons_succ, List.getElem?_nil, List.cons_append, List.nil_append, List.length_cons, List.length_nil, List.replicate, then_normal, inBlock_normal, Option.getD_some, Option.getD_none, Bool.or_false, Bool.or_true, Bool.true_or, Bool.false_or, Bool.false_eq_true, if_false, if_true, up_zero, Nat.reduceAdd, Nat.reduceSub, binv, ↓opt_def, AV.isAny, AV.cells, ldc, List.map_cons, List.map_nil, St.set_next, St.set_same, St.up_next, Int.natCast_nonneg, lt_len, le_len, Int.toNat_natCast, true_and, and_true, eq_self, reduceCtorEq, decide_true, List.length_singleton, er_int, er_bool, er_str, srcR, up_zero]
  refine h3 _ _ ?_
  try clear h3 K_h3
  refine T.seq_k (fun K_h3 h3 => ?_)
  refine T.seq_k (fun K_h0 h0 => ?_)
  refine T.regi hm ?_
  simp only [↓reduceIte, namesOf, List.any, I.names, aopsI, astep, ev, setd, List.set, List.getD, List.getElem?_cons_zero, List.getElem?_cons_succ, List.cons_append, List.nil_append, List.replicate, then_normal, Option.getD_some, Bool.or_false, Bool.false_eq_true, up_zero, binv, ↓opt_def, eq_self, hneg]
  refine h0 _ _ ?_
  try clear h0 K_h0
  refine T.cond rfl (fun h => by cases h) (fun _ => T.skip ?_)
  refine h3 _ _ ?_
  try clear h3 K_h3
  refine T.seq_k (fun K_h0 h0 => ?_)
  refine T.regi hm ?_
  simp only [↓reduceIte, namesOf, List.any, I.names, aopsI, astep, ev, setd, List.set, List.getD, List.getElem?_cons_zero, List.getElem?_cons_succ, List.cons_append, List.nil_append, List.length_cons, List.length_nil, List.replicate, then_normal, Option.getD_some, Bool.or_false, Bool.false_eq_true, up_zero, binv, ↓opt_def, AV.isAny, AV.cells, Int.natCast_nonneg, Int.toNat_natCast, eq_self, decide_true, hob', hiN, hle, hspl, hrs, wa0, idx, haz, ha1, hex1, Int.le_refl, and_self, Int.toNat_zero, AV.fits, AV.one, List.all_cons, List.all_nil, Nat.reduceBEq, Bool.not_false, Bool.and_self, Nat.zero_add, Nat.mul_one]
  refine h0 _ _ ?_
  try clear h0 K_h0
  refine T.seq_k (fun K_h0 h0 => ?_)
  refine T.regi hm ?_
  simp only [↓reduceIte, namesOf, List.any, I.names, aopsI, astep, ev, setd, List.set, List.getD, List.getElem?_cons_zero, List.getElem?_cons_succ, List.cons_append, List.nil_append, List.replicate, then_normal, Option.getD_some, Bool.or_false, Bool.false_eq_true, up_zero, binv, ↓opt_def, Int.toNat_natCast, eq_self, hrs, h1s, wa1, idx, haz1, ha2, hex2, Int.le_refl, and_self]
  refine h0 _ _ ?_
  try clear h0 K_h0
  refine T.regi hm ?_
  simp only [↓reduceIte, namesOf, List.any, I.names, aopsI, astep, ev, setd, List.set, List.getD, List.getElem?_cons_zero, List.getElem?_cons_succ, List.cons_append, List.nil_append, List.replicate, then_normal, inBlock_normal, Option.getD_some, Bool.or_false, Bool.false_eq_true, up_zero, binv, ↓opt_def, eq_self, wi]
  exact ⟨hil, _, _, Gh.keep [0, 1, 2, 3, 9, 10], done ++ [a], b, by rw [hsp, hsb]; simp, by simp [hdl], by omega, by omega, hL.set _ hlo, hlt, St.set_same _ _ _, rfl⟩

theorem split_ok {l : List UInt8} {σ : St} (hl : l.length ≤ 1000000) : ACalls Tryz.prog n_split [.str ⟨l.toArray⟩, .str ⟨[47].toArray⟩] σ (fun v σ' => v = .sl (strsAV (splitB l)) .none ∧ σ' = σ) := by
  refine s_split (fun wf => ?_)
  unfold c_split
  refine T.seq_k (fun K_h0 h0 => ?_)
  refine T.regi hm ?_
  simp only [↓reduceIte, namesOf, List.any, I.names, aopsI, astep, ev, setd, List.set, List.cons_append, List.nil_append, List.length_cons, List.length_nil, List.replicate, then_normal, Bool.or_false, Bool.false_eq_true, up_zero, Nat.reduceAdd, Nat.reduceSub]
  refine h0 _ _ ?_
  try clear h0 K_h0
  refine T.seq_k (fun K_h1 h1 => ?_)
  refine T.regi hm ?_
  simp only [↓reduceIte, namesOf, List.any, I.names, aopsI, astep, ev, setd, List.set, List.getD, List.getElem?_cons_zero, List.getElem?_cons_succ, then_normal, Option.getD_some, Bool.or_false, Bool.false_eq_true, up_zero, List.map_cons, List.map_nil]
  refine (gsplit_ok hl).mono ?_
  rintro v σ1 ⟨rfl, rfl⟩
  try simp only [↓reduceIte, namesOf, List.any, I.names, aops, aopsI, aopsT, qstep, CPt, qget, Tbl.get, astep, ev, setd, List.set, List.getD, List.getElem?_cons_zero, List.getElem?_cons_succ, List.getElem?_nil, List.cons_append, List.nil_append, List.length_cons, List.length_nil, List.replicate, then_normal, inBlock_normal, Option.getD_some, Option.getD_none, Bool.or_false, Bool.or_true, Bool.true_or, Bool.false_or, Bool.false_eq_true, if_false, if_true, up_zero, Nat.reduceAdd, Nat.reduceSub, binv, ↓opt_def, AV.isAny, AV.cells, ldc, List.map_cons, List.map_nil, St.set_next, St.set_same, St.up_next, Int.natCast_nonneg, lt_len, le_len, Int.toNat_natCast, true_and, and_true, eq_self, reduceCtorEq, decide_true, List.length_singleton, er_int, er_bool, er_str, srcR, up_zero]
  refine h1 _ _ ?_
  try clear h1 K_h1
  exact T.ret (Fin.quiet rfl ⟨nb_strs _ _, trivial⟩ (fun _ _ h => h) ⟨rfl, rfl⟩)

end Go.VL

namespace Go.VL

open Go.Proofs

/-- the text is just the number's three digits -/
def canA (l : List UInt8) (n : Nat) : Prop := n < 1000 ∧ l = dg 10 3 n

theorem canA.len {l : List UInt8} {n : Nat} (h : canA l n) : l.length = 3 := by rw [h.2, dg_len]

theorem canA.digit {l : List UInt8} {n i : Nat} {c : UInt8} (h : canA l n) (hc : l[i]? = some c) : i < 3 ∧ c.toNat = 48 + n / 10 ^ (2 - i) % 10 := by
  have hi : i < l.length := (List.getElem?_eq_some_iff.1 hc).1
  rw [h.len] at hi
  rw [h.2, dg_get 10 3 n i hi] at hc
  refine ⟨hi, ?_⟩
  have h1 : n / 10 ^ (3 - 1 - i) % 10 < 10 := Nat.mod_lt _ (by omega)
  have h2 := dgc_facts (n / 10 ^ (3 - 1 - i) % 10) (by omega)
  rw [← Option.some.inj hc]
  show _ = 48 + n / 10 ^ (3 - 1 - i) % 10
  omega

theorem i64_rng (x : Int) : -9223372036854775808 ≤ IntKind.i64.wrap x ∧ IntKind.i64.wrap x ≤ 9223372036854775807 := by
  simp [IntKind.wrap, IntKind.bits, IntKind.signed]; split <;> omega

def i64r (k : Int) : Prop := -9223372036854775808 ≤ k ∧ k ≤ 9223372036854775807

/-- what reading a number tells -/
def AOut (t : Nat) (x : Int → AV) (l : List UInt8) (v : AV) : Prop :=
  ∃ k e, i64r k ∧ v = .tup [.int .i64 k, e] ∧ ((e = .nili ∧ ∀ n, canA l n → k = (n : Int)) ∨ (∃ c, (c = 1 ∨ c = 2) ∧ e = .iface t (x c)) ∧ ∀ n, ¬ canA l n)

set_option maxRecDepth 10000 in
set_option maxHeartbeats 1000000 in
theorem iparI_ok {l : List UInt8} {σ : St} (hl : l.length ≤ 1000000000) :
    ACalls Tryz.prog n_iparI [.str ⟨l.toArray⟩, .int .i64 10, .int .i64 0] σ (fun v σ' => σ' = σ ∧ ∃ k e, i64r k ∧ v = .tup [.int .i64 k, e] ∧ (e = .nili ∨ ∃ c, (c = 1 ∨ c = 2) ∧ e = .iface t_serr (.int .i64 c))) := by
  refine s_iparI (fun wf => ?_)
  unfold c_iparI
  have q0 : sbinv .eql ⟨l.toArray⟩ ⟨#[]⟩ = some (.bool (decide (l = []))) := by simp only [sbinv, ba_eq l []]
  refine T.seq_k (fun K_h0 h0 => ?_)
  refine T.regi hm ?_
  simp only [↓reduceIte, namesOf, List.any, I.names, aopsI, astep, ev, setd, List.set, List.cons_append, List.nil_append, List.length_cons, List.length_nil, List.replicate, then_normal, Bool.or_false, Bool.false_eq_true, up_zero, Nat.reduceAdd, Nat.reduceSub]
  refine h0 _ _ ?_
  try clear h0 K_h0
  refine T.seq_k (fun K_h1 h1 => ?_)
  by_cases hnil : l = []
  · have q1 : decide (l = []) = true := decide_eq_true hnil
    rw [q1] at q0
    refine T.seq_k (fun K_h0 h0 => ?_)
    refine T.regi hm ?_
    simp only [↓reduceIte, namesOf, List.any, I.names, aopsI, astep, ev, setd, List.set, List.getD, List.getElem?_cons_zero, List.getElem?_cons_succ, then_normal, Option.getD_some, Bool.or_false, Bool.false_eq_true, up_zero, ↓opt_def, q0]
    refine h0 _ _ ?_
    try clear h0 K_h0
    refine T.cond rfl (fun _ => ?_) (fun h => by cases h)
    refine T.seq_k (fun K_h0 h0 => ?_)
    refine T.regi hm ?_
    simp only [↓reduceIte, namesOf, List.any, I.names, aopsI, astep, ev, setd, List.set, List.getD, List.getElem?_cons_zero, List.getElem?_cons_succ, then_normal, Option.getD_some, Bool.or_false, Bool.false_eq_true, up_zero]
    refine h0 _ _ ?_
    try clear h0 K_h0
    exact T.ret (Fin.ret rfl ⟨rfl, 0, _, ⟨by omega, by omega⟩, rfl, .inr ⟨2, .inr rfl, rfl⟩⟩)
  have q1 : decide (l = []) = false := decide_eq_false hnil
  rw [q1] at q0
  refine T.seq_k (fun K_h0 h0 => ?_)
  refine T.regi hm ?_
  simp only [↓reduceIte, namesOf, List.any, I.names, aopsI, astep, ev, setd, List.set, List.getD, List.getElem?_cons_zero, List.getElem?_cons_succ, then_normal, Option.getD_some, Bool.or_false, Bool.false_eq_true, up_zero, ↓opt_def, q0]
  refine h0 _ _ ?_
  try clear h0 K_h0
  refine T.cond rfl (fun h => by cases h) (fun _ => T.skip ?_)
  refine h1 _ _ ?_
  try clear h1 K_h1
  refine T.seq_k (fun K_h0 h0 => ?_)
  refine T.regi hm ?_
  simp only [↓reduceIte, namesOf, List.any, I.names, aopsI, astep, ev, setd, List.set, then_normal, Bool.or_false, Bool.false_eq_true, up_zero]
  refine h0 _ _ ?_
  try clear h0 K_h0
  obtain ⟨c, r, rfl⟩ : ∃ c r, l = c :: r := by cases l with
    | nil => exact absurd rfl hnil
    | cons c r => exact ⟨c, r, rfl⟩
  have hsz : ((⟨(c :: r).toArray⟩ : ByteArray).size : Int) = ((r.length + 1 : Nat) : Int) := by rw [sz_mk]; rfl
  have hpos : (0 : Int) < ((r.length + 1 : Nat) : Int) := by omega
  have hg0 : (⟨(c :: r).toArray⟩ : ByteArray).data.toList[(0 : Int).toNat]? = some c := rfl
  have hcut : (⟨(c :: r).toArray⟩ : ByteArray).extract 1 (r.length + 1) = ⟨r.toArray⟩ := by rw [ba_cut]; simp
  have h1le : (1 : Int) ≤ ((r.length + 1 : Nat) : Int) := by omega
  refine T.seq_k (fun K_h1 h1 => ?_)
  have nxt : ∀ (ρ' : List AV) (s : List UInt8) (neg : Bool), s.length ≤ 1000000000 → keep [0, 1, 2, 8] 0 ρ' = [.str ⟨s.toArray⟩, .int .i64 10, .int .i64 0, .any, .any, .any, .any, .any, .bool neg] ++ List.replicate 64 .any → K_h1 ρ' σ := by
    intro ρ' s neg hs hρ
    refine h1 _ _ ?_
    try clear h1 K_h1
    refine T.gh (Gh.keep [0, 1, 2, 8]) ?_
    rw [hρ]
    clear hρ ρ'
    have e0 : ((0 : Int) == 0) = true := rfl
    have w1 : IntKind.i64.wrap (64 - 1) = 63 := by decide
    have w2 : IntKind.u64.wrap 63 = 63 := by decide
    have w3 : ¬ ((63 : Int) < 0) := by decide
    obtain ⟨M, hM⟩ : ∃ M : Int, IntKind.u64.wrap (1 * 2 ^ min (63 : Int).toNat IntKind.u64.bits) = M := ⟨_, rfl⟩
    refine T.seq_k (fun K_h0 h0 => ?_)
    refine T.regi hm ?_
    simp only [↓reduceIte, namesOf, List.any, I.names, aopsI, astep, ev, setd, List.set, List.cons_append, List.nil_append, List.replicate, then_normal, Bool.or_false, Bool.false_eq_true, up_zero]
    refine h0 _ _ ?_
    try clear h0 K_h0
    refine T.seq_k (fun K_h1 h1 => ?_)
    refine T.regi hm ?_
    simp only [↓reduceIte, namesOf, List.any, I.names, aopsI, astep, ev, setd, List.set, List.getD, List.getElem?_cons_zero, List.getElem?_cons_succ, then_normal, Option.getD_some, Bool.or_false, Bool.false_eq_true, up_zero, ↓opt_def, List.map_cons, List.map_nil]
    refine (iparU_ok (b := 10) (.inr rfl) (.inr rfl) hs).mono ?_
    rintro v σ1 hv
    obtain ⟨n, e, rfl, rfl, he⟩ : ∃ (n : Nat) (e : AV), σ1 = σ ∧ v = .tup [.int .u64 (n : Int), e] ∧ (e = .nili ∨ e = .iface t_serr (.int .i64 1) ∨ e = .iface t_serr (.int .i64 2)) := by
      rcases hv with ⟨rfl, (⟨n, hn, rfl, hc⟩ | ⟨n, e, hn, he, rfl, hc⟩)⟩
      · exact ⟨n, _, rfl, rfl, .inl rfl⟩
      · rcases he with rfl | rfl
        · exact ⟨n, _, rfl, rfl, .inr (.inl rfl)⟩
        · exact ⟨n, _, rfl, rfl, .inr (.inr rfl)⟩
    clear hv
    try simp only [List.getElem?_cons_zero, List.getElem?_cons_succ]
    refine h1 _ _ ?_
    try clear h1 K_h1
    refine T.seq_k (fun K_h1 h1 => ?_)
    have rest : ∀ (ρ' : List AV), keep [1, 2, 7, 8, 9] 0 ρ' = [.any, .int .i64 10, .int .i64 0, .any, .any, .any, .any, e, .bool neg, .int .u64 (n : Int)] ++ List.replicate 63 .any → K_h1 ρ' σ1 := by
      intro ρ' hρ
      refine h1 _ _ ?_
      try clear h1 K_h1
      refine T.gh (Gh.keep [1, 2, 7, 8, 9]) ?_
      rw [hρ]
      clear hρ ρ'
      refine T.seq_k (fun K_h1 h1 => ?_)
      refine T.seq_k (fun K_h0 h0 => ?_)
      refine T.regi hm ?_
      simp only [↓reduceIte, namesOf, List.any, I.names, aopsI, astep, ev, setd, List.set, List.getD, List.getElem?_cons_zero, List.getElem?_cons_succ, List.cons_append, List.nil_append, List.replicate, then_normal, Option.getD_some, Bool.or_false, Bool.false_eq_true, up_zero, binv, ↓opt_def, eq_self, e0]
      refine h0 _ _ ?_
      try clear h0 K_h0
      refine T.cond rfl (fun _ => ?_) (fun h => by cases h)
      refine T.regi hm ?_
      simp only [↓reduceIte, namesOf, List.any, I.names, aopsI, astep, ev, setd, List.set, then_normal, Bool.or_false, Bool.false_eq_true, up_zero]
      refine h1 _ _ ?_
      try clear h1 K_h1
      refine T.seq_k (fun K_h0 h0 => ?_)
      refine T.regi hm ?_
      simp only [↓reduceIte, namesOf, List.any, I.names, aopsI, astep, ev, setd, List.set, List.getD, List.getElem?_cons_zero, List.getElem?_cons_succ, then_normal, Option.getD_some, Bool.or_false, Bool.false_eq_true, up_zero, binv, ↓opt_def, eq_self, w1, w2, w3, hM]
      refine h0 _ _ ?_
      try clear h0 K_h0
      refine T.seq_k (fun K_h1 h1 => ?_)
      cases neg with
      | false =>
        by_cases hge : (n : Int) ≥ M
        · have f1 : decide ((n : Int) ≥ M) = true := decide_eq_true hge
          refine T.seq_k (fun K_h0 h0 => ?_)
          refine T.regi hm ?_
          simp only [↓reduceIte, namesOf, List.any, I.names, aopsI, astep, ev, setd, List.set, List.getD, List.getElem?_cons_zero, List.getElem?_cons_succ, then_normal, Option.getD_some, Bool.or_false, Bool.false_eq_true, up_zero, binv, ↓opt_def, eq_self, f1, Bool.not_false]
          refine h0 _ _ ?_
          try clear h0 K_h0
          refine T.cond rfl (fun _ => ?_) (fun h => by cases h)
          refine T.seq_k (fun K_h0 h0 => ?_)
          refine T.regi hm ?_
          simp only [↓reduceIte, namesOf, List.any, I.names, aopsI, astep, ev, setd, List.set, List.getD, List.getElem?_cons_zero, List.getElem?_cons_succ, then_normal, Option.getD_some, Bool.or_false, Bool.false_eq_true, up_zero, binv, ↓opt_def, eq_self]
          refine h0 _ _ ?_
          try clear h0 K_h0
          exact T.ret (Fin.ret rfl ⟨rfl, _, _, i64_rng _, rfl, .inr ⟨1, .inl rfl, rfl⟩⟩)
        · have f1 : decide ((n : Int) ≥ M) = false := decide_eq_false hge
          refine T.seq_k (fun K_h0 h0 => ?_)
          refine T.regi hm ?_
          simp only [↓reduceIte, namesOf, List.any, I.names, aopsI, astep, ev, setd, List.set, List.getD, List.getElem?_cons_zero, List.getElem?_cons_succ, then_normal, Option.getD_some, Bool.or_false, Bool.false_eq_true, up_zero, binv, ↓opt_def, eq_self, f1, Bool.not_false]
          refine h0 _ _ ?_
          try clear h0 K_h0
          refine T.cond rfl (fun h => by cases h) (fun _ => T.skip ?_)
          refine h1 _ _ ?_
          try clear h1 K_h1
          refine T.seq_k (fun K_h1 h1 => ?_)
          refine T.seq_k (fun K_h0 h0 => ?_)
          refine T.regi hm ?_
          simp only [↓reduceIte, namesOf, List.any, I.names, aopsI, astep, ev, setd, List.set, List.getD, List.getElem?_cons_zero, List.getElem?_cons_succ, then_normal, Option.getD_some, Bool.or_false, Bool.false_eq_true, up_zero]
          refine h0 _ _ ?_
          try clear h0 K_h0
          refine T.cond rfl (fun h => by cases h) (fun _ => T.skip ?_)
          refine h1 _ _ ?_
          try clear h1 K_h1
          refine T.seq_k (fun K_h0 h0 => ?_)
          refine T.regi hm ?_
          simp only [↓reduceIte, namesOf, List.any, I.names, aopsI, astep, ev, setd, List.set, List.getD, List.getElem?_cons_zero, List.getElem?_cons_succ, then_normal, Option.getD_some, Bool.or_false, Bool.false_eq_true, up_zero]
          refine h0 _ _ ?_
          try clear h0 K_h0
          refine T.seq_k (fun K_h1 h1 => ?_)
          refine T.seq_k (fun K_h0 h0 => ?_)
          refine T.regi hm ?_
          simp only [↓reduceIte, namesOf, List.any, I.names, aopsI, astep, ev, setd, List.set, List.getD, List.getElem?_cons_zero, List.getElem?_cons_succ, then_normal, Option.getD_some, Bool.or_false, Bool.false_eq_true, up_zero]
          refine h0 _ _ ?_
          try clear h0 K_h0
          refine T.cond rfl (fun h => by cases h) (fun _ => T.skip ?_)
          refine h1 _ _ ?_
          try clear h1 K_h1
          refine T.seq_k (fun K_h0 h0 => ?_)
          refine T.regi hm ?_
          simp only [↓reduceIte, namesOf, List.any, I.names, aopsI, astep, ev, setd, List.set, List.getD, List.getElem?_cons_zero, List.getElem?_cons_succ, then_normal, Option.getD_some, Bool.or_false, Bool.false_eq_true, up_zero]
          refine h0 _ _ ?_
          try clear h0 K_h0
          exact T.ret (Fin.ret rfl ⟨rfl, _, _, i64_rng _, rfl, .inl rfl⟩)
      | true =>
        refine T.seq_k (fun K_h0 h0 => ?_)
        refine T.regi hm ?_
        simp only [↓reduceIte, namesOf, List.any, I.names, aopsI, astep, ev, setd, List.set, List.getD, List.getElem?_cons_zero, List.getElem?_cons_succ, then_normal, Option.getD_some, Bool.or_false, Bool.false_eq_true, up_zero, Bool.not_true]
        refine h0 _ _ ?_
        try clear h0 K_h0
        refine T.cond rfl (fun h => by cases h) (fun _ => T.skip ?_)
        refine h1 _ _ ?_
        try clear h1 K_h1
        refine T.seq_k (fun K_h1 h1 => ?_)
        by_cases hgt : (n : Int) > M
        · have f1 : decide ((n : Int) > M) = true := decide_eq_true hgt
          refine T.seq_k (fun K_h0 h0 => ?_)
          refine T.regi hm ?_
          simp only [↓reduceIte, namesOf, List.any, I.names, aopsI, astep, ev, setd, List.set, List.getD, List.getElem?_cons_zero, List.getElem?_cons_succ, then_normal, Option.getD_some, Bool.or_false, Bool.false_eq_true, up_zero, binv, ↓opt_def, eq_self, f1]
          refine h0 _ _ ?_
          try clear h0 K_h0
          refine T.cond rfl (fun _ => ?_) (fun h => by cases h)
          refine T.seq_k (fun K_h0 h0 => ?_)
          refine T.regi hm ?_
          simp only [↓reduceIte, namesOf, List.any, I.names, aopsI, astep, ev, setd, List.set, List.getD, List.getElem?_cons_zero, List.getElem?_cons_succ, then_normal, Option.getD_some, Bool.or_false, Bool.false_eq_true, up_zero, eq_self]
          refine h0 _ _ ?_
          try clear h0 K_h0
          exact T.ret (Fin.ret rfl ⟨rfl, _, _, i64_rng _, rfl, .inr ⟨1, .inl rfl, rfl⟩⟩)
        · have f1 : decide ((n : Int) > M) = false := decide_eq_false hgt
          refine T.seq_k (fun K_h0 h0 => ?_)
          refine T.regi hm ?_
          simp only [↓reduceIte, namesOf, List.any, I.names, aopsI, astep, ev, setd, List.set, List.getD, List.getElem?_cons_zero, List.getElem?_cons_succ, then_normal, Option.getD_some, Bool.or_false, Bool.false_eq_true, up_zero, binv, ↓opt_def, eq_self, f1]
          refine h0 _ _ ?_
          try clear h0 K_h0
          refine T.cond rfl (fun h => by cases h) (fun _ => T.skip ?_)
          refine h1 _ _ ?_
          try clear h1 K_h1
          refine T.seq_k (fun K_h0 h0 => ?_)
          refine T.regi hm ?_
          simp only [↓reduceIte, namesOf, List.any, I.names, aopsI, astep, ev, setd, List.set, List.getD, List.getElem?_cons_zero, List.getElem?_cons_succ, then_normal, Option.getD_some, Bool.or_false, Bool.false_eq_true, up_zero]
          refine h0 _ _ ?_
          try clear h0 K_h0
          refine T.seq_k (fun K_h1 h1 => ?_)
          refine T.seq_k (fun K_h0 h0 => ?_)
          refine T.regi hm ?_
          simp only [↓reduceIte, namesOf, List.any, I.names, aopsI, astep, ev, setd, List.set, List.getD, List.getElem?_cons_zero, List.getElem?_cons_succ, then_normal, Option.getD_some, Bool.or_false, Bool.false_eq_true, up_zero]
          refine h0 _ _ ?_
          try clear h0 K_h0
          refine T.cond rfl (fun _ => ?_) (fun h => by cases h)
          refine T.regi hm ?_
          simp only [↓reduceIte, namesOf, List.any, I.names, aopsI, astep, ev, setd, List.set, List.getD, List.getElem?_cons_zero, List.getElem?_cons_succ, then_normal, Option.getD_some, Bool.or_false, Bool.false_eq_true, up_zero, eq_self]
          refine h1 _ _ ?_
          try clear h1 K_h1
          refine T.seq_k (fun K_h0 h0 => ?_)
          refine T.regi hm ?_
          simp only [↓reduceIte, namesOf, List.any, I.names, aopsI, astep, ev, setd, List.set, List.getD, List.getElem?_cons_zero, List.getElem?_cons_succ, then_normal, Option.getD_some, Bool.or_false, Bool.false_eq_true, up_zero]
          refine h0 _ _ ?_
          try clear h0 K_h0
          exact T.ret (Fin.ret rfl ⟨rfl, _, _, i64_rng _, rfl, .inl rfl⟩)
    rcases he with rfl | rfl | rfl
    · have g1 : eqIv true [(tCode, .i64), (t_serr, .i64)] .nili .nili = some true := rfl
      refine T.seq_k (fun K_h0 h0 => ?_)
      refine T.regi hm ?_
      simp only [↓reduceIte, namesOf, List.any, I.names, aopsI, astep, ev, setd, List.set, List.getD, List.getElem?_cons_zero, List.getElem?_cons_succ, then_normal, Option.getD_some, Bool.or_false, Bool.false_eq_true, up_zero, g1, bne_self_eq_false]
      refine h0 _ _ ?_
      try clear h0 K_h0
      refine T.cond rfl (fun h => by cases h) (fun _ => T.skip ?_)
      exact rest _ rfl
    · have g1 : eqIv true [(tCode, .i64), (t_serr, .i64)] (.iface t_serr (.int .i64 1)) .nili = some false := rfl
      have g2 : eqIv false [(tCode, .i64), (t_serr, .i64)] (.iface t_serr (.int .i64 1)) (.iface t_serr (.int .i64 1)) = some true := rfl
      refine T.seq_k (fun K_h0 h0 => ?_)
      refine T.regi hm ?_
      simp only [↓reduceIte, namesOf, List.any, I.names, aopsI, astep, ev, setd, List.set, List.getD, List.getElem?_cons_zero, List.getElem?_cons_succ, then_normal, Option.getD_some, Bool.or_false, Bool.false_eq_true, up_zero, eq_self, g1, g2, bne_self_eq_false, Bool.false_bne]
      refine h0 _ _ ?_
      try clear h0 K_h0
      refine T.cond rfl (fun h => by cases h) (fun _ => T.skip ?_)
      exact rest _ rfl
    · have g1 : eqIv true [(tCode, .i64), (t_serr, .i64)] (.iface t_serr (.int .i64 2)) .nili = some false := rfl
      have g2 : eqIv false [(tCode, .i64), (t_serr, .i64)] (.iface t_serr (.int .i64 2)) (.iface t_serr (.int .i64 1)) = some false := rfl
      refine T.seq_k (fun K_h0 h0 => ?_)
      refine T.regi hm ?_
      simp only [↓reduceIte, namesOf, List.any, I.names, aopsI, astep, ev, setd, List.set, List.getD, List.getElem?_cons_zero, List.getElem?_cons_succ, then_normal, Option.getD_some, Bool.or_false, Bool.false_eq_true, up_zero, eq_self, g1, g2, Bool.false_bne]
      refine h0 _ _ ?_
      try clear h0 K_h0
      refine T.cond rfl (fun _ => ?_) (fun h => by cases h)
      refine T.seq_k (fun K_h0 h0 => ?_)
      refine T.regi hm ?_
      simp only [↓reduceIte, namesOf, List.any, I.names, aopsI, astep, ev, setd, List.set, List.getD, List.getElem?_cons_zero, List.getElem?_cons_succ, then_normal, Option.getD_some, Bool.or_false, Bool.false_eq_true, up_zero]
      refine h0 _ _ ?_
      try clear h0 K_h0
      exact T.ret (Fin.ret rfl ⟨rfl, _, _, ⟨by omega, by omega⟩, rfl, .inr ⟨2, .inr rfl, rfl⟩⟩)
  refine T.seq_k (fun K_h0 h0 => ?_)
  refine T.regi hm ?_
  simp only [↓reduceIte, namesOf, List.any, I.names, aopsI, astep, ev, setd, List.set, List.getD, List.getElem?_cons_zero, List.getElem?_cons_succ, then_normal, Option.getD_some, Bool.or_false, Bool.false_eq_true, up_zero, hsz, hpos, hg0, Int.le_refl, and_self]
  refine h0 _ _ ?_
  try clear h0 K_h0
  refine T.block ?_
  have hr : r.length ≤ 1000000000 := by simp at hl; omega
  by_cases h43 : c.toNat = 43
  · have f1 : ((c.toNat : Int) == 43) = true := by rw [h43]; rfl
    refine T.seq_k (fun K_h0 h0 => ?_)
    refine T.regi hm ?_
    simp only [↓reduceIte, namesOf, List.any, I.names, aopsI, astep, ev, setd, List.set, List.getD, List.getElem?_cons_zero, List.getElem?_cons_succ, then_normal, Option.getD_some, Bool.or_false, Bool.false_eq_true, up_zero, binv, ↓opt_def, eq_self, f1]
    refine h0 _ _ ?_
    try clear h0 K_h0
    refine T.cond rfl (fun _ => ?_) (fun h => by cases h)
    refine T.regi hm ?_
    simp only [↓reduceIte, namesOf, List.any, I.names, aopsI, astep, ev, setd, List.set, List.getD, List.getElem?_cons_zero, List.getElem?_cons_succ, then_normal, inBlock_normal, Option.getD_some, Bool.or_false, Bool.false_eq_true, up_zero, Int.toNat_natCast, hsz, idx, h1le, hcut, Int.le_refl, and_self, Int.toNat_one, Int.reduceLE]
    exact nxt _ r false hr rfl
  have f1 : ((c.toNat : Int) == 43) = false := by rw [beq_eq_false_iff_ne]; omega
  refine T.seq_k (fun K_h0 h0 => ?_)
  refine T.regi hm ?_
  simp only [↓reduceIte, namesOf, List.any, I.names, aopsI, astep, ev, setd, List.set, List.getD, List.getElem?_cons_zero, List.getElem?_cons_succ, then_normal, Option.getD_some, Bool.or_false, Bool.false_eq_true, up_zero, binv, ↓opt_def, eq_self, f1]
  refine h0 _ _ ?_
  try clear h0 K_h0
  refine T.cond rfl (fun h => by cases h) (fun _ => ?_)
  by_cases h45 : c.toNat = 45
  · have f2 : ((c.toNat : Int) == 45) = true := by rw [h45]; rfl
    refine T.seq_k (fun K_h0 h0 => ?_)
    refine T.regi hm ?_
    simp only [↓reduceIte, namesOf, List.any, I.names, aopsI, astep, ev, setd, List.set, List.getD, List.getElem?_cons_zero, List.getElem?_cons_succ, then_normal, Option.getD_some, Bool.or_false, Bool.false_eq_true, up_zero, binv, ↓opt_def, eq_self, f2]
    refine h0 _ _ ?_
    try clear h0 K_h0
    refine T.cond rfl (fun _ => ?_) (fun h => by cases h)
    refine T.seq_k (fun K_h0 h0 => ?_)
    refine T.regi hm ?_
    simp only [↓reduceIte, namesOf, List.any, I.names, aopsI, astep, ev, setd, List.set, List.getD, List.getElem?_cons_zero, List.getElem?_cons_succ, then_normal, Option.getD_some, Bool.or_false, Bool.false_eq_true, up_zero, Int.toNat_natCast, hsz, idx, h1le, hcut, Int.le_refl, and_self, Int.toNat_one, Int.reduceLE]
    refine h0 _ _ ?_
    try clear h0 K_h0
    refine T.regi hm ?_
    simp only [↓reduceIte, namesOf, List.any, I.names, aopsI, astep, ev, setd, List.set, then_normal, inBlock_normal, Bool.or_false, Bool.false_eq_true, up_zero]
    exact nxt _ r true hr rfl
  · have f2 : ((c.toNat : Int) == 45) = false := by rw [beq_eq_false_iff_ne]; omega
    refine T.seq_k (fun K_h0 h0 => ?_)
    refine T.regi hm ?_
    simp only [↓reduceIte, namesOf, List.any, I.names, aopsI, astep, ev, setd, List.set, List.getD, List.getElem?_cons_zero, List.getElem?_cons_succ, then_normal, Option.getD_some, Bool.or_false, Bool.false_eq_true, up_zero, binv, ↓opt_def, eq_self, f2]
    refine h0 _ _ ?_
    try clear h0 K_h0
    refine T.cond rfl (fun h => by cases h) (fun _ => T.skip ?_)
    try simp only [then_normal, inBlock_normal, inBlock_normal]
    exact nxt _ (c :: r) false hl rfl

end Go.VL

namespace Go.VL

open Go.Proofs

theorem u8_sub48 (k : Nat) (hk : k < 256) : ∃ d : Nat, IntKind.u8.wrap ((k : Int) - 48) = (d : Int) ∧ d < 256 ∧ (48 ≤ k → d = k - 48) := by
  refine ⟨(IntKind.u8.wrap ((k : Int) - 48)).toNat, ?_, ?_, ?_⟩ <;> simp [IntKind.wrap, IntKind.bits, IntKind.signed] <;> omega

set_option maxRecDepth 10000 in
set_option maxHeartbeats 1000000 in
theorem iatoi_ok {l : List UInt8} {σ : St} (hl : l.length ≤ 1000000000) :
    ACalls Tryz.prog n_iatoi [.str ⟨l.toArray⟩] σ (fun v σ' => σ' = σ ∧ AOut t_serr (fun c => .int .i64 c) l v) := by
  refine s_iatoi (fun wf => ?_)
  unfold c_iatoi
  have hsz : ((⟨l.toArray⟩ : ByteArray).size : Int) = ((l.length : Nat) : Int) := by rw [sz_mk]
  refine T.seq_k (fun K_h0 h0 => ?_)
  refine T.regi hm ?_
  simp only [↓reduceIte, namesOf, List.any, I.names, aopsI, astep, ev, setd, List.set, List.cons_append, List.nil_append, List.length_cons, List.length_nil, List.replicate, then_normal, Bool.or_false, Bool.false_eq_true, up_zero, Nat.reduceAdd, Nat.reduceSub]
  refine h0 _ _ ?_
  try clear h0 K_h0
  refine T.seq_k (fun K_h0 h0 => ?_)
  refine T.regi hm ?_
  simp only [↓reduceIte, namesOf, List.any, I.names, aopsI, astep, ev, setd, List.set, List.getD, List.getElem?_cons_zero, List.getElem?_cons_succ, then_normal, Option.getD_some, Bool.or_false, Bool.false_eq_true, up_zero, hsz]
  refine h0 _ _ ?_
  try clear h0 K_h0
  refine T.seq_k (fun K_h1 h1 => ?_)
  by_cases hf : 0 < l.length ∧ l.length < 19
  case neg =>
    have slow : ∀ ρ' : List AV, keep [0] 0 ρ' = [.str ⟨l.toArray⟩] ++ List.replicate 76 .any → K_h1 ρ' σ := by
      intro ρ' hρ
      refine h1 _ _ ?_
      try clear h1 K_h1
      refine T.gh (Gh.keep [0]) ?_
      rw [hρ]
      refine T.seq_k (fun K_h1 h1 => ?_)
      refine T.regi hm ?_
      simp only [↓reduceIte, namesOf, List.any, I.names, aopsI, astep, ev, setd, List.set, List.getD, List.getElem?_cons_zero, List.getElem?_cons_succ, List.cons_append, List.nil_append, List.replicate, then_normal, Option.getD_some, Bool.or_false, Bool.false_eq_true, up_zero, ↓opt_def, List.map_cons, List.map_nil]
      refine (iparI_ok hl).mono ?_
      rintro v σ1 ⟨rfl, k, e, hk, rfl, he⟩
      try simp only [List.getElem?_cons_zero, List.getElem?_cons_succ]
      refine h1 _ _ ?_
      try clear h1 K_h1
      refine T.seq_k (fun K_h0 h0 => ?_)
      refine T.regi hm ?_
      simp only [↓reduceIte, namesOf, List.any, I.names, aopsI, astep, ev, setd, List.set, List.getD, List.getElem?_cons_zero, List.getElem?_cons_succ, then_normal, Option.getD_some, Bool.or_false, Bool.false_eq_true, up_zero]
      refine h0 _ _ ?_
      try clear h0 K_h0
      have hno : ∀ n, ¬ canA l n := fun n h => by have := h.len; omega
      refine T.ret (Fin.quiet rfl ⟨trivial, ?_, trivial⟩ (fun _ _ h => h) ⟨rfl, k, e, hk, rfl, ?_⟩)
      · rcases he with rfl | ⟨c, _, rfl⟩ <;> trivial
      · rcases he with rfl | h
        · exact .inl ⟨rfl, fun n h => absurd h (hno n)⟩
        · exact .inr ⟨h, hno⟩
    by_cases h0 : 0 < l.length
    · have f1 : decide ((0 : Int) < (l.length : Int)) = true := decide_eq_true (by omega)
      have f2 : decide ((l.length : Int) < 19) = false := decide_eq_false (by omega)
      refine T.seq_k (fun K_h0 h0 => ?_)
      refine T.regi hm ?_
      simp only [↓reduceIte, namesOf, List.any, I.names, aopsI, astep, ev, setd, List.set, List.getD, List.getElem?_cons_zero, List.getElem?_cons_succ, then_normal, Option.getD_some, Bool.or_false, Bool.false_eq_true, up_zero, binv, ↓opt_def, eq_self, f1, f2]
      refine h0 _ _ ?_
      try clear h0 K_h0
      refine T.cond rfl (fun h => by cases h) (fun _ => T.skip ?_)
      exact slow _ rfl
    · have f1 : decide ((0 : Int) < (l.length : Int)) = false := decide_eq_false (by omega)
      refine T.seq_k (fun K_h0 h0 => ?_)
      refine T.regi hm ?_
      simp only [↓reduceIte, namesOf, List.any, I.names, aopsI, astep, ev, setd, List.set, List.getD, List.getElem?_cons_zero, List.getElem?_cons_succ, then_normal, Option.getD_some, Bool.or_false, Bool.false_eq_true, up_zero, binv, ↓opt_def, eq_self, f1]
      refine h0 _ _ ?_
      try clear h0 K_h0
      refine T.cond rfl (fun h => by cases h) (fun _ => T.skip ?_)
      exact slow _ rfl
  have f1 : decide ((0 : Int) < (l.length : Int)) = true := decide_eq_true (by omega)
  have f2 : decide ((l.length : Int) < 19) = true := decide_eq_true (by omega)
  refine T.seq_k (fun K_h0 h0 => ?_)
  refine T.regi hm ?_
  simp only [↓reduceIte, namesOf, List.any, I.names, aopsI, astep, ev, setd, List.set, List.getD, List.getElem?_cons_zero, List.getElem?_cons_succ, then_normal, Option.getD_some, Bool.or_false, Bool.false_eq_true, up_zero, binv, ↓opt_def, eq_self, f1, f2]
  refine h0 _ _ ?_
  try clear h0 K_h0
  refine T.cond rfl (fun _ => ?_) (fun h => by cases h)
  refine T.seq_k (fun K_h0 h0 => ?_)
  refine T.regi hm ?_
  simp only [↓reduceIte, namesOf, List.any, I.names, aopsI, astep, ev, setd, List.set, List.getD, List.getElem?_cons_zero, List.getElem?_cons_succ, then_normal, Option.getD_some, Bool.or_false, Bool.false_eq_true, up_zero]
  refine h0 _ _ ?_
  try clear h0 K_h0
  obtain ⟨c, r, rfl⟩ : ∃ c r, l = c :: r := by cases l with
    | nil => simp at hf
    | cons c r => exact ⟨c, r, rfl⟩
  have hrl : r.length < 18 := by have := hf.2; simp at this; omega
  have hsz1 : ((⟨(c :: r).toArray⟩ : ByteArray).size : Int) = ((r.length + 1 : Nat) : Int) := by rw [sz_mk]; rfl
  have hpos : (0 : Int) < ((r.length + 1 : Nat) : Int) := by omega
  have hg0 : (⟨(c :: r).toArray⟩ : ByteArray).data.toList[(0 : Int).toNat]? = some c := rfl
  have hcut : (⟨(c :: r).toArray⟩ : ByteArray).extract 1 (r.length + 1) = ⟨r.toArray⟩ := by rw [ba_cut]; simp
  have h1le : (1 : Int) ≤ ((r.length + 1 : Nat) : Int) := by omega
  have hc0 : ∀ n, canA (c :: r) n → 48 ≤ c.toNat := fun n h => by have := (h.digit (i := 0) rfl).2; omega
  clear h1 hsz f1 f2
  refine T.seq_k (fun K_h1 h1 => ?_)
  have nxt : ∀ (ρ' : List AV) (s : List UInt8), s.length < 19 → (∀ n, canA (c :: r) n → s = c :: r) → keep [0, 5] 0 ρ' = [.str ⟨s.toArray⟩, .any, .any, .any, .any, .str ⟨(c :: r).toArray⟩] ++ List.replicate 71 .any → K_h1 ρ' σ := by
    intro ρ' s hs hsl hρ
    refine h1 _ _ ?_
    try clear h1 K_h1
    refine T.gh (Gh.keep [0, 5]) ?_
    rw [hρ]
    clear hρ ρ'
    refine T.seq_k (fun K_h0 h0 => ?_)
    refine T.regi hm ?_
    simp only [↓reduceIte, namesOf, List.any, I.names, aopsI, astep, ev, setd, List.set, List.cons_append, List.nil_append, List.replicate, then_normal, Bool.or_false, Bool.false_eq_true, up_zero]
    refine h0 _ _ ?_
    try clear h0 K_h0
    refine T.seq_k (fun K_h1 h1 => ?_)
    have hd : (⟨s.toArray⟩ : ByteArray).data.toList = s := rfl
    refine T.seq_k (fun K_h0 h0 => ?_)
    refine T.regi hm ?_
    simp only [↓reduceIte, namesOf, List.any, I.names, aopsI, astep, ev, setd, List.set, List.getD, List.getElem?_cons_zero, List.getElem?_cons_succ, List.length_cons, List.length_nil, then_normal, Option.getD_some, Bool.or_false, Bool.or_true, Nat.reduceAdd, eq_self, held, bytesAV_er, bytesAV_len]
    refine h0 _ _ ?_
    try clear h0 K_h0
    have hL0 : Like σ ((σ.up 4).set (σ.next + 1) (.tip 1)) := (Like.refl σ).box (n := 4) (i := 1) _
    generalize ((σ.up 4).set (σ.next + 1) (.tip 1)) = t0 at hL0 ⊢
    generalize σ.next + 1 = g
    refine T.block ?_
    refine T.gh (Gh.keep [5, 6, 47, 48, 49]) ?_
    refine T.loopi (fun i ρ t => ∃ n : Int, i64r n ∧ (∀ m, canA (c :: r) m → n = ((m / 10 ^ (3 - i) : Nat) : Int)) ∧ Like σ t ∧
        ρ = [.any, .any, .any, .any, .any, .str ⟨(c :: r).toArray⟩, .int .i64 n] ++ List.replicate 40 .any ++ [.sl (bytesAV s) (.tip g), .int .i64 (s.length : Int), .int .i64 (i : Int)] ++ List.replicate 27 .any)
      s.length 0 (Nat.zero_le _) ⟨0, ⟨by omega, by omega⟩, fun m h => by rw [Nat.div_eq_of_lt (by have := h.1; omega)]; rfl, hL0, rfl⟩ ?_
    clear hL0 t0
    rintro i ρ t hi ⟨n, hn, hcan, hL, rfl⟩
    refine T.seq_k (fun K_h0 h0 => ?_)
    refine T.regi hm ?_
    simp only [↓reduceIte, namesOf, List.any, I.names, aopsI, astep, ev, setd, List.set, List.getD, List.getElem?_cons_zero, List.getElem?_cons_succ, List.cons_append, List.nil_append, List.replicate, then_normal, Option.getD_some, Bool.or_false, Bool.false_eq_true, up_zero, binv, ↓opt_def, lt_len, eq_self]
    refine h0 _ _ ?_
    try clear h0 K_h0
    refine T.seq_k (fun K_h2 h2 => ?_)
    by_cases hil : i < s.length
    case neg =>
      refine T.cond (b := false) (by simp [ev]; omega) (fun h => by cases h) (fun _ => T.exit ?_)
      have hie : i = s.length := by omega
      try simp only [List.cons_append, List.nil_append, List.replicate, then_normal, inBlock_exit, then_exit]
      refine h1 _ _ ?_
      try clear h1 K_h1
      have hfin : ∀ m, canA (c :: r) m → n = (m : Int) := fun m h => by
        have h1 := hsl m h
        have h2 := h.len
        rw [hcan m h, hie, h1, h2, Nat.sub_self, Nat.pow_zero, Nat.div_one]
      refine T.seq_k (fun K_h1 h1 => ?_)
      by_cases h45 : c.toNat = 45
      · have g1 : ((c.toNat : Int) == 45) = true := by rw [h45]; rfl
        refine T.seq_k (fun K_h0 h0 => ?_)
        refine T.regi hm ?_
        simp only [↓reduceIte, namesOf, List.any, I.names, aopsI, astep, ev, setd, List.set, List.getD, List.getElem?_cons_zero, List.getElem?_cons_succ, then_normal, Option.getD_some, Bool.or_false, Bool.false_eq_true, up_zero, binv, ↓opt_def, eq_self, hsz1, hpos, hg0, Int.le_refl, and_self, g1]
        refine h0 _ _ ?_
        try clear h0 K_h0
        refine T.cond rfl (fun _ => ?_) (fun h => by cases h)
        refine T.regi hm ?_
        simp only [↓reduceIte, namesOf, List.any, I.names, aopsI, astep, ev, setd, List.set, List.getD, List.getElem?_cons_zero, List.getElem?_cons_succ, then_normal, Option.getD_some, Bool.or_false, Bool.false_eq_true, up_zero, eq_self]
        refine h1 _ _ ?_
        try clear h1 K_h1
        refine T.seq_k (fun K_h0 h0 => ?_)
        refine T.regi hm ?_
        simp only [↓reduceIte, namesOf, List.any, I.names, aopsI, astep, ev, setd, List.set, List.getD, List.getElem?_cons_zero, List.getElem?_cons_succ, then_normal, Option.getD_some, Bool.or_false, Bool.false_eq_true, up_zero]
        refine h0 _ _ ?_
        try clear h0 K_h0
        exact T.ret (Fin.quiet rfl ⟨trivial, trivial, trivial⟩ (hL.quiet wf) ⟨rfl, _, _, i64_rng _, rfl, .inl ⟨rfl, fun m h => by have := hc0 m h; omega⟩⟩)
      · have g1 : ((c.toNat : Int) == 45) = false := by rw [beq_eq_false_iff_ne]; omega
        refine T.seq_k (fun K_h0 h0 => ?_)
        refine T.regi hm ?_
        simp only [↓reduceIte, namesOf, List.any, I.names, aopsI, astep, ev, setd, List.set, List.getD, List.getElem?_cons_zero, List.getElem?_cons_succ, then_normal, Option.getD_some, Bool.or_false, Bool.false_eq_true, up_zero, binv, ↓opt_def, eq_self, hsz1, hpos, hg0, Int.le_refl, and_self, g1]
        refine h0 _ _ ?_
        try clear h0 K_h0
        refine T.cond rfl (fun h => by cases h) (fun _ => T.skip ?_)
        refine h1 _ _ ?_
        try clear h1 K_h1
        refine T.seq_k (fun K_h0 h0 => ?_)
        refine T.regi hm ?_
        simp only [↓reduceIte, namesOf, List.any, I.names, aopsI, astep, ev, setd, List.set, List.getD, List.getElem?_cons_zero, List.getElem?_cons_succ, then_normal, Option.getD_some, Bool.or_false, Bool.false_eq_true, up_zero]
        refine h0 _ _ ?_
        try clear h0 K_h0
        exact T.ret (Fin.quiet rfl ⟨trivial, trivial, trivial⟩ (hL.quiet wf) ⟨rfl, _, _, hn, rfl, .inl ⟨rfl, hfin⟩⟩)
    refine T.cond (b := true) (by simp [ev]; omega) (fun _ => T.skip ?_) (fun h => by cases h)
    refine h2 _ _ ?_
    try clear h2 K_h2
    obtain ⟨x, hx⟩ : ∃ x, s[i]? = some x := ⟨_, List.getElem?_eq_getElem hil⟩
    have hgx : (bytesAV s)[i]? = some (.int .u8 ((x.toNat : Nat) : Int)) := by simp [bytesAV, hx]
    obtain ⟨d, hd1, hd2, hd3⟩ := u8_sub48 x.toNat x.toNat_lt
    have hinc := inc64' hil (by omega)
    have hdig : ∀ m, canA (c :: r) m → i < 3 ∧ d = m / 10 ^ (2 - i) % 10 := fun m h => by
      rw [hsl m h] at hx
      obtain ⟨a1, a2⟩ := h.digit hx
      exact ⟨a1, by omega⟩
    refine T.seq_k (fun K_h3 h3 => ?_)
    refine T.block ?_
    refine T.seq_k (fun K_h0 h0 => ?_)
    refine T.regi hm ?_
    simp only [↓reduceIte, namesOf, List.any, I.names, aopsI, astep, ev, setd, List.set, List.getD, List.getElem?_cons_zero, List.getElem?_cons_succ, List.cons_append, List.nil_append, List.length_cons, List.length_nil, List.replicate, then_normal, Option.getD_some, Bool.or_false, Bool.false_eq_true, up_zero, ↓opt_def, AV.cells, ldc, Int.natCast_nonneg, lt_len, Int.toNat_natCast, true_and, and_true, eq_self, decide_true, hil, bytesAV_len, hgx, Nat.zero_add]
    refine h0 _ _ ?_
    try clear h0 K_h0
    refine T.seq_k (fun K_h0 h0 => ?_)
    refine T.regi hm ?_
    simp only [↓reduceIte, namesOf, List.any, I.names, aopsI, astep, ev, setd, List.set, List.getD, List.getElem?_cons_zero, List.getElem?_cons_succ, List.cons_append, List.nil_append, List.replicate, then_normal, Option.getD_some, Bool.or_false, Bool.false_eq_true, up_zero, binv, ↓opt_def, eq_self, hd1]
    refine h0 _ _ ?_
    try clear h0 K_h0
    refine T.seq_k (fun K_h4 h4 => ?_)
    by_cases hd9 : d > 9
    · have g1 : decide ((d : Int) > 9) = true := decide_eq_true (by omega)
      refine T.seq_k (fun K_h0 h0 => ?_)
      refine T.regi hm ?_
      simp only [↓reduceIte, namesOf, List.any, I.names, aopsI, astep, ev, setd, List.set, List.getD, List.getElem?_cons_zero, List.getElem?_cons_succ, List.cons_append, List.nil_append, List.replicate, then_normal, Option.getD_some, Bool.or_false, Bool.false_eq_true, up_zero, binv, ↓opt_def, eq_self, g1]
      refine h0 _ _ ?_
      try clear h0 K_h0
      refine T.cond rfl (fun _ => ?_) (fun h => by cases h)
      refine T.seq_k (fun K_h0 h0 => ?_)
      refine T.regi hm ?_
      simp only [↓reduceIte, namesOf, List.any, I.names, aopsI, astep, ev, setd, List.set, List.getD, List.getElem?_cons_zero, List.getElem?_cons_succ, List.cons_append, List.nil_append, List.replicate, then_normal, Option.getD_some, Bool.or_false, Bool.false_eq_true, up_zero]
      refine h0 _ _ ?_
      try clear h0 K_h0
      exact T.ret (Fin.quiet rfl ⟨trivial, trivial, trivial⟩ (hL.quiet wf) ⟨rfl, 0, _, ⟨by omega, by omega⟩, rfl, .inr ⟨⟨2, .inr rfl, rfl⟩, fun m h => by have := (hdig m h).2; omega⟩⟩)
    have g1 : decide ((d : Int) > 9) = false := decide_eq_false (by omega)
    have wd : IntKind.i64.wrap (d : Int) = (d : Int) := wrap64 (by omega) (by omega)
    refine T.seq_k (fun K_h0 h0 => ?_)
    refine T.regi hm ?_
    simp only [↓reduceIte, namesOf, List.any, I.names, aopsI, astep, ev, setd, List.set, List.getD, List.getElem?_cons_zero, List.getElem?_cons_succ, List.cons_append, List.nil_append, List.replicate, then_normal, Option.getD_some, Bool.or_false, Bool.false_eq_true, up_zero, binv, ↓opt_def, eq_self, g1]
    refine h0 _ _ ?_
    try clear h0 K_h0
    refine T.cond rfl (fun h => by cases h) (fun _ => T.skip ?_)
    refine h4 _ _ ?_
    try clear h4 K_h4
    refine T.regi hm ?_
    simp only [↓reduceIte, namesOf, List.any, I.names, aopsI, astep, ev, setd, List.set, List.getD, List.getElem?_cons_zero, List.getElem?_cons_succ, List.cons_append, List.nil_append, List.replicate, then_normal, inBlock_normal, Option.getD_some, Bool.or_false, Bool.false_eq_true, up_zero, binv, ↓opt_def, eq_self, wd]
    try simp only [↓reduceIte, namesOf, List.any, I.names, aops, aopsI, aopsT, qstep, CPt, qget, Tbl.get, astep, ev, setd, List.set, List.getD, List.getElem?_cons_zero, List.getElem?_cons_succ, List.getElem?_nil, List.cons_append, List.nil_append, List.length_cons, List.length_nil, List.replicate, then_normal, inBlock_normal, Option.getD_some, Option.getD_none, Bool.or_false, Bool.or_true, Bool.true_or, Bool.false_or, Bool.false_eq_true, if_false, if_true, up_zero, Nat.reduceAdd, Nat.reduceSub, binv, ↓opt_def, AV.isAny, AV.cells, ldc, List.map_cons, List.map_nil, St.set_next, St.set_same, St.up_next, Int.natCast_nonneg, lt_len, le_len, Int.toNat_natCast, true_and, and_true, eq_self, reduceCtorEq, decide_true, List.length_singleton, er_int, er_bool, er_str, srcR, inBlock_normal]
    refine h3 _ _ ?_
    try clear h3 K_h3
    refine T.regi hm ?_
    simp only [↓reduceIte, namesOf, List.any, I.names, aopsI, astep, ev, setd, List.set, List.getD, List.getElem?_cons_zero, List.getElem?_cons_succ, List.cons_append, List.nil_append, List.replicate, then_normal, Option.getD_some, Bool.or_false, Bool.false_eq_true, up_zero, binv, ↓opt_def, eq_self, hinc]
    refine ⟨hil, _, _, Gh.keep [5, 6, 47, 48, 49], _, i64_rng _, fun m h => ?_, hL, rfl⟩
    obtain ⟨a1, a2⟩ := hdig m h
    have a3 := hcan m h
    have a4 : m / 10 ^ (3 - i) = m / 10 ^ (2 - i) / 10 := by rw [show 3 - i = (2 - i) + 1 by omega, Nat.pow_succ, Nat.div_div_eq_div_mul]
    have a5 : m / 10 ^ (2 - i) ≤ m := Nat.div_le_self _ _
    have a6 := h.1
    rw [show 3 - (i + 1) = 2 - i by omega]
    rw [a4] at a3
    generalize m / 10 ^ (2 - i) = y at a2 a3 a5 ⊢
    rw [a3, wrap64 (n := ((y / 10 : Nat) : Int) * 10) (by omega) (by omega), wrap64 (by omega) (by omega)]
    omega
  by_cases h45 : c.toNat = 45
  · have g1 : ((c.toNat : Int) == 45) = true := by rw [h45]; rfl
    refine T.seq_k (fun K_h0 h0 => ?_)
    refine T.regi hm ?_
    simp only [↓reduceIte, namesOf, List.any, I.names, aopsI, astep, ev, setd, List.set, List.getD, List.getElem?_cons_zero, List.getElem?_cons_succ, List.length_cons, then_normal, Option.getD_some, Bool.or_false, Bool.false_eq_true, up_zero, binv, ↓opt_def, eq_self, reduceCtorEq, hsz1, hpos, hg0, Int.le_refl, and_self, g1]
    refine h0 _ _ ?_
    try clear h0 K_h0
    refine T.cond rfl (fun _ => ?_) (fun h => by cases h)
    refine T.seq_k (fun K_h0 h0 => ?_)
    refine T.regi hm ?_
    simp only [↓reduceIte, namesOf, List.any, I.names, aopsI, astep, ev, setd, List.set, List.getD, List.getElem?_cons_zero, List.getElem?_cons_succ, then_normal, Option.getD_some, Bool.or_false, Bool.false_eq_true, up_zero, Int.toNat_natCast, hsz1, idx, h1le, hcut, Int.le_refl, and_self, Int.toNat_one, Int.reduceLE]
    refine h0 _ _ ?_
    try clear h0 K_h0
    by_cases hr0 : r.length < 1
    · have g2 : decide ((r.length : Int) < 1) = true := decide_eq_true (by omega)
      have hrs : ((⟨r.toArray⟩ : ByteArray).size : Int) = (r.length : Int) := by rw [sz_mk]
      refine T.seq_k (fun K_h0 h0 => ?_)
      refine T.regi hm ?_
      simp only [↓reduceIte, namesOf, List.any, I.names, aopsI, astep, ev, setd, List.set, List.getD, List.getElem?_cons_zero, List.getElem?_cons_succ, then_normal, Option.getD_some, Bool.or_false, Bool.false_eq_true, up_zero, binv, ↓opt_def, eq_self, hrs, g2]
      refine h0 _ _ ?_
      try clear h0 K_h0
      refine T.cond rfl (fun _ => ?_) (fun h => by cases h)
      refine T.seq_k (fun K_h0 h0 => ?_)
      refine T.regi hm ?_
      simp only [↓reduceIte, namesOf, List.any, I.names, aopsI, astep, ev, setd, List.set, List.getD, List.getElem?_cons_zero, List.getElem?_cons_succ, then_normal, Option.getD_some, Bool.or_false, Bool.false_eq_true, up_zero]
      refine h0 _ _ ?_
      try clear h0 K_h0
      exact T.ret (Fin.ret rfl ⟨rfl, 0, _, ⟨by omega, by omega⟩, rfl, .inr ⟨⟨2, .inr rfl, rfl⟩, fun m h => by have := hc0 m h; omega⟩⟩)
    · have g2 : decide ((r.length : Int) < 1) = false := decide_eq_false (by omega)
      have hrs : ((⟨r.toArray⟩ : ByteArray).size : Int) = (r.length : Int) := by rw [sz_mk]
      refine T.seq_k (fun K_h0 h0 => ?_)
      refine T.regi hm ?_
      simp only [↓reduceIte, namesOf, List.any, I.names, aopsI, astep, ev, setd, List.set, List.getD, List.getElem?_cons_zero, List.getElem?_cons_succ, then_normal, Option.getD_some, Bool.or_false, Bool.false_eq_true, up_zero, binv, ↓opt_def, eq_self, hrs, g2]
      refine h0 _ _ ?_
      try clear h0 K_h0
      refine T.cond rfl (fun h => by cases h) (fun _ => T.skip ?_)
      exact nxt _ r (by omega) (fun m h => by have := hc0 m h; omega) rfl
  have g1 : ((c.toNat : Int) == 45) = false := by rw [beq_eq_false_iff_ne]; omega
  by_cases h43 : c.toNat = 43
  · have g3 : ((c.toNat : Int) == 43) = true := by rw [h43]; rfl
    refine T.seq_k (fun K_h0 h0 => ?_)
    refine T.regi hm ?_
    simp only [↓reduceIte, namesOf, List.any, I.names, aopsI, astep, ev, setd, List.set, List.getD, List.getElem?_cons_zero, List.getElem?_cons_succ, List.length_cons, then_normal, Option.getD_some, Bool.or_false, Bool.false_eq_true, up_zero, binv, ↓opt_def, eq_self, hsz1, hpos, hg0, Int.le_refl, and_self, g1, g3]
    refine h0 _ _ ?_
    try clear h0 K_h0
    refine T.cond rfl (fun _ => ?_) (fun h => by cases h)
    refine T.seq_k (fun K_h0 h0 => ?_)
    refine T.regi hm ?_
    simp only [↓reduceIte, namesOf, List.any, I.names, aopsI, astep, ev, setd, List.set, List.getD, List.getElem?_cons_zero, List.getElem?_cons_succ, then_normal, Option.getD_some, Bool.or_false, Bool.false_eq_true, up_zero, Int.toNat_natCast, hsz1, idx, h1le, hcut, Int.le_refl, and_self, Int.toNat_one, Int.reduceLE]
    refine h0 _ _ ?_
    try clear h0 K_h0
    by_cases hr0 : r.length < 1
    · have g2 : decide ((r.length : Int) < 1) = true := decide_eq_true (by omega)
      have hrs : ((⟨r.toArray⟩ : ByteArray).size : Int) = (r.length : Int) := by rw [sz_mk]
      refine T.seq_k (fun K_h0 h0 => ?_)
      refine T.regi hm ?_
      simp only [↓reduceIte, namesOf, List.any, I.names, aopsI, astep, ev, setd, List.set, List.getD, List.getElem?_cons_zero, List.getElem?_cons_succ, then_normal, Option.getD_some, Bool.or_false, Bool.false_eq_true, up_zero, binv, ↓opt_def, eq_self, hrs, g2]
      refine h0 _ _ ?_
      try clear h0 K_h0
      refine T.cond rfl (fun _ => ?_) (fun h => by cases h)
      refine T.seq_k (fun K_h0 h0 => ?_)
      refine T.regi hm ?_
      simp only [↓reduceIte, namesOf, List.any, I.names, aopsI, astep, ev, setd, List.set, List.getD, List.getElem?_cons_zero, List.getElem?_cons_succ, then_normal, Option.getD_some, Bool.or_false, Bool.false_eq_true, up_zero]
      refine h0 _ _ ?_
      try clear h0 K_h0
      exact T.ret (Fin.ret rfl ⟨rfl, 0, _, ⟨by omega, by omega⟩, rfl, .inr ⟨⟨2, .inr rfl, rfl⟩, fun m h => by have := hc0 m h; omega⟩⟩)
    · have g2 : decide ((r.length : Int) < 1) = false := decide_eq_false (by omega)
      have hrs : ((⟨r.toArray⟩ : ByteArray).size : Int) = (r.length : Int) := by rw [sz_mk]
      refine T.seq_k (fun K_h0 h0 => ?_)
      refine T.regi hm ?_
      simp only [↓reduceIte, namesOf, List.any, I.names, aopsI, astep, ev, setd, List.set, List.getD, List.getElem?_cons_zero, List.getElem?_cons_succ, then_normal, Option.getD_some, Bool.or_false, Bool.false_eq_true, up_zero, binv, ↓opt_def, eq_self, hrs, g2]
      refine h0 _ _ ?_
      try clear h0 K_h0
      refine T.cond rfl (fun h => by cases h) (fun _ => T.skip ?_)
      exact nxt _ r (by omega) (fun m h => by have := hc0 m h; omega) rfl
  have g3 : ((c.toNat : Int) == 43) = false := by rw [beq_eq_false_iff_ne]; omega
  refine T.seq_k (fun K_h0 h0 => ?_)
  refine T.regi hm ?_
  simp only [↓reduceIte, namesOf, List.any, I.names, aopsI, astep, ev, setd, List.set, List.getD, List.getElem?_cons_zero, List.getElem?_cons_succ, List.length_cons, then_normal, Option.getD_some, Bool.or_false, Bool.false_eq_true, up_zero, binv, ↓opt_def, eq_self, hsz1, hpos, hg0, Int.le_refl, and_self, g1, g3]
  refine h0 _ _ ?_
  try clear h0 K_h0
  refine T.cond rfl (fun h => by cases h) (fun _ => T.skip ?_)
  exact nxt _ (c :: r) hf.2 (fun _ _ => rfl) rfl

theorem atoi_ok {l : List UInt8} {σ : St} (hE : Errs σ) (hl : l.length ≤ 1000000000) :
    ACalls Tryz.prog n_atoi [.str ⟨l.toArray⟩] σ (fun v σ' => σ' = σ ∧ AOut t_nerr (fun _ => .any) l v) := by
  refine s_atoi (fun wf => ?_)
  unfold c_atoi
  have hsz : (⟨l.toArray⟩ : ByteArray).size ≤ 1000000000 := by rw [sz_mk]; exact hl
  refine T.seq_k (fun K_h0 h0 => ?_)
  refine T.regi hm ?_
  simp only [↓reduceIte, namesOf, List.any, I.names, aopsI, astep, ev, setd, List.set, List.cons_append, List.nil_append, List.length_cons, List.length_nil, List.replicate, then_normal, Bool.or_false, Bool.false_eq_true, up_zero, Nat.reduceAdd, Nat.reduceSub]
  refine h0 _ _ ?_
  try clear h0 K_h0
  refine T.seq_k (fun K_h1 h1 => ?_)
  refine T.regi hm ?_
  simp only [↓reduceIte, namesOf, List.any, I.names, aopsI, astep, ev, setd, List.set, List.getD, List.getElem?_cons_zero, List.getElem?_cons_succ, then_normal, Option.getD_some, Bool.or_false, Bool.false_eq_true, up_zero, ↓opt_def, List.map_cons, List.map_nil]
  refine (iatoi_ok hl).mono ?_
  rintro v σ1 ⟨rfl, k, e, hk, rfl, (⟨rfl, hc⟩ | ⟨⟨c, he, rfl⟩, hc⟩)⟩
  · have g1 : eqIv true [(tCode, .i64)] .nili .nili = some true := rfl
    try simp only [List.getElem?_cons_zero, List.getElem?_cons_succ]
    refine h1 _ _ ?_
    try clear h1 K_h1
    refine T.seq_k (fun K_h1 h1 => ?_)
    refine T.seq_k (fun K_h0 h0 => ?_)
    refine T.regi hm ?_
    simp only [↓reduceIte, namesOf, List.any, I.names, aopsI, astep, ev, setd, List.set, List.getD, List.getElem?_cons_zero, List.getElem?_cons_succ, then_normal, Option.getD_some, Bool.or_false, Bool.false_eq_true, up_zero, g1, bne_self_eq_false]
    refine h0 _ _ ?_
    try clear h0 K_h0
    refine T.cond rfl (fun h => by cases h) (fun _ => T.skip ?_)
    refine h1 _ _ ?_
    try clear h1 K_h1
    refine T.seq_k (fun K_h0 h0 => ?_)
    refine T.regi hm ?_
    simp only [↓reduceIte, namesOf, List.any, I.names, aopsI, astep, ev, setd, List.set, List.getD, List.getElem?_cons_zero, List.getElem?_cons_succ, then_normal, Option.getD_some, Bool.or_false, Bool.false_eq_true, up_zero]
    refine h0 _ _ ?_
    try clear h0 K_h0
    exact T.ret (Fin.quiet rfl ⟨trivial, trivial, trivial⟩ (fun _ _ h => h) ⟨rfl, k, _, hk, rfl, .inl ⟨rfl, hc⟩⟩)
  · have g1 : eqIv true [(tCode, .i64)] (.iface t_serr (.int .i64 c)) .nili = some false := rfl
    try simp only [List.getElem?_cons_zero, List.getElem?_cons_succ]
    refine h1 _ _ ?_
    try clear h1 K_h1
    refine T.seq_k (fun K_h1 h1 => ?_)
    refine T.seq_k (fun K_h0 h0 => ?_)
    refine T.regi hm ?_
    simp only [↓reduceIte, namesOf, List.any, I.names, aopsI, astep, ev, setd, List.set, List.getD, List.getElem?_cons_zero, List.getElem?_cons_succ, then_normal, Option.getD_some, Bool.or_false, Bool.false_eq_true, up_zero, g1, Bool.false_bne]
    refine h0 _ _ ?_
    try clear h0 K_h0
    refine T.cond rfl (fun _ => ?_) (fun h => by cases h)
    refine T.seq_k (fun K_h2 h2 => ?_)
    refine T.regi hm ?_
    simp only [↓reduceIte, namesOf, List.any, I.names, aopsI, astep, ev, setd, List.set, List.getD, List.getElem?_cons_zero, List.getElem?_cons_succ, then_normal, Option.getD_some, Bool.or_false, Bool.false_eq_true, up_zero, List.map_cons, List.map_nil]
    refine (toErr_ok hE hsz he).mono ?_
    rintro v σ2 ⟨rfl, rfl⟩
    try simp only [↓reduceIte, namesOf, List.any, I.names, aops, aopsI, aopsT, qstep, CPt, qget, Tbl.get, astep, ev, setd, List.set, List.getD, List.getElem?_cons_zero, List.getElem?_cons_succ, List.getElem?_nil, List.cons_append, List.nil_append, List.length_cons, List.length_nil, List.replicate, then_normal, inBlock_normal, Option.getD_some, Option.getD_none, Bool.or_false, Bool.or_true, Bool.true_or, Bool.false_or, Bool.false_eq_true, if_false, if_true, up_zero, Nat.reduceAdd, Nat.reduceSub, binv, ↓opt_def, AV.isAny, AV.cells, ldc, List.map_cons, List.map_nil, St.set_next, St.set_same, St.up_next, Int.natCast_nonneg, lt_len, le_len, Int.toNat_natCast, true_and, and_true, eq_self, reduceCtorEq, decide_true, List.length_singleton, er_int, er_bool, er_str, srcR, up_zero]
    refine h2 _ _ ?_
    try clear h2 K_h2
    exact T.ret (Fin.quiet rfl ⟨trivial, trivial, trivial⟩ (fun _ _ h => h) ⟨rfl, k, _, hk, rfl, .inr ⟨⟨c, he, rfl⟩, hc⟩⟩)

end Go.VL
