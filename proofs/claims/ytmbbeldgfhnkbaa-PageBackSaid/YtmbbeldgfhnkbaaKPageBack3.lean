/- Texts put together, of these what the theorem needs: The compiled code of functions of this seat. MADE BY PROGRAM (mkc.py). Contracts: small things. Contracts: numbers as bytes. PLAIN LAW: a checksum by a table is the checksum bit by bit. Contracts: checksums. Contracts: the checksum by a table. Contracts: sealing. Contracts: sealed bytes opened. Contracts: an index's bytes. Contracts: readers. A reader is an owned row of three: bytes, how far, where amiss. Contracts: small things that are used often; an error's number. States that are alike but for new names; a named end among them; arithmetic of words. Contracts: readers, told as functions. Code run at given values: what is told of some calls. The value logic: a slice that is appended to, again and again. The compiled code of functions of this seat. MADE BY PROGRAM (mkc.py). Contracts: a store's small parts. Contracts: what is done with a store. The compiled code of functions of this seat. MADE BY PROGRAM (mkc.py). Contracts: spans and traces that are few; what may be. -/
import Derived.Test.YtmbbeldgfhnkbaaKPageBack2
import Derived.Test.YtmbbeldgfhnkbaaChecked

set_option linter.unusedSimpArgs false
set_option linter.unusedVariables false

namespace Go.VL

open Go.Proofs

/-- the type of errors -/
abbrev tCode : Nat := 31

abbrev ann : Ann := { errs := [(31, .i64)] }

/-- the type of errors with a place -/
abbrev tSpot : Nat := 173

abbrev n_right : Nat := 112

def c_right : C := (.seq (.reg [⟨(some 2), (.mv (.c (.bool false))), none⟩]) (.seq (.reg [⟨(some 3), (.mv (.t 0)), none⟩, ⟨(some 4), (.bin .eql .i64 (.t 3) (.c (.int .i64 1))), none⟩, ⟨(some 5), (.mv (.t 4)), none⟩, ⟨(some 6), (.mv (.t 0)), (some (5, false))⟩, ⟨(some 7), (.bin .eql .i64 (.t 6) (.c (.int .i64 2))), (some (5, false))⟩, ⟨(some 8), (.pick (.t 5) (.c (.bool true)) (.t 7)), none⟩, ⟨(some 9), (.mv (.t 8)), none⟩, ⟨(some 10), (.mv (.t 0)), (some (9, false))⟩, ⟨(some 11), (.bin .eql .i64 (.t 10) (.c (.int .i64 4))), (some (9, false))⟩, ⟨(some 12), (.pick (.t 9) (.c (.bool true)) (.t 11)), none⟩, ⟨(some 13), (.mv (.t 12)), none⟩, ⟨(some 14), (.mv (.t 0)), (some (13, false))⟩, ⟨(some 15), (.bin .eql .i64 (.t 14) (.c (.int .i64 8))), (some (13, false))⟩, ⟨(some 16), (.pick (.t 13) (.c (.bool true)) (.t 15)), none⟩, ⟨(some 2), (.mv (.t 16)), none⟩]) .ret))

set_option maxRecDepth 100000 in
theorem k_right : compileC Try.prog ann (Try.f112.body.getD .skip) = some c_right := by kernel_rfl

theorem s_right {args : List AV} {σ : St} {K : AV → St → Prop} (h : WF σ → T Try.prog ann c_right (Fin σ [(.t 2)] K) (args ++ List.replicate (17 - args.length) (.tup [])) σ) : ACalls Try.prog n_right args σ K :=
  calls_ok Try.func112 (by kernel_rfl) (by kernel_rfl) k_right (by kernel_rfl) (by kernel_rfl) h

abbrev n_wput : Nat := 66

def c_wput : C := (.seq (.reg [⟨(some 6), (.mv (.c (.sl [] .nil))), none⟩, ⟨(some 7), (.mv (.c .nili)), none⟩]) (.seq (.seq (.reg [⟨(some 10), (.mv (.t 1)), none⟩, ⟨(some 11), (.call 112 [(.t 10)]), none⟩, ⟨(some 12), (.not (.t 11)), none⟩, ⟨(some 13), (.mv (.t 12)), none⟩, ⟨(some 14), (.mv (.t 1)), (some (13, false))⟩, ⟨(some 15), (.bin .lss .i64 (.t 14) (.c (.int .i64 8))), (some (13, false))⟩, ⟨(some 16), (.mv (.t 15)), (some (13, false))⟩, ⟨(some 17), (.mv (.t 2)), (some (16, true))⟩, ⟨(some 18), (.mv (.t 1)), (some (16, true))⟩, ⟨(some 19), (.bin .mul .i64 (.c (.int .i64 8)) (.t 18)), (some (16, true))⟩, ⟨(some 20), (.bin .shr .u64 (.t 17) (.t 19)), (some (16, true))⟩, ⟨(some 21), (.bin .neq .u64 (.t 20) (.c (.int .u64 0))), (some (16, true))⟩, ⟨(some 22), (.pick (.t 16) (.t 21) (.c (.bool false))), (some (13, false))⟩, ⟨(some 23), (.pick (.t 13) (.c (.bool true)) (.t 22)), none⟩]) (.cond (.t 23) (.seq (.reg [⟨(some 24), (.mkI 31 (.c (.int .i64 1))), none⟩, ⟨(some 6), (.mv (.c (.sl [] .nil))), none⟩, ⟨(some 7), (.mv (.t 24)), none⟩]) .ret) .skip)) (.seq (.reg [⟨(some 25), (.bslice 1 .tip []), none⟩, ⟨(some 26), (.mv (.t 0)), none⟩, ⟨(some 27), (.app 1 1 .tip (.t 25) (.t 26)), none⟩, ⟨(some 8), (.mv (.t 27)), none⟩]) (.seq (.seq (.reg [⟨(some 28), (.mv (.t 1)), none⟩, ⟨(some 29), (.bin .sub .i64 (.t 28) (.c (.int .i64 1))), none⟩, ⟨(some 9), (.mv (.t 29)), none⟩]) (.block 0 (.loop (.seq (.seq (.reg [⟨(some 30), (.mv (.t 9)), none⟩, ⟨(some 31), (.bin .geq .i64 (.t 30) (.c (.int .i64 0))), none⟩]) (.cond (.t 31) .skip (.exit 0))) (.seq (.block 1 (.reg [⟨(some 34), (.mv (.t 8)), none⟩, ⟨(some 35), (.mv (.t 2)), none⟩, ⟨(some 36), (.mv (.t 9)), none⟩, ⟨(some 37), (.bin .mul .i64 (.c (.int .i64 8)) (.t 36)), none⟩, ⟨(some 38), (.bin .shr .u64 (.t 35) (.t 37)), none⟩, ⟨(some 39), (.conv .u8 (.t 38)), none⟩, ⟨(some 40), (.bslice 1 .val [(.t 39)]), none⟩, ⟨(some 41), (.app 1 1 .tip (.t 34) (.t 40)), none⟩, ⟨(some 8), (.mv (.t 41)), none⟩])) (.reg [⟨(some 32), (.mv (.t 9)), none⟩, ⟨(some 33), (.bin .sub .i64 (.t 32) (.c (.int .i64 1))), none⟩, ⟨(some 9), (.mv (.t 33)), none⟩])))))) (.seq (.reg [⟨(some 42), (.mv (.t 8)), none⟩, ⟨(some 6), (.mv (.t 42)), none⟩, ⟨(some 7), (.mv (.c .nili)), none⟩]) .ret)))))

set_option maxRecDepth 100000 in
theorem k_wput : compileC Try.prog ann (Try.f66.body.getD .skip) = some c_wput := by kernel_rfl

theorem s_wput {args : List AV} {σ : St} {K : AV → St → Prop} (h : WF σ → T Try.prog ann c_wput (Fin σ [(.t 6), (.t 7)] K) (args ++ List.replicate (43 - args.length) (.tup [])) σ) : ACalls Try.prog n_wput args σ K :=
  calls_ok Try.func66 (by kernel_rfl) (by kernel_rfl) k_wput (by kernel_rfl) (by kernel_rfl) h

abbrev n_step : Nat := 168

def c_step : C := (.seq (.reg [⟨(some 2), (.mv (.c (.int .u32 0))), none⟩]) (.seq (.seq (.reg [⟨(some 4), (.mv (.c (.int .i64 0))), none⟩]) (.block 0 (.loop (.seq (.reg [⟨(some 5), (.bin .lss .i64 (.t 4) (.c (.int .i64 8))), none⟩]) (.seq (.cond (.t 5) .skip (.exit 0)) (.seq (.block 1 (.seq (.reg [⟨(some 6), (.mv (.t 0)), none⟩, ⟨(some 7), (.bin .and .u32 (.t 6) (.c (.int .u32 1))), none⟩, ⟨(some 3), (.mv (.t 7)), none⟩]) (.seq (.reg [⟨(some 8), (.mv (.t 0)), none⟩, ⟨(some 9), (.bin .shr .u32 (.t 8) (.c (.int .u64 1))), none⟩, ⟨(some 0), (.mv (.t 9)), none⟩]) (.seq (.reg [⟨(some 10), (.mv (.t 3)), none⟩, ⟨(some 11), (.bin .eql .u32 (.t 10) (.c (.int .u32 1))), none⟩]) (.cond (.t 11) (.reg [⟨(some 12), (.mv (.t 0)), none⟩, ⟨(some 13), (.bin .xor .u32 (.t 12) (.c (.int .u32 3988292384))), none⟩, ⟨(some 0), (.mv (.t 13)), none⟩]) .skip))))) (.reg [⟨(some 14), (.bin .add .i64 (.t 4) (.c (.int .i64 1))), none⟩, ⟨(some 4), (.mv (.t 14)), none⟩]))))))) (.seq (.reg [⟨(some 15), (.mv (.t 0)), none⟩, ⟨(some 2), (.mv (.t 15)), none⟩]) .ret)))

set_option maxRecDepth 100000 in
theorem k_step : compileC Try.prog ann (Try.f168.body.getD .skip) = some c_step := by kernel_rfl

theorem s_step {args : List AV} {σ : St} {K : AV → St → Prop} (h : WF σ → T Try.prog ann c_step (Fin σ [(.t 2)] K) (args ++ List.replicate (16 - args.length) (.tup [])) σ) : ACalls Try.prog n_step args σ K :=
  calls_ok Try.func168 (by kernel_rfl) (by kernel_rfl) k_step (by kernel_rfl) (by kernel_rfl) h

abbrev n_con : Nat := 150

def c_con : C := (.seq (.reg [⟨(some 4), (.mv (.c (.int .u32 0))), none⟩]) (.seq (.reg [⟨(some 5), (.alloc (zeros 256 (.int .u32 0))), none⟩]) (.seq (.seq (.reg [⟨(some 10), (.mv (.c (.int .i64 0))), none⟩]) (.block 0 (.loop (.seq (.reg [⟨(some 11), (.bin .lss .i64 (.t 10) (.c (.int .i64 256))), none⟩]) (.seq (.cond (.t 11) .skip (.exit 0)) (.seq (.block 1 (.seq (.reg [⟨(some 12), (.mv (.t 10)), none⟩, ⟨(some 6), (.mv (.t 12)), none⟩]) (.reg [⟨(some 13), (.mv (.t 6)), none⟩, ⟨(some 14), (.mv (.t 6)), none⟩, ⟨(some 15), (.conv .u32 (.t 14)), none⟩, ⟨(some 16), (.call 168 [(.t 15)]), none⟩, ⟨(some 17), (.iaddrA 256 1 (.t 5) (.t 13)), none⟩, ⟨none, (.store 1 (.t 17) (.t 16)), none⟩]))) (.reg [⟨(some 18), (.bin .add .i64 (.t 10) (.c (.int .i64 1))), none⟩, ⟨(some 10), (.mv (.t 18)), none⟩]))))))) (.seq (.reg [⟨(some 19), (.mv (.t 0)), none⟩, ⟨(some 20), (.un .xor .u32 (.t 19)), none⟩, ⟨(some 7), (.mv (.t 20)), none⟩]) (.seq (.seq (.reg [⟨(some 21), (.mv (.t 1)), none⟩, ⟨(some 22), (.len (.t 21)), none⟩, ⟨(some 23), (.mv (.c (.int .i64 0))), none⟩]) (.block 2 (.loop (.seq (.reg [⟨(some 24), (.bin .lss .i64 (.t 23) (.t 22)), none⟩]) (.seq (.cond (.t 24) .skip (.exit 2)) (.seq (.block 3 (.seq (.reg [⟨(some 25), (.iaddr 1 (.t 21) (.t 23)), none⟩, ⟨(some 26), (.load none (.t 25)), none⟩, ⟨(some 9), (.mv (.t 26)), none⟩]) (.reg [⟨(some 27), (.mv (.t 7)), none⟩, ⟨(some 28), (.bin .shr .u32 (.t 27) (.c (.int .u64 8))), none⟩, ⟨(some 29), (.mv (.t 7)), none⟩, ⟨(some 30), (.conv .u8 (.t 29)), none⟩, ⟨(some 31), (.mv (.t 9)), none⟩, ⟨(some 32), (.bin .xor .u8 (.t 30) (.t 31)), none⟩, ⟨(some 33), (.iaddrA 256 1 (.t 5) (.t 32)), none⟩, ⟨(some 34), (.load none (.t 33)), none⟩, ⟨(some 35), (.bin .xor .u32 (.t 28) (.t 34)), none⟩, ⟨(some 7), (.mv (.t 35)), none⟩]))) (.reg [⟨(some 36), (.bin .add .i64 (.t 23) (.c (.int .i64 1))), none⟩, ⟨(some 23), (.mv (.t 36)), none⟩]))))))) (.seq (.reg [⟨(some 37), (.mv (.t 7)), none⟩, ⟨(some 38), (.un .xor .u32 (.t 37)), none⟩, ⟨(some 4), (.mv (.t 38)), none⟩]) .ret))))))

set_option maxRecDepth 100000 in
theorem k_con : compileC Try.prog ann (Try.f150.body.getD .skip) = some c_con := by kernel_rfl

theorem s_con {args : List AV} {σ : St} {K : AV → St → Prop} (h : WF σ → T Try.prog ann c_con (Fin σ [(.t 4)] K) (args ++ List.replicate (39 - args.length) (.tup [])) σ) : ACalls Try.prog n_con args σ K :=
  calls_ok Try.func150 (by kernel_rfl) (by kernel_rfl) k_con (by kernel_rfl) (by kernel_rfl) h

abbrev n_csum : Nat := 113

def c_csum : C := (.seq (.reg [⟨(some 2), (.mv (.c (.int .u32 0))), none⟩]) (.seq (.reg [⟨(some 3), (.mv (.t 0)), none⟩, ⟨(some 4), (.call 150 [(.c (.int .u32 0)), (.t 3)]), none⟩, ⟨(some 2), (.mv (.t 4)), none⟩]) .ret))

set_option maxRecDepth 100000 in
theorem k_csum : compileC Try.prog ann (Try.f113.body.getD .skip) = some c_csum := by kernel_rfl

theorem s_csum {args : List AV} {σ : St} {K : AV → St → Prop} (h : WF σ → T Try.prog ann c_csum (Fin σ [(.t 2)] K) (args ++ List.replicate (5 - args.length) (.tup [])) σ) : ACalls Try.prog n_csum args σ K :=
  calls_ok Try.func113 (by kernel_rfl) (by kernel_rfl) k_csum (by kernel_rfl) (by kernel_rfl) h

abbrev n_cseal : Nat := 67

def c_cseal : C := (.seq (.reg [⟨(some 2), (.mv (.c (.sl [] .nil))), none⟩]) (.seq (.reg [⟨(some 6), (.mv (.t 0)), none⟩, ⟨(some 7), (.mv (.t 0)), none⟩, ⟨(some 8), (.call 113 [(.t 7)]), none⟩, ⟨(some 9), (.conv .u64 (.t 8)), none⟩, ⟨(some 10), (.call 66 [(.t 6), (.c (.int .i64 4)), (.t 9)]), none⟩, ⟨(some 5), (.mv (.t 10)), none⟩, ⟨(some 11), (.ext (.t 5) 0), none⟩, ⟨(some 12), (.ext (.t 5) 1), none⟩, ⟨(some 3), (.mv (.t 11)), none⟩, ⟨(some 4), (.mv (.t 12)), none⟩]) (.seq (.seq (.reg [⟨(some 13), (.mv (.t 4)), none⟩, ⟨(some 14), (.eqI true true [(31, .i64)] (.t 13) (.c .nili)), none⟩]) (.cond (.t 14) (.seq (.reg [⟨(some 2), (.mv (.c (.sl [] .nil))), none⟩]) .ret) .skip)) (.seq (.reg [⟨(some 15), (.mv (.t 3)), none⟩, ⟨(some 2), (.mv (.t 15)), none⟩]) .ret))))

set_option maxRecDepth 100000 in
theorem k_cseal : compileC Try.prog ann (Try.f67.body.getD .skip) = some c_cseal := by kernel_rfl

theorem s_cseal {args : List AV} {σ : St} {K : AV → St → Prop} (h : WF σ → T Try.prog ann c_cseal (Fin σ [(.t 2)] K) (args ++ List.replicate (16 - args.length) (.tup [])) σ) : ACalls Try.prog n_cseal args σ K :=
  calls_ok Try.func67 (by kernel_rfl) (by kernel_rfl) k_cseal (by kernel_rfl) (by kernel_rfl) h

abbrev n_copen : Nat := 68

def c_copen : C := (.seq (.reg [⟨(some 2), (.mv (.c (.sl [] .nil))), none⟩, ⟨(some 3), (.mv (.c .nili)), none⟩]) (.seq (.reg [⟨(some 5), (.mv (.t 0)), none⟩, ⟨(some 6), (.len (.t 5)), none⟩, ⟨(some 7), (.bin .sub .i64 (.t 6) (.c (.int .i64 4))), none⟩, ⟨(some 4), (.mv (.t 7)), none⟩]) (.seq (.block 0 (.seq (.reg [⟨(some 9), (.mv (.t 4)), none⟩, ⟨(some 10), (.bin .lss .i64 (.t 9) (.c (.int .i64 0))), none⟩, ⟨(some 8), (.mv (.t 10)), none⟩]) (.cond (.t 8) (.seq (.reg [⟨(some 11), (.mkI 31 (.c (.int .i64 2))), none⟩, ⟨(some 2), (.mv (.c (.sl [] .nil))), none⟩, ⟨(some 3), (.mv (.t 11)), none⟩]) .ret) (.seq (.reg [⟨(some 13), (.mv (.t 0)), none⟩, ⟨(some 14), (.mv (.t 0)), none⟩, ⟨(some 15), (.mv (.t 4)), none⟩, ⟨(some 16), (.slice 1 (.t 14) none (some (.t 15))), none⟩, ⟨(some 17), (.call 67 [(.t 16)]), none⟩, ⟨(some 18), (.call 114 [(.t 13), (.t 17)]), none⟩, ⟨(some 19), (.not (.t 18)), none⟩, ⟨(some 12), (.mv (.t 19)), none⟩]) (.cond (.t 12) (.seq (.reg [⟨(some 20), (.mkI 31 (.c (.int .i64 7))), none⟩, ⟨(some 2), (.mv (.c (.sl [] .nil))), none⟩, ⟨(some 3), (.mv (.t 20)), none⟩]) .ret) .skip))))) (.seq (.reg [⟨(some 21), (.bslice 1 .tip []), none⟩, ⟨(some 22), (.mv (.t 0)), none⟩, ⟨(some 23), (.mv (.t 4)), none⟩, ⟨(some 24), (.slice 1 (.t 22) none (some (.t 23))), none⟩, ⟨(some 25), (.app 1 1 .tip (.t 21) (.t 24)), none⟩, ⟨(some 2), (.mv (.t 25)), none⟩, ⟨(some 3), (.mv (.c .nili)), none⟩]) .ret))))

set_option maxRecDepth 100000 in
theorem k_copen : compileC Try.prog ann (Try.f68.body.getD .skip) = some c_copen := by kernel_rfl

theorem s_copen {args : List AV} {σ : St} {K : AV → St → Prop} (h : WF σ → T Try.prog ann c_copen (Fin σ [(.t 2), (.t 3)] K) (args ++ List.replicate (26 - args.length) (.tup [])) σ) : ACalls Try.prog n_copen args σ K :=
  calls_ok Try.func68 (by kernel_rfl) (by kernel_rfl) k_copen (by kernel_rfl) (by kernel_rfl) h

abbrev n_bequal : Nat := 114

def c_bequal : C := (.seq (.reg [⟨(some 4), (.mv (.c (.bool false))), none⟩]) (.seq (.reg [⟨(some 5), (.mv (.t 0)), none⟩, ⟨(some 6), (.convBS (.t 5)), none⟩, ⟨(some 7), (.mv (.t 1)), none⟩, ⟨(some 8), (.convBS (.t 7)), none⟩, ⟨(some 9), (.sbin .eql (.t 6) (.t 8)), none⟩, ⟨(some 4), (.mv (.t 9)), none⟩]) .ret))

set_option maxRecDepth 100000 in
theorem k_bequal : compileC Try.prog ann (Try.f114.body.getD .skip) = some c_bequal := by kernel_rfl

theorem s_bequal {args : List AV} {σ : St} {K : AV → St → Prop} (h : WF σ → T Try.prog ann c_bequal (Fin σ [(.t 4)] K) (args ++ List.replicate (10 - args.length) (.tup [])) σ) : ACalls Try.prog n_bequal args σ K :=
  calls_ok Try.func114 (by kernel_rfl) (by kernel_rfl) k_bequal (by kernel_rfl) (by kernel_rfl) h

abbrev n_wread : Nat := 69

def c_wread : C := (.seq (.reg [⟨(some 2), (.mv (.c .nilp)), none⟩]) (.seq (.reg [⟨(some 3), (.mv (.t 0)), none⟩, ⟨(some 4), (.build [(.sl [] .nil), (.int .i64 0), (.int .i64 0)] [(0, (1, (.t 3))), (2, (1, (.c (.int .i64 (-1)))))]), none⟩, ⟨(some 5), (.box (.t 4)), none⟩, ⟨(some 2), (.mv (.t 5)), none⟩]) .ret))

set_option maxRecDepth 100000 in
theorem k_wread : compileC Try.prog ann (Try.f69.body.getD .skip) = some c_wread := by kernel_rfl

theorem s_wread {args : List AV} {σ : St} {K : AV → St → Prop} (h : WF σ → T Try.prog ann c_wread (Fin σ [(.t 2)] K) (args ++ List.replicate (6 - args.length) (.tup [])) σ) : ACalls Try.prog n_wread args σ K :=
  calls_ok Try.func69 (by kernel_rfl) (by kernel_rfl) k_wread (by kernel_rfl) (by kernel_rfl) h

abbrev n_wword : Nat := 70

def c_wword : C := (.seq (.reg [⟨(some 4), (.mv (.c (.int .u64 0))), none⟩]) (.seq (.seq (.reg [⟨(some 8), (.mv (.t 1)), none⟩, ⟨(some 9), (.call 112 [(.t 8)]), none⟩, ⟨(some 10), (.not (.t 9)), none⟩]) (.cond (.t 10) (.seq (.reg [⟨(some 11), (.mv (.t 0)), none⟩, ⟨(some 12), (.mv (.t 0)), none⟩, ⟨(some 13), (.nilCheck (.t 12)), none⟩, ⟨(some 14), (.faddr 1 (.t 13)), none⟩, ⟨(some 15), (.load none (.t 14)), none⟩, ⟨(some 16), (.call 115 [(.t 11), (.t 15)]), none⟩]) (.seq (.reg [⟨(some 4), (.mv (.c (.int .u64 0))), none⟩]) .ret)) .skip)) (.seq (.reg [⟨(some 5), (.mv (.c (.int .u64 0))), none⟩]) (.seq (.seq (.reg [⟨(some 17), (.mv (.t 0)), none⟩, ⟨(some 18), (.mv (.t 1)), none⟩, ⟨(some 19), (.call 116 [(.t 17), (.t 18)]), none⟩, ⟨(some 20), (.len (.t 19)), none⟩, ⟨(some 21), (.mv (.c (.int .i64 0))), none⟩]) (.block 0 (.loop (.seq (.reg [⟨(some 22), (.bin .lss .i64 (.t 21) (.t 20)), none⟩]) (.seq (.cond (.t 22) .skip (.exit 0)) (.seq (.block 1 (.seq (.reg [⟨(some 23), (.iaddr 1 (.t 19) (.t 21)), none⟩, ⟨(some 24), (.load none (.t 23)), none⟩, ⟨(some 7), (.mv (.t 24)), none⟩]) (.reg [⟨(some 25), (.mv (.t 5)), none⟩, ⟨(some 26), (.bin .shl .u64 (.t 25) (.c (.int .u64 8))), none⟩, ⟨(some 27), (.mv (.t 7)), none⟩, ⟨(some 28), (.conv .u64 (.t 27)), none⟩, ⟨(some 29), (.bin .or .u64 (.t 26) (.t 28)), none⟩, ⟨(some 5), (.mv (.t 29)), none⟩]))) (.reg [⟨(some 30), (.bin .add .i64 (.t 21) (.c (.int .i64 1))), none⟩, ⟨(some 21), (.mv (.t 30)), none⟩]))))))) (.seq (.reg [⟨(some 31), (.mv (.t 5)), none⟩, ⟨(some 4), (.mv (.t 31)), none⟩]) .ret)))))

set_option maxRecDepth 100000 in
theorem k_wword : compileC Try.prog ann (Try.f70.body.getD .skip) = some c_wword := by kernel_rfl

theorem s_wword {args : List AV} {σ : St} {K : AV → St → Prop} (h : WF σ → T Try.prog ann c_wword (Fin σ [(.t 4)] K) (args ++ List.replicate (32 - args.length) (.tup [])) σ) : ACalls Try.prog n_wword args σ K :=
  calls_ok Try.func70 (by kernel_rfl) (by kernel_rfl) k_wword (by kernel_rfl) (by kernel_rfl) h

abbrev n_wtake : Nat := 116

def c_wtake : C := (.seq (.reg [⟨(some 4), (.mv (.c (.sl [] .nil))), none⟩]) (.seq (.seq (.reg [⟨(some 5), (.mv (.t 0)), none⟩, ⟨(some 6), (.nilCheck (.t 5)), none⟩, ⟨(some 7), (.faddr 2 (.t 6)), none⟩, ⟨(some 8), (.load none (.t 7)), none⟩, ⟨(some 9), (.bin .neq .i64 (.t 8) (.c (.int .i64 (-1)))), none⟩, ⟨(some 10), (.mv (.t 9)), none⟩, ⟨(some 11), (.mv (.t 1)), (some (10, false))⟩, ⟨(some 12), (.mv (.t 0)), (some (10, false))⟩, ⟨(some 13), (.nilCheck (.t 12)), (some (10, false))⟩, ⟨(some 14), (.faddr 0 (.t 13)), (some (10, false))⟩, ⟨(some 15), (.load none (.t 14)), (some (10, false))⟩, ⟨(some 16), (.len (.t 15)), (some (10, false))⟩, ⟨(some 17), (.mv (.t 0)), (some (10, false))⟩, ⟨(some 18), (.nilCheck (.t 17)), (some (10, false))⟩, ⟨(some 19), (.faddr 1 (.t 18)), (some (10, false))⟩, ⟨(some 20), (.load none (.t 19)), (some (10, false))⟩, ⟨(some 21), (.bin .sub .i64 (.t 16) (.t 20)), (some (10, false))⟩, ⟨(some 22), (.bin .gtr .i64 (.t 11) (.t 21)), (some (10, false))⟩, ⟨(some 23), (.pick (.t 10) (.c (.bool true)) (.t 22)), none⟩]) (.cond (.t 23) (.seq (.reg [⟨(some 24), (.mv (.t 0)), none⟩, ⟨(some 25), (.mv (.t 0)), none⟩, ⟨(some 26), (.nilCheck (.t 25)), none⟩, ⟨(some 27), (.faddr 1 (.t 26)), none⟩, ⟨(some 28), (.load none (.t 27)), none⟩, ⟨(some 29), (.call 115 [(.t 24), (.t 28)]), none⟩]) (.seq (.reg [⟨(some 4), (.mv (.c (.sl [] .nil))), none⟩]) .ret)) .skip)) (.seq (.reg [⟨(some 30), (.mv (.t 0)), none⟩, ⟨(some 31), (.nilCheck (.t 30)), none⟩, ⟨(some 32), (.faddr 1 (.t 31)), none⟩, ⟨(some 33), (.load none (.t 32)), none⟩, ⟨(some 34), (.mv (.t 1)), none⟩, ⟨(some 35), (.bin .add .i64 (.t 33) (.t 34)), none⟩, ⟨(some 36), (.nilCheck (.t 30)), none⟩, ⟨(some 37), (.faddr 1 (.t 36)), none⟩, ⟨none, (.store 1 (.t 37) (.t 35)), none⟩]) (.seq (.reg [⟨(some 38), (.mv (.t 0)), none⟩, ⟨(some 39), (.nilCheck (.t 38)), none⟩, ⟨(some 40), (.faddr 0 (.t 39)), none⟩, ⟨(some 41), (.load none (.t 40)), none⟩, ⟨(some 42), (.mv (.t 0)), none⟩, ⟨(some 43), (.nilCheck (.t 42)), none⟩, ⟨(some 44), (.faddr 1 (.t 43)), none⟩, ⟨(some 45), (.load none (.t 44)), none⟩, ⟨(some 46), (.mv (.t 1)), none⟩, ⟨(some 47), (.bin .sub .i64 (.t 45) (.t 46)), none⟩, ⟨(some 48), (.mv (.t 0)), none⟩, ⟨(some 49), (.nilCheck (.t 48)), none⟩, ⟨(some 50), (.faddr 1 (.t 49)), none⟩, ⟨(some 51), (.load none (.t 50)), none⟩, ⟨(some 52), (.slice 1 (.t 41) (some (.t 47)) (some (.t 51))), none⟩, ⟨(some 4), (.mv (.t 52)), none⟩]) .ret))))

set_option maxRecDepth 100000 in
theorem k_wtake : compileC Try.prog ann (Try.f116.body.getD .skip) = some c_wtake := by kernel_rfl

theorem s_wtake {args : List AV} {σ : St} {K : AV → St → Prop} (h : WF σ → T Try.prog ann c_wtake (Fin σ [(.t 4)] K) (args ++ List.replicate (53 - args.length) (.tup [])) σ) : ACalls Try.prog n_wtake args σ K :=
  calls_ok Try.func116 (by kernel_rfl) (by kernel_rfl) k_wtake (by kernel_rfl) (by kernel_rfl) h

abbrev n_wfail : Nat := 115

def c_wfail : C := (.seq (.reg [⟨(some 4), (.mv (.t 0)), none⟩, ⟨(some 5), (.nilCheck (.t 4)), none⟩, ⟨(some 6), (.faddr 2 (.t 5)), none⟩, ⟨(some 7), (.load none (.t 6)), none⟩, ⟨(some 8), (.bin .eql .i64 (.t 7) (.c (.int .i64 (-1)))), none⟩]) (.cond (.t 8) (.reg [⟨(some 9), (.mv (.t 0)), none⟩, ⟨(some 10), (.mv (.t 1)), none⟩, ⟨(some 11), (.nilCheck (.t 9)), none⟩, ⟨(some 12), (.faddr 2 (.t 11)), none⟩, ⟨none, (.store 1 (.t 12) (.t 10)), none⟩]) .skip))

set_option maxRecDepth 100000 in
theorem k_wfail : compileC Try.prog ann (Try.f115.body.getD .skip) = some c_wfail := by kernel_rfl

theorem s_wfail {args : List AV} {σ : St} {K : AV → St → Prop} (h : WF σ → T Try.prog ann c_wfail (Fin σ [] K) (args ++ List.replicate (13 - args.length) (.tup [])) σ) : ACalls Try.prog n_wfail args σ K :=
  calls_ok Try.func115 (by kernel_rfl) (by kernel_rfl) k_wfail (by kernel_rfl) (by kernel_rfl) h

abbrev n_wleft : Nat := 72

def c_wleft : C := (.seq (.reg [⟨(some 2), (.mv (.c (.int .i64 0))), none⟩]) (.seq (.reg [⟨(some 3), (.mv (.t 0)), none⟩, ⟨(some 4), (.nilCheck (.t 3)), none⟩, ⟨(some 5), (.faddr 0 (.t 4)), none⟩, ⟨(some 6), (.load none (.t 5)), none⟩, ⟨(some 7), (.len (.t 6)), none⟩, ⟨(some 8), (.mv (.t 0)), none⟩, ⟨(some 9), (.nilCheck (.t 8)), none⟩, ⟨(some 10), (.faddr 1 (.t 9)), none⟩, ⟨(some 11), (.load none (.t 10)), none⟩, ⟨(some 12), (.bin .sub .i64 (.t 7) (.t 11)), none⟩, ⟨(some 2), (.mv (.t 12)), none⟩]) .ret))

set_option maxRecDepth 100000 in
theorem k_wleft : compileC Try.prog ann (Try.f72.body.getD .skip) = some c_wleft := by kernel_rfl

theorem s_wleft {args : List AV} {σ : St} {K : AV → St → Prop} (h : WF σ → T Try.prog ann c_wleft (Fin σ [(.t 2)] K) (args ++ List.replicate (13 - args.length) (.tup [])) σ) : ACalls Try.prog n_wleft args σ K :=
  calls_ok Try.func72 (by kernel_rfl) (by kernel_rfl) k_wleft (by kernel_rfl) (by kernel_rfl) h

abbrev n_wbad : Nat := 71

def c_wbad : C := (.seq (.reg [⟨(some 2), (.mv (.c (.int .i64 0))), none⟩]) (.seq (.reg [⟨(some 3), (.mv (.t 0)), none⟩, ⟨(some 4), (.nilCheck (.t 3)), none⟩, ⟨(some 5), (.faddr 2 (.t 4)), none⟩, ⟨(some 6), (.load none (.t 5)), none⟩, ⟨(some 2), (.mv (.t 6)), none⟩]) .ret))

set_option maxRecDepth 100000 in
theorem k_wbad : compileC Try.prog ann (Try.f71.body.getD .skip) = some c_wbad := by kernel_rfl

theorem s_wbad {args : List AV} {σ : St} {K : AV → St → Prop} (h : WF σ → T Try.prog ann c_wbad (Fin σ [(.t 2)] K) (args ++ List.replicate (7 - args.length) (.tup [])) σ) : ACalls Try.prog n_wbad args σ K :=
  calls_ok Try.func71 (by kernel_rfl) (by kernel_rfl) k_wbad (by kernel_rfl) (by kernel_rfl) h

end Go.VL

namespace Go.VL

open Go.Proofs

theorem hm : Try.prog.follows .mixedOrders = true := by kernel_rfl

def nums (k : IntKind) (l : List Int) : List AV := l.map (.int k)

theorem nums_len (k : IntKind) (l : List Int) : (nums k l).length = l.length := by simp [nums]

theorem nums_get (k : IntKind) {l : List Int} {i : Nat} (h : i < l.length) : (nums k l)[i]? = some (.int k l[i]) := by simp [nums, h]

theorem wrap64 {n : Int} (h0 : -9223372036854775808 ≤ n) (h1 : n < 9223372036854775808) : IntKind.i64.wrap n = n := by
  simp [IntKind.wrap, IntKind.bits, IntKind.signed]; omega

def rightB (w : Int) : Bool := decide (w = 1 ∨ w = 2 ∨ w = 4 ∨ w = 8)

theorem right_ok {w : Int} {σ : St} : ACalls Try.prog n_right [.int .i64 w] σ (fun v σ' => v = .bool (rightB w) ∧ σ' = σ) := by
  refine s_right (fun wf => ?_)
  unfold c_right
  refine T.seq_k (fun K_h1 h1 => ?_)
  refine T.regi hm ?_
  simp only [↓reduceIte, namesOf, List.any, I.names, aops, aopsI, aopsT, qstep, CPt, qget, Tbl.get, astep, ev, setd, List.set, List.getD, List.getElem?_cons_zero, List.getElem?_cons_succ, List.getElem?_nil, List.cons_append, List.nil_append, List.length_cons, List.length_nil, List.replicate, then_normal, inBlock_normal, Option.getD_some, Option.getD_none, Bool.or_false, Bool.or_true, Bool.true_or, Bool.false_or, Bool.false_eq_true, if_false, if_true, up_zero, Nat.reduceAdd, Nat.reduceSub, binv, ↓opt_def, AV.isAny, AV.cells, ldc, List.map_cons, List.map_nil, St.set_next, St.set_same, St.up_next, Int.natCast_nonneg, lt_len, le_len, Int.toNat_natCast, true_and, and_true, eq_self, reduceCtorEq, decide_true, List.length_singleton, er_int, er_bool, er_str]
  refine h1 _ _ ?_
  try clear h1 K_h1
  refine T.seq_k (fun K_h1 h1 => ?_)
  by_cases w1 : w = 1
  · subst w1
    refine T.regi hm ?_
    simp only [↓reduceIte, namesOf, List.any, I.names, aops, aopsI, aopsT, qstep, CPt, qget, Tbl.get, astep, ev, setd, List.set, List.getD, List.getElem?_cons_zero, List.getElem?_cons_succ, List.getElem?_nil, List.cons_append, List.nil_append, List.length_cons, List.length_nil, List.replicate, then_normal, inBlock_normal, Option.getD_some, Option.getD_none, Bool.or_false, Bool.or_true, Bool.true_or, Bool.false_or, Bool.false_eq_true, if_false, if_true, up_zero, Nat.reduceAdd, Nat.reduceSub, binv, ↓opt_def, AV.isAny, AV.cells, ldc, List.map_cons, List.map_nil, St.set_next, St.set_same, St.up_next, Int.natCast_nonneg, lt_len, le_len, Int.toNat_natCast, true_and, and_true, eq_self, reduceCtorEq, decide_true, List.length_singleton, er_int, er_bool, er_str, beq_self_eq_true, reduceCtorEq]
    refine h1 _ _ ?_
    try clear h1 K_h1
    exact T.ret (Fin.ret rfl ⟨by simp [pack, rightB], rfl⟩)
  by_cases w2 : w = 2
  · subst w2
    refine T.regi hm ?_
    simp only [↓reduceIte, namesOf, List.any, I.names, aops, aopsI, aopsT, qstep, CPt, qget, Tbl.get, astep, ev, setd, List.set, List.getD, List.getElem?_cons_zero, List.getElem?_cons_succ, List.getElem?_nil, List.cons_append, List.nil_append, List.length_cons, List.length_nil, List.replicate, then_normal, inBlock_normal, Option.getD_some, Option.getD_none, Bool.or_false, Bool.or_true, Bool.true_or, Bool.false_or, Bool.false_eq_true, if_false, if_true, up_zero, Nat.reduceAdd, Nat.reduceSub, binv, ↓opt_def, AV.isAny, AV.cells, ldc, List.map_cons, List.map_nil, St.set_next, St.set_same, St.up_next, Int.natCast_nonneg, lt_len, le_len, Int.toNat_natCast, true_and, and_true, eq_self, reduceCtorEq, decide_true, List.length_singleton, er_int, er_bool, er_str, beq_self_eq_true, reduceCtorEq, Int.reduceBEq]
    refine h1 _ _ ?_
    try clear h1 K_h1
    exact T.ret (Fin.ret rfl ⟨by simp [pack, rightB], rfl⟩)
  by_cases w4 : w = 4
  · subst w4
    refine T.regi hm ?_
    simp only [↓reduceIte, namesOf, List.any, I.names, aops, aopsI, aopsT, qstep, CPt, qget, Tbl.get, astep, ev, setd, List.set, List.getD, List.getElem?_cons_zero, List.getElem?_cons_succ, List.getElem?_nil, List.cons_append, List.nil_append, List.length_cons, List.length_nil, List.replicate, then_normal, inBlock_normal, Option.getD_some, Option.getD_none, Bool.or_false, Bool.or_true, Bool.true_or, Bool.false_or, Bool.false_eq_true, if_false, if_true, up_zero, Nat.reduceAdd, Nat.reduceSub, binv, ↓opt_def, AV.isAny, AV.cells, ldc, List.map_cons, List.map_nil, St.set_next, St.set_same, St.up_next, Int.natCast_nonneg, lt_len, le_len, Int.toNat_natCast, true_and, and_true, eq_self, reduceCtorEq, decide_true, List.length_singleton, er_int, er_bool, er_str, beq_self_eq_true, reduceCtorEq, Int.reduceBEq]
    refine h1 _ _ ?_
    try clear h1 K_h1
    exact T.ret (Fin.ret rfl ⟨by simp [pack, rightB], rfl⟩)
  · have e1 : (w == 1) = false := by simpa using w1
    have e2 : (w == 2) = false := by simpa using w2
    have e4 : (w == 4) = false := by simpa using w4
    refine T.regi hm ?_
    simp only [↓reduceIte, namesOf, List.any, I.names, aops, aopsI, aopsT, qstep, CPt, qget, Tbl.get, astep, ev, setd, List.set, List.getD, List.getElem?_cons_zero, List.getElem?_cons_succ, List.getElem?_nil, List.cons_append, List.nil_append, List.length_cons, List.length_nil, List.replicate, then_normal, inBlock_normal, Option.getD_some, Option.getD_none, Bool.or_false, Bool.or_true, Bool.true_or, Bool.false_or, Bool.false_eq_true, if_false, if_true, up_zero, Nat.reduceAdd, Nat.reduceSub, binv, ↓opt_def, AV.isAny, AV.cells, ldc, List.map_cons, List.map_nil, St.set_next, St.set_same, St.up_next, Int.natCast_nonneg, lt_len, le_len, Int.toNat_natCast, true_and, and_true, eq_self, reduceCtorEq, decide_true, List.length_singleton, er_int, er_bool, er_str, e1, e2, e4, reduceCtorEq]
    refine h1 _ _ ?_
    try clear h1 K_h1
    refine T.ret (Fin.ret rfl ⟨?_, rfl⟩)
    by_cases w8 : w = 8
    · subst w8; simp [pack, rightB]
    · have e8 : (w == 8) = false := by simpa using w8
      simp [pack, rightB, w1, w2, w4, w8]

end Go.VL

namespace Go.VL

open Go.Proofs

def g_right : List AV → Option AV
  | [.int .i64 w] => some (.bool (rightB w))
  | _ => none

theorem right_pure : PureC Try.prog n_right g_right := by
  intro args σ v h
  unfold g_right at h
  split at h
  · simp only [Option.some.injEq] at h; subst h; exact right_ok
  · cases h

def t1 : Tbl := [(n_right, g_right)]

theorem t1_ok : t1.ok Try.prog := Tbl.ok_cons right_pure Tbl.ok_nil

/-- a number's bytes, the highest first -/
def beB : Nat → Nat → List UInt8
  | 0, _ => []
  | w + 1, n => beB w (n / 256) ++ [UInt8.ofNat (n % 256)]

theorem beB_len : ∀ (w n : Nat), (beB w n).length = w
  | 0, _ => rfl
  | w + 1, n => by simp [beB, beB_len w]

theorem shr_byte (n i : Nat) (hi : i ≤ 8) : IntKind.u8.wrap (Int.fdiv (n : Int) (2 ^ min (8 * (i : Int)).toNat IntKind.u64.bits)) = ((UInt8.ofNat (n / 256 ^ i % 256)).toNat : Int) := by
  have h1 : min (8 * (i : Int)).toNat IntKind.u64.bits = 8 * i := by
    have : (8 * (i : Int)).toNat = 8 * i := by omega
    rw [this]; simp [IntKind.bits]; omega
  rw [h1]
  have h2 : (2 : Int) ^ (8 * i) = ((256 ^ i : Nat) : Int) := by
    rw [show (256 : Nat) = 2 ^ 8 from rfl, ← Nat.pow_mul]; simp
  rw [h2, Int.fdiv_eq_ediv_of_nonneg _ (Int.natCast_nonneg _), ← Int.natCast_ediv]
  simp [IntKind.wrap, IntKind.bits, IntKind.signed]

theorem shr_zero (n w : Nat) (hw : w ≤ 8) : (Int.fdiv (n : Int) (2 ^ min (8 * (w : Int)).toNat IntKind.u64.bits) != 0) = !decide (n / 256 ^ w = 0) := by
  have h1 : min (8 * (w : Int)).toNat IntKind.u64.bits = 8 * w := by
    have : (8 * (w : Int)).toNat = 8 * w := by omega
    rw [this]; simp [IntKind.bits]; omega
  rw [h1]
  have h2 : (2 : Int) ^ (8 * w) = ((256 ^ w : Nat) : Int) := by
    rw [show (256 : Nat) = 2 ^ 8 from rfl, ← Nat.pow_mul]; simp
  rw [h2, Int.fdiv_eq_ediv_of_nonneg _ (Int.natCast_nonneg _), ← Int.natCast_ediv]
  by_cases h : n / 256 ^ w = 0
  · rw [h]; rfl
  · rw [decide_eq_false h]
    have : ((n / 256 ^ w : Nat) : Int) ≠ 0 := by omega
    simpa using this

theorem byte1 (b : UInt8) : [AV.int .u8 (b.toNat : Int)] = bytesAV [b] := rfl

theorem bytesAV_app (x y : List UInt8) : bytesAV x ++ bytesAV y = bytesAV (x ++ y) := by simp [bytesAV]

theorem bytesAV_len (x : List UInt8) : (bytesAV x).length = x.length := by simp [bytesAV]

theorem bytesAV_er (x : List UInt8) : (bytesAV x).map AV.er = bytesAV x := by
  simp only [bytesAV, List.map_map]; rfl

theorem fits_byte (b : UInt8) : AV.fits 1 (.int .u8 (b.toNat : Int)) = true := rfl

/-- what word.Put comes to -/
theorem wput_ok {l : List UInt8} {g : Ver} {w n : Nat} {σ : St} (hl : l.length ≤ 1099511627776) (hw : rightB w = true) (hn : w < 8 → n / 256 ^ w = 0) :
    ACalls Try.prog n_wput [.sl (bytesAV l) g, .int .i64 w, .int .u64 n] σ (fun v σ' => ∃ h, OneTip σ σ' h 1 ∧ v = .tup [.sl (bytesAV (l ++ beB w n)) (.tip h), .nili]) := by
  have hw8 : w ≤ 8 := by simp [rightB] at hw; omega
  have hw1 : 1 ≤ w := by simp [rightB] at hw; omega
  refine s_wput (fun wf => ?_)
  unfold c_wput
  refine T.seq_k (fun K_h1 h1 => ?_)
  refine T.regi hm ?_
  simp only [↓reduceIte, namesOf, List.any, I.names, aops, aopsI, aopsT, qstep, CPt, qget, Tbl.get, astep, ev, setd, List.set, List.getD, List.getElem?_cons_zero, List.getElem?_cons_succ, List.getElem?_nil, List.cons_append, List.nil_append, List.length_cons, List.length_nil, List.replicate, then_normal, inBlock_normal, Option.getD_some, Option.getD_none, Bool.or_false, Bool.or_true, Bool.true_or, Bool.false_or, Bool.false_eq_true, if_false, if_true, up_zero, Nat.reduceAdd, Nat.reduceSub, binv, ↓opt_def, AV.isAny, AV.cells, ldc, List.map_cons, List.map_nil, St.set_next, St.set_same, St.up_next, Int.natCast_nonneg, lt_len, le_len, Int.toNat_natCast, true_and, and_true, eq_self, reduceCtorEq, decide_true, List.length_singleton, er_int, er_bool, er_str]
  refine h1 _ _ ?_
  try clear h1 K_h1
  refine T.seq_k (fun K_h1 h1 => ?_)
  refine T.seq_k (fun K_h2 h2 => ?_)
  have main : ∀ ρ, keep [0, 1, 2] 0 ρ = [.sl (bytesAV l) g, .int .i64 w, .int .u64 n] ++ List.replicate 40 .any → K_h1 ρ σ := by
    intro ρ hρ
    refine h1 _ _ (T.gh (Gh.keep [0, 1, 2]) ?_)
    rw [hρ]
    clear h1 hρ h2 ρ
    refine T.seq_k (fun K_h1 h1 => ?_)
    refine T.regi hm ?_
    simp only [↓reduceIte, namesOf, List.any, I.names, aops, aopsI, aopsT, qstep, CPt, qget, Tbl.get, astep, ev, setd, List.set, List.getD, List.getElem?_cons_zero, List.getElem?_cons_succ, List.getElem?_nil, List.cons_append, List.nil_append, List.length_cons, List.length_nil, List.replicate, then_normal, inBlock_normal, Option.getD_some, Option.getD_none, Bool.or_false, Bool.or_true, Bool.true_or, Bool.false_or, Bool.false_eq_true, if_false, if_true, up_zero, Nat.reduceAdd, Nat.reduceSub, binv, ↓opt_def, AV.isAny, AV.cells, ldc, List.map_cons, List.map_nil, St.set_next, St.set_same, St.up_next, Int.natCast_nonneg, lt_len, le_len, Int.toNat_natCast, true_and, and_true, eq_self, reduceCtorEq, decide_true, List.length_singleton, er_int, er_bool, er_str, List.all_cons, held, srcOf, St.set_same, bytesAV_er, bytes_all, List.all_nil, Bool.true_and, List.isEmpty]
    rw [if_pos (by simp only [bytesAV_len, decide_eq_true_eq]; omega)]
    have o1 : OneTip σ ((((σ.up 4).set (σ.next + 0) (Res.tip 1)).del (σ.next + 0)).set (σ.next + 2) (Res.tip 1)) (σ.next + 2) 1 :=
      (OneTip.new (n := 4) (i := 0) (by omega)).mv wf (by omega) (by simp)
    generalize ((((σ.up 4).set (σ.next + 0) (Res.tip 1)).del (σ.next + 0)).set (σ.next + 2) (Res.tip 1)) = σ1 at o1 ⊢
    generalize σ.next + 2 = g1 at o1 ⊢
    refine h1 _ _ ?_
    try clear h1 K_h1
    refine T.seq_k (fun K_h1 h1 => ?_)
    refine T.seq_k (fun K_h2 h2 => ?_)
    have e1 : IntKind.i64.wrap ((w : Int) - 1) = (w : Int) - 1 := wrap64 (by omega) (by omega)
    refine T.regi hm ?_
    simp only [↓reduceIte, namesOf, List.any, I.names, aops, aopsI, aopsT, qstep, CPt, qget, Tbl.get, astep, ev, setd, List.set, List.getD, List.getElem?_cons_zero, List.getElem?_cons_succ, List.getElem?_nil, List.cons_append, List.nil_append, List.length_cons, List.length_nil, List.replicate, then_normal, inBlock_normal, Option.getD_some, Option.getD_none, Bool.or_false, Bool.or_true, Bool.true_or, Bool.false_or, Bool.false_eq_true, if_false, if_true, up_zero, Nat.reduceAdd, Nat.reduceSub, binv, ↓opt_def, AV.isAny, AV.cells, ldc, List.map_cons, List.map_nil, St.set_next, St.set_same, St.up_next, Int.natCast_nonneg, lt_len, le_len, Int.toNat_natCast, true_and, and_true, eq_self, reduceCtorEq, decide_true, List.length_singleton, er_int, er_bool, er_str, e1]
    refine h2 _ _ ?_
    try clear h2 K_h2
    refine T.block ?_
    refine T.gh (Gh.keep [0, 1, 2, 8, 9]) ?_
    refine T.loop (fun ρ σ' => ∃ (i g1 : Nat), i ≤ w ∧ OneTip σ σ' g1 1 ∧ ρ = [.sl (bytesAV l) g, .int .i64 w, .int .u64 n, .any, .any, .any, .any, .any, .sl (bytesAV (l ++ beB (w - i) (n / 256 ^ i))) (.tip g1), .int .i64 ((i : Int) - 1)] ++ List.replicate 33 .any)
      (fun ρ _ => match ρ.getD 9 .any with | .int _ m => (m + 1).toNat | _ => 0) ⟨w, g1, Nat.le_refl _, o1, ?_⟩ ?_
    · simp only [Nat.sub_self, beB, List.append_nil]; rfl
    clear o1
    rintro ρ σ' ⟨i, g1, hi, o1, rfl⟩
    refine T.seq_k (fun K_h2 h2 => ?_)
    refine T.seq_k (fun K_h3 h3 => ?_)
    refine T.regi hm ?_
    simp only [↓reduceIte, namesOf, List.any, I.names, aops, aopsI, aopsT, qstep, CPt, qget, Tbl.get, astep, ev, setd, List.set, List.getD, List.getElem?_cons_zero, List.getElem?_cons_succ, List.getElem?_nil, List.cons_append, List.nil_append, List.length_cons, List.length_nil, List.replicate, then_normal, inBlock_normal, Option.getD_some, Option.getD_none, Bool.or_false, Bool.or_true, Bool.true_or, Bool.false_or, Bool.false_eq_true, if_false, if_true, up_zero, Nat.reduceAdd, Nat.reduceSub, binv, ↓opt_def, AV.isAny, AV.cells, ldc, List.map_cons, List.map_nil, St.set_next, St.set_same, St.up_next, Int.natCast_nonneg, lt_len, le_len, Int.toNat_natCast, true_and, and_true, eq_self, reduceCtorEq, decide_true, List.length_singleton, er_int, er_bool, er_str]
    refine h3 _ _ ?_
    try clear h3 K_h3
    refine T.cond rfl (fun hb => ?_) (fun hb => ?_)
    · refine T.skip ?_
      refine h2 _ _ ?_
      try clear h2 K_h2
      obtain ⟨i, rfl⟩ : ∃ j, i = j + 1 := ⟨i - 1, by simp at hb; omega⟩
      have e0 : ((i + 1 : Nat) : Int) - 1 = (i : Int) := by omega
      have e3 : IntKind.i64.wrap (8 * (i : Int)) = 8 * (i : Int) := wrap64 (by omega) (by omega)
      have e4 : ¬ (8 * (i : Int) < 0) := by omega
      have e5 := shr_byte n i (by omega)
      rw [e0]
      clear hb
      refine T.seq_k (fun K_h2 h2 => ?_)
      refine T.block ?_
      refine T.regi hm ?_
      simp only [↓reduceIte, namesOf, List.any, I.names, aops, aopsI, aopsT, qstep, CPt, qget, Tbl.get, astep, ev, setd, List.set, List.getD, List.getElem?_cons_zero, List.getElem?_cons_succ, List.getElem?_nil, List.cons_append, List.nil_append, List.length_cons, List.length_nil, List.replicate, then_normal, inBlock_normal, Option.getD_some, Option.getD_none, Bool.or_false, Bool.or_true, Bool.true_or, Bool.false_or, Bool.false_eq_true, if_false, if_true, up_zero, Nat.reduceAdd, Nat.reduceSub, binv, ↓opt_def, AV.isAny, AV.cells, ldc, List.map_cons, List.map_nil, St.set_next, St.set_same, St.up_next, Int.natCast_nonneg, lt_len, le_len, Int.toNat_natCast, true_and, and_true, eq_self, reduceCtorEq, decide_true, List.length_singleton, er_int, er_bool, er_str, List.all_cons, held, srcOf, o1.at_, bytesAV_er, bytes_all, List.all_nil, Bool.true_and, List.isEmpty, e3, e4, e5, fits_byte, List.all_append, St.up_res]
      have hlen : (beB (w - (i + 1)) (n / 256 ^ (i + 1))).length ≤ 8 := by rw [beB_len]; omega
      rw [if_pos (by simp only [bytesAV_len, List.length_append, decide_eq_true_eq]; omega)]
      have o2 : OneTip σ (((σ'.up 9).del g1).set (σ'.next + 7) (Res.tip 1)) (σ'.next + 7) 1 := (o1.up 9).mv wf (by have := o1.lo; have := o1.hi; omega) (by simp)
      generalize (((σ'.up 9).del g1).set (σ'.next + 7) (Res.tip 1)) = σ2 at o2 ⊢
      generalize σ'.next + 7 = g2 at o2 ⊢
      have e6 : beB (w - (i + 1)) (n / 256 ^ (i + 1)) ++ [UInt8.ofNat (n / 256 ^ i % 256)] = beB (w - i) (n / 256 ^ i) := by
        rw [show w - i = w - (i + 1) + 1 by omega, beB, Nat.pow_succ, Nat.div_div_eq_div_mul]
      rw [byte1, bytesAV_app, List.append_assoc, e6]
      refine h2 _ _ ?_
      try clear h2 K_h2
      have e7 : IntKind.i64.wrap ((i : Int) - 1) = (i : Int) - 1 := wrap64 (by omega) (by omega)
      refine T.regi hm ?_
      simp only [↓reduceIte, namesOf, List.any, I.names, aops, aopsI, aopsT, qstep, CPt, qget, Tbl.get, astep, ev, setd, List.set, List.getD, List.getElem?_cons_zero, List.getElem?_cons_succ, List.getElem?_nil, List.cons_append, List.nil_append, List.length_cons, List.length_nil, List.replicate, then_normal, inBlock_normal, Option.getD_some, Option.getD_none, Bool.or_false, Bool.or_true, Bool.true_or, Bool.false_or, Bool.false_eq_true, if_false, if_true, up_zero, Nat.reduceAdd, Nat.reduceSub, binv, ↓opt_def, AV.isAny, AV.cells, ldc, List.map_cons, List.map_nil, St.set_next, St.set_same, St.up_next, Int.natCast_nonneg, lt_len, le_len, Int.toNat_natCast, true_and, and_true, eq_self, reduceCtorEq, decide_true, List.length_singleton, er_int, er_bool, er_str, e7]
      refine ⟨_, _, Gh.keep [0, 1, 2, 8, 9], ⟨i, g2, by omega, o2, rfl⟩, ?_⟩
      show ((i : Int) - 1 + 1).toNat < ((i : Int) + 1).toNat
      omega
    · refine T.exit ?_
      have : i = 0 := by simp at hb; omega
      subst this
      try simp only [↓reduceIte, namesOf, List.any, I.names, aops, aopsI, aopsT, qstep, CPt, qget, Tbl.get, astep, ev, setd, List.set, List.getD, List.getElem?_cons_zero, List.getElem?_cons_succ, List.getElem?_nil, List.cons_append, List.nil_append, List.length_cons, List.length_nil, List.replicate, then_normal, inBlock_normal, Option.getD_some, Option.getD_none, Bool.or_false, Bool.or_true, Bool.true_or, Bool.false_or, Bool.false_eq_true, if_false, if_true, up_zero, Nat.reduceAdd, Nat.reduceSub, binv, ↓opt_def, AV.isAny, AV.cells, ldc, List.map_cons, List.map_nil, St.set_next, St.set_same, St.up_next, Int.natCast_nonneg, lt_len, le_len, Int.toNat_natCast, true_and, and_true, eq_self, reduceCtorEq, decide_true, List.length_singleton, er_int, er_bool, er_str, inBlock_exit]
      refine h1 _ _ ?_
      try clear h1 K_h1
      refine T.seq_k (fun K_h1 h1 => ?_)
      refine T.regi hm ?_
      simp only [↓reduceIte, namesOf, List.any, I.names, aops, aopsI, aopsT, qstep, CPt, qget, Tbl.get, astep, ev, setd, List.set, List.getD, List.getElem?_cons_zero, List.getElem?_cons_succ, List.getElem?_nil, List.cons_append, List.nil_append, List.length_cons, List.length_nil, List.replicate, then_normal, inBlock_normal, Option.getD_some, Option.getD_none, Bool.or_false, Bool.or_true, Bool.true_or, Bool.false_or, Bool.false_eq_true, if_false, if_true, up_zero, Nat.reduceAdd, Nat.reduceSub, binv, ↓opt_def, AV.isAny, AV.cells, ldc, List.map_cons, List.map_nil, St.set_next, St.set_same, St.up_next, Int.natCast_nonneg, lt_len, le_len, Int.toNat_natCast, true_and, and_true, eq_self, reduceCtorEq, decide_true, List.length_singleton, er_int, er_bool, er_str]
      refine h1 _ _ ?_
      try clear h1 K_h1
      refine T.ret (Fin.ret rfl ⟨g1, o1, ?_⟩)
      simp [pack]
  by_cases h8 : w < 8
  · have e1 : decide ((w : Int) < 8) = true := by simp; omega
    have e2 := shr_zero n w hw8
    rw [hn h8] at e2
    simp only [decide_true, Bool.not_true] at e2
    have e3 : IntKind.i64.wrap (8 * (w : Int)) = 8 * (w : Int) := wrap64 (by omega) (by omega)
    have e4 : ¬ (8 * (w : Int) < 0) := by omega
    refine T.regt hm t1_ok ?_
    simp only [↓reduceIte, namesOf, List.any, I.names, aops, aopsI, aopsT, qstep, CPt, qget, Tbl.get, astep, ev, setd, List.set, List.getD, List.getElem?_cons_zero, List.getElem?_cons_succ, List.getElem?_nil, List.cons_append, List.nil_append, List.length_cons, List.length_nil, List.replicate, then_normal, inBlock_normal, Option.getD_some, Option.getD_none, Bool.or_false, Bool.or_true, Bool.true_or, Bool.false_or, Bool.false_eq_true, if_false, if_true, up_zero, Nat.reduceAdd, Nat.reduceSub, binv, ↓opt_def, AV.isAny, AV.cells, ldc, List.map_cons, List.map_nil, St.set_next, St.set_same, St.up_next, Int.natCast_nonneg, lt_len, le_len, Int.toNat_natCast, true_and, and_true, eq_self, reduceCtorEq, decide_true, List.length_singleton, er_int, er_bool, er_str, Nat.reduceEqDiff, t1, g_right, hw, Bool.not_true, e1, e3, e4, e2]
    refine h2 _ _ ?_
    try clear h2 K_h2
    refine T.cond rfl (fun hb => by cases hb) (fun hb => ?_)
    exact T.skip (main _ rfl)
  · have e1 : decide ((w : Int) < 8) = false := by simp; omega
    refine T.regt hm t1_ok ?_
    simp only [↓reduceIte, namesOf, List.any, I.names, aops, aopsI, aopsT, qstep, CPt, qget, Tbl.get, astep, ev, setd, List.set, List.getD, List.getElem?_cons_zero, List.getElem?_cons_succ, List.getElem?_nil, List.cons_append, List.nil_append, List.length_cons, List.length_nil, List.replicate, then_normal, inBlock_normal, Option.getD_some, Option.getD_none, Bool.or_false, Bool.or_true, Bool.true_or, Bool.false_or, Bool.false_eq_true, if_false, if_true, up_zero, Nat.reduceAdd, Nat.reduceSub, binv, ↓opt_def, AV.isAny, AV.cells, ldc, List.map_cons, List.map_nil, St.set_next, St.set_same, St.up_next, Int.natCast_nonneg, lt_len, le_len, Int.toNat_natCast, true_and, and_true, eq_self, reduceCtorEq, decide_true, List.length_singleton, er_int, er_bool, er_str, Nat.reduceEqDiff, t1, g_right, hw, Bool.not_true, e1]
    refine h2 _ _ ?_
    try clear h2 K_h2
    refine T.cond rfl (fun hb => by cases hb) (fun hb => ?_)
    exact T.skip (main _ rfl)

end Go.VL

namespace Go.VL

def bitstep (x : BitVec 32) : BitVec 32 := if x.getLsbD 0 then (x >>> 1) ^^^ 0xEDB88320#32 else x >>> 1

def stepN : Nat → BitVec 32 → BitVec 32
  | 0, x => x
  | n + 1, x => stepN n (bitstep x)

theorem bitstep_xor (a b : BitVec 32) : bitstep (a ^^^ b) = bitstep a ^^^ bitstep b := by
  unfold bitstep
  rw [BitVec.getLsbD_xor, BitVec.ushiftRight_xor_distrib]
  cases a.getLsbD 0 <;> cases b.getLsbD 0 <;> simp only [Bool.xor_false, Bool.xor_true, Bool.false_xor, Bool.true_xor, Bool.not_true, Bool.not_false, if_true, if_false, Bool.false_eq_true]
  · rw [BitVec.xor_assoc]
  · rw [BitVec.xor_assoc, BitVec.xor_assoc, BitVec.xor_comm (b >>> 1)]
  · rw [BitVec.xor_assoc (a >>> 1), BitVec.xor_comm 0xEDB88320#32, BitVec.xor_assoc (b >>> 1), BitVec.xor_self, BitVec.xor_zero]

theorem stepN_xor : ∀ (n : Nat) (a b : BitVec 32), stepN n (a ^^^ b) = stepN n a ^^^ stepN n b
  | 0, _, _ => rfl
  | n + 1, a, b => by simp only [stepN]; rw [bitstep_xor, stepN_xor n]

theorem stepN_low : ∀ (n : Nat) (y : BitVec 32), (∀ i, i < n → y.getLsbD i = false) → stepN n y = y >>> n
  | 0, y, _ => by simp [stepN]
  | n + 1, y, h => by
    have h0 : bitstep y = y >>> 1 := by unfold bitstep; rw [h 0 (by omega)]; simp
    simp only [stepN]
    rw [h0, stepN_low n _ (fun i hi => by rw [BitVec.getLsbD_ushiftRight]; exact h (1 + i) (by omega))]
    rw [← BitVec.shiftRight_add, Nat.add_comm]

theorem split8 (y : BitVec 32) : y = (y &&& 0xff#32) ^^^ ((y >>> 8) <<< 8) := by
  apply BitVec.eq_of_getLsbD_eq
  intro i hi
  simp only [BitVec.getLsbD_xor, BitVec.getLsbD_and, BitVec.getLsbD_shiftLeft, BitVec.getLsbD_ushiftRight]
  have hff : (0xff#32).getLsbD i = decide (i < 8) := by
    have : ∀ j : _root_.Fin 32, (0xff#32).getLsbD j.val = decide (j.val < 8) := by decide
    exact this ⟨i, hi⟩
  rw [hff]
  by_cases h8 : i < 8
  · simp [h8]
  · have : 8 + (i - 8) = i := by omega
    simp [h8, this, hi]

/-- eight steps of a word and a byte: by the low byte's own -/
theorem table_step (x c : BitVec 32) (hc : c >>> 8 = 0#32) : stepN 8 (x ^^^ c) = (x >>> 8) ^^^ stepN 8 ((x ^^^ c) &&& 0xff#32) := by
  have h := split8 (x ^^^ c)
  have h2 : stepN 8 (((x ^^^ c) >>> 8) <<< 8) = (x ^^^ c) >>> 8 := by
    rw [stepN_low 8 _ (fun i hi => by rw [BitVec.getLsbD_shiftLeft]; simp [hi])]
    apply BitVec.eq_of_getLsbD_eq
    intro i hi
    simp only [BitVec.getLsbD_ushiftRight, BitVec.getLsbD_shiftLeft]
    by_cases h32 : 8 + i < 32
    · have : 8 + i - 8 = i := by omega
      simp [h32, this, BitVec.getLsbD_ushiftRight]
    · rw [BitVec.getLsbD_of_ge (x ^^^ c) (8 + i) (by omega)]
      simp [h32]
  conv => lhs; rw [h]
  rw [stepN_xor, h2, BitVec.ushiftRight_xor_distrib, hc, BitVec.xor_zero, BitVec.xor_comm]

/-- the checksum's run over bytes -/
def crcRun (x : BitVec 32) : List UInt8 → BitVec 32
  | [] => x
  | c :: r => crcRun (stepN 8 (x ^^^ BitVec.ofNat 32 c.toNat)) r

def crcOf (l : List UInt8) : Nat := (~~~ (crcRun 0xffffffff#32 l)).toNat

theorem crcOf_lt (l : List UInt8) : crcOf l < 4294967296 := (~~~ (crcRun 0xffffffff#32 l)).isLt

/-! ### The operations on words -/

theorem u32_shr1 (x : BitVec 32) : Int.fdiv (x.toNat : Int) (2 ^ min (1 : Int).toNat IntKind.u32.bits) = ((x >>> 1).toNat : Int) := by
  have : (2 : Int) ^ min (1 : Int).toNat IntKind.u32.bits = ((2 : Nat) : Int) := by simp [IntKind.bits]
  rw [this, Int.fdiv_eq_ediv_of_nonneg _ (by omega), ← Int.natCast_ediv, BitVec.toNat_ushiftRight, Nat.shiftRight_eq_div_pow]

theorem u32_shr8 (x : BitVec 32) : Int.fdiv (x.toNat : Int) (2 ^ min (8 : Int).toNat IntKind.u32.bits) = ((x >>> 8).toNat : Int) := by
  have : (2 : Int) ^ min (8 : Int).toNat IntKind.u32.bits = ((256 : Nat) : Int) := by simp [IntKind.bits]
  rw [this, Int.fdiv_eq_ediv_of_nonneg _ (by omega), ← Int.natCast_ediv, BitVec.toNat_ushiftRight, Nat.shiftRight_eq_div_pow]

theorem u32_of (x : BitVec 32) : BitVec.ofInt IntKind.u32.bits (x.toNat : Int) = x := by
  apply BitVec.eq_of_toNat_eq
  have := x.isLt
  simp [IntKind.bits]

theorem u32_wrap (x : BitVec 32) : IntKind.u32.wrap (x.toNat : Int) = (x.toNat : Int) := by
  have := x.isLt
  simp [IntKind.wrap, IntKind.bits, IntKind.signed]; omega

theorem u32_xor (x y : BitVec 32) : IntKind.u32.wrap ((BitVec.ofInt IntKind.u32.bits (x.toNat : Int) ^^^ BitVec.ofInt IntKind.u32.bits (y.toNat : Int)).toNat) = ((x ^^^ y).toNat : Int) := by
  rw [u32_of, u32_of]; exact u32_wrap _

theorem u32_poly : (3988292384 : Int) = ((0xEDB88320#32).toNat : Int) := rfl

theorem u32_odd (x : BitVec 32) : (IntKind.u32.wrap ((BitVec.ofInt IntKind.u32.bits (x.toNat : Int) &&& BitVec.ofInt IntKind.u32.bits 1).toNat) == 1) = x.getLsbD 0 := by
  rw [u32_of]
  have h1 : BitVec.ofInt IntKind.u32.bits 1 = 1#32 := rfl
  rw [h1]
  show (IntKind.u32.wrap (((x &&& 1#32 : BitVec 32).toNat : Nat) : Int) == 1) = x.getLsbD 0
  rw [u32_wrap]
  have h2 : x &&& 1#32 = if x.getLsbD 0 then 1#32 else 0#32 := by
    apply BitVec.eq_of_getLsbD_eq
    intro i hi
    rw [BitVec.getLsbD_and]
    have hone : (1#32).getLsbD i = decide (i = 0) := by
      have : ∀ j : _root_.Fin 32, (1#32).getLsbD j.val = decide (j.val = 0) := by decide
      exact this ⟨i, hi⟩
    rw [hone]
    by_cases h0 : i = 0
    · subst h0; cases x.getLsbD 0 <;> simp
    · cases x.getLsbD 0 <;> simp [h0]
  rw [h2]
  cases x.getLsbD 0 <;> rfl

end Go.VL

namespace Go.VL

open Go.Proofs

theorem step_ok' {X : BitVec 32} {σ : St} : ACalls Try.prog n_step [.int .u32 (X.toNat : Int)] σ (fun v σ' => v = .int .u32 ((stepN 8 X).toNat : Int) ∧ σ' = σ) := by
  refine s_step (fun wf => ?_)
  unfold c_step
  refine T.seq_k (fun K_h1 h1 => ?_)
  refine T.regi hm ?_
  simp only [↓reduceIte, namesOf, List.any, I.names, aops, aopsI, aopsT, qstep, CPt, qget, Tbl.get, astep, ev, setd, List.set, List.getD, List.getElem?_cons_zero, List.getElem?_cons_succ, List.getElem?_nil, List.cons_append, List.nil_append, List.length_cons, List.length_nil, List.replicate, then_normal, inBlock_normal, Option.getD_some, Option.getD_none, Bool.or_false, Bool.or_true, Bool.true_or, Bool.false_or, Bool.false_eq_true, if_false, if_true, up_zero, Nat.reduceAdd, Nat.reduceSub, binv, ↓opt_def, AV.isAny, AV.cells, ldc, List.map_cons, List.map_nil, St.set_next, St.set_same, St.up_next, Int.natCast_nonneg, lt_len, le_len, Int.toNat_natCast, true_and, and_true, eq_self, reduceCtorEq, decide_true, List.length_singleton, er_int, er_bool, er_str]
  refine h1 _ _ ?_
  try clear h1 K_h1
  refine T.seq_k (fun K_h1 h1 => ?_)
  refine T.seq_k (fun K_h2 h2 => ?_)
  refine T.regi hm ?_
  simp only [↓reduceIte, namesOf, List.any, I.names, aops, aopsI, aopsT, qstep, CPt, qget, Tbl.get, astep, ev, setd, List.set, List.getD, List.getElem?_cons_zero, List.getElem?_cons_succ, List.getElem?_nil, List.cons_append, List.nil_append, List.length_cons, List.length_nil, List.replicate, then_normal, inBlock_normal, Option.getD_some, Option.getD_none, Bool.or_false, Bool.or_true, Bool.true_or, Bool.false_or, Bool.false_eq_true, if_false, if_true, up_zero, Nat.reduceAdd, Nat.reduceSub, binv, ↓opt_def, AV.isAny, AV.cells, ldc, List.map_cons, List.map_nil, St.set_next, St.set_same, St.up_next, Int.natCast_nonneg, lt_len, le_len, Int.toNat_natCast, true_and, and_true, eq_self, reduceCtorEq, decide_true, List.length_singleton, er_int, er_bool, er_str]
  refine h2 _ _ ?_
  try clear h2 K_h2
  refine T.block ?_
  refine T.gh (Gh.keep [0, 4]) ?_
  refine T.loop (fun ρ σ' => σ' = σ ∧ ∃ (i : Nat) (Y : BitVec 32), i ≤ 8 ∧ stepN (8 - i) Y = stepN 8 X ∧ ρ = [.int .u32 (Y.toNat : Int), .any, .any, .any, .int .i64 (i : Int)] ++ List.replicate 11 .any)
    (fun ρ _ => match ρ.getD 4 .any with | .int _ m => (8 - m).toNat | _ => 0) ⟨rfl, 0, X, by omega, rfl, rfl⟩ ?_
  rintro ρ σ' ⟨rfl, i, Y, hi, hY, rfl⟩
  refine T.seq_k (fun K_h2 h2 => ?_)
  refine T.regi hm ?_
  simp only [↓reduceIte, namesOf, List.any, I.names, aops, aopsI, aopsT, qstep, CPt, qget, Tbl.get, astep, ev, setd, List.set, List.getD, List.getElem?_cons_zero, List.getElem?_cons_succ, List.getElem?_nil, List.cons_append, List.nil_append, List.length_cons, List.length_nil, List.replicate, then_normal, inBlock_normal, Option.getD_some, Option.getD_none, Bool.or_false, Bool.or_true, Bool.true_or, Bool.false_or, Bool.false_eq_true, if_false, if_true, up_zero, Nat.reduceAdd, Nat.reduceSub, binv, ↓opt_def, AV.isAny, AV.cells, ldc, List.map_cons, List.map_nil, St.set_next, St.set_same, St.up_next, Int.natCast_nonneg, lt_len, le_len, Int.toNat_natCast, true_and, and_true, eq_self, reduceCtorEq, decide_true, List.length_singleton, er_int, er_bool, er_str]
  refine h2 _ _ ?_
  try clear h2 K_h2
  refine T.seq_k (fun K_h2 h2 => ?_)
  refine T.cond rfl (fun hb => ?_) (fun hb => ?_)
  · refine T.skip ?_
    refine h2 _ _ ?_
    try clear h2 K_h2
    have hi8 : i < 8 := by simp at hb; omega
    clear hb
    have e1 : stepN (8 - (i + 1)) (bitstep Y) = stepN 8 X := by rw [← hY, show 8 - i = 8 - (i + 1) + 1 by omega]; rfl
    refine T.seq_k (fun K_h2 h2 => ?_)
    refine T.block ?_
    refine T.seq_k (fun K_h3 h3 => ?_)
    refine T.regi hm ?_
    simp only [↓reduceIte, namesOf, List.any, I.names, aops, aopsI, aopsT, qstep, CPt, qget, Tbl.get, astep, ev, setd, List.set, List.getD, List.getElem?_cons_zero, List.getElem?_cons_succ, List.getElem?_nil, List.cons_append, List.nil_append, List.length_cons, List.length_nil, List.replicate, then_normal, inBlock_normal, Option.getD_some, Option.getD_none, Bool.or_false, Bool.or_true, Bool.true_or, Bool.false_or, Bool.false_eq_true, if_false, if_true, up_zero, Nat.reduceAdd, Nat.reduceSub, binv, ↓opt_def, AV.isAny, AV.cells, ldc, List.map_cons, List.map_nil, St.set_next, St.set_same, St.up_next, Int.natCast_nonneg, lt_len, le_len, Int.toNat_natCast, true_and, and_true, eq_self, reduceCtorEq, decide_true, List.length_singleton, er_int, er_bool, er_str]
    refine h3 _ _ ?_
    try clear h3 K_h3
    refine T.seq_k (fun K_h3 h3 => ?_)
    have e2 := u32_shr1 Y
    refine T.regi hm ?_
    simp only [↓reduceIte, namesOf, List.any, I.names, aops, aopsI, aopsT, qstep, CPt, qget, Tbl.get, astep, ev, setd, List.set, List.getD, List.getElem?_cons_zero, List.getElem?_cons_succ, List.getElem?_nil, List.cons_append, List.nil_append, List.length_cons, List.length_nil, List.replicate, then_normal, inBlock_normal, Option.getD_some, Option.getD_none, Bool.or_false, Bool.or_true, Bool.true_or, Bool.false_or, Bool.false_eq_true, if_false, if_true, up_zero, Nat.reduceAdd, Nat.reduceSub, binv, ↓opt_def, AV.isAny, AV.cells, ldc, List.map_cons, List.map_nil, St.set_next, St.set_same, St.up_next, Int.natCast_nonneg, lt_len, le_len, Int.toNat_natCast, true_and, and_true, eq_self, reduceCtorEq, decide_true, List.length_singleton, er_int, er_bool, er_str, e2, show ¬ ((1 : Int) < 0) by omega]
    refine h3 _ _ ?_
    try clear h3 K_h3
    refine T.seq_k (fun K_h3 h3 => ?_)
    have e3 := u32_odd Y
    refine T.regi hm ?_
    simp only [↓reduceIte, namesOf, List.any, I.names, aops, aopsI, aopsT, qstep, CPt, qget, Tbl.get, astep, ev, setd, List.set, List.getD, List.getElem?_cons_zero, List.getElem?_cons_succ, List.getElem?_nil, List.cons_append, List.nil_append, List.length_cons, List.length_nil, List.replicate, then_normal, inBlock_normal, Option.getD_some, Option.getD_none, Bool.or_false, Bool.or_true, Bool.true_or, Bool.false_or, Bool.false_eq_true, if_false, if_true, up_zero, Nat.reduceAdd, Nat.reduceSub, binv, ↓opt_def, AV.isAny, AV.cells, ldc, List.map_cons, List.map_nil, St.set_next, St.set_same, St.up_next, Int.natCast_nonneg, lt_len, le_len, Int.toNat_natCast, true_and, and_true, eq_self, reduceCtorEq, decide_true, List.length_singleton, er_int, er_bool, er_str, e3]
    refine h3 _ _ ?_
    try clear h3 K_h3
    have e4 : IntKind.i64.wrap ((i : Int) + 1) = (i : Int) + 1 := wrap64 (by omega) (by omega)
    refine T.cond rfl (fun hb => ?_) (fun hb => ?_)
    · have e5 := u32_xor (Y >>> 1) 0xEDB88320#32
      rw [← u32_poly] at e5
      refine T.regi hm ?_
      simp only [↓reduceIte, namesOf, List.any, I.names, aops, aopsI, aopsT, qstep, CPt, qget, Tbl.get, astep, ev, setd, List.set, List.getD, List.getElem?_cons_zero, List.getElem?_cons_succ, List.getElem?_nil, List.cons_append, List.nil_append, List.length_cons, List.length_nil, List.replicate, then_normal, inBlock_normal, Option.getD_some, Option.getD_none, Bool.or_false, Bool.or_true, Bool.true_or, Bool.false_or, Bool.false_eq_true, if_false, if_true, up_zero, Nat.reduceAdd, Nat.reduceSub, binv, ↓opt_def, AV.isAny, AV.cells, ldc, List.map_cons, List.map_nil, St.set_next, St.set_same, St.up_next, Int.natCast_nonneg, lt_len, le_len, Int.toNat_natCast, true_and, and_true, eq_self, reduceCtorEq, decide_true, List.length_singleton, er_int, er_bool, er_str, e5]
      refine h2 _ _ ?_
      try clear h2 K_h2
      refine T.regi hm ?_
      simp only [↓reduceIte, namesOf, List.any, I.names, aops, aopsI, aopsT, qstep, CPt, qget, Tbl.get, astep, ev, setd, List.set, List.getD, List.getElem?_cons_zero, List.getElem?_cons_succ, List.getElem?_nil, List.cons_append, List.nil_append, List.length_cons, List.length_nil, List.replicate, then_normal, inBlock_normal, Option.getD_some, Option.getD_none, Bool.or_false, Bool.or_true, Bool.true_or, Bool.false_or, Bool.false_eq_true, if_false, if_true, up_zero, Nat.reduceAdd, Nat.reduceSub, binv, ↓opt_def, AV.isAny, AV.cells, ldc, List.map_cons, List.map_nil, St.set_next, St.set_same, St.up_next, Int.natCast_nonneg, lt_len, le_len, Int.toNat_natCast, true_and, and_true, eq_self, reduceCtorEq, decide_true, List.length_singleton, er_int, er_bool, er_str, e4]
      refine ⟨_, _, Gh.keep [0, 4], ⟨rfl, i + 1, bitstep Y, by omega, e1, ?_⟩, ?_⟩
      · have : bitstep Y = (Y >>> 1) ^^^ 0xEDB88320#32 := by unfold bitstep; rw [if_pos hb]
        rw [this]; rfl
      · show ((8 : Int) - ((i : Int) + 1)).toNat < (8 - (i : Int)).toNat
        omega
    · refine T.skip ?_
      refine h2 _ _ ?_
      try clear h2 K_h2
      refine T.regi hm ?_
      simp only [↓reduceIte, namesOf, List.any, I.names, aops, aopsI, aopsT, qstep, CPt, qget, Tbl.get, astep, ev, setd, List.set, List.getD, List.getElem?_cons_zero, List.getElem?_cons_succ, List.getElem?_nil, List.cons_append, List.nil_append, List.length_cons, List.length_nil, List.replicate, then_normal, inBlock_normal, Option.getD_some, Option.getD_none, Bool.or_false, Bool.or_true, Bool.true_or, Bool.false_or, Bool.false_eq_true, if_false, if_true, up_zero, Nat.reduceAdd, Nat.reduceSub, binv, ↓opt_def, AV.isAny, AV.cells, ldc, List.map_cons, List.map_nil, St.set_next, St.set_same, St.up_next, Int.natCast_nonneg, lt_len, le_len, Int.toNat_natCast, true_and, and_true, eq_self, reduceCtorEq, decide_true, List.length_singleton, er_int, er_bool, er_str, e4]
      refine ⟨_, _, Gh.keep [0, 4], ⟨rfl, i + 1, bitstep Y, by omega, e1, ?_⟩, ?_⟩
      · have : bitstep Y = Y >>> 1 := by unfold bitstep; rw [hb]; rfl
        rw [this]; rfl
      · show ((8 : Int) - ((i : Int) + 1)).toNat < (8 - (i : Int)).toNat
        omega
  · refine T.exit ?_
    have : i = 8 := by simp at hb; omega
    subst this
    try simp only [↓reduceIte, namesOf, List.any, I.names, aops, aopsI, aopsT, qstep, CPt, qget, Tbl.get, astep, ev, setd, List.set, List.getD, List.getElem?_cons_zero, List.getElem?_cons_succ, List.getElem?_nil, List.cons_append, List.nil_append, List.length_cons, List.length_nil, List.replicate, then_normal, inBlock_normal, Option.getD_some, Option.getD_none, Bool.or_false, Bool.or_true, Bool.true_or, Bool.false_or, Bool.false_eq_true, if_false, if_true, up_zero, Nat.reduceAdd, Nat.reduceSub, binv, ↓opt_def, AV.isAny, AV.cells, ldc, List.map_cons, List.map_nil, St.set_next, St.set_same, St.up_next, Int.natCast_nonneg, lt_len, le_len, Int.toNat_natCast, true_and, and_true, eq_self, reduceCtorEq, decide_true, List.length_singleton, er_int, er_bool, er_str, inBlock_exit, then_exit]
    refine h1 _ _ ?_
    try clear h1 K_h1
    refine T.seq_k (fun K_h1 h1 => ?_)
    refine T.regi hm ?_
    simp only [↓reduceIte, namesOf, List.any, I.names, aops, aopsI, aopsT, qstep, CPt, qget, Tbl.get, astep, ev, setd, List.set, List.getD, List.getElem?_cons_zero, List.getElem?_cons_succ, List.getElem?_nil, List.cons_append, List.nil_append, List.length_cons, List.length_nil, List.replicate, then_normal, inBlock_normal, Option.getD_some, Option.getD_none, Bool.or_false, Bool.or_true, Bool.true_or, Bool.false_or, Bool.false_eq_true, if_false, if_true, up_zero, Nat.reduceAdd, Nat.reduceSub, binv, ↓opt_def, AV.isAny, AV.cells, ldc, List.map_cons, List.map_nil, St.set_next, St.set_same, St.up_next, Int.natCast_nonneg, lt_len, le_len, Int.toNat_natCast, true_and, and_true, eq_self, reduceCtorEq, decide_true, List.length_singleton, er_int, er_bool, er_str]
    refine h1 _ _ ?_
    try clear h1 K_h1
    refine T.ret (Fin.ret rfl ⟨?_, rfl⟩)
    rw [← hY]; rfl

theorem bytes_get {l : List UInt8} {i : Nat} (h : i < l.length) : (bytesAV l)[i]? = some (.int .u8 (l[i].toNat : Int)) := by simp [bytesAV, h]

end Go.VL

namespace Go.VL

open Go.Proofs

def step8I (m : Int) : Int := ((stepN 8 (BitVec.ofInt 32 m)).toNat : Int)

theorem step8I_bv (x : BitVec 32) : step8I (x.toNat : Int) = ((stepN 8 x).toNat : Int) := by
  unfold step8I
  have : BitVec.ofInt 32 (x.toNat : Int) = x := u32_of x
  rw [this]

/-- (told by choice, so that nobody reckons it) -/
noncomputable def inU32 (m : Int) : Bool := @decide (0 ≤ m ∧ m < 4294967296) (Classical.propDecidable _)

theorem inU32_iff {m : Int} : inU32 m = true ↔ 0 ≤ m ∧ m < 4294967296 := by unfold inU32; simp

noncomputable def g_step : List AV → Option AV
  | [.int .u32 m] => if inU32 m = true then some (.int .u32 (step8I m)) else none
  | _ => none

theorem step_pure : PureC Try.prog n_step g_step := by
  intro args σ v h
  unfold g_step at h
  split at h
  · rename_i m
    split at h
    · rename_i hm
      rw [inU32_iff] at hm
      simp only [Option.some.injEq] at h; subst h
      have e : m = ((BitVec.ofInt 32 m).toNat : Int) := by simp; omega
      have := step_ok' (X := BitVec.ofInt 32 m) (σ := σ)
      rw [← e] at this
      exact this
    · cases h
  · cases h

noncomputable def t2 : Tbl := [(n_step, g_step)]

theorem t2_ok : t2.ok Try.prog := Tbl.ok_cons step_pure Tbl.ok_nil

def tab (i : Nat) : List AV := (List.range 256).map fun j => .int .u32 (if j < i then step8I (j : Int) else 0)

theorem tab_len (i : Nat) : (tab i).length = 256 := by simp only [tab, List.length_map, List.length_range]

theorem tab_zero : tab 0 = zeros 256 (.int .u32 0) := by
  apply List.ext_getElem
  · simp only [tab_len, zeros, List.length_replicate]
  · intro i h1 h2
    simp only [tab, zeros, List.getElem_map, List.getElem_replicate, Nat.not_lt_zero, if_false]

theorem tab_get {i j : Nat} (hj : j < 256) : (tab i)[j]? = some (.int .u32 (if j < i then step8I (j : Int) else 0)) := by simp [tab, hj]

theorem tab_set {i : Nat} (hi : i < 256) : splice (tab i) i [.int .u32 (step8I (i : Int))] = tab (i + 1) := by
  apply List.ext_getElem?
  intro j
  unfold splice
  rw [List.append_assoc, List.getElem?_append]
  have hl : ((tab i).take i).length = i := by simp [tab_len]; omega
  rw [hl]
  by_cases hj : j < i
  · rw [if_pos hj, List.getElem?_take, if_pos hj, tab_get (by omega), tab_get (by omega), if_pos hj, if_pos (by omega)]
  · rw [if_neg hj, List.getElem?_append]
    by_cases hji : j = i
    · subst hji
      rw [tab_get hi, Nat.sub_self, if_pos (show (0 : Nat) < [_].length from by simp), if_pos (by omega)]
      rfl
    · rw [if_neg (by simp; omega)]
      simp only [List.length_singleton, List.getElem?_drop]
      rw [show i + 1 + (j - i - 1) = j by omega]
      rcases Nat.lt_or_ge j 256 with h | h
      · rw [tab_get h, tab_get h, if_neg hj, if_neg (by omega)]
      · rw [List.getElem?_eq_none (by rw [tab_len]; omega), List.getElem?_eq_none (by rw [tab_len]; omega)]

theorem u32_un (x : BitVec 32) : IntKind.u32.wrap ((BitVec.ofInt IntKind.u32.bits (if IntKind.u32.signed = true then -1 else IntKind.u32.max) ^^^ BitVec.ofInt IntKind.u32.bits (x.toNat : Int)).toNat) = ((~~~ x).toNat : Int) := by
  have h1 : BitVec.ofInt IntKind.u32.bits (if IntKind.u32.signed = true then -1 else IntKind.u32.max) = BitVec.allOnes 32 := rfl
  rw [h1, u32_of]
  show IntKind.u32.wrap (((BitVec.allOnes 32 ^^^ x : BitVec 32).toNat : Nat) : Int) = _
  rw [BitVec.allOnes_xor]; exact u32_wrap _

theorem u8_index (Y : BitVec 32) (c : UInt8) : IntKind.u8.wrap ((BitVec.ofInt IntKind.u8.bits (IntKind.u8.wrap (Y.toNat : Int)) ^^^ BitVec.ofInt IntKind.u8.bits (c.toNat : Int)).toNat) = (((Y ^^^ BitVec.ofNat 32 c.toNat) &&& 0xff#32).toNat : Int) := by
  have h1 : BitVec.ofInt IntKind.u8.bits (IntKind.u8.wrap (Y.toNat : Int)) = BitVec.ofNat 8 Y.toNat := by
    apply BitVec.eq_of_toNat_eq
    simp [IntKind.wrap, IntKind.bits, IntKind.signed]; omega
  have h2 : BitVec.ofInt IntKind.u8.bits (c.toNat : Int) = BitVec.ofNat 8 c.toNat := rfl
  rw [h1, h2]
  have h3 : (BitVec.ofNat 8 Y.toNat ^^^ BitVec.ofNat 8 c.toNat : BitVec 8).toNat = ((Y ^^^ BitVec.ofNat 32 c.toNat) &&& 0xff#32).toNat := by
    rw [BitVec.toNat_xor, BitVec.toNat_and, BitVec.toNat_xor]
    have hff : (0xff#32).toNat = 2 ^ 8 - 1 := rfl
    rw [hff, Nat.and_two_pow_sub_one_eq_mod, Nat.xor_mod_two_pow]
    simp only [BitVec.toNat_ofNat]
    have := c.toNat_lt
    rw [Nat.mod_eq_of_lt (show c.toNat < 2 ^ 32 by omega)]
  show IntKind.u8.wrap (((BitVec.ofNat 8 Y.toNat ^^^ BitVec.ofNat 8 c.toNat : BitVec 8).toNat : Nat) : Int) = _
  rw [h3]
  have h4 : ((Y ^^^ BitVec.ofNat 32 c.toNat) &&& 0xff#32).toNat < 256 := by
    rw [BitVec.toNat_and]
    exact Nat.lt_of_le_of_lt Nat.and_le_right (by decide)
  generalize ((Y ^^^ BitVec.ofNat 32 c.toNat) &&& 0xff#32).toNat = m at h4
  simp [IntKind.wrap, IntKind.bits, IntKind.signed]; omega

theorem byte_high (c : UInt8) : BitVec.ofNat 32 c.toNat >>> 8 = 0#32 := by
  have := c.toNat_lt
  apply BitVec.eq_of_toNat_eq
  rw [BitVec.toNat_ushiftRight, BitVec.toNat_ofNat, Nat.shiftRight_eq_div_pow, Nat.mod_eq_of_lt (by omega)]
  simp; omega

set_option maxHeartbeats 1000000 in
theorem con_ok {l : List UInt8} {g : Ver} {σ : St} (hl : l.length ≤ 1099511627776) : ACalls Try.prog n_con [.int .u32 0, .sl (bytesAV l) g] σ (fun v σ' => v = .int .u32 (crcOf l : Int) ∧ σ' = σ) := by
  refine s_con (fun wf => ?_)
  unfold c_con
  refine T.seq_k (fun K_h1 h1 => ?_)
  refine T.regi hm ?_
  simp only [↓reduceIte, namesOf, List.any, I.names, aops, aopsI, aopsT, qstep, CPt, qget, Tbl.get, astep, ev, setd, List.set, List.getD, List.getElem?_cons_zero, List.getElem?_cons_succ, List.getElem?_nil, List.cons_append, List.nil_append, List.length_cons, List.length_nil, List.replicate, then_normal, inBlock_normal, Option.getD_some, Option.getD_none, Bool.or_false, Bool.or_true, Bool.true_or, Bool.false_or, Bool.false_eq_true, if_false, if_true, up_zero, Nat.reduceAdd, Nat.reduceSub, binv, ↓opt_def, AV.isAny, AV.cells, ldc, List.map_cons, List.map_nil, St.set_next, St.set_same, St.up_next, Int.natCast_nonneg, lt_len, le_len, Int.toNat_natCast, true_and, and_true, eq_self, reduceCtorEq, decide_true, List.length_singleton, er_int, er_bool, er_str]
  refine h1 _ _ ?_
  try clear h1 K_h1
  refine T.seq_k (fun K_h1 h1 => ?_)
  refine T.regi hm ?_
  simp only [↓reduceIte, namesOf, List.any, I.names, aops, aopsI, aopsT, qstep, CPt, qget, Tbl.get, astep, ev, setd, List.set, List.getD, List.getElem?_cons_zero, List.getElem?_cons_succ, List.getElem?_nil, List.cons_append, List.nil_append, List.length_cons, List.length_nil, List.replicate, then_normal, inBlock_normal, Option.getD_some, Option.getD_none, Bool.or_false, Bool.or_true, Bool.true_or, Bool.false_or, Bool.false_eq_true, if_false, if_true, up_zero, Nat.reduceAdd, Nat.reduceSub, binv, ↓opt_def, AV.isAny, AV.cells, ldc, List.map_cons, List.map_nil, St.set_next, St.set_same, St.up_next, Int.natCast_nonneg, lt_len, le_len, Int.toNat_natCast, true_and, and_true, eq_self, reduceCtorEq, decide_true, List.length_singleton, er_int, er_bool, er_str]
  refine h1 _ _ ?_
  try clear h1 K_h1
  refine T.seq_k (fun K_h1 h1 => ?_)
  refine T.seq_k (fun K_h2 h2 => ?_)
  refine T.regi hm ?_
  simp only [↓reduceIte, namesOf, List.any, I.names, aops, aopsI, aopsT, qstep, CPt, qget, Tbl.get, astep, ev, setd, List.set, List.getD, List.getElem?_cons_zero, List.getElem?_cons_succ, List.getElem?_nil, List.cons_append, List.nil_append, List.length_cons, List.length_nil, List.replicate, then_normal, inBlock_normal, Option.getD_some, Option.getD_none, Bool.or_false, Bool.or_true, Bool.true_or, Bool.false_or, Bool.false_eq_true, if_false, if_true, up_zero, Nat.reduceAdd, Nat.reduceSub, binv, ↓opt_def, AV.isAny, AV.cells, ldc, List.map_cons, List.map_nil, St.set_next, St.set_same, St.up_next, Int.natCast_nonneg, lt_len, le_len, Int.toNat_natCast, true_and, and_true, eq_self, reduceCtorEq, decide_true, List.length_singleton, er_int, er_bool, er_str]
  refine h2 _ _ ?_
  try clear h2 K_h2
  refine T.block ?_
  rw [Nat.add_zero]
  refine T.gh (Gh.keep [0, 1, 5, 10]) ?_
  refine T.loop (fun ρ σ' => ∃ (i : Nat), i ≤ 256 ∧ σ' = (σ.up 1).set σ.next (.obj (tab i)) ∧ ρ = [.int .u32 0, .sl (bytesAV l) g, .any, .any, .any, .ptr σ.next 0, .any, .any, .any, .any, .int .i64 (i : Int)] ++ List.replicate 28 .any)
    (fun ρ _ => match ρ.getD 10 .any with | .int _ m => (256 - m).toNat | _ => 0) ⟨0, by omega, by rw [tab_zero], rfl⟩ ?_
  rintro ρ σ' ⟨i, hi, rfl, rfl⟩
  refine T.seq_k (fun K_h2 h2 => ?_)
  refine T.regi hm ?_
  simp only [↓reduceIte, namesOf, List.any, I.names, aops, aopsI, aopsT, qstep, CPt, qget, Tbl.get, astep, ev, setd, List.set, List.getD, List.getElem?_cons_zero, List.getElem?_cons_succ, List.getElem?_nil, List.cons_append, List.nil_append, List.length_cons, List.length_nil, List.replicate, then_normal, inBlock_normal, Option.getD_some, Option.getD_none, Bool.or_false, Bool.or_true, Bool.true_or, Bool.false_or, Bool.false_eq_true, if_false, if_true, up_zero, Nat.reduceAdd, Nat.reduceSub, binv, ↓opt_def, AV.isAny, AV.cells, ldc, List.map_cons, List.map_nil, St.set_next, St.set_same, St.up_next, Int.natCast_nonneg, lt_len, le_len, Int.toNat_natCast, true_and, and_true, eq_self, reduceCtorEq, decide_true, List.length_singleton, er_int, er_bool, er_str]
  refine h2 _ _ ?_
  try clear h2 K_h2
  refine T.seq_k (fun K_h2 h2 => ?_)
  refine T.cond rfl (fun hb => ?_) (fun hb => ?_)
  · refine T.skip ?_
    refine h2 _ _ ?_
    try clear h2 K_h2
    have hi8 : i < 256 := by simp at hb; omega
    clear hb
    have e1 : IntKind.u32.wrap (i : Int) = (i : Int) := by simp [IntKind.wrap, IntKind.bits, IntKind.signed]; omega
    have e2 : inU32 (i : Int) = true := inU32_iff.2 (by omega)
    have e3 : (i : Int) < ((256 : Nat) : Int) := by omega
    have e4 : IntKind.i64.wrap ((i : Int) + 1) = (i : Int) + 1 := wrap64 (by omega) (by omega)
    have e6 : i < 256 := hi8
    refine T.seq_k (fun K_h2 h2 => ?_)
    refine T.block ?_
    refine T.seq_k (fun K_h3 h3 => ?_)
    refine T.regi hm ?_
    simp only [↓reduceIte, namesOf, List.any, I.names, aops, aopsI, aopsT, qstep, CPt, qget, Tbl.get, astep, ev, setd, List.set, List.getD, List.getElem?_cons_zero, List.getElem?_cons_succ, List.getElem?_nil, List.cons_append, List.nil_append, List.length_cons, List.length_nil, List.replicate, then_normal, inBlock_normal, Option.getD_some, Option.getD_none, Bool.or_false, Bool.or_true, Bool.true_or, Bool.false_or, Bool.false_eq_true, if_false, if_true, up_zero, Nat.reduceAdd, Nat.reduceSub, binv, ↓opt_def, AV.isAny, AV.cells, ldc, List.map_cons, List.map_nil, St.set_next, St.set_same, St.up_next, Int.natCast_nonneg, lt_len, le_len, Int.toNat_natCast, true_and, and_true, eq_self, reduceCtorEq, decide_true, List.length_singleton, er_int, er_bool, er_str]
    refine h3 _ _ ?_
    try clear h3 K_h3
    refine T.regt hm t2_ok ?_
    simp only [↓reduceIte, namesOf, List.any, I.names, aops, aopsI, aopsT, qstep, CPt, qget, Tbl.get, astep, ev, setd, List.set, List.getD, List.getElem?_cons_zero, List.getElem?_cons_succ, List.getElem?_nil, List.cons_append, List.nil_append, List.length_cons, List.length_nil, List.replicate, then_normal, inBlock_normal, Option.getD_some, Option.getD_none, Bool.or_false, Bool.or_true, Bool.true_or, Bool.false_or, Bool.false_eq_true, if_false, if_true, up_zero, Nat.reduceAdd, Nat.reduceSub, binv, ↓opt_def, AV.isAny, AV.cells, ldc, List.map_cons, List.map_nil, St.set_next, St.set_same, St.up_next, Int.natCast_nonneg, lt_len, le_len, Int.toNat_natCast, true_and, and_true, eq_self, reduceCtorEq, decide_true, List.length_singleton, er_int, er_bool, er_str, Nat.reduceEqDiff, t2, g_step, e1, e2, e3, AV.fits, AV.one, List.all_cons, List.all_nil, tab_len, Nat.mul_one, Nat.zero_add, tab_set hi8, St.set_set, Bool.and_true, Bool.not_false, Nat.reduceBEq, Bool.true_and, e6, Nat.succ_le_of_lt hi8, Bool.and_self]
    refine h2 _ _ ?_
    try clear h2 K_h2
    refine T.regi hm ?_
    simp only [↓reduceIte, namesOf, List.any, I.names, aops, aopsI, aopsT, qstep, CPt, qget, Tbl.get, astep, ev, setd, List.set, List.getD, List.getElem?_cons_zero, List.getElem?_cons_succ, List.getElem?_nil, List.cons_append, List.nil_append, List.length_cons, List.length_nil, List.replicate, then_normal, inBlock_normal, Option.getD_some, Option.getD_none, Bool.or_false, Bool.or_true, Bool.true_or, Bool.false_or, Bool.false_eq_true, if_false, if_true, up_zero, Nat.reduceAdd, Nat.reduceSub, binv, ↓opt_def, AV.isAny, AV.cells, ldc, List.map_cons, List.map_nil, St.set_next, St.set_same, St.up_next, Int.natCast_nonneg, lt_len, le_len, Int.toNat_natCast, true_and, and_true, eq_self, reduceCtorEq, decide_true, List.length_singleton, er_int, er_bool, er_str, e4]
    refine ⟨_, _, Gh.keep [0, 1, 5, 10], ⟨i + 1, hi8, rfl, rfl⟩, ?_⟩
    show ((256 : Int) - ((i : Int) + 1)).toNat < (256 - (i : Int)).toNat
    omega
  · refine T.exit ?_
    have : i = 256 := by simp at hb; omega
    subst this
    clear hb hi
    try simp only [↓reduceIte, namesOf, List.any, I.names, aops, aopsI, aopsT, qstep, CPt, qget, Tbl.get, astep, ev, setd, List.set, List.getD, List.getElem?_cons_zero, List.getElem?_cons_succ, List.getElem?_nil, List.cons_append, List.nil_append, List.length_cons, List.length_nil, List.replicate, then_normal, inBlock_normal, Option.getD_some, Option.getD_none, Bool.or_false, Bool.or_true, Bool.true_or, Bool.false_or, Bool.false_eq_true, if_false, if_true, up_zero, Nat.reduceAdd, Nat.reduceSub, binv, ↓opt_def, AV.isAny, AV.cells, ldc, List.map_cons, List.map_nil, St.set_next, St.set_same, St.up_next, Int.natCast_nonneg, lt_len, le_len, Int.toNat_natCast, true_and, and_true, eq_self, reduceCtorEq, decide_true, List.length_singleton, er_int, er_bool, er_str, inBlock_exit, then_exit]
    refine h1 _ _ ?_
    try clear h1 K_h1
    refine T.seq_k (fun K_h1 h1 => ?_)
    have e1 := u32_un 0#32
    have e1z : ((0#32).toNat : Int) = 0 := rfl
    rw [e1z] at e1
    refine T.regi hm ?_
    simp only [↓reduceIte, namesOf, List.any, I.names, aops, aopsI, aopsT, qstep, CPt, qget, Tbl.get, astep, ev, setd, List.set, List.getD, List.getElem?_cons_zero, List.getElem?_cons_succ, List.getElem?_nil, List.cons_append, List.nil_append, List.length_cons, List.length_nil, List.replicate, then_normal, inBlock_normal, Option.getD_some, Option.getD_none, Bool.or_false, Bool.or_true, Bool.true_or, Bool.false_or, Bool.false_eq_true, if_false, if_true, up_zero, Nat.reduceAdd, Nat.reduceSub, binv, ↓opt_def, AV.isAny, AV.cells, ldc, List.map_cons, List.map_nil, St.set_next, St.set_same, St.up_next, Int.natCast_nonneg, lt_len, le_len, Int.toNat_natCast, true_and, and_true, eq_self, reduceCtorEq, decide_true, List.length_singleton, er_int, er_bool, er_str, e1]
    refine h1 _ _ ?_
    try clear h1 K_h1
    refine T.seq_k (fun K_h1 h1 => ?_)
    refine T.seq_k (fun K_h2 h2 => ?_)
    refine T.regi hm ?_
    simp only [↓reduceIte, namesOf, List.any, I.names, aops, aopsI, aopsT, qstep, CPt, qget, Tbl.get, astep, ev, setd, List.set, List.getD, List.getElem?_cons_zero, List.getElem?_cons_succ, List.getElem?_nil, List.cons_append, List.nil_append, List.length_cons, List.length_nil, List.replicate, then_normal, inBlock_normal, Option.getD_some, Option.getD_none, Bool.or_false, Bool.or_true, Bool.true_or, Bool.false_or, Bool.false_eq_true, if_false, if_true, up_zero, Nat.reduceAdd, Nat.reduceSub, binv, ↓opt_def, AV.isAny, AV.cells, ldc, List.map_cons, List.map_nil, St.set_next, St.set_same, St.up_next, Int.natCast_nonneg, lt_len, le_len, Int.toNat_natCast, true_and, and_true, eq_self, reduceCtorEq, decide_true, List.length_singleton, er_int, er_bool, er_str, bytesAV_len]
    refine h2 _ _ ?_
    try clear h2 K_h2
    refine T.block ?_
    refine T.gh (Gh.keep [1, 5, 7, 21, 22, 23]) ?_
    have hq : ∀ n r, σ.res n = some r → ((σ.up 1).set σ.next (.obj (tab 256))).res n = some r := by
      intro n r hr
      have : n ≠ σ.next := fun e => by subst e; rw [wf _ (Nat.le_refl _)] at hr; cases hr
      rw [St.set_other _ _ this]; exact hr
    have htab : ((σ.up 1).set σ.next (.obj (tab 256))).res σ.next = some (.obj (tab 256)) := by simp
    generalize ((σ.up 1).set σ.next (.obj (tab 256))) = σ1 at hq htab ⊢
    refine T.loop (fun ρ σ' => σ' = σ1 ∧ ∃ (i : Nat) (Y : BitVec 32), i ≤ l.length ∧ crcRun Y (l.drop i) = crcRun 0xffffffff#32 l ∧ ρ = [.any, .sl (bytesAV l) g, .any, .any, .any, .ptr σ.next 0, .any, .int .u32 (Y.toNat : Int), .any, .any, .any, .any, .any, .any, .any, .any, .any, .any, .any, .any, .any, .sl (bytesAV l) g, .int .i64 (l.length : Int), .int .i64 (i : Int)] ++ List.replicate 15 .any)
      (fun ρ _ => match ρ.getD 23 .any with | .int _ m => (l.length - m).toNat | _ => 0) ⟨rfl, 0, 0xffffffff#32, Nat.zero_le _, rfl, rfl⟩ ?_
    rintro ρ σ' ⟨rfl, i, Y, hi, hY, rfl⟩
    refine T.seq_k (fun K_h2 h2 => ?_)
    refine T.regi hm ?_
    simp only [↓reduceIte, namesOf, List.any, I.names, aops, aopsI, aopsT, qstep, CPt, qget, Tbl.get, astep, ev, setd, List.set, List.getD, List.getElem?_cons_zero, List.getElem?_cons_succ, List.getElem?_nil, List.cons_append, List.nil_append, List.length_cons, List.length_nil, List.replicate, then_normal, inBlock_normal, Option.getD_some, Option.getD_none, Bool.or_false, Bool.or_true, Bool.true_or, Bool.false_or, Bool.false_eq_true, if_false, if_true, up_zero, Nat.reduceAdd, Nat.reduceSub, binv, ↓opt_def, AV.isAny, AV.cells, ldc, List.map_cons, List.map_nil, St.set_next, St.set_same, St.up_next, Int.natCast_nonneg, lt_len, le_len, Int.toNat_natCast, true_and, and_true, eq_self, reduceCtorEq, decide_true, List.length_singleton, er_int, er_bool, er_str]
    refine h2 _ _ ?_
    try clear h2 K_h2
    refine T.seq_k (fun K_h2 h2 => ?_)
    refine T.cond rfl (fun hb => ?_) (fun hb => ?_)
    · refine T.skip ?_
      refine h2 _ _ ?_
      try clear h2 K_h2
      have hil : i < l.length := by simp at hb; omega
      clear hb
      refine T.seq_k (fun K_h2 h2 => ?_)
      refine T.block ?_
      refine T.seq_k (fun K_h3 h3 => ?_)
      refine T.regi hm ?_
      simp only [↓reduceIte, namesOf, List.any, I.names, aops, aopsI, aopsT, qstep, CPt, qget, Tbl.get, astep, ev, setd, List.set, List.getD, List.getElem?_cons_zero, List.getElem?_cons_succ, List.getElem?_nil, List.cons_append, List.nil_append, List.length_cons, List.length_nil, List.replicate, then_normal, inBlock_normal, Option.getD_some, Option.getD_none, Bool.or_false, Bool.or_true, Bool.true_or, Bool.false_or, Bool.false_eq_true, if_false, if_true, up_zero, Nat.reduceAdd, Nat.reduceSub, binv, ↓opt_def, AV.isAny, AV.cells, ldc, List.map_cons, List.map_nil, St.set_next, St.set_same, St.up_next, Int.natCast_nonneg, lt_len, le_len, Int.toNat_natCast, true_and, and_true, eq_self, reduceCtorEq, decide_true, List.length_singleton, er_int, er_bool, er_str, bytesAV_len, bytes_get hil, hil]
      refine h3 _ _ ?_
      try clear h3 K_h3
      have e2 := u32_shr8 Y
      have e3 := u8_index Y l[i]
      have e4 := table_step Y (BitVec.ofNat 32 l[i].toNat) (byte_high _)
      have hj : ((Y ^^^ BitVec.ofNat 32 l[i].toNat) &&& 0xff#32).toNat < 256 := by
        rw [BitVec.toNat_and]
        exact Nat.lt_of_le_of_lt Nat.and_le_right (by decide)
      have e6 := tab_get (i := 256) hj
      rw [if_pos hj, step8I_bv] at e6
      generalize hx : ((Y ^^^ BitVec.ofNat 32 l[i].toNat) &&& 0xff#32) = x at e3 e4 e6 hj
      have e7 := u32_xor (Y >>> 8) (stepN 8 x)
      have hj' : (x.toNat : Int) < ((256 : Nat) : Int) := by omega
      refine T.regi hm ?_
      simp only [↓reduceIte, namesOf, List.any, I.names, aops, aopsI, aopsT, qstep, CPt, qget, Tbl.get, astep, ev, setd, List.set, List.getD, List.getElem?_cons_zero, List.getElem?_cons_succ, List.getElem?_nil, List.cons_append, List.nil_append, List.length_cons, List.length_nil, List.replicate, then_normal, inBlock_normal, Option.getD_some, Option.getD_none, Bool.or_false, Bool.or_true, Bool.true_or, Bool.false_or, Bool.false_eq_true, if_false, if_true, up_zero, Nat.reduceAdd, Nat.reduceSub, binv, ↓opt_def, AV.isAny, AV.cells, ldc, List.map_cons, List.map_nil, St.set_next, St.set_same, St.up_next, Int.natCast_nonneg, lt_len, le_len, Int.toNat_natCast, true_and, and_true, eq_self, reduceCtorEq, decide_true, List.length_singleton, er_int, er_bool, er_str, e2, e3, htab, show ¬ ((8 : Int) < 0) by omega, hj', hj, Nat.zero_add, Nat.mul_one, e6, e7]
      refine h2 _ _ ?_
      try clear h2 K_h2
      have e8 : IntKind.i64.wrap ((i : Int) + 1) = (i : Int) + 1 := wrap64 (by omega) (by omega)
      refine T.regi hm ?_
      simp only [↓reduceIte, namesOf, List.any, I.names, aops, aopsI, aopsT, qstep, CPt, qget, Tbl.get, astep, ev, setd, List.set, List.getD, List.getElem?_cons_zero, List.getElem?_cons_succ, List.getElem?_nil, List.cons_append, List.nil_append, List.length_cons, List.length_nil, List.replicate, then_normal, inBlock_normal, Option.getD_some, Option.getD_none, Bool.or_false, Bool.or_true, Bool.true_or, Bool.false_or, Bool.false_eq_true, if_false, if_true, up_zero, Nat.reduceAdd, Nat.reduceSub, binv, ↓opt_def, AV.isAny, AV.cells, ldc, List.map_cons, List.map_nil, St.set_next, St.set_same, St.up_next, Int.natCast_nonneg, lt_len, le_len, Int.toNat_natCast, true_and, and_true, eq_self, reduceCtorEq, decide_true, List.length_singleton, er_int, er_bool, er_str, e8]
      refine ⟨_, _, Gh.keep [1, 5, 7, 21, 22, 23], ⟨rfl, i + 1, (Y >>> 8) ^^^ stepN 8 x, hil, ?_, rfl⟩, ?_⟩
      · rw [← hY, List.drop_eq_getElem_cons hil, ← e4]
        rfl
      · show ((l.length : Int) - ((i : Int) + 1)).toNat < ((l.length : Int) - (i : Int)).toNat
        omega
    · refine T.exit ?_
      have : i = l.length := by simp at hb; omega
      subst this
      try simp only [↓reduceIte, namesOf, List.any, I.names, aops, aopsI, aopsT, qstep, CPt, qget, Tbl.get, astep, ev, setd, List.set, List.getD, List.getElem?_cons_zero, List.getElem?_cons_succ, List.getElem?_nil, List.cons_append, List.nil_append, List.length_cons, List.length_nil, List.replicate, then_normal, inBlock_normal, Option.getD_some, Option.getD_none, Bool.or_false, Bool.or_true, Bool.true_or, Bool.false_or, Bool.false_eq_true, if_false, if_true, up_zero, Nat.reduceAdd, Nat.reduceSub, binv, ↓opt_def, AV.isAny, AV.cells, ldc, List.map_cons, List.map_nil, St.set_next, St.set_same, St.up_next, Int.natCast_nonneg, lt_len, le_len, Int.toNat_natCast, true_and, and_true, eq_self, reduceCtorEq, decide_true, List.length_singleton, er_int, er_bool, er_str, inBlock_exit, then_exit]
      refine h1 _ _ ?_
      try clear h1 K_h1
      refine T.seq_k (fun K_h1 h1 => ?_)
      have e1 := u32_un Y
      refine T.regi hm ?_
      simp only [↓reduceIte, namesOf, List.any, I.names, aops, aopsI, aopsT, qstep, CPt, qget, Tbl.get, astep, ev, setd, List.set, List.getD, List.getElem?_cons_zero, List.getElem?_cons_succ, List.getElem?_nil, List.cons_append, List.nil_append, List.length_cons, List.length_nil, List.replicate, then_normal, inBlock_normal, Option.getD_some, Option.getD_none, Bool.or_false, Bool.or_true, Bool.true_or, Bool.false_or, Bool.false_eq_true, if_false, if_true, up_zero, Nat.reduceAdd, Nat.reduceSub, binv, ↓opt_def, AV.isAny, AV.cells, ldc, List.map_cons, List.map_nil, St.set_next, St.set_same, St.up_next, Int.natCast_nonneg, lt_len, le_len, Int.toNat_natCast, true_and, and_true, eq_self, reduceCtorEq, decide_true, List.length_singleton, er_int, er_bool, er_str, e1]
      refine h1 _ _ ?_
      try clear h1 K_h1
      refine T.ret (Fin.quiet rfl trivial hq ⟨?_, rfl⟩)
      rw [List.drop_length] at hY
      simp only [crcRun] at hY
      unfold crcOf
      rw [← hY]; rfl

end Go.VL

namespace Go.VL

open Go.Proofs

theorem csum_ok {l : List UInt8} {g : Ver} {σ : St} (hl : l.length ≤ 1099511627776) : ACalls Try.prog n_csum [.sl (bytesAV l) g] σ (fun v σ' => v = .int .u32 (crcOf l : Int) ∧ σ' = σ) := by
  refine s_csum (fun wf => ?_)
  unfold c_csum
  refine T.seq_k (fun K_h1 h1 => ?_)
  refine T.regi hm ?_
  simp only [↓reduceIte, namesOf, List.any, I.names, aops, aopsI, aopsT, qstep, CPt, qget, Tbl.get, astep, ev, setd, List.set, List.getD, List.getElem?_cons_zero, List.getElem?_cons_succ, List.getElem?_nil, List.cons_append, List.nil_append, List.length_cons, List.length_nil, List.replicate, then_normal, inBlock_normal, Option.getD_some, Option.getD_none, Bool.or_false, Bool.or_true, Bool.true_or, Bool.false_or, Bool.false_eq_true, if_false, if_true, up_zero, Nat.reduceAdd, Nat.reduceSub, binv, ↓opt_def, AV.isAny, AV.cells, ldc, List.map_cons, List.map_nil, St.set_next, St.set_same, St.up_next, Int.natCast_nonneg, lt_len, le_len, Int.toNat_natCast, true_and, and_true, eq_self, reduceCtorEq, decide_true, List.length_singleton, er_int, er_bool, er_str]
  refine h1 _ _ ?_
  try clear h1 K_h1
  refine T.seq_k (fun K_h1 h1 => ?_)
  refine T.regi hm ?_
  simp only [↓reduceIte, namesOf, List.any, I.names, aops, aopsI, aopsT, qstep, CPt, qget, Tbl.get, astep, ev, setd, List.set, List.getD, List.getElem?_cons_zero, List.getElem?_cons_succ, List.getElem?_nil, List.cons_append, List.nil_append, List.length_cons, List.length_nil, List.replicate, then_normal, inBlock_normal, Option.getD_some, Option.getD_none, Bool.or_false, Bool.or_true, Bool.true_or, Bool.false_or, Bool.false_eq_true, if_false, if_true, up_zero, Nat.reduceAdd, Nat.reduceSub, binv, ↓opt_def, AV.isAny, AV.cells, ldc, List.map_cons, List.map_nil, St.set_next, St.set_same, St.up_next, Int.natCast_nonneg, lt_len, le_len, Int.toNat_natCast, true_and, and_true, eq_self, reduceCtorEq, decide_true, List.length_singleton, er_int, er_bool, er_str]
  refine (con_ok hl).mono ?_
  rintro v σ' ⟨rfl, rfl⟩
  refine h1 _ _ ?_
  try clear h1 K_h1
  exact T.ret (Fin.ret rfl ⟨rfl, rfl⟩)

def sealB (l : List UInt8) : List UInt8 := l ++ beB 4 (crcOf l)

theorem sealB_len (l : List UInt8) : (sealB l).length = l.length + 4 := by simp [sealB, beB_len]

theorem u64_crc (l : List UInt8) : IntKind.u64.wrap (crcOf l : Int) = (crcOf l : Int) := by
  have := crcOf_lt l
  simp [IntKind.wrap, IntKind.bits, IntKind.signed]; omega

theorem cseal_ok {l : List UInt8} {g : Ver} {σ : St} (hl : l.length ≤ 1099511627776) : ACalls Try.prog n_cseal [.sl (bytesAV l) g] σ (fun v σ' => ∃ h, OneTip σ σ' h 1 ∧ v = .sl (bytesAV (sealB l)) (.tip h)) := by
  refine s_cseal (fun wf => ?_)
  unfold c_cseal
  refine T.seq_k (fun K_h1 h1 => ?_)
  refine T.regi hm ?_
  simp only [↓reduceIte, namesOf, List.any, I.names, aops, aopsI, aopsT, qstep, CPt, qget, Tbl.get, astep, ev, setd, List.set, List.getD, List.getElem?_cons_zero, List.getElem?_cons_succ, List.getElem?_nil, List.cons_append, List.nil_append, List.length_cons, List.length_nil, List.replicate, then_normal, inBlock_normal, Option.getD_some, Option.getD_none, Bool.or_false, Bool.or_true, Bool.true_or, Bool.false_or, Bool.false_eq_true, if_false, if_true, up_zero, Nat.reduceAdd, Nat.reduceSub, binv, ↓opt_def, AV.isAny, AV.cells, ldc, List.map_cons, List.map_nil, St.set_next, St.set_same, St.up_next, Int.natCast_nonneg, lt_len, le_len, Int.toNat_natCast, true_and, and_true, eq_self, reduceCtorEq, decide_true, List.length_singleton, er_int, er_bool, er_str]
  refine h1 _ _ ?_
  try clear h1 K_h1
  refine T.seq_k (fun K_h1 h1 => ?_)
  refine T.regi hm ?_
  simp only [↓reduceIte, namesOf, List.any, I.names, aops, aopsI, aopsT, qstep, CPt, qget, Tbl.get, astep, ev, setd, List.set, List.getD, List.getElem?_cons_zero, List.getElem?_cons_succ, List.getElem?_nil, List.cons_append, List.nil_append, List.length_cons, List.length_nil, List.replicate, then_normal, inBlock_normal, Option.getD_some, Option.getD_none, Bool.or_false, Bool.or_true, Bool.true_or, Bool.false_or, Bool.false_eq_true, if_false, if_true, up_zero, Nat.reduceAdd, Nat.reduceSub, binv, ↓opt_def, AV.isAny, AV.cells, ldc, List.map_cons, List.map_nil, St.set_next, St.set_same, St.up_next, Int.natCast_nonneg, lt_len, le_len, Int.toNat_natCast, true_and, and_true, eq_self, reduceCtorEq, decide_true, List.length_singleton, er_int, er_bool, er_str]
  refine (csum_ok hl).mono ?_
  rintro v σ' ⟨rfl, rfl⟩
  try simp only [↓reduceIte, namesOf, List.any, I.names, aops, aopsI, aopsT, qstep, CPt, qget, Tbl.get, astep, ev, setd, List.set, List.getD, List.getElem?_cons_zero, List.getElem?_cons_succ, List.getElem?_nil, List.cons_append, List.nil_append, List.length_cons, List.length_nil, List.replicate, then_normal, inBlock_normal, Option.getD_some, Option.getD_none, Bool.or_false, Bool.or_true, Bool.true_or, Bool.false_or, Bool.false_eq_true, if_false, if_true, up_zero, Nat.reduceAdd, Nat.reduceSub, binv, ↓opt_def, AV.isAny, AV.cells, ldc, List.map_cons, List.map_nil, St.set_next, St.set_same, St.up_next, Int.natCast_nonneg, lt_len, le_len, Int.toNat_natCast, true_and, and_true, eq_self, reduceCtorEq, decide_true, List.length_singleton, er_int, er_bool, er_str, u64_crc]
  have h4 := crcOf_lt l
  refine (wput_ok (w := 4) hl rfl (fun _ => by omega)).mono ?_
  rintro v σ2 ⟨h, o1, rfl⟩
  try simp only [↓reduceIte, namesOf, List.any, I.names, aops, aopsI, aopsT, qstep, CPt, qget, Tbl.get, astep, ev, setd, List.set, List.getD, List.getElem?_cons_zero, List.getElem?_cons_succ, List.getElem?_nil, List.cons_append, List.nil_append, List.length_cons, List.length_nil, List.replicate, then_normal, inBlock_normal, Option.getD_some, Option.getD_none, Bool.or_false, Bool.or_true, Bool.true_or, Bool.false_or, Bool.false_eq_true, if_false, if_true, up_zero, Nat.reduceAdd, Nat.reduceSub, binv, ↓opt_def, AV.isAny, AV.cells, ldc, List.map_cons, List.map_nil, St.set_next, St.set_same, St.up_next, Int.natCast_nonneg, lt_len, le_len, Int.toNat_natCast, true_and, and_true, eq_self, reduceCtorEq, decide_true, List.length_singleton, er_int, er_bool, er_str, List.getElem?_cons_succ]
  refine h1 _ _ ?_
  try clear h1 K_h1
  refine T.seq_k (fun K_h1 h1 => ?_)
  refine T.seq_k (fun K_h2 h2 => ?_)
  refine T.regi hm ?_
  simp only [↓reduceIte, namesOf, List.any, I.names, aops, aopsI, aopsT, qstep, CPt, qget, Tbl.get, astep, ev, setd, List.set, List.getD, List.getElem?_cons_zero, List.getElem?_cons_succ, List.getElem?_nil, List.cons_append, List.nil_append, List.length_cons, List.length_nil, List.replicate, then_normal, inBlock_normal, Option.getD_some, Option.getD_none, Bool.or_false, Bool.or_true, Bool.true_or, Bool.false_or, Bool.false_eq_true, if_false, if_true, up_zero, Nat.reduceAdd, Nat.reduceSub, binv, ↓opt_def, AV.isAny, AV.cells, ldc, List.map_cons, List.map_nil, St.set_next, St.set_same, St.up_next, Int.natCast_nonneg, lt_len, le_len, Int.toNat_natCast, true_and, and_true, eq_self, reduceCtorEq, decide_true, List.length_singleton, er_int, er_bool, er_str, eqIv, bne_self_eq_false, Bool.not_true]
  refine h2 _ _ ?_
  try clear h2 K_h2
  refine T.cond rfl (fun hb => by cases hb) (fun hb => ?_)
  refine T.skip ?_
  refine h1 _ _ ?_
  try clear h1 K_h1
  refine T.seq_k (fun K_h1 h1 => ?_)
  refine T.regi hm ?_
  simp only [↓reduceIte, namesOf, List.any, I.names, aops, aopsI, aopsT, qstep, CPt, qget, Tbl.get, astep, ev, setd, List.set, List.getD, List.getElem?_cons_zero, List.getElem?_cons_succ, List.getElem?_nil, List.cons_append, List.nil_append, List.length_cons, List.length_nil, List.replicate, then_normal, inBlock_normal, Option.getD_some, Option.getD_none, Bool.or_false, Bool.or_true, Bool.true_or, Bool.false_or, Bool.false_eq_true, if_false, if_true, up_zero, Nat.reduceAdd, Nat.reduceSub, binv, ↓opt_def, AV.isAny, AV.cells, ldc, List.map_cons, List.map_nil, St.set_next, St.set_same, St.up_next, Int.natCast_nonneg, lt_len, le_len, Int.toNat_natCast, true_and, and_true, eq_self, reduceCtorEq, decide_true, List.length_singleton, er_int, er_bool, er_str]
  refine h1 _ _ ?_
  try clear h1 K_h1
  exact T.ret (Fin.ret rfl ⟨h, o1, rfl⟩)

theorem nb_bytes (m : Nat) (l : List UInt8) : nbs m (bytesAV l) := by
  rw [nbs_iff]
  intro x hx
  simp only [bytesAV, List.mem_map] at hx
  obtain ⟨b, _, rfl⟩ := hx
  trivial

theorem cseal_q {l : List UInt8} {g : Ver} {σ : St} (hl : l.length ≤ 1099511627776) : ACalls Try.prog n_cseal [.sl (bytesAV l) g] σ (fun v σ' => v = .sl (bytesAV (sealB l)) .none ∧ σ' = σ) := by
  refine (cseal_ok hl).gv ?_
  rintro wf v σ' ⟨h, o1, rfl⟩
  refine ⟨_, _, (Gv.wk (Wk.sl _ _)).trans (Gv.quiet ?_ (o1.quiet wf)), rfl, rfl⟩
  exact ⟨nb_bytes _ _, trivial⟩

end Go.VL

namespace Go.VL

open Go.Proofs

theorem Wk.tup2 {a b c : AV} (h : Wk a b) : Wk (.tup [a, c]) (.tup [b, c]) := fun κ w v hv => by
  obtain ⟨u, rfl, hu⟩ := hv.tup_inv
  cases hu with
  | cons v x vs xs hx t => exact .tup _ _ (.cons _ _ _ _ (h κ w v hx) t)

theorem Fin.quietw {σ0 : St} {rs : List RX} {K : AV → St → Prop} {ρ : List AV} {σ : St} {xs : List AV} {y : AV} (h1 : rvals ρ σ rs = some xs) (hw : Wk (pack xs) y) (hx : y.nb σ0.next) (hr : ∀ n r, σ0.res n = some r → σ.res n = some r) (h2 : K y σ0) : Fin σ0 rs K .ret ρ σ :=
  ⟨ρ, σ, xs, _, σ0, .refl, h1, (Gv.wk hw).trans (.quiet hx hr), h2⟩

theorem toBytes_bytes : ∀ l : List UInt8, toBytes (bytesAV l) = some l
  | [] => rfl
  | b :: r => by
    have h := toBytes_bytes r
    simp only [bytesAV] at h
    simp only [bytesAV, List.map_cons, toBytes, h, Option.map_some, Int.toNat_natCast]
    simp

theorem ba_eq (a b : List UInt8) : decide ((⟨a.toArray⟩ : ByteArray) = ⟨b.toArray⟩) = decide (a = b) := by
  by_cases h : a = b
  · subst h; simp
  · rw [decide_eq_false h, decide_eq_false]
    intro e
    injection e with e
    exact h (by simpa using e)

theorem bytes_take (l : List UInt8) (n : Nat) : (bytesAV l).take n = bytesAV (l.take n) := by simp [bytesAV, List.map_take]

theorem bytes_drop (l : List UInt8) (n : Nat) : (bytesAV l).drop n = bytesAV (l.drop n) := by simp [bytesAV, List.map_drop]

theorem bequal_ok {a b : List UInt8} {g g' : Ver} {σ : St} : ACalls Try.prog n_bequal [.sl (bytesAV a) g, .sl (bytesAV b) g'] σ (fun v σ' => v = .bool (decide (a = b)) ∧ σ' = σ) := by
  refine s_bequal (fun wf => ?_)
  unfold c_bequal
  refine T.seq_k (fun K_h1 h1 => ?_)
  refine T.regi hm ?_
  simp only [↓reduceIte, namesOf, List.any, I.names, aops, aopsI, aopsT, qstep, CPt, qget, Tbl.get, astep, ev, setd, List.set, List.getD, List.getElem?_cons_zero, List.getElem?_cons_succ, List.getElem?_nil, List.cons_append, List.nil_append, List.length_cons, List.length_nil, List.replicate, then_normal, inBlock_normal, Option.getD_some, Option.getD_none, Bool.or_false, Bool.or_true, Bool.true_or, Bool.false_or, Bool.false_eq_true, if_false, if_true, up_zero, Nat.reduceAdd, Nat.reduceSub, binv, ↓opt_def, AV.isAny, AV.cells, ldc, List.map_cons, List.map_nil, St.set_next, St.set_same, St.up_next, Int.natCast_nonneg, lt_len, le_len, Int.toNat_natCast, true_and, and_true, eq_self, reduceCtorEq, decide_true, List.length_singleton, er_int, er_bool, er_str]
  refine h1 _ _ ?_
  try clear h1 K_h1
  refine T.seq_k (fun K_h1 h1 => ?_)
  refine T.regi hm ?_
  simp only [↓reduceIte, namesOf, List.any, I.names, aops, aopsI, aopsT, qstep, CPt, qget, Tbl.get, astep, ev, setd, List.set, List.getD, List.getElem?_cons_zero, List.getElem?_cons_succ, List.getElem?_nil, List.cons_append, List.nil_append, List.length_cons, List.length_nil, List.replicate, then_normal, inBlock_normal, Option.getD_some, Option.getD_none, Bool.or_false, Bool.or_true, Bool.true_or, Bool.false_or, Bool.false_eq_true, if_false, if_true, up_zero, Nat.reduceAdd, Nat.reduceSub, binv, ↓opt_def, AV.isAny, AV.cells, ldc, List.map_cons, List.map_nil, St.set_next, St.set_same, St.up_next, Int.natCast_nonneg, lt_len, le_len, Int.toNat_natCast, true_and, and_true, eq_self, reduceCtorEq, decide_true, List.length_singleton, er_int, er_bool, er_str, toBytes_bytes, sbinv, ba_eq]
  refine h1 _ _ ?_
  try clear h1 K_h1
  exact T.ret (Fin.ret rfl ⟨rfl, rfl⟩)

def openB (l : List UInt8) : Int × List UInt8 := if l.length < 4 then (2, []) else if l = sealB (l.take (l.length - 4)) then (0, l.take (l.length - 4)) else (7, [])

def errAV (c : Int) : AV := if c = 0 then .nili else .iface tCode (.int .i64 c)

theorem copen_ok {l : List UInt8} {g : Ver} {σ : St} (hl : l.length ≤ 1099511627776) : ACalls Try.prog n_copen [.sl (bytesAV l) g] σ (fun v σ' => v = .tup [.sl (bytesAV (openB l).2) .none, errAV (openB l).1] ∧ σ' = σ) := by
  refine s_copen (fun wf => ?_)
  unfold c_copen
  refine T.seq_k (fun K_h1 h1 => ?_)
  refine T.regi hm ?_
  simp only [↓reduceIte, namesOf, List.any, I.names, aops, aopsI, aopsT, qstep, CPt, qget, Tbl.get, astep, ev, setd, List.set, List.getD, List.getElem?_cons_zero, List.getElem?_cons_succ, List.getElem?_nil, List.cons_append, List.nil_append, List.length_cons, List.length_nil, List.replicate, then_normal, inBlock_normal, Option.getD_some, Option.getD_none, Bool.or_false, Bool.or_true, Bool.true_or, Bool.false_or, Bool.false_eq_true, if_false, if_true, up_zero, Nat.reduceAdd, Nat.reduceSub, binv, ↓opt_def, AV.isAny, AV.cells, ldc, List.map_cons, List.map_nil, St.set_next, St.set_same, St.up_next, Int.natCast_nonneg, lt_len, le_len, Int.toNat_natCast, true_and, and_true, eq_self, reduceCtorEq, decide_true, List.length_singleton, er_int, er_bool, er_str]
  refine h1 _ _ ?_
  try clear h1 K_h1
  refine T.seq_k (fun K_h1 h1 => ?_)
  have e1 : IntKind.i64.wrap ((l.length : Int) - 4) = (l.length : Int) - 4 := wrap64 (by omega) (by omega)
  refine T.regi hm ?_
  simp only [↓reduceIte, namesOf, List.any, I.names, aops, aopsI, aopsT, qstep, CPt, qget, Tbl.get, astep, ev, setd, List.set, List.getD, List.getElem?_cons_zero, List.getElem?_cons_succ, List.getElem?_nil, List.cons_append, List.nil_append, List.length_cons, List.length_nil, List.replicate, then_normal, inBlock_normal, Option.getD_some, Option.getD_none, Bool.or_false, Bool.or_true, Bool.true_or, Bool.false_or, Bool.false_eq_true, if_false, if_true, up_zero, Nat.reduceAdd, Nat.reduceSub, binv, ↓opt_def, AV.isAny, AV.cells, ldc, List.map_cons, List.map_nil, St.set_next, St.set_same, St.up_next, Int.natCast_nonneg, lt_len, le_len, Int.toNat_natCast, true_and, and_true, eq_self, reduceCtorEq, decide_true, List.length_singleton, er_int, er_bool, er_str, bytesAV_len, e1]
  refine h1 _ _ ?_
  try clear h1 K_h1
  refine T.seq_k (fun K_h1 h1 => ?_)
  refine T.block ?_
  refine T.seq_k (fun K_h2 h2 => ?_)
  refine T.regi hm ?_
  simp only [↓reduceIte, namesOf, List.any, I.names, aops, aopsI, aopsT, qstep, CPt, qget, Tbl.get, astep, ev, setd, List.set, List.getD, List.getElem?_cons_zero, List.getElem?_cons_succ, List.getElem?_nil, List.cons_append, List.nil_append, List.length_cons, List.length_nil, List.replicate, then_normal, inBlock_normal, Option.getD_some, Option.getD_none, Bool.or_false, Bool.or_true, Bool.true_or, Bool.false_or, Bool.false_eq_true, if_false, if_true, up_zero, Nat.reduceAdd, Nat.reduceSub, binv, ↓opt_def, AV.isAny, AV.cells, ldc, List.map_cons, List.map_nil, St.set_next, St.set_same, St.up_next, Int.natCast_nonneg, lt_len, le_len, Int.toNat_natCast, true_and, and_true, eq_self, reduceCtorEq, decide_true, List.length_singleton, er_int, er_bool, er_str]
  refine h2 _ _ ?_
  try clear h2 K_h2
  refine T.cond rfl (fun hb => ?_) (fun hb => ?_)
  · have hlt : l.length < 4 := by simp at hb; omega
    have e2 : openB l = (2, []) := by unfold openB; rw [if_pos hlt]
    refine T.seq_k (fun K_h2 h2 => ?_)
    refine T.regi hm ?_
    simp only [↓reduceIte, namesOf, List.any, I.names, aops, aopsI, aopsT, qstep, CPt, qget, Tbl.get, astep, ev, setd, List.set, List.getD, List.getElem?_cons_zero, List.getElem?_cons_succ, List.getElem?_nil, List.cons_append, List.nil_append, List.length_cons, List.length_nil, List.replicate, then_normal, inBlock_normal, Option.getD_some, Option.getD_none, Bool.or_false, Bool.or_true, Bool.true_or, Bool.false_or, Bool.false_eq_true, if_false, if_true, up_zero, Nat.reduceAdd, Nat.reduceSub, binv, ↓opt_def, AV.isAny, AV.cells, ldc, List.map_cons, List.map_nil, St.set_next, St.set_same, St.up_next, Int.natCast_nonneg, lt_len, le_len, Int.toNat_natCast, true_and, and_true, eq_self, reduceCtorEq, decide_true, List.length_singleton, er_int, er_bool, er_str]
    refine h2 _ _ ?_
    try clear h2 K_h2
    exact T.ret (Fin.quietw rfl (Wk.tup2 (Wk.sl _ _)) ⟨⟨trivial, trivial⟩, trivial, trivial⟩ (fun _ _ h => h) ⟨by rw [e2]; rfl, rfl⟩)
  · obtain ⟨n, hn⟩ : ∃ n, l.length = n + 4 := ⟨l.length - 4, by simp at hb; omega⟩
    have e2 : (l.length : Int) - 4 = (n : Int) := by omega
    have e3 : (n : Int) ≤ (((bytesAV l).length : Nat) : Int) := by rw [bytesAV_len]; omega
    have e4 : ¬ ((n : Int) = (((bytesAV l).length : Nat) : Int)) := by rw [bytesAV_len]; omega
    rw [e2]
    clear hb
    refine T.seq_k (fun K_h2 h2 => ?_)
    refine T.regi hm ?_
    simp only [↓reduceIte, namesOf, List.any, I.names, aops, aopsI, aopsT, qstep, CPt, qget, Tbl.get, astep, ev, setd, List.set, List.getD, List.getElem?_cons_zero, List.getElem?_cons_succ, List.getElem?_nil, List.cons_append, List.nil_append, List.length_cons, List.length_nil, List.replicate, then_normal, inBlock_normal, Option.getD_some, Option.getD_none, Bool.or_false, Bool.or_true, Bool.true_or, Bool.false_or, Bool.false_eq_true, if_false, if_true, up_zero, Nat.reduceAdd, Nat.reduceSub, binv, ↓opt_def, AV.isAny, AV.cells, ldc, List.map_cons, List.map_nil, St.set_next, St.set_same, St.up_next, Int.natCast_nonneg, lt_len, le_len, Int.toNat_natCast, true_and, and_true, eq_self, reduceCtorEq, decide_true, List.length_singleton, er_int, er_bool, er_str, idx, e3, e4, bytes_all, Int.sub_zero, List.drop_zero, bytes_take, Int.toNat_zero, false_and, Int.le_refl]
    have hlt : (l.take n).length ≤ 1099511627776 := by rw [List.length_take]; omega
    refine (cseal_q hlt).mono ?_
    rintro v σ1 ⟨rfl, rfl⟩
    try simp only [↓reduceIte, namesOf, List.any, I.names, aops, aopsI, aopsT, qstep, CPt, qget, Tbl.get, astep, ev, setd, List.set, List.getD, List.getElem?_cons_zero, List.getElem?_cons_succ, List.getElem?_nil, List.cons_append, List.nil_append, List.length_cons, List.length_nil, List.replicate, then_normal, inBlock_normal, Option.getD_some, Option.getD_none, Bool.or_false, Bool.or_true, Bool.true_or, Bool.false_or, Bool.false_eq_true, if_false, if_true, up_zero, Nat.reduceAdd, Nat.reduceSub, binv, ↓opt_def, AV.isAny, AV.cells, ldc, List.map_cons, List.map_nil, St.set_next, St.set_same, St.up_next, Int.natCast_nonneg, lt_len, le_len, Int.toNat_natCast, true_and, and_true, eq_self, reduceCtorEq, decide_true, List.length_singleton, er_int, er_bool, er_str, up_zero]
    refine bequal_ok.mono ?_
    rintro v σ1 ⟨rfl, rfl⟩
    try simp only [↓reduceIte, namesOf, List.any, I.names, aops, aopsI, aopsT, qstep, CPt, qget, Tbl.get, astep, ev, setd, List.set, List.getD, List.getElem?_cons_zero, List.getElem?_cons_succ, List.getElem?_nil, List.cons_append, List.nil_append, List.length_cons, List.length_nil, List.replicate, then_normal, inBlock_normal, Option.getD_some, Option.getD_none, Bool.or_false, Bool.or_true, Bool.true_or, Bool.false_or, Bool.false_eq_true, if_false, if_true, up_zero, Nat.reduceAdd, Nat.reduceSub, binv, ↓opt_def, AV.isAny, AV.cells, ldc, List.map_cons, List.map_nil, St.set_next, St.set_same, St.up_next, Int.natCast_nonneg, lt_len, le_len, Int.toNat_natCast, true_and, and_true, eq_self, reduceCtorEq, decide_true, List.length_singleton, er_int, er_bool, er_str, up_zero]
    refine h2 _ _ ?_
    try clear h2 K_h2
    have e5 : l.take (l.length - 4) = l.take n := by rw [hn]; rfl
    by_cases he : l = sealB (l.take n)
    · refine T.cond rfl (fun hb => by simp at hb; exact absurd he hb) (fun hb => ?_)
      have e6 : openB l = (0, l.take n) := by unfold openB; rw [if_neg (by omega), e5, if_pos he]
      refine T.skip ?_
      try simp only [↓reduceIte, namesOf, List.any, I.names, aops, aopsI, aopsT, qstep, CPt, qget, Tbl.get, astep, ev, setd, List.set, List.getD, List.getElem?_cons_zero, List.getElem?_cons_succ, List.getElem?_nil, List.cons_append, List.nil_append, List.length_cons, List.length_nil, List.replicate, then_normal, inBlock_normal, Option.getD_some, Option.getD_none, Bool.or_false, Bool.or_true, Bool.true_or, Bool.false_or, Bool.false_eq_true, if_false, if_true, up_zero, Nat.reduceAdd, Nat.reduceSub, binv, ↓opt_def, AV.isAny, AV.cells, ldc, List.map_cons, List.map_nil, St.set_next, St.set_same, St.up_next, Int.natCast_nonneg, lt_len, le_len, Int.toNat_natCast, true_and, and_true, eq_self, reduceCtorEq, decide_true, List.length_singleton, er_int, er_bool, er_str, inBlock_normal]
      refine h1 _ _ ?_
      try clear h1 K_h1
      refine T.seq_k (fun K_h1 h1 => ?_)
      refine T.regi hm ?_
      simp only [↓reduceIte, namesOf, List.any, I.names, aops, aopsI, aopsT, qstep, CPt, qget, Tbl.get, astep, ev, setd, List.set, List.getD, List.getElem?_cons_zero, List.getElem?_cons_succ, List.getElem?_nil, List.cons_append, List.nil_append, List.length_cons, List.length_nil, List.replicate, then_normal, inBlock_normal, Option.getD_some, Option.getD_none, Bool.or_false, Bool.or_true, Bool.true_or, Bool.false_or, Bool.false_eq_true, if_false, if_true, up_zero, Nat.reduceAdd, Nat.reduceSub, binv, ↓opt_def, AV.isAny, AV.cells, ldc, List.map_cons, List.map_nil, St.set_next, St.set_same, St.up_next, Int.natCast_nonneg, lt_len, le_len, Int.toNat_natCast, true_and, and_true, eq_self, reduceCtorEq, decide_true, List.length_singleton, er_int, er_bool, er_str, idx, e3, e4, bytes_all, Int.sub_zero, List.drop_zero, bytes_take, Int.toNat_zero, false_and, Int.le_refl, held, srcOf, St.set_same, bytesAV_er, List.all_nil, Bool.true_and, List.isEmpty]
      rw [if_pos (by simp only [bytesAV_len, decide_eq_true_eq]; omega)]
      have o1 := ((OneTip.new (σ := σ1) (k := 1) (n := 7) (i := 0) (by omega)).mv wf (g2 := σ1.next + 4) (by omega) (by simp))
      refine h1 _ _ ?_
      try clear h1 K_h1
      exact T.ret (Fin.quietw rfl (Wk.tup2 (Wk.sl _ _)) ⟨⟨nb_bytes _ _, trivial⟩, trivial, trivial⟩ (o1.quiet wf) ⟨by rw [e6]; rfl, rfl⟩)
    · refine T.cond rfl (fun hb => ?_) (fun hb => by simp at hb; exact absurd hb he)
      have e6 : openB l = (7, []) := by unfold openB; rw [if_neg (by omega), e5, if_neg he]
      refine T.seq_k (fun K_h2 h2 => ?_)
      refine T.regi hm ?_
      simp only [↓reduceIte, namesOf, List.any, I.names, aops, aopsI, aopsT, qstep, CPt, qget, Tbl.get, astep, ev, setd, List.set, List.getD, List.getElem?_cons_zero, List.getElem?_cons_succ, List.getElem?_nil, List.cons_append, List.nil_append, List.length_cons, List.length_nil, List.replicate, then_normal, inBlock_normal, Option.getD_some, Option.getD_none, Bool.or_false, Bool.or_true, Bool.true_or, Bool.false_or, Bool.false_eq_true, if_false, if_true, up_zero, Nat.reduceAdd, Nat.reduceSub, binv, ↓opt_def, AV.isAny, AV.cells, ldc, List.map_cons, List.map_nil, St.set_next, St.set_same, St.up_next, Int.natCast_nonneg, lt_len, le_len, Int.toNat_natCast, true_and, and_true, eq_self, reduceCtorEq, decide_true, List.length_singleton, er_int, er_bool, er_str]
      refine h2 _ _ ?_
      try clear h2 K_h2
      exact T.ret (Fin.quietw rfl (Wk.tup2 (Wk.sl _ _)) ⟨⟨trivial, trivial⟩, trivial, trivial⟩ (fun _ _ h => h) ⟨by rw [e6]; rfl, rfl⟩)

end Go.VL

namespace Go.VL

open Go.Proofs

def natI (l : List Nat) : List Int := l.map fun n : Nat => (n : Int)

theorem natI_get {l : List Nat} {i : Nat} (h : i < l.length) : (nums .u64 (natI l))[i]? = some (.int .u64 (l[i] : Int)) := by simp [nums, natI, h]

def runB (l : List Nat) : List UInt8 := l.flatMap (beB 8)

theorem runB_len : ∀ l : List Nat, (runB l).length = 8 * l.length
  | [] => rfl
  | n :: r => by
    have := runB_len r
    unfold runB at this ⊢
    rw [List.flatMap_cons, List.length_append, beB_len, this, List.length_cons]; omega

theorem runB_take {l : List Nat} {i : Nat} (h : i < l.length) : runB (l.take (i + 1)) = runB (l.take i) ++ beB 8 l[i] := by
  rw [List.take_succ_eq_append_getElem h]; unfold runB; rw [List.flatMap_append]; simp only [List.flatMap_cons, List.flatMap_nil, List.append_nil]

theorem wput_q {l : List UInt8} {g : Ver} {w n : Nat} {σ : St} (hl : l.length ≤ 1099511627776) (hw : rightB w = true) (hn : w < 8 → n / 256 ^ w = 0) :
    ACalls Try.prog n_wput [.sl (bytesAV l) g, .int .i64 w, .int .u64 n] σ (fun v σ' => v = .tup [.sl (bytesAV (l ++ beB w n)) .none, .nili] ∧ σ' = σ) := by
  refine (wput_ok hl hw hn).gv ?_
  rintro wf v σ' ⟨h, o1, rfl⟩
  exact ⟨_, _, (Gv.wk (Wk.tup2 (Wk.sl _ _))).trans (Gv.quiet ⟨⟨nb_bytes _ _, trivial⟩, trivial, trivial⟩ (o1.quiet wf)), rfl, rfl⟩

end Go.VL

namespace Go.VL

open Go.Proofs

def rd (l : List UInt8) (g : Ver) (at_ bad : Int) : Res := .obj [.sl (bytesAV l) g, .int .i64 at_, .int .i64 bad]

theorem wbad_ok {l : List UInt8} {g : Ver} {at_ bad : Int} {n : Nat} {σ : St} (hr : σ.res n = some (rd l g at_ bad)) : ACalls Try.prog n_wbad [.ptr n 0] σ (fun v σ' => v = .int .i64 bad ∧ σ' = σ) := by
  refine s_wbad (fun wf => ?_)
  unfold c_wbad rd at *
  refine T.seq_k (fun K_h1 h1 => ?_)
  refine T.regi hm ?_
  simp only [↓reduceIte, namesOf, List.any, I.names, aops, aopsI, aopsT, qstep, CPt, qget, Tbl.get, astep, ev, setd, List.set, List.getD, List.getElem?_cons_zero, List.getElem?_cons_succ, List.getElem?_nil, List.cons_append, List.nil_append, List.length_cons, List.length_nil, List.replicate, then_normal, inBlock_normal, Option.getD_some, Option.getD_none, Bool.or_false, Bool.or_true, Bool.true_or, Bool.false_or, Bool.false_eq_true, if_false, if_true, up_zero, Nat.reduceAdd, Nat.reduceSub, binv, ↓opt_def, AV.isAny, AV.cells, ldc, List.map_cons, List.map_nil, St.set_next, St.set_same, St.up_next, Int.natCast_nonneg, lt_len, le_len, Int.toNat_natCast, true_and, and_true, eq_self, reduceCtorEq, decide_true, List.length_singleton, er_int, er_bool, er_str]
  refine h1 _ _ ?_
  try clear h1 K_h1
  refine T.seq_k (fun K_h1 h1 => ?_)
  refine T.regi hm ?_
  simp only [↓reduceIte, namesOf, List.any, I.names, aops, aopsI, aopsT, qstep, CPt, qget, Tbl.get, astep, ev, setd, List.set, List.getD, List.getElem?_cons_zero, List.getElem?_cons_succ, List.getElem?_nil, List.cons_append, List.nil_append, List.length_cons, List.length_nil, List.replicate, then_normal, inBlock_normal, Option.getD_some, Option.getD_none, Bool.or_false, Bool.or_true, Bool.true_or, Bool.false_or, Bool.false_eq_true, if_false, if_true, up_zero, Nat.reduceAdd, Nat.reduceSub, binv, ↓opt_def, AV.isAny, AV.cells, ldc, List.map_cons, List.map_nil, St.set_next, St.set_same, St.up_next, Int.natCast_nonneg, lt_len, le_len, Int.toNat_natCast, true_and, and_true, eq_self, reduceCtorEq, decide_true, List.length_singleton, er_int, er_bool, er_str, hr, Nat.zero_add]
  refine h1 _ _ ?_
  try clear h1 K_h1
  exact T.ret (Fin.ret rfl ⟨rfl, rfl⟩)

theorem wleft_ok {l : List UInt8} {g : Ver} {at_ bad : Int} {n : Nat} {σ : St} (hl : l.length ≤ 1099511627776) (h0 : 0 ≤ at_) (h1' : at_ ≤ l.length) (hr : σ.res n = some (rd l g at_ bad)) :
    ACalls Try.prog n_wleft [.ptr n 0] σ (fun v σ' => v = .int .i64 (l.length - at_) ∧ σ' = σ) := by
  refine s_wleft (fun wf => ?_)
  unfold c_wleft rd at *
  refine T.seq_k (fun K_h1 h1 => ?_)
  refine T.regi hm ?_
  simp only [↓reduceIte, namesOf, List.any, I.names, aops, aopsI, aopsT, qstep, CPt, qget, Tbl.get, astep, ev, setd, List.set, List.getD, List.getElem?_cons_zero, List.getElem?_cons_succ, List.getElem?_nil, List.cons_append, List.nil_append, List.length_cons, List.length_nil, List.replicate, then_normal, inBlock_normal, Option.getD_some, Option.getD_none, Bool.or_false, Bool.or_true, Bool.true_or, Bool.false_or, Bool.false_eq_true, if_false, if_true, up_zero, Nat.reduceAdd, Nat.reduceSub, binv, ↓opt_def, AV.isAny, AV.cells, ldc, List.map_cons, List.map_nil, St.set_next, St.set_same, St.up_next, Int.natCast_nonneg, lt_len, le_len, Int.toNat_natCast, true_and, and_true, eq_self, reduceCtorEq, decide_true, List.length_singleton, er_int, er_bool, er_str]
  refine h1 _ _ ?_
  try clear h1 K_h1
  refine T.seq_k (fun K_h1 h1 => ?_)
  have e1 : IntKind.i64.wrap ((l.length : Int) - at_) = (l.length : Int) - at_ := wrap64 (by omega) (by omega)
  refine T.regi hm ?_
  simp only [↓reduceIte, namesOf, List.any, I.names, aops, aopsI, aopsT, qstep, CPt, qget, Tbl.get, astep, ev, setd, List.set, List.getD, List.getElem?_cons_zero, List.getElem?_cons_succ, List.getElem?_nil, List.cons_append, List.nil_append, List.length_cons, List.length_nil, List.replicate, then_normal, inBlock_normal, Option.getD_some, Option.getD_none, Bool.or_false, Bool.or_true, Bool.true_or, Bool.false_or, Bool.false_eq_true, if_false, if_true, up_zero, Nat.reduceAdd, Nat.reduceSub, binv, ↓opt_def, AV.isAny, AV.cells, ldc, List.map_cons, List.map_nil, St.set_next, St.set_same, St.up_next, Int.natCast_nonneg, lt_len, le_len, Int.toNat_natCast, true_and, and_true, eq_self, reduceCtorEq, decide_true, List.length_singleton, er_int, er_bool, er_str, hr, Nat.zero_add, bytesAV_len, e1]
  refine h1 _ _ ?_
  try clear h1 K_h1
  exact T.ret (Fin.ret rfl ⟨rfl, rfl⟩)

theorem wfail_ok {l : List UInt8} {g : Ver} {at_ bad x : Int} {n : Nat} {σ : St} (hr : σ.res n = some (rd l g at_ bad)) :
    ACalls Try.prog n_wfail [.ptr n 0, .int .i64 x] σ (fun _ σ' => σ' = σ.set n (rd l g at_ (if bad = -1 then x else bad))) := by
  refine s_wfail (fun wf => ?_)
  unfold c_wfail rd at *
  refine T.seq_k (fun K_h1 h1 => ?_)
  by_cases hb : bad = -1
  · have e : (bad == -1) = true := by simpa using hb
    refine T.regi hm ?_
    simp only [↓reduceIte, namesOf, List.any, I.names, aops, aopsI, aopsT, qstep, CPt, qget, Tbl.get, astep, ev, setd, List.set, List.getD, List.getElem?_cons_zero, List.getElem?_cons_succ, List.getElem?_nil, List.cons_append, List.nil_append, List.length_cons, List.length_nil, List.replicate, then_normal, inBlock_normal, Option.getD_some, Option.getD_none, Bool.or_false, Bool.or_true, Bool.true_or, Bool.false_or, Bool.false_eq_true, if_false, if_true, up_zero, Nat.reduceAdd, Nat.reduceSub, binv, ↓opt_def, AV.isAny, AV.cells, ldc, List.map_cons, List.map_nil, St.set_next, St.set_same, St.up_next, Int.natCast_nonneg, lt_len, le_len, Int.toNat_natCast, true_and, and_true, eq_self, reduceCtorEq, decide_true, List.length_singleton, er_int, er_bool, er_str, hr, Nat.zero_add, e]
    refine h1 _ _ ?_
    try clear h1 K_h1
    refine T.cond rfl (fun _ => ?_) (fun h => by cases h)
    refine T.regi hm ?_
    simp only [↓reduceIte, namesOf, List.any, I.names, aops, aopsI, aopsT, qstep, CPt, qget, Tbl.get, astep, ev, setd, List.set, List.getD, List.getElem?_cons_zero, List.getElem?_cons_succ, List.getElem?_nil, List.cons_append, List.nil_append, List.length_cons, List.length_nil, List.replicate, then_normal, inBlock_normal, Option.getD_some, Option.getD_none, Bool.or_false, Bool.or_true, Bool.true_or, Bool.false_or, Bool.false_eq_true, if_false, if_true, up_zero, Nat.reduceAdd, Nat.reduceSub, binv, ↓opt_def, AV.isAny, AV.cells, ldc, List.map_cons, List.map_nil, St.set_next, St.set_same, St.up_next, Int.natCast_nonneg, lt_len, le_len, Int.toNat_natCast, true_and, and_true, eq_self, reduceCtorEq, decide_true, List.length_singleton, er_int, er_bool, er_str, hr, AV.fits, AV.one, List.all_cons, List.all_nil, Nat.reduceBEq, Bool.and_true, Bool.not_false, Bool.and_self, Nat.zero_add, splice, List.take, List.drop, Nat.reduceLeDiff]
    refine Fin.retn rfl ?_
    simp only [hb, if_true]
  · have e : (bad == -1) = false := by simpa using hb
    refine T.regi hm ?_
    simp only [↓reduceIte, namesOf, List.any, I.names, aops, aopsI, aopsT, qstep, CPt, qget, Tbl.get, astep, ev, setd, List.set, List.getD, List.getElem?_cons_zero, List.getElem?_cons_succ, List.getElem?_nil, List.cons_append, List.nil_append, List.length_cons, List.length_nil, List.replicate, then_normal, inBlock_normal, Option.getD_some, Option.getD_none, Bool.or_false, Bool.or_true, Bool.true_or, Bool.false_or, Bool.false_eq_true, if_false, if_true, up_zero, Nat.reduceAdd, Nat.reduceSub, binv, ↓opt_def, AV.isAny, AV.cells, ldc, List.map_cons, List.map_nil, St.set_next, St.set_same, St.up_next, Int.natCast_nonneg, lt_len, le_len, Int.toNat_natCast, true_and, and_true, eq_self, reduceCtorEq, decide_true, List.length_singleton, er_int, er_bool, er_str, hr, Nat.zero_add, e]
    refine h1 _ _ ?_
    try clear h1 K_h1
    refine T.cond rfl (fun h => by cases h) (fun _ => ?_)
    refine T.skip (Fin.retn rfl ?_)
    simp only [if_neg hb]
    have : σ.set n (.obj [.sl (bytesAV l) g, .int .i64 at_, .int .i64 bad]) = σ := by
      rw [← St.set_self hr]
      simp
    exact this.symm

/-- what a reader may be -/
structure Rd (l : List UInt8) (at_ bad : Int) : Prop where
  len : l.length ≤ 1099511627776
  lo : 0 ≤ at_
  hi : at_ ≤ l.length

def takeOk (l : List UInt8) (at_ bad w : Int) : Prop := bad = -1 ∧ w ≤ l.length - at_

theorem wtake_ok {l : List UInt8} {g : Ver} {at_ bad : Int} {w n : Nat} {σ : St} (hd : Rd l at_ bad) (hw : w ≤ 1000000000) (hr : σ.res n = some (rd l g at_ bad)) :
    ACalls Try.prog n_wtake [.ptr n 0, .int .i64 w] σ (fun v σ' => (takeOk l at_ bad w ∧ v = .sl (bytesAV ((l.drop at_.toNat).take w)) .none ∧ σ' = σ.set n (rd l g (at_ + w) bad)) ∨
      (¬ takeOk l at_ bad w ∧ v = .sl [] .none ∧ σ' = σ.set n (rd l g at_ (if bad = -1 then at_ else bad)))) := by
  obtain ⟨hl, h0, hhi⟩ := hd
  refine s_wtake (fun wf => ?_)
  unfold c_wtake
  refine T.seq_k (fun K_h1 h1 => ?_)
  refine T.regi hm ?_
  simp only [↓reduceIte, namesOf, List.any, I.names, aops, aopsI, aopsT, qstep, CPt, qget, Tbl.get, astep, ev, setd, List.set, List.getD, List.getElem?_cons_zero, List.getElem?_cons_succ, List.getElem?_nil, List.cons_append, List.nil_append, List.length_cons, List.length_nil, List.replicate, then_normal, inBlock_normal, Option.getD_some, Option.getD_none, Bool.or_false, Bool.or_true, Bool.true_or, Bool.false_or, Bool.false_eq_true, if_false, if_true, up_zero, Nat.reduceAdd, Nat.reduceSub, binv, ↓opt_def, AV.isAny, AV.cells, ldc, List.map_cons, List.map_nil, St.set_next, St.set_same, St.up_next, Int.natCast_nonneg, lt_len, le_len, Int.toNat_natCast, true_and, and_true, eq_self, reduceCtorEq, decide_true, List.length_singleton, er_int, er_bool, er_str]
  refine h1 _ _ ?_
  try clear h1 K_h1
  refine T.seq_k (fun K_h1 h1 => ?_)
  refine T.seq_k (fun K_h2 h2 => ?_)
  have hr' := hr
  unfold rd at hr
  have hfail : ¬ takeOk l at_ bad w → ∀ ρ, keep [0, 23] 0 ρ = [.ptr n 0] ++ List.replicate 22 .any ++ [.bool true] ++ List.replicate 29 .any → K_h2 ρ σ := by
    intro hno ρ hρ
    refine h2 _ _ (T.gh (Gh.keep [0, 23]) ?_)
    rw [hρ]
    clear h1 h2 hρ ρ
    refine T.cond rfl (fun _ => ?_) (fun h => by cases h)
    refine T.seq_k (fun K_h1 h1 => ?_)
    refine T.regi hm ?_
    simp only [↓reduceIte, namesOf, List.any, I.names, aops, aopsI, aopsT, qstep, CPt, qget, Tbl.get, astep, ev, setd, List.set, List.getD, List.getElem?_cons_zero, List.getElem?_cons_succ, List.getElem?_nil, List.cons_append, List.nil_append, List.length_cons, List.length_nil, List.replicate, then_normal, inBlock_normal, Option.getD_some, Option.getD_none, Bool.or_false, Bool.or_true, Bool.true_or, Bool.false_or, Bool.false_eq_true, if_false, if_true, up_zero, Nat.reduceAdd, Nat.reduceSub, binv, ↓opt_def, AV.isAny, AV.cells, ldc, List.map_cons, List.map_nil, St.set_next, St.set_same, St.up_next, Int.natCast_nonneg, lt_len, le_len, Int.toNat_natCast, true_and, and_true, eq_self, reduceCtorEq, decide_true, List.length_singleton, er_int, er_bool, er_str, hr, Nat.zero_add]
    refine (wfail_ok (σ := σ) hr').mono ?_
    rintro v σ2 rfl
    refine h1 _ _ ?_
    try clear h1 K_h1
    refine T.seq_k (fun K_h1 h1 => ?_)
    refine T.regi hm ?_
    simp only [↓reduceIte, namesOf, List.any, I.names, aops, aopsI, aopsT, qstep, CPt, qget, Tbl.get, astep, ev, setd, List.set, List.getD, List.getElem?_cons_zero, List.getElem?_cons_succ, List.getElem?_nil, List.cons_append, List.nil_append, List.length_cons, List.length_nil, List.replicate, then_normal, inBlock_normal, Option.getD_some, Option.getD_none, Bool.or_false, Bool.or_true, Bool.true_or, Bool.false_or, Bool.false_eq_true, if_false, if_true, up_zero, Nat.reduceAdd, Nat.reduceSub, binv, ↓opt_def, AV.isAny, AV.cells, ldc, List.map_cons, List.map_nil, St.set_next, St.set_same, St.up_next, Int.natCast_nonneg, lt_len, le_len, Int.toNat_natCast, true_and, and_true, eq_self, reduceCtorEq, decide_true, List.length_singleton, er_int, er_bool, er_str]
    refine h1 _ _ ?_
    try clear h1 K_h1
    exact T.ret (Fin.retw rfl (Wk.sl _ _) (.inr ⟨hno, rfl, rfl⟩))
  by_cases hbad : bad = -1
  · have e1 : (bad != -1) = false := by simpa using hbad
    have e2 : IntKind.i64.wrap ((l.length : Int) - at_) = (l.length : Int) - at_ := wrap64 (by omega) (by omega)
    by_cases hwl : (w : Int) ≤ l.length - at_
    · have e3 : decide ((w : Int) > (l.length : Int) - at_) = false := decide_eq_false (by omega)
      have e4 : IntKind.i64.wrap (at_ + (w : Int)) = at_ + w := wrap64 (by omega) (by omega)
      have e5 : IntKind.i64.wrap (at_ + (w : Int) - w) = at_ := by rw [wrap64 (by omega) (by omega)]; omega
      refine T.regi hm ?_
      simp only [↓reduceIte, namesOf, List.any, I.names, aops, aopsI, aopsT, qstep, CPt, qget, Tbl.get, astep, ev, setd, List.set, List.getD, List.getElem?_cons_zero, List.getElem?_cons_succ, List.getElem?_nil, List.cons_append, List.nil_append, List.length_cons, List.length_nil, List.replicate, then_normal, inBlock_normal, Option.getD_some, Option.getD_none, Bool.or_false, Bool.or_true, Bool.true_or, Bool.false_or, Bool.false_eq_true, if_false, if_true, up_zero, Nat.reduceAdd, Nat.reduceSub, binv, ↓opt_def, AV.isAny, AV.cells, ldc, List.map_cons, List.map_nil, St.set_next, St.set_same, St.up_next, Int.natCast_nonneg, lt_len, le_len, Int.toNat_natCast, true_and, and_true, eq_self, reduceCtorEq, decide_true, List.length_singleton, er_int, er_bool, er_str, hr, Nat.zero_add, bytesAV_len, e1, e2, e3]
      refine h2 _ _ ?_
      try clear h2 K_h2
      refine T.cond rfl (fun h => by cases h) (fun _ => ?_)
      refine T.skip ?_
      refine h1 _ _ ?_
      try clear h1 K_h1
      refine T.seq_k (fun K_h1 h1 => ?_)
      refine T.regi hm ?_
      simp only [↓reduceIte, namesOf, List.any, I.names, aops, aopsI, aopsT, qstep, CPt, qget, Tbl.get, astep, ev, setd, List.set, List.getD, List.getElem?_cons_zero, List.getElem?_cons_succ, List.getElem?_nil, List.cons_append, List.nil_append, List.length_cons, List.length_nil, List.replicate, then_normal, inBlock_normal, Option.getD_some, Option.getD_none, Bool.or_false, Bool.or_true, Bool.true_or, Bool.false_or, Bool.false_eq_true, if_false, if_true, up_zero, Nat.reduceAdd, Nat.reduceSub, binv, ↓opt_def, AV.isAny, AV.cells, ldc, List.map_cons, List.map_nil, St.set_next, St.set_same, St.up_next, Int.natCast_nonneg, lt_len, le_len, Int.toNat_natCast, true_and, and_true, eq_self, reduceCtorEq, decide_true, List.length_singleton, er_int, er_bool, er_str, hr, e4, AV.fits, AV.one, List.all_cons, List.all_nil, Nat.reduceBEq, Bool.and_true, Bool.not_false, Bool.and_self, Nat.zero_add, splice, List.take, List.drop, Nat.reduceLeDiff]
      refine h1 _ _ ?_
      try clear h1 K_h1
      refine T.seq_k (fun K_h1 h1 => ?_)
      have e6 : 0 ≤ at_ ∧ at_ ≤ at_ + (w : Int) ∧ at_ + (w : Int) ≤ (l.length : Int) := by omega
      refine T.regi hm ?_
      simp only [↓reduceIte, namesOf, List.any, I.names, aops, aopsI, aopsT, qstep, CPt, qget, Tbl.get, astep, ev, setd, List.set, List.getD, List.getElem?_cons_zero, List.getElem?_cons_succ, List.getElem?_nil, List.cons_append, List.nil_append, List.length_cons, List.length_nil, List.replicate, then_normal, inBlock_normal, Option.getD_some, Option.getD_none, Bool.or_false, Bool.or_true, Bool.true_or, Bool.false_or, Bool.false_eq_true, if_false, if_true, up_zero, Nat.reduceAdd, Nat.reduceSub, binv, ↓opt_def, AV.isAny, AV.cells, ldc, List.map_cons, List.map_nil, St.set_next, St.set_same, St.up_next, Int.natCast_nonneg, lt_len, le_len, Int.toNat_natCast, true_and, and_true, eq_self, reduceCtorEq, decide_true, List.length_singleton, er_int, er_bool, er_str, e5, Nat.zero_add, idx, bytesAV_len, bytes_all, e6]
      refine h1 _ _ ?_
      try clear h1 K_h1
      refine T.ret (Fin.retw rfl (Wk.sl _ _) (.inl ⟨⟨hbad, hwl⟩, ?_, rfl⟩))
      rw [show (at_ + (w : Int) - at_).toNat = w by omega, bytes_drop, bytes_take]
    · have e3 : decide ((w : Int) > (l.length : Int) - at_) = true := decide_eq_true (by omega)
      refine T.regi hm ?_
      simp only [↓reduceIte, namesOf, List.any, I.names, aops, aopsI, aopsT, qstep, CPt, qget, Tbl.get, astep, ev, setd, List.set, List.getD, List.getElem?_cons_zero, List.getElem?_cons_succ, List.getElem?_nil, List.cons_append, List.nil_append, List.length_cons, List.length_nil, List.replicate, then_normal, inBlock_normal, Option.getD_some, Option.getD_none, Bool.or_false, Bool.or_true, Bool.true_or, Bool.false_or, Bool.false_eq_true, if_false, if_true, up_zero, Nat.reduceAdd, Nat.reduceSub, binv, ↓opt_def, AV.isAny, AV.cells, ldc, List.map_cons, List.map_nil, St.set_next, St.set_same, St.up_next, Int.natCast_nonneg, lt_len, le_len, Int.toNat_natCast, true_and, and_true, eq_self, reduceCtorEq, decide_true, List.length_singleton, er_int, er_bool, er_str, hr, Nat.zero_add, bytesAV_len, e1, e2, e3]
      exact hfail (fun h => hwl h.2) _ rfl
  · have e1 : (bad != -1) = true := by simpa using hbad
    refine T.regi hm ?_
    simp only [↓reduceIte, namesOf, List.any, I.names, aops, aopsI, aopsT, qstep, CPt, qget, Tbl.get, astep, ev, setd, List.set, List.getD, List.getElem?_cons_zero, List.getElem?_cons_succ, List.getElem?_nil, List.cons_append, List.nil_append, List.length_cons, List.length_nil, List.replicate, then_normal, inBlock_normal, Option.getD_some, Option.getD_none, Bool.or_false, Bool.or_true, Bool.true_or, Bool.false_or, Bool.false_eq_true, if_false, if_true, up_zero, Nat.reduceAdd, Nat.reduceSub, binv, ↓opt_def, AV.isAny, AV.cells, ldc, List.map_cons, List.map_nil, St.set_next, St.set_same, St.up_next, Int.natCast_nonneg, lt_len, le_len, Int.toNat_natCast, true_and, and_true, eq_self, reduceCtorEq, decide_true, List.length_singleton, er_int, er_bool, er_str, hr, Nat.zero_add, e1]
    exact hfail (fun h => hbad h.1) _ rfl

def numB (l : List UInt8) : Nat := l.foldl (fun n b => 256 * n + b.toNat) 0

theorem numB_take {l : List UInt8} {i : Nat} (h : i < l.length) : numB (l.take (i + 1)) = 256 * numB (l.take i) + l[i].toNat := by
  unfold numB; rw [List.take_succ_eq_append_getElem h, List.foldl_append]; rfl

theorem numB_lt : ∀ (l : List UInt8) (i : Nat), i ≤ l.length → numB (l.take i) < 256 ^ i
  | l, 0, _ => by simp [numB]
  | l, i + 1, h => by
    have h1 := numB_lt l i (by omega)
    have h2 := (l[i]'(by omega)).toNat_lt
    rw [numB_take (by omega), Nat.pow_succ]
    omega

theorem u64_shl8 (a : Nat) (h : a < 72057594037927936) : IntKind.u64.wrap ((a : Int) * 2 ^ min (8 : Int).toNat IntKind.u64.bits) = ((a * 256 : Nat) : Int) := by
  have : (2 : Int) ^ min (8 : Int).toNat IntKind.u64.bits = 256 := by simp [IntKind.bits]
  rw [this]
  simp [IntKind.wrap, IntKind.bits, IntKind.signed]; omega

theorem u64_byte (b : UInt8) : IntKind.u64.wrap (b.toNat : Int) = (b.toNat : Int) := by
  have := b.toNat_lt
  simp [IntKind.wrap, IntKind.bits, IntKind.signed]; omega

theorem u64_or (a : Nat) (b : UInt8) (h : a < 72057594037927936) : IntKind.u64.wrap ((BitVec.ofInt IntKind.u64.bits ((a * 256 : Nat) : Int) ||| BitVec.ofInt IntKind.u64.bits (b.toNat : Int)).toNat) = ((256 * a + b.toNat : Nat) : Int) := by
  have hb := b.toNat_lt
  have h1 : BitVec.ofInt IntKind.u64.bits ((a * 256 : Nat) : Int) = BitVec.ofNat 64 (a * 256) := BitVec.ofInt_natCast ..
  have h2 : BitVec.ofInt IntKind.u64.bits (b.toNat : Int) = BitVec.ofNat 64 b.toNat := BitVec.ofInt_natCast ..
  rw [h1, h2]
  have h3 : (BitVec.ofNat 64 (a * 256) ||| BitVec.ofNat 64 b.toNat : BitVec 64).toNat = 256 * a + b.toNat := by
    rw [BitVec.toNat_or, BitVec.toNat_ofNat, BitVec.toNat_ofNat, Nat.mod_eq_of_lt (by omega), Nat.mod_eq_of_lt (by omega)]
    have := Nat.shiftLeft_add_eq_or_of_lt (b := b.toNat) (i := 8) (by omega) a
    rw [Nat.shiftLeft_eq] at this
    rw [show a * 256 = a * 2 ^ 8 from rfl, ← this]; omega
  show IntKind.u64.wrap (((BitVec.ofNat 64 (a * 256) ||| BitVec.ofNat 64 b.toNat : BitVec 64).toNat : Nat) : Int) = _
  rw [h3]
  simp [IntKind.wrap, IntKind.bits, IntKind.signed]; omega

set_option maxHeartbeats 1000000 in
theorem wword_ok {l : List UInt8} {g : Ver} {at_ bad : Int} {w n : Nat} {σ : St} (hd : Rd l at_ bad) (hw : rightB w = true) (hr : σ.res n = some (rd l g at_ bad)) :
    ACalls Try.prog n_wword [.ptr n 0, .int .i64 w] σ (fun v σ' => (takeOk l at_ bad w ∧ v = .int .u64 (numB ((l.drop at_.toNat).take w) : Int) ∧ σ' = σ.set n (rd l g (at_ + w) bad)) ∨
      (¬ takeOk l at_ bad w ∧ v = .int .u64 0 ∧ σ' = σ.set n (rd l g at_ (if bad = -1 then at_ else bad)))) := by
  have hw8 : w ≤ 8 := by simp [rightB] at hw; omega
  refine s_wword (fun wf => ?_)
  unfold c_wword
  refine T.seq_k (fun K_h1 h1 => ?_)
  refine T.regi hm ?_
  simp only [↓reduceIte, namesOf, List.any, I.names, aops, aopsI, aopsT, qstep, CPt, qget, Tbl.get, astep, ev, setd, List.set, List.getD, List.getElem?_cons_zero, List.getElem?_cons_succ, List.getElem?_nil, List.cons_append, List.nil_append, List.length_cons, List.length_nil, List.replicate, then_normal, inBlock_normal, Option.getD_some, Option.getD_none, Bool.or_false, Bool.or_true, Bool.true_or, Bool.false_or, Bool.false_eq_true, if_false, if_true, up_zero, Nat.reduceAdd, Nat.reduceSub, binv, ↓opt_def, AV.isAny, AV.cells, ldc, List.map_cons, List.map_nil, St.set_next, St.set_same, St.up_next, Int.natCast_nonneg, lt_len, le_len, Int.toNat_natCast, true_and, and_true, eq_self, reduceCtorEq, decide_true, List.length_singleton, er_int, er_bool, er_str]
  refine h1 _ _ ?_
  try clear h1 K_h1
  refine T.seq_k (fun K_h1 h1 => ?_)
  refine T.seq_k (fun K_h2 h2 => ?_)
  refine T.regt hm t1_ok ?_
  simp only [↓reduceIte, namesOf, List.any, I.names, aops, aopsI, aopsT, qstep, CPt, qget, Tbl.get, astep, ev, setd, List.set, List.getD, List.getElem?_cons_zero, List.getElem?_cons_succ, List.getElem?_nil, List.cons_append, List.nil_append, List.length_cons, List.length_nil, List.replicate, then_normal, inBlock_normal, Option.getD_some, Option.getD_none, Bool.or_false, Bool.or_true, Bool.true_or, Bool.false_or, Bool.false_eq_true, if_false, if_true, up_zero, Nat.reduceAdd, Nat.reduceSub, binv, ↓opt_def, AV.isAny, AV.cells, ldc, List.map_cons, List.map_nil, St.set_next, St.set_same, St.up_next, Int.natCast_nonneg, lt_len, le_len, Int.toNat_natCast, true_and, and_true, eq_self, reduceCtorEq, decide_true, List.length_singleton, er_int, er_bool, er_str, Nat.reduceEqDiff, t1, g_right, hw]
  refine h2 _ _ ?_
  try clear h2 K_h2
  refine T.cond rfl (fun h => by cases h) (fun _ => ?_)
  refine T.skip ?_
  refine h1 _ _ ?_
  try clear h1 K_h1
  refine T.seq_k (fun K_h1 h1 => ?_)
  refine T.regi hm ?_
  simp only [↓reduceIte, namesOf, List.any, I.names, aops, aopsI, aopsT, qstep, CPt, qget, Tbl.get, astep, ev, setd, List.set, List.getD, List.getElem?_cons_zero, List.getElem?_cons_succ, List.getElem?_nil, List.cons_append, List.nil_append, List.length_cons, List.length_nil, List.replicate, then_normal, inBlock_normal, Option.getD_some, Option.getD_none, Bool.or_false, Bool.or_true, Bool.true_or, Bool.false_or, Bool.false_eq_true, if_false, if_true, up_zero, Nat.reduceAdd, Nat.reduceSub, binv, ↓opt_def, AV.isAny, AV.cells, ldc, List.map_cons, List.map_nil, St.set_next, St.set_same, St.up_next, Int.natCast_nonneg, lt_len, le_len, Int.toNat_natCast, true_and, and_true, eq_self, reduceCtorEq, decide_true, List.length_singleton, er_int, er_bool, er_str]
  refine h1 _ _ ?_
  try clear h1 K_h1
  refine T.seq_k (fun K_h1 h1 => ?_)
  refine T.seq_k (fun K_h2 h2 => ?_)
  have hloop : ∀ (bs : List UInt8) (σ1 : St), bs.length ≤ 8 → ∀ ρ, keep [5, 19, 20, 21] 0 ρ = List.replicate 5 .any ++ [.int .u64 0] ++ List.replicate 13 .any ++ [.sl (bytesAV bs) .none, .int .i64 (bs.length : Int), .int .i64 0] ++ List.replicate 10 .any →
      (∀ ρ, keep [5] 0 ρ = List.replicate 5 .any ++ [.int .u64 (numB bs : Int)] ++ List.replicate 26 .any → K_h1 ρ σ1) → K_h2 ρ σ1 := by
    intro bs σ1 hbl ρ hρ hend
    refine h2 _ _ ?_
    refine T.block ?_
    refine T.gh (Gh.keep [5, 19, 20, 21]) ?_
    rw [hρ]
    clear h2 hρ ρ
    refine T.loop (fun ρ σ' => σ' = σ1 ∧ ∃ (i : Nat), i ≤ bs.length ∧ ρ = List.replicate 5 .any ++ [.int .u64 (numB (bs.take i) : Int)] ++ List.replicate 13 .any ++ [.sl (bytesAV bs) .none, .int .i64 (bs.length : Int), .int .i64 (i : Int)] ++ List.replicate 10 .any)
      (fun ρ _ => match ρ.getD 21 .any with | .int _ m => (bs.length - m).toNat | _ => 0) ⟨rfl, 0, Nat.zero_le _, rfl⟩ ?_
    rintro ρ σ' ⟨rfl, i, hi, rfl⟩
    refine T.seq_k (fun K_h2 h2 => ?_)
    refine T.regi hm ?_
    simp only [↓reduceIte, namesOf, List.any, I.names, aops, aopsI, aopsT, qstep, CPt, qget, Tbl.get, astep, ev, setd, List.set, List.getD, List.getElem?_cons_zero, List.getElem?_cons_succ, List.getElem?_nil, List.cons_append, List.nil_append, List.length_cons, List.length_nil, List.replicate, then_normal, inBlock_normal, Option.getD_some, Option.getD_none, Bool.or_false, Bool.or_true, Bool.true_or, Bool.false_or, Bool.false_eq_true, if_false, if_true, up_zero, Nat.reduceAdd, Nat.reduceSub, binv, ↓opt_def, AV.isAny, AV.cells, ldc, List.map_cons, List.map_nil, St.set_next, St.set_same, St.up_next, Int.natCast_nonneg, lt_len, le_len, Int.toNat_natCast, true_and, and_true, eq_self, reduceCtorEq, decide_true, List.length_singleton, er_int, er_bool, er_str]
    refine h2 _ _ ?_
    try clear h2 K_h2
    refine T.seq_k (fun K_h2 h2 => ?_)
    refine T.cond rfl (fun hb => ?_) (fun hb => ?_)
    · refine T.skip ?_
      refine h2 _ _ ?_
      try clear h2 K_h2
      have hil : i < bs.length := by simp at hb; omega
      clear hb
      have hlt := numB_lt bs i (by omega)
      have h256 : 256 ^ i ≤ 256 ^ 7 := Nat.pow_le_pow_right (by omega) (by omega)
      have hlt' : numB (bs.take i) < 72057594037927936 := by omega
      have e1 := u64_shl8 _ hlt'
      have e2 := u64_or _ bs[i] hlt'
      have e3 := u64_byte bs[i]
      rw [← numB_take hil] at e2
      refine T.seq_k (fun K_h2 h2 => ?_)
      refine T.block ?_
      refine T.seq_k (fun K_h3 h3 => ?_)
      refine T.regi hm ?_
      simp only [↓reduceIte, namesOf, List.any, I.names, aops, aopsI, aopsT, qstep, CPt, qget, Tbl.get, astep, ev, setd, List.set, List.getD, List.getElem?_cons_zero, List.getElem?_cons_succ, List.getElem?_nil, List.cons_append, List.nil_append, List.length_cons, List.length_nil, List.replicate, then_normal, inBlock_normal, Option.getD_some, Option.getD_none, Bool.or_false, Bool.or_true, Bool.true_or, Bool.false_or, Bool.false_eq_true, if_false, if_true, up_zero, Nat.reduceAdd, Nat.reduceSub, binv, ↓opt_def, AV.isAny, AV.cells, ldc, List.map_cons, List.map_nil, St.set_next, St.set_same, St.up_next, Int.natCast_nonneg, lt_len, le_len, Int.toNat_natCast, true_and, and_true, eq_self, reduceCtorEq, decide_true, List.length_singleton, er_int, er_bool, er_str, bytesAV_len, bytes_get hil, hil]
      refine h3 _ _ ?_
      try clear h3 K_h3
      refine T.regi hm ?_
      simp only [↓reduceIte, namesOf, List.any, I.names, aops, aopsI, aopsT, qstep, CPt, qget, Tbl.get, astep, ev, setd, List.set, List.getD, List.getElem?_cons_zero, List.getElem?_cons_succ, List.getElem?_nil, List.cons_append, List.nil_append, List.length_cons, List.length_nil, List.replicate, then_normal, inBlock_normal, Option.getD_some, Option.getD_none, Bool.or_false, Bool.or_true, Bool.true_or, Bool.false_or, Bool.false_eq_true, if_false, if_true, up_zero, Nat.reduceAdd, Nat.reduceSub, binv, ↓opt_def, AV.isAny, AV.cells, ldc, List.map_cons, List.map_nil, St.set_next, St.set_same, St.up_next, Int.natCast_nonneg, lt_len, le_len, Int.toNat_natCast, true_and, and_true, eq_self, reduceCtorEq, decide_true, List.length_singleton, er_int, er_bool, er_str, e1, e2, e3, show ¬ ((8 : Int) < 0) by omega]
      refine h2 _ _ ?_
      try clear h2 K_h2
      have e4 : IntKind.i64.wrap ((i : Int) + 1) = (i : Int) + 1 := wrap64 (by omega) (by omega)
      refine T.regi hm ?_
      simp only [↓reduceIte, namesOf, List.any, I.names, aops, aopsI, aopsT, qstep, CPt, qget, Tbl.get, astep, ev, setd, List.set, List.getD, List.getElem?_cons_zero, List.getElem?_cons_succ, List.getElem?_nil, List.cons_append, List.nil_append, List.length_cons, List.length_nil, List.replicate, then_normal, inBlock_normal, Option.getD_some, Option.getD_none, Bool.or_false, Bool.or_true, Bool.true_or, Bool.false_or, Bool.false_eq_true, if_false, if_true, up_zero, Nat.reduceAdd, Nat.reduceSub, binv, ↓opt_def, AV.isAny, AV.cells, ldc, List.map_cons, List.map_nil, St.set_next, St.set_same, St.up_next, Int.natCast_nonneg, lt_len, le_len, Int.toNat_natCast, true_and, and_true, eq_self, reduceCtorEq, decide_true, List.length_singleton, er_int, er_bool, er_str, e4]
      refine ⟨_, _, Gh.keep [5, 19, 20, 21], ⟨rfl, i + 1, hil, rfl⟩, ?_⟩
      show ((bs.length : Int) - ((i : Int) + 1)).toNat < ((bs.length : Int) - (i : Int)).toNat
      omega
    · refine T.exit ?_
      have : i = bs.length := by simp at hb; omega
      subst this
      rw [List.take_length]
      exact hend _ rfl
  refine T.regi hm ?_
  simp only [↓reduceIte, namesOf, List.any, I.names, aops, aopsI, aopsT, qstep, CPt, qget, Tbl.get, astep, ev, setd, List.set, List.getD, List.getElem?_cons_zero, List.getElem?_cons_succ, List.getElem?_nil, List.cons_append, List.nil_append, List.length_cons, List.length_nil, List.replicate, then_normal, inBlock_normal, Option.getD_some, Option.getD_none, Bool.or_false, Bool.or_true, Bool.true_or, Bool.false_or, Bool.false_eq_true, if_false, if_true, up_zero, Nat.reduceAdd, Nat.reduceSub, binv, ↓opt_def, AV.isAny, AV.cells, ldc, List.map_cons, List.map_nil, St.set_next, St.set_same, St.up_next, Int.natCast_nonneg, lt_len, le_len, Int.toNat_natCast, true_and, and_true, eq_self, reduceCtorEq, decide_true, List.length_singleton, er_int, er_bool, er_str]
  refine (wtake_ok hd (by omega) hr).mono ?_
  have hfin : ∀ (x : Int) (σ1 : St), ((takeOk l at_ bad w ∧ AV.int .u64 x = .int .u64 (numB ((l.drop at_.toNat).take w) : Int) ∧ σ1 = σ.set n (rd l g (at_ + w) bad)) ∨
      (¬ takeOk l at_ bad w ∧ AV.int .u64 x = .int .u64 0 ∧ σ1 = σ.set n (rd l g at_ (if bad = -1 then at_ else bad)))) → ∀ ρ, keep [5] 0 ρ = List.replicate 5 .any ++ [.int .u64 x] ++ List.replicate 26 .any → K_h1 ρ σ1 := by
    intro x σ1 hx ρ h5
    refine h1 _ _ (T.gh (Gh.keep [5]) ?_)
    rw [h5]
    clear h1 hloop h2 h5 ρ
    refine T.seq_k (fun K_h1 h1 => ?_)
    refine T.regi hm ?_
    simp only [↓reduceIte, namesOf, List.any, I.names, aops, aopsI, aopsT, qstep, CPt, qget, Tbl.get, astep, ev, setd, List.set, List.getD, List.getElem?_cons_zero, List.getElem?_cons_succ, List.getElem?_nil, List.cons_append, List.nil_append, List.length_cons, List.length_nil, List.replicate, then_normal, inBlock_normal, Option.getD_some, Option.getD_none, Bool.or_false, Bool.or_true, Bool.true_or, Bool.false_or, Bool.false_eq_true, if_false, if_true, up_zero, Nat.reduceAdd, Nat.reduceSub, binv, ↓opt_def, AV.isAny, AV.cells, ldc, List.map_cons, List.map_nil, St.set_next, St.set_same, St.up_next, Int.natCast_nonneg, lt_len, le_len, Int.toNat_natCast, true_and, and_true, eq_self, reduceCtorEq, decide_true, List.length_singleton, er_int, er_bool, er_str]
    refine h1 _ _ ?_
    try clear h1 K_h1
    exact T.ret (Fin.ret rfl hx)
  rintro v σ2 (⟨hok, rfl, rfl⟩ | ⟨hok, rfl, rfl⟩)
  · have hbl : ((l.drop at_.toNat).take w).length ≤ 8 := by rw [List.length_take]; omega
    try simp only [↓reduceIte, namesOf, List.any, I.names, aops, aopsI, aopsT, qstep, CPt, qget, Tbl.get, astep, ev, setd, List.set, List.getD, List.getElem?_cons_zero, List.getElem?_cons_succ, List.getElem?_nil, List.cons_append, List.nil_append, List.length_cons, List.length_nil, List.replicate, then_normal, inBlock_normal, Option.getD_some, Option.getD_none, Bool.or_false, Bool.or_true, Bool.true_or, Bool.false_or, Bool.false_eq_true, if_false, if_true, up_zero, Nat.reduceAdd, Nat.reduceSub, binv, ↓opt_def, AV.isAny, AV.cells, ldc, List.map_cons, List.map_nil, St.set_next, St.set_same, St.up_next, Int.natCast_nonneg, lt_len, le_len, Int.toNat_natCast, true_and, and_true, eq_self, reduceCtorEq, decide_true, List.length_singleton, er_int, er_bool, er_str, bytesAV_len]
    exact hloop _ _ hbl _ rfl (fun ρ h5 => hfin _ _ (.inl ⟨hok, rfl, rfl⟩) ρ h5)
  · try simp only [↓reduceIte, namesOf, List.any, I.names, aops, aopsI, aopsT, qstep, CPt, qget, Tbl.get, astep, ev, setd, List.set, List.getD, List.getElem?_cons_zero, List.getElem?_cons_succ, List.getElem?_nil, List.cons_append, List.nil_append, List.length_cons, List.length_nil, List.replicate, then_normal, inBlock_normal, Option.getD_some, Option.getD_none, Bool.or_false, Bool.or_true, Bool.true_or, Bool.false_or, Bool.false_eq_true, if_false, if_true, up_zero, Nat.reduceAdd, Nat.reduceSub, binv, ↓opt_def, AV.isAny, AV.cells, ldc, List.map_cons, List.map_nil, St.set_next, St.set_same, St.up_next, Int.natCast_nonneg, lt_len, le_len, Int.toNat_natCast, true_and, and_true, eq_self, reduceCtorEq, decide_true, List.length_singleton, er_int, er_bool, er_str, List.length_nil]
    exact hloop [] _ (by simp) _ rfl (fun ρ h5 => hfin _ _ (.inr ⟨hok, rfl, rfl⟩) ρ h5)

end Go.VL

namespace Go.VL

open Go.Proofs

theorem set_quiet {σ σ' : St} (wf : WF σ) (hn : σ.next ≤ σ'.next) (ho : ∀ n x, σ.res n = some x → σ'.res n = some x) {k a : Nat} (r : Res) (ha : σ'.next ≤ a) : ∀ n x, σ.res n = some x → ((σ'.up k).set a r).res n = some x := by
  intro n x hr
  have hn' : n < σ.next := by
    rcases Nat.lt_or_ge n σ.next with h | h
    · exact h
    · rw [wf n h] at hr; cases hr
  rw [St.set_other _ _ (by omega)]; exact ho n x hr

theorem errAV_eq (c : Int) (h : c ≠ 0) : errAV c = .iface tCode (.int .i64 c) := by unfold errAV; rw [if_neg h]

end Go.VL

namespace Go.VL

open Go.Proofs

/-- the same, and perhaps more behind it -/
structure Like (ρ τ : St) : Prop where
  next : ρ.next ≤ τ.next
  same : ∀ n, n < ρ.next → τ.res n = ρ.res n

theorem Like.refl (σ : St) : Like σ σ := ⟨Nat.le_refl _, fun _ _ => rfl⟩

theorem Like.trans {a b c : St} (h : Like a b) (k : Like b c) : Like a c := ⟨Nat.le_trans h.next k.next, fun n hn => (k.same n (Nat.lt_of_lt_of_le hn h.next)).trans (h.same n hn)⟩

theorem Like.up {a b : St} (h : Like a b) (k : Nat) : Like a (b.up k) := ⟨Nat.le_trans h.next (Nat.le_add_right _ _), h.same⟩

theorem Like.set {a b : St} (h : Like a b) {n : Nat} (r : Res) (hn : a.next ≤ n) : Like a (b.set n r) := ⟨h.next, fun m hm => by rw [St.set_other _ _ (by omega)]; exact h.same m hm⟩

theorem Like.del {a b : St} (h : Like a b) {n : Nat} (hn : a.next ≤ n) : Like a (b.del n) := ⟨h.next, fun m hm => by
  have : m ≠ n := by omega
  rw [← h.same m hm]; simp [St.del, this]⟩

theorem Like.put {a b : St} (h : Like a b) (n : Nat) (r : Res) : Like (a.set n r) (b.set n r) := ⟨h.next, fun m hm => by
  have hm' : m < a.next := hm
  by_cases e : m = n
  · subst e; simp
  · rw [St.set_other _ _ e, St.set_other _ _ e]; exact h.same m hm'⟩

theorem Like.one {σ σ' : St} {g k : Nat} (h : OneTip σ σ' g k) : Like σ σ' := ⟨by have := h.lo; have := h.hi; omega, fun n hn => by rw [h.res, St.set_other _ _ (by have := h.lo; omega)]⟩

theorem Like.get {a b : St} (h : Like a b) {n : Nat} (hn : n < a.next) {r : Res} (hr : a.res n = some r) : b.res n = some r := by rw [h.same n hn]; exact hr

theorem WF.lt {σ : St} (wf : WF σ) {n : Nat} {r : Res} (h : σ.res n = some r) : n < σ.next := by
  rcases Nat.lt_or_ge n σ.next with h' | h'
  · exact h'
  · rw [wf n h'] at h; cases h

/-- what is left behind a call may be told as it is, but for names that nobody knows -/
theorem Gv.like {σ0 τ ρ : St} {x : AV} (h : Like ρ τ) (hn : ρ.next = σ0.next) (hx : x.nb σ0.next) (hr : ∀ n r, ρ.res n = some r → n < σ0.next ∧ (σ0.res n = some r ∨ r.nb σ0.next)) : Gv σ0 x τ x ρ :=
  .cut (Nat.le_of_eq hn.symm) (by rw [hn]; exact hx) (fun n r hnr => by
    obtain ⟨h1, h2⟩ := hr n r hnr
    refine ⟨by rw [h.same n (by omega)]; exact hnr, ?_⟩
    rcases h2 with h2 | h2
    · exact .inl h2
    · exact .inr ⟨by omega, by rw [hn]; exact h2⟩)

theorem u64w {n : Nat} (h : n < 18446744073709551616) : IntKind.u64.wrap (n : Int) = (n : Int) := by
  simp [IntKind.wrap, IntKind.bits, IntKind.signed]; omega

theorem inc64' {i n : Nat} (h : i < n) (hn : n ≤ 4611686018427387904) : IntKind.i64.wrap ((i : Int) + 1) = ((i + 1 : Nat) : Int) := by
  rw [wrap64 (by omega) (by omega)]; omega

/-- a named end, and what was there ahead of it -/
structure Tq (σ t : St) (g k : Nat) : Prop where
  like : Like σ t
  at_ : t.res g = some (.tip k)
  lo : σ.next ≤ g
  hi : g < t.next

theorem Tq.ats {σ t : St} {g k : Nat} (h : Tq σ t g k) : ∀ n, (t.up n).res g = some (.tip k) := fun _ => h.at_

theorem Tq.up {σ t : St} {g k : Nat} (h : Tq σ t g k) (n : Nat) : Tq σ (t.up n) g k := ⟨h.like.up n, h.at_, h.lo, Nat.lt_of_lt_of_le h.hi (Nat.le_add_right _ _)⟩

theorem Tq.new {σ t : St} (h : Like σ t) {n i : Nat} (hi : i < n) (k : Nat) : Tq σ ((t.up n).set (t.next + i) (.tip k)) (t.next + i) k :=
  ⟨(h.up n).set _ (by have := h.next; omega), by simp, by have := h.next; omega, by simp; omega⟩

theorem Tq.app {σ t : St} {g k : Nat} (h : Tq σ t g k) {n i : Nat} (hi : i < n) : Tq σ (((t.up n).del g).set (t.next + i) (.tip k)) (t.next + i) k :=
  ⟨((h.like.up n).del h.lo).set _ (by have := h.like.next; omega), by simp, by have := h.like.next; omega, by simp; omega⟩

theorem Tq.box {σ t : St} {g k : Nat} (h : Tq σ t g k) {n i : Nat} (hi : i < n) (r : Res) : Tq σ ((t.up n).set (t.next + i) r) g k :=
  ⟨(h.like.up n).set _ (by have := h.like.next; omega), by rw [St.set_other _ _ (by have := h.hi; omega)]; exact h.at_, h.lo, by have := h.hi; simp; omega⟩

theorem Tq.one {σ t : St} {g k : Nat} (h : OneTip σ t g k) : Tq σ t g k := ⟨.one h, h.at_, h.lo, h.hi⟩

theorem Tq.trans {σ t u : St} {g k : Nat} (h : Like σ t) (q : Tq t u g k) : Tq σ u g k := ⟨h.trans q.like, q.at_, Nat.le_trans h.next q.lo, q.hi⟩

theorem Like.quiet {σ t : St} (wf : WF σ) (h : Like σ t) : ∀ n x, σ.res n = some x → t.res n = some x := fun _ _ hx => h.get (wf.lt hx) hx

theorem Tq.quiet {σ t : St} {g k : Nat} (wf : WF σ) (h : Tq σ t g k) : ∀ n x, σ.res n = some x → t.res n = some x := h.like.quiet wf

theorem Like.box {σ t : St} (h : Like σ t) {n i : Nat} (r : Res) : Like σ ((t.up n).set (t.next + i) r) := (h.up n).set _ (by have := h.next; omega)

/-- how long what is appended to may grow -/
theorem app_le {a b : Nat} (h : a + b ≤ 1099511627776) : decide ((a + b) * 1 ≤ 70368744177664 ∧ a + b ≤ 4611686018427387904) = true := decide_eq_true (by omega)

theorem Tq.mv {σ t : St} {g k : Nat} (h : Tq σ t g k) {g2 : Nat} (lo : σ.next ≤ g2) (hi : g2 < t.next) : Tq σ ((t.del g).set g2 (.tip k)) g2 k :=
  ⟨(h.like.del h.lo).set _ lo, by simp, lo, hi⟩

/-- a named end, and an owned thing -/
structure Tb (σ t : St) (g k a : Nat) (r : Res) : Prop where
  q : Tq σ t g k
  b : t.res a = some r
  lt : a < t.next
  ne : a ≠ g

theorem Tb.bs {σ t : St} {g k a : Nat} {r : Res} (h : Tb σ t g k a r) : ∀ n, (t.up n).res a = some r := fun _ => h.b

theorem Tb.app {σ t : St} {g k a : Nat} {r : Res} (h : Tb σ t g k a r) {n i : Nat} (hi : i < n) : Tb σ (((t.up n).del g).set (t.next + i) (.tip k)) (t.next + i) k a r :=
  ⟨h.q.app hi, by
    have := h.lt
    rw [St.set_other _ _ (by omega)]
    have hne := h.ne
    simp only [St.del, if_neg hne]; exact h.b, by have := h.lt; simp; omega, by have := h.lt; omega⟩

theorem Tq.tb {σ t : St} {g k : Nat} (q : Tq σ t g k) {n i : Nat} (hi : i < n) (r : Res) : Tb σ ((t.up n).set (t.next + i) r) g k (t.next + i) r :=
  ⟨q.box hi r, by simp, by simp; omega, by have := q.hi; omega⟩

/-- what a call leaves: what it has set of one old thing, and names that nobody knows -/
theorem Fin.likeset {σ0 : St} {rs : List RX} {K : AV → St → Prop} {ρ : List AV} {σ : St} {xs : List AV} {y : AV} {n : Nat} {r0 r : Res} (wf : WF σ0) (h1 : rvals ρ σ rs = some xs) (hw : Wk (pack xs) y) (hL : Like (σ0.set n r) σ) (hn : σ0.res n = some r0) (hx : y.nb σ0.next) (hr : r.nb σ0.next) (h2 : K y (σ0.set n r)) : Fin σ0 rs K .ret ρ σ :=
  ⟨ρ, σ, xs, y, σ0.set n r, .refl, h1, (Gv.wk hw).trans (.like hL rfl hx (fun m q hm => by
    by_cases e : m = n
    · subst e
      rw [St.set_same] at hm
      simp only [Option.some.injEq] at hm; subst hm
      exact ⟨wf.lt hn, .inr hr⟩
    · rw [St.set_other _ _ e] at hm
      exact ⟨wf.lt hm, .inl hm⟩)), h2⟩

theorem nb_rd (m : Nat) (l : List UInt8) (a b : Int) : (rd l .none a b).nb m := ⟨⟨nb_bytes _ _, trivial⟩, trivial, trivial, trivial⟩

end Go.VL

namespace Go.VL

open Go.Proofs

theorem openB_le (x : List UInt8) : (openB x).2.length ≤ x.length := by
  unfold openB
  split
  · simp
  · split
    · simp
    · simp

/-- how far a reader is, and where something is amiss (-1: nowhere) -/
structure Rs where
  at_ : Int
  bad : Int

def Rs.ok (l : List UInt8) (s : Rs) : Prop := Rd l s.at_ s.bad ∧ (s.bad = -1 ∨ 0 ≤ s.bad)

def r0 : Rs := ⟨0, -1⟩

/-- may so many bytes be taken? -/
def rT (l : List UInt8) (s : Rs) (w : Int) : Bool := decide (s.bad = -1 ∧ w ≤ l.length - s.at_)

def rF (s : Rs) : Rs := ⟨s.at_, if s.bad = -1 then s.at_ else s.bad⟩

/-- a word -/
def rW (l : List UInt8) (s : Rs) (w : Nat) : Nat := if rT l s w then numB ((l.drop s.at_.toNat).take w) else 0

/-- the reader behind it -/
def rN (l : List UInt8) (s : Rs) (w : Nat) : Rs := if rT l s w then ⟨s.at_ + w, s.bad⟩ else rF s

def rdS (l : List UInt8) (g : Ver) (s : Rs) : Res := rd l g s.at_ s.bad

theorem rT_iff {l : List UInt8} {s : Rs} {w : Int} : rT l s w = true ↔ takeOk l s.at_ s.bad w := by unfold rT takeOk; simp

theorem Rs.ok_r0 {l : List UInt8} (h : l.length ≤ 1099511627776) : Rs.ok l r0 := ⟨⟨h, by simp [r0], by simp [r0]⟩, .inl rfl⟩

theorem rF_ok {l : List UInt8} {s : Rs} (h : s.ok l) : (rF s).ok l := by
  obtain ⟨⟨h1, h2, h3⟩, h4⟩ := h
  refine ⟨⟨h1, h2, h3⟩, ?_⟩
  simp only [rF]
  split
  · exact .inr h2
  · rcases h4 with h4 | h4
    · rename_i hh; exact absurd h4 hh
    · exact .inr h4

theorem rN_ok {l : List UInt8} {s : Rs} {w : Nat} (h : s.ok l) : (rN l s w).ok l := by
  unfold rN
  split
  · rename_i ht
    obtain ⟨⟨h1, h2, h3⟩, h4⟩ := h
    rw [rT_iff] at ht
    obtain ⟨t1, t2⟩ := ht
    exact ⟨⟨h1, by simp only; omega, by simp only; omega⟩, .inl t1⟩
  · exact rF_ok h

theorem rW_lt {l : List UInt8} {s : Rs} {w : Nat} (h : s.ok l) : rW l s w < 256 ^ w := by
  unfold rW
  split
  · rename_i ht
    rw [rT_iff] at ht
    obtain ⟨⟨h1, h2, h3⟩, h4⟩ := h
    have hlen : w ≤ (l.drop s.at_.toNat).length := by
      rw [List.length_drop]; have := ht.2; omega
    exact numB_lt _ _ hlen
  · exact Nat.pow_pos (by decide)

theorem wwordF {l : List UInt8} {g : Ver} {s : Rs} {w n : Nat} {σ : St} (hd : s.ok l) (hw : rightB w = true) (hr : σ.res n = some (rdS l g s)) :
    ACalls Try.prog n_wword [.ptr n 0, .int .i64 w] σ (fun v σ' => v = .int .u64 (rW l s w : Int) ∧ σ' = σ.set n (rdS l g (rN l s w))) := by
  refine (wword_ok hd.1 hw hr).mono ?_
  rintro v σ' (⟨h1, rfl, rfl⟩ | ⟨h1, rfl, rfl⟩)
  · have : rT l s w = true := rT_iff.2 h1
    simp only [rW, rN, this, if_true]
    exact ⟨trivial, rfl⟩
  · have : rT l s w = false := by
      rw [Bool.eq_false_iff]; exact fun h => h1 (rT_iff.1 h)
    simp only [rW, rN, this, Bool.false_eq_true, if_false]
    exact ⟨rfl, rfl⟩

theorem wreadF {l : List UInt8} {σ : St} : ACalls Try.prog n_wread [.sl (bytesAV l) .none] σ (fun v σ' => ∃ nm, v = .ptr nm 0 ∧ σ'.res nm = some (rdS l .none r0) ∧ σ.next ≤ nm ∧ nm < σ'.next ∧ ∀ m, m < σ.next → σ'.res m = σ.res m) := by
  refine s_wread (fun wf => ?_)
  unfold c_wread
  refine T.seq_k (fun K_h0 h0 => ?_)
  refine T.regi hm ?_
  simp only [↓reduceIte, namesOf, List.any, I.names, aops, aopsI, aopsT, qstep, CPt, qget, Tbl.get, astep, ev, setd, List.set, List.getD, List.getElem?_cons_zero, List.getElem?_cons_succ, List.getElem?_nil, List.cons_append, List.nil_append, List.length_cons, List.length_nil, List.replicate, then_normal, inBlock_normal, Option.getD_some, Option.getD_none, Bool.or_false, Bool.or_true, Bool.true_or, Bool.false_or, Bool.false_eq_true, if_false, if_true, up_zero, Nat.reduceAdd, Nat.reduceSub, binv, ↓opt_def, AV.isAny, AV.cells, ldc, List.map_cons, List.map_nil, St.set_next, St.set_same, St.up_next, Int.natCast_nonneg, lt_len, le_len, Int.toNat_natCast, true_and, and_true, eq_self, reduceCtorEq, decide_true, List.length_singleton, er_int, er_bool, er_str]
  refine h0 _ _ ?_
  try clear h0 K_h0
  refine T.seq_k (fun K_h1 h1 => ?_)
  refine T.regi hm ?_
  simp only [↓reduceIte, namesOf, List.any, I.names, aops, aopsI, aopsT, qstep, CPt, qget, Tbl.get, astep, ev, setd, List.set, List.getD, List.getElem?_cons_zero, List.getElem?_cons_succ, List.getElem?_nil, List.cons_append, List.nil_append, List.length_cons, List.length_nil, List.replicate, then_normal, inBlock_normal, Option.getD_some, Option.getD_none, Bool.or_false, Bool.or_true, Bool.true_or, Bool.false_or, Bool.false_eq_true, if_false, if_true, up_zero, Nat.reduceAdd, Nat.reduceSub, binv, ↓opt_def, AV.isAny, AV.cells, ldc, List.map_cons, List.map_nil, St.set_next, St.set_same, St.up_next, Int.natCast_nonneg, lt_len, le_len, Int.toNat_natCast, true_and, and_true, eq_self, reduceCtorEq, decide_true, List.length_singleton, er_int, er_bool, er_str, fillA, Option.map_some, AV.fits, AV.one, List.all_cons, List.all_nil, Nat.reduceBEq, Bool.and_true, Bool.not_false, Bool.and_self, Nat.zero_add, splice, List.take, List.drop, Nat.reduceLeDiff]
  refine h1 _ ((σ.up 4).set (σ.next + 2) (rd l .none 0 (-1))) ?_
  exact T.ret (Fin.ret rfl ⟨σ.next + 2, rfl, by simp [rdS, r0], by omega, by simp, fun m hm => by rw [St.set_other _ _ (by omega)]; rfl⟩)

end Go.VL

namespace Go.VL

open Go.Proofs

/-- a table of quiet calls tells of them -/
def orT (tbl : Tbl) : Bool → Nat → List AV → DS → Option (AV × Option DS) := fun _ f args _ =>
  match tbl.get f with
  | some g => match g args with
    | some v => some (v, none)
    | none => none
  | none => none

theorem orT_ok {P : Program} {tbl : Tbl} (h : tbl.ok P) : DOk P (orT tbl) := by
  constructor
  · intro q f args s v hh
    unfold orT at hh
    split at hh
    · rename_i g hg
      split at hh
      · rename_i v' hv
        simp only [Option.some.injEq, Prod.mk.injEq, and_true] at hh
        subst hh
        exact Tbl.get_ok h hg args _ _ hv
      · cases hh
    · cases hh
  · intro q f args s v s' hh
    unfold orT at hh
    split at hh
    · split at hh
      · simp at hh
      · cases hh
    · cases hh

/-- bytes, out of a row of values -/
def exB : List AV → Option (List UInt8)
  | [] => some []
  | .int .u8 n :: r => if 0 ≤ n ∧ n < 256 then (match exB r with | some l => some (UInt8.ofNat n.toNat :: l) | none => none) else none
  | _ => none

theorem exB_ok : ∀ {xs : List AV} {l : List UInt8}, exB xs = some l → xs = bytesAV l
  | [], l, h => by simp only [exB, Option.some.injEq] at h; subst h; rfl
  | .int .u8 n :: r, l, h => by
    simp only [exB] at h
    split at h
    · rename_i hn
      split at h
      · rename_i l' hl
        simp only [Option.some.injEq] at h; subst h
        rw [exB_ok hl]
        have : ((UInt8.ofNat n.toNat).toNat : Int) = n := by rw [UInt8.toNat_ofNat']; omega
        simp only [bytesAV, List.map_cons, this]
      · cases h
    · cases h
  | .any :: _, _, h | .bool _ :: _, _, h | .str _ :: _, _, h | .nilp :: _, _, h | .nilm :: _, _, h | .nilf :: _, _, h | .nili :: _, _, h | .ptr _ _ :: _, _, h | .eptr _ :: _, _, h | .sl _ _ :: _, _, h | .ref _ _ _ :: _, _, h | .room _ _ :: _, _, h
  | .map _ :: _, _, h | .func _ _ _ :: _, _, h | .iface _ _ :: _, _, h | .agg _ :: _, _, h | .tup _ :: _, _, h => by simp [exB] at h
  | .int .i8 _ :: _, _, h | .int .i16 _ :: _, _, h | .int .i32 _ :: _, _, h | .int .i64 _ :: _, _, h | .int .u16 _ :: _, _, h | .int .u32 _ :: _, _, h | .int .u64 _ :: _, _, h => by simp [exB] at h

def g_csum : List AV → Option AV
  | [.sl xs _] => match exB xs with
    | some l => if l.length ≤ 1099511627776 then some (.int .u32 (crcOf l : Int)) else none
    | none => none
  | _ => none

theorem csum_pure : PureC Try.prog n_csum g_csum := by
  intro args σ v h
  unfold g_csum at h
  split at h
  · rename_i xs g
    split at h
    · rename_i l hl
      split at h
      · rename_i hlen
        simp only [Option.some.injEq] at h; subst h
        rw [exB_ok hl]
        exact csum_ok hlen
      · cases h
    · cases h
  · cases h

def tbC : Tbl := [(n_csum, g_csum)]

theorem tbC_ok : tbC.ok Try.prog := Tbl.ok_cons csum_pure Tbl.ok_nil

end Go.VL

namespace Go.VL

open Go.Proofs

/-- a slice that began as nil, and was appended to: nothing yet, or a named end; what was there ahead of it is as it was -/
def AccG (σ t : St) (k : Nat) (xs : List AV) (x : AV) : Option Nat → Prop
  | none => x = .sl [] .nil ∧ xs = [] ∧ Like σ t
  | some g => x = .sl xs (.tip g) ∧ Tq σ t g k

section

variable {σ t u : St} {k : Nat} {xs : List AV} {x : AV} {G : Option Nat}

theorem AccG.like (h : AccG σ t k xs x G) : Like σ t := by
  cases G with
  | none => exact h.2.2
  | some g => exact h.2.like

theorem AccG.nil (h : Like σ t) : AccG σ t k [] (.sl [] .nil) none := ⟨rfl, rfl, h⟩

theorem AccG.ex (h : AccG σ t k xs x G) : ∃ v, x = .sl xs v := by
  cases G with
  | none => obtain ⟨h1, h2, _⟩ := h; subst h2; exact ⟨_, h1⟩
  | some g => exact ⟨_, h.1⟩

theorem AccG.up (h : AccG σ t k xs x G) (n : Nat) : AccG σ (t.up n) k xs x G := by
  cases G with
  | none => exact ⟨h.1, h.2.1, h.2.2.up n⟩
  | some g => exact ⟨h.1, h.2.up n⟩

theorem AccG.lt (h : AccG σ t k xs x G) : ∀ g, G = some g → σ.next ≤ g ∧ g < t.next := by
  rintro g rfl
  exact ⟨h.2.lo, h.2.hi⟩

theorem AccG.keep (h : AccG σ t k xs x G) (hn : t.next ≤ u.next) (hs : ∀ m, m < σ.next → u.res m = t.res m) (hg : ∀ g, G = some g → u.res g = t.res g) : AccG σ u k xs x G := by
  have hl : Like σ u := ⟨Nat.le_trans h.like.next hn, fun m hm => (hs m hm).trans (h.like.same m hm)⟩
  cases G with
  | none => exact ⟨h.1, h.2.1, hl⟩
  | some g => exact ⟨h.1, hl, by rw [hg g rfl]; exact h.2.at_, h.2.lo, Nat.lt_of_lt_of_le h.2.hi hn⟩

theorem AccG.set (h : AccG σ t k xs x G) {a : Nat} (r : Res) (ha : σ.next ≤ a) (hg : ∀ g, G = some g → a ≠ g) : AccG σ (t.set a r) k xs x G :=
  h.keep (Nat.le_refl _) (fun m hm => St.set_other _ _ (by omega)) (fun g e => St.set_other _ _ (Ne.symm (hg g e)))

theorem AccG.box (h : AccG σ t k xs x G) {n i : Nat} (hi : i < n) (r : Res) : AccG σ ((t.up n).set (t.next + i) r) k xs x G :=
  (h.up n).set r (by have := h.like.next; omega) (fun g e => by have := (h.lt g e).2; omega)

theorem AccG.liked (h : AccG σ t k xs x G) (l : Like t u) : AccG σ u k xs x G :=
  h.keep l.next (fun m hm => l.same m (Nat.lt_of_lt_of_le hm h.like.next)) (fun g e => l.same g (h.lt g e).2)

theorem AccG.quiet (wf : WF σ) (h : AccG σ t k xs x G) : ∀ n r, σ.res n = some r → t.res n = some r := h.like.quiet wf

theorem AccG.wk (h : AccG σ t k xs x G) : Wk x (.sl xs .none) := by
  obtain ⟨v, rfl⟩ := h.ex
  exact .sl _ _

end

/-- one append -/
theorem aopsT_acc {P : Program} {tbl : Tbl} {base i k bytes : Nat} {d : Option Nat} {s y : X} {rest : List O} {ρ : List AV} {σ u : St} {K : List AV → St → Prop} {xs ys : List AV} {x : AV} {G : Option Nat}
    (h : AccG σ u k xs x G) (hlo : σ.next ≤ base + i) (hhi : base + i < u.next) (hs : ev ρ s = x) (hsrc : srcOf u k (ev ρ y) = some ys) (hfit : (xs ++ ys).all (AV.fits k) = true)
    (hle : (xs.length + ys.length) * bytes ≤ 70368744177664 ∧ xs.length + ys.length ≤ 4611686018427387904)
    (hk : ∀ x' t' G', AccG σ t' k (xs ++ ys) x' G' → t'.next = u.next → (∀ g, G' = some g → g = base + i) → (∀ m, m ≠ base + i → (∀ g, G = some g → m ≠ g) → t'.res m = u.res m) → (ys ≠ [] → G' = some (base + i)) →
      aopsT P tbl base (i + 1) rest (setd ρ x' d) t' K) : aopsT P tbl base i (⟨d, .app k bytes .tip s y, none⟩ :: rest) ρ u K := by
  show astep (CPt P tbl) (base + i) ρ u (fun v σ' => aopsT P tbl base (i + 1) rest (setd ρ v d) σ' K) (.app k bytes .tip s y)
  have hd : decide ((xs.length + ys.length) * bytes ≤ 70368744177664 ∧ xs.length + ys.length ≤ 4611686018427387904) = true := decide_eq_true hle
  cases G with
  | none =>
    obtain ⟨rfl, rfl, hl⟩ := h
    simp only [astep, hs, hsrc, hfit, hd, Bool.and_self, if_true]
    cases ys with
    | nil => exact hk _ u none ⟨rfl, rfl, hl⟩ rfl (fun g e => by cases e) (fun _ _ _ => rfl) (fun h => absurd rfl h)
    | cons y1 r =>
      simp only [List.isEmpty, Bool.false_eq_true, if_false]
      refine hk _ _ (some (base + i)) ⟨rfl, hl.set _ hlo, by simp, hlo, hhi⟩ rfl (fun g e => (Option.some.inj e).symm) (fun m hm _ => St.set_other _ _ hm) (fun _ => rfl)
  | some g =>
    obtain ⟨rfl, hq⟩ := h
    have hat := hq.at_
    simp only [astep, hs, hsrc, hfit, hd, Bool.and_self, if_true, hat]
    refine hk _ _ (some (base + i)) ⟨rfl, hq.mv hlo hhi⟩ rfl (fun g e => (Option.some.inj e).symm) (fun m hm hg => ?_) (fun _ => rfl)
    rw [St.set_other _ _ hm]
    simp [St.del, hg g rfl]

/-- one quiet call -/
theorem aopsT_q {P : Program} {base i f : Nat} {d : Option Nat} {args : List X} {rest : List O} {ρ : List AV} {u : St} {K : List AV → St → Prop} {xs : List AV} {v : AV} (ha : args.map (ev ρ) = xs)
    (h : ACalls P f xs u (fun v' σ' => v' = v ∧ σ' = u)) (hk : aopsT P [] base (i + 1) rest (setd ρ v d) u K) : aopsT P [] base i (⟨d, .qcall f args, none⟩ :: rest) ρ u K := by
  subst ha
  exact ⟨v, h, hk⟩

end Go.VL

namespace Go.VL

open Go.Proofs

abbrev ann_clone : Ann := { errs := [(31, .i64)], hold := [(3, 0, .zero), (3, 2, .own)] }

abbrev n_clone : Nat := 81

def c_clone : C := (.seq (.reg [⟨(some 2), (.mv (.c (.sl [] .nil))), none⟩]) (.seq (.seq (.reg [⟨(some 3), (.mv (.t 0)), none⟩, ⟨(some 4), (.eqS false (.t 3)), none⟩]) (.cond (.t 4) (.seq (.reg [⟨(some 2), (.mv (.c (.sl [] .nil))), none⟩]) .ret) .skip)) (.seq (.reg [⟨(some 5), (.bslice 1 .zero []), none⟩, ⟨(some 6), (.mv (.t 0)), none⟩, ⟨(some 7), (.app 1 1 .own (.t 5) (.t 6)), none⟩, ⟨(some 2), (.mv (.t 7)), none⟩]) .ret)))

set_option maxRecDepth 100000 in
theorem k_clone : compileC Try.prog ann_clone (Try.f81.body.getD .skip) = some c_clone := by kernel_rfl

theorem s_clone {args : List AV} {σ : St} {K : AV → St → Prop} (h : WF σ → T Try.prog ann_clone c_clone (Fin σ [(.t 2)] K) (args ++ List.replicate (8 - args.length) (.tup [])) σ) : ACalls Try.prog n_clone args σ K :=
  calls_ok Try.func81 (by kernel_rfl) (by kernel_rfl) k_clone (by kernel_rfl) (by kernel_rfl) h

end Go.VL

namespace Go.VL

open Go.Proofs

/-- what a store holds: names, and bytes -/
abbrev Objs := List (ByteArray × List UInt8)

def objsAV (L : Objs) : List (AV × AV) := L.map fun e => (.str e.1, .sl (bytesAV e.2) .none)

/-- a store stands at p, its map at m -/
structure StS (σ : St) (p m : Nat) (room left calls : Int) (L : Objs) : Prop where
  obj : σ.res p = some (.obj [.int .i64 room, .map m, .int .i64 left, .int .i64 calls])
  map : ∃ ts clk, σ.res m = some (.map (objsAV L) ts clk) ∧ ts.length = L.length ∧ ts.Nodup ∧ ∀ t ∈ ts, t < clk
  ne : p ≠ m

theorem StS.mono {σ σ' : St} {p m : Nat} {room left calls : Int} {L : Objs} (h : StS σ p m room left calls L) (ho : ∀ n x, σ.res n = some x → σ'.res n = some x) : StS σ' p m room left calls L := by
  obtain ⟨ts, clk, h1, h2⟩ := h.map
  exact ⟨ho _ _ h.obj, ⟨ts, clk, ho _ _ h1, h2⟩, h.ne⟩

theorem clone_ok {b : List UInt8} {v : AV} {σ : St} (hb : b.length ≤ 1099511627776) (hv : (∃ g, v = .sl (bytesAV b) g ∧ (g = .nil → b = [])) ∨ ∃ n, v = .ref n 0 b.length ∧ σ.res n = some (.obj (bytesAV b))) :
    ACalls Try.prog n_clone [v] σ (fun w σ' => (w = .sl [] .none ∧ b = [] ∧ ∀ n x, σ.res n = some x → σ'.res n = some x) ∨ ∃ n, σ.next ≤ n ∧ n < σ'.next ∧ w = .ref n 0 b.length ∧ σ'.res n = some (.obj (bytesAV b)) ∧ ∀ n x, σ.res n = some x → σ'.res n = some x) := by
  refine s_clone (fun wf => ?_)
  unfold c_clone
  have more : ∀ ρ' : List AV, keep [0] 0 ρ' = [v] ++ List.replicate 7 .any → T Try.prog ann_clone (.seq (.reg [⟨(some 5), (.bslice 1 .zero []), none⟩, ⟨(some 6), (.mv (.t 0)), none⟩, ⟨(some 7), (.app 1 1 .own (.t 5) (.t 6)), none⟩, ⟨(some 2), (.mv (.t 7)), none⟩]) .ret)
      (Fin σ [.t 2] (fun w σ' => (w = .sl [] .none ∧ b = [] ∧ ∀ n x, σ.res n = some x → σ'.res n = some x) ∨ ∃ n, σ.next ≤ n ∧ n < σ'.next ∧ w = .ref n 0 b.length ∧ σ'.res n = some (.obj (bytesAV b)) ∧ ∀ n x, σ.res n = some x → σ'.res n = some x)) ρ' σ := by
    intro ρ' hρ
    refine T.gh (Gh.keep [0]) ?_
    rw [hρ]
    clear hρ ρ'
    have hsrc : srcOf (σ.up 4) 1 v = some (bytesAV b) := by
      rcases hv with ⟨g, rfl, _⟩ | ⟨n, rfl, hr⟩
      · simp only [srcOf, bytesAV_er]
      · have e : ((bytesAV b).drop 0).take b.length = bytesAV b := by rw [List.drop_zero, List.take_of_length_le (by rw [bytesAV_len]; exact Nat.le_refl _)]
        have hr' : (σ.up 4).res n = some (.obj (bytesAV b)) := hr
        unfold srcOf
        simp only [hr']
        rw [e, if_pos ⟨by trivial, by rw [bytesAV_len]; omega, by simp [bytesAV, AV.one]⟩]
        simp [bytesAV, AV.er1]
    refine T.seq_k (fun K_h1 h1 => ?_)
    cases b with
    | nil =>
      have hsrc' : srcOf (σ.up 4) 1 v = some [] := hsrc
      refine T.regi hm ?_
      simp only [↓reduceIte, namesOf, List.any, I.names, aops, aopsI, aopsT, qstep, CPt, qget, Tbl.get, astep, ev, setd, List.set, List.getD, List.getElem?_cons_zero, List.getElem?_cons_succ, List.getElem?_nil, List.cons_append, List.nil_append, List.length_cons, List.length_nil, List.replicate, then_normal, inBlock_normal, Option.getD_some, Option.getD_none, Bool.or_false, Bool.or_true, Bool.true_or, Bool.false_or, Bool.false_eq_true, if_false, if_true, up_zero, Nat.reduceAdd, Nat.reduceSub, binv, ↓opt_def, AV.isAny, AV.cells, ldc, List.map_cons, List.map_nil, St.set_next, St.set_same, St.up_next, Int.natCast_nonneg, lt_len, le_len, Int.toNat_natCast, true_and, and_true, eq_self, reduceCtorEq, decide_true, List.length_singleton, er_int, er_bool, er_str, List.isEmpty, hsrc', List.all_nil, Bool.true_and, Nat.zero_add, Nat.zero_mul, Nat.zero_le, and_self, List.append_nil]
      refine h1 _ _ ?_
      try clear h1 K_h1
      exact T.ret (Fin.retw rfl (y := .sl [] .none) (Wk.sl _ _) (.inl ⟨rfl, rfl, fun _ _ h => h⟩))
    | cons x r =>
      have hne : (bytesAV (x :: r)).isEmpty = false := rfl
      refine T.regi hm ?_
      simp only [↓reduceIte, namesOf, List.any, I.names, aops, aopsI, aopsT, qstep, CPt, qget, Tbl.get, astep, ev, setd, List.set, List.getD, List.getElem?_cons_zero, List.getElem?_cons_succ, List.getElem?_nil, List.cons_append, List.nil_append, List.length_cons, List.length_nil, List.replicate, then_normal, inBlock_normal, Option.getD_some, Option.getD_none, Bool.or_false, Bool.or_true, Bool.true_or, Bool.false_or, Bool.false_eq_true, if_false, if_true, up_zero, Nat.reduceAdd, Nat.reduceSub, binv, ↓opt_def, AV.isAny, AV.cells, ldc, List.map_cons, List.map_nil, St.set_next, St.set_same, St.up_next, Int.natCast_nonneg, lt_len, le_len, Int.toNat_natCast, true_and, and_true, eq_self, reduceCtorEq, decide_true, List.length_singleton, er_int, er_bool, er_str, List.isEmpty, hsrc, bytes_all, hne, Bool.true_and, List.nil_append, Nat.zero_add]
      rw [if_pos (by simp only [bytesAV_len, decide_eq_true_eq]; omega)]
      refine h1 _ _ ?_
      try clear h1 K_h1
      refine T.ret (Fin.ret rfl (.inr ⟨σ.next + 2, by omega, by simp, ?_, ?_, set_quiet wf (Nat.le_refl _) (fun _ _ h => h) _ (by omega)⟩))
      · simp [pack, bytesAV_len]
      · rw [St.set_same, bytes_flat]
  refine T.seq_k (fun K_h1 h1 => ?_)
  refine T.regi hm ?_
  simp only [↓reduceIte, namesOf, List.any, I.names, aops, aopsI, aopsT, qstep, CPt, qget, Tbl.get, astep, ev, setd, List.set, List.getD, List.getElem?_cons_zero, List.getElem?_cons_succ, List.getElem?_nil, List.cons_append, List.nil_append, List.length_cons, List.length_nil, List.replicate, then_normal, inBlock_normal, Option.getD_some, Option.getD_none, Bool.or_false, Bool.or_true, Bool.true_or, Bool.false_or, Bool.false_eq_true, if_false, if_true, up_zero, Nat.reduceAdd, Nat.reduceSub, binv, ↓opt_def, AV.isAny, AV.cells, ldc, List.map_cons, List.map_nil, St.set_next, St.set_same, St.up_next, Int.natCast_nonneg, lt_len, le_len, Int.toNat_natCast, true_and, and_true, eq_self, reduceCtorEq, decide_true, List.length_singleton, er_int, er_bool, er_str]
  refine h1 _ _ ?_
  try clear h1 K_h1
  refine T.seq_k (fun K_h1 h1 => ?_)
  refine T.seq_k (fun K_h2 h2 => ?_)
  have hlen0 : (∃ n, v = .ref n 0 b.length ∧ σ.res n = some (.obj (bytesAV b))) → ∀ K : AV → St → Prop, K (.bool false) σ → True := fun _ _ _ => trivial
  clear hlen0
  rcases hv with ⟨g, rfl, hgn⟩ | ⟨n, rfl, hr⟩
  · have go : ∀ ρ' : List AV, keep [0] 0 ρ' = [.sl (bytesAV b) g] ++ List.replicate 7 .any → ∀ x : Bool, ρ'.getD 4 .any = .bool x → (x = true → b = []) → K_h2 ρ' σ := by
      intro ρ' hρ x hx hn
      refine h2 _ _ ?_
      try clear h2 K_h2
      refine T.cond (b := x) (by simpa [ev] using hx) (fun ht => ?_) (fun _ => T.skip ?_)
      · have hb0 := hn ht
        refine T.gh (Gh.keep [0]) ?_
        rw [hρ]
        refine T.seq_k (fun K_h2 h2 => ?_)
        refine T.regi hm ?_
        simp only [↓reduceIte, namesOf, List.any, I.names, aops, aopsI, aopsT, qstep, CPt, qget, Tbl.get, astep, ev, setd, List.set, List.getD, List.getElem?_cons_zero, List.getElem?_cons_succ, List.getElem?_nil, List.cons_append, List.nil_append, List.length_cons, List.length_nil, List.replicate, then_normal, inBlock_normal, Option.getD_some, Option.getD_none, Bool.or_false, Bool.or_true, Bool.true_or, Bool.false_or, Bool.false_eq_true, if_false, if_true, up_zero, Nat.reduceAdd, Nat.reduceSub, binv, ↓opt_def, AV.isAny, AV.cells, ldc, List.map_cons, List.map_nil, St.set_next, St.set_same, St.up_next, Int.natCast_nonneg, lt_len, le_len, Int.toNat_natCast, true_and, and_true, eq_self, reduceCtorEq, decide_true, List.length_singleton, er_int, er_bool, er_str]
        refine h2 _ _ ?_
        try clear h2 K_h2
        exact T.ret (Fin.retw rfl (y := .sl [] .none) (Wk.sl _ _) (.inl ⟨rfl, hb0, fun _ _ h => h⟩))
      · refine h1 _ _ ?_
        try clear h1 K_h1
        exact more _ hρ
    cases b with
    | nil =>
      cases g <;> refine T.regi hm ?_
      simp only [↓reduceIte, namesOf, List.any, I.names, aops, aopsI, aopsT, qstep, CPt, qget, Tbl.get, astep, ev, setd, List.set, List.getD, List.getElem?_cons_zero, List.getElem?_cons_succ, List.getElem?_nil, List.cons_append, List.nil_append, List.length_cons, List.length_nil, List.replicate, then_normal, inBlock_normal, Option.getD_some, Option.getD_none, Bool.or_false, Bool.or_true, Bool.true_or, Bool.false_or, Bool.false_eq_true, if_false, if_true, up_zero, Nat.reduceAdd, Nat.reduceSub, binv, ↓opt_def, AV.isAny, AV.cells, ldc, List.map_cons, List.map_nil, St.set_next, St.set_same, St.up_next, Int.natCast_nonneg, lt_len, le_len, Int.toNat_natCast, true_and, and_true, eq_self, reduceCtorEq, decide_true, List.length_singleton, er_int, er_bool, er_str, List.isEmpty, Bool.bne_false, bne_self_eq_false, Bool.true_bne, Bool.not_false]
      · intro x; exact go _ rfl x rfl (fun _ => rfl)
      · exact go _ rfl _ rfl (fun _ => rfl)
      · intro x; exact go _ rfl x rfl (fun _ => rfl)
      · intro x; exact go _ rfl x rfl (fun _ => rfl)
    | cons y r =>
      have hne : (bytesAV (y :: r)).isEmpty = false := rfl
      cases g
      case nil => exact absurd (hgn rfl) (by simp)
      all_goals
        refine T.regi hm ?_
        simp only [↓reduceIte, namesOf, List.any, I.names, aops, aopsI, aopsT, qstep, CPt, qget, Tbl.get, astep, ev, setd, List.set, List.getD, List.getElem?_cons_zero, List.getElem?_cons_succ, List.getElem?_nil, List.cons_append, List.nil_append, List.length_cons, List.length_nil, List.replicate, then_normal, inBlock_normal, Option.getD_some, Option.getD_none, Bool.or_false, Bool.or_true, Bool.true_or, Bool.false_or, Bool.false_eq_true, if_false, if_true, up_zero, Nat.reduceAdd, Nat.reduceSub, binv, ↓opt_def, AV.isAny, AV.cells, ldc, List.map_cons, List.map_nil, St.set_next, St.set_same, St.up_next, Int.natCast_nonneg, lt_len, le_len, Int.toNat_natCast, true_and, and_true, eq_self, reduceCtorEq, decide_true, List.length_singleton, er_int, er_bool, er_str, hne, Bool.bne_false, bne_self_eq_false]
        exact go _ rfl false rfl (fun h => by cases h)
  · refine T.regi hm ?_
    simp only [↓reduceIte, namesOf, List.any, I.names, aops, aopsI, aopsT, qstep, CPt, qget, Tbl.get, astep, ev, setd, List.set, List.getD, List.getElem?_cons_zero, List.getElem?_cons_succ, List.getElem?_nil, List.cons_append, List.nil_append, List.length_cons, List.length_nil, List.replicate, then_normal, inBlock_normal, Option.getD_some, Option.getD_none, Bool.or_false, Bool.or_true, Bool.true_or, Bool.false_or, Bool.false_eq_true, if_false, if_true, up_zero, Nat.reduceAdd, Nat.reduceSub, binv, ↓opt_def, AV.isAny, AV.cells, ldc, List.map_cons, List.map_nil, St.set_next, St.set_same, St.up_next, Int.natCast_nonneg, lt_len, le_len, Int.toNat_natCast, true_and, and_true, eq_self, reduceCtorEq, decide_true, List.length_singleton, er_int, er_bool, er_str, Bool.bne_false, bne_self_eq_false]
    refine h2 _ _ ?_
    try clear h2 K_h2
    refine T.cond rfl (fun h => by cases h) (fun _ => T.skip ?_)
    refine h1 _ _ ?_
    try clear h1 K_h1
    exact more _ rfl

end Go.VL

namespace Go.VL

open Go.Proofs

/-- an owned row that comes back, told to be a value -/
theorem Gv.freeze {σ0 σ : St} {n off len k : Nat} {cs xs : List AV} (hr : σ.res n = some (.obj cs)) (hlen : xs.length = len) (hk : ∀ x ∈ xs, x.cells.length = k)
    (hx : xs.flatMap AV.cells = (cs.drop off).take (len * k)) : Gv σ0 (.ref n off len) σ (.sl xs .none) (σ.del n) := by
  intro κ0 w0 B0 F0 F κ w v h0 hR he hd hn hv
  obtain ⟨hdm, us, rest, ty, fz, h1, h2, h3, h4⟩ := hR.own n _ hr
  have e : Ext κ w { κ with I := fun b o => κ.I b o ∨ (b = κ.φ n ∧ o < us.length) } w := ⟨fun _ _ x => .inl x, fun _ _ => rfl, fun _ _ => rfl, fun _ _ => rfl, fun _ _ => rfl, fun _ x => x, fun _ _ _ => rfl⟩
  have hlt := hR.lt hr
  have hR' : R w0.heap.size F { κ with I := fun b o => κ.I b o ∨ (b = κ.φ n ∧ o < us.length) } w (σ.del n) := by
    refine hR.step e (fun m hm => hR.dom m hm) (fun b o hi => ?_) (fun m r hm => ?_)
    · rcases hi with hi | ⟨rfl, _⟩
      · exact hR.imm b o hi
      · exact hlt
    · have hmn : m ≠ n := by intro e; subst e; simp [St.del] at hm
      have hm' : σ.res m = some r := by simpa [St.del, hmn] using hm
      refine .inl ⟨hm', rfl, fun o hi => ?_⟩
      rcases hi with hi | ⟨hx, _⟩
      · exact hi
      · exact absurd (hR.apart _ _ _ _ hm' hr hx) hmn
  obtain ⟨cap, rfl, hcap, _⟩ := hv.ref_inv
  refine ⟨_, hR', he.trans e, hd, hn, ?_⟩
  rw [← hlen]
  refine .sl _ _ cap k xs hk (by rw [hlen]; exact hcap) ?_
  rw [hx]
  refine Vs.mk (us := (us.drop off).take (len * k)) (((h3.mono e).drop off).take _) (fun i u hu => ?_)
  have hu2 : us[off + i]? = some u := by
    rw [List.getElem?_take] at hu
    split at hu
    · simpa using hu
    · cases hu
  have hil : off + i < us.length := (List.getElem?_eq_some_iff.1 hu2).1
  exact ⟨.inr ⟨rfl, hil⟩, by rw [cell_of h1, List.getElem?_append_left hil]; exact hu2⟩

abbrev BytesV (σ : St) (v : AV) (b : List UInt8) : Prop := (∃ g, v = .sl (bytesAV b) g ∧ (g = .nil → b = [])) ∨ ∃ n, v = .ref n 0 b.length ∧ σ.res n = some (.obj (bytesAV b))

theorem clone_q {b : List UInt8} {v : AV} {σ : St} (hb : b.length ≤ 1099511627776) (hv : BytesV σ v b) : ACalls Try.prog n_clone [v] σ (fun w σ' => w = .sl (bytesAV b) .none ∧ σ' = σ) := by
  refine (clone_ok hb hv).gv ?_
  rintro wf w σ' (⟨rfl, rfl, ho⟩ | ⟨n, h1, h2, rfl, h3, ho⟩)
  · exact ⟨_, _, Gv.quiet ⟨trivial, trivial⟩ ho, rfl, rfl⟩
  · refine ⟨_, _, (Gv.freeze (k := 1) h3 (xs := bytesAV b) (bytesAV_len b) (fun x hx => ?_) ?_).trans (Gv.quiet ⟨nb_bytes _ _, trivial⟩ (fun m x hm => ?_)), rfl, rfl⟩
    · obtain ⟨y, _, rfl⟩ := List.mem_map.1 hx; rfl
    · rw [bytes_flat, List.drop_zero, Nat.mul_one, List.take_of_length_le (by rw [bytesAV_len]; exact Nat.le_refl _)]
    · have hmn : m ≠ n := by
        rintro rfl
        rw [wf m h1] at hm; cases hm
      simp only [St.del]
      rw [if_neg hmn]; exact ho m x hm

/-- all else is as it was -/
structure Nx (σ σ' : St) (p m : Nat) : Prop where
  next : σ.next ≤ σ'.next
  old : ∀ n x, n ≠ p → n ≠ m → σ.res n = some x → σ'.res n = some x

theorem Nx.refl (σ : St) (p m : Nat) : Nx σ σ p m := ⟨Nat.le_refl _, fun _ _ _ _ h => h⟩

theorem Nx.trans {σ σ1 σ2 : St} {p m : Nat} (h : Nx σ σ1 p m) (k : Nx σ1 σ2 p m) : Nx σ σ2 p m := ⟨Nat.le_trans h.next k.next, fun n x h1 h2 h3 => k.old n x h1 h2 (h.old n x h1 h2 h3)⟩

theorem Nx.set {σ : St} {p m : Nat} (r : Res) : Nx σ (σ.set p r) p m := ⟨Nat.le_refl _, fun n x h1 _ h3 => by rw [St.set_other _ _ h1]; exact h3⟩

end Go.VL

namespace Go.VL

open Go.Proofs

abbrev n_few : Nat := 26

def c_few : C := (.seq (.reg [⟨(some 4), (.mv (.c (.bool false))), none⟩]) (.seq (.seq (.reg [⟨(some 5), (.mv (.c (.int .i64 0))), none⟩]) (.block 0 (.loop (.seq (.seq (.reg [⟨(some 6), (.mv (.t 5)), none⟩, ⟨(some 7), (.mv (.t 0)), none⟩, ⟨(some 8), (.len (.t 7)), none⟩, ⟨(some 9), (.bin .lss .i64 (.t 6) (.t 8)), none⟩]) (.cond (.t 9) .skip (.exit 0))) (.seq (.block 1 (.seq (.reg [⟨(some 12), (.mv (.t 0)), none⟩, ⟨(some 13), (.mv (.t 5)), none⟩, ⟨(some 14), (.iaddr 5 (.t 12) (.t 13)), none⟩, ⟨(some 15), (.faddr 4 (.t 14)), none⟩, ⟨(some 16), (.load none (.t 15)), none⟩, ⟨(some 17), (.len (.t 16)), none⟩, ⟨(some 18), (.bin .gtr .i64 (.t 17) (.c (.int .i64 200))), none⟩]) (.cond (.t 18) (.seq (.reg [⟨(some 4), (.mv (.c (.bool false))), none⟩]) .ret) .skip))) (.reg [⟨(some 10), (.mv (.t 5)), none⟩, ⟨(some 11), (.bin .add .i64 (.t 10) (.c (.int .i64 1))), none⟩, ⟨(some 5), (.mv (.t 11)), none⟩])))))) (.seq (.reg [⟨(some 19), (.mv (.t 0)), none⟩, ⟨(some 20), (.len (.t 19)), none⟩, ⟨(some 21), (.mv (.t 1)), none⟩, ⟨(some 22), (.bin .leq .i64 (.t 20) (.t 21)), none⟩, ⟨(some 4), (.mv (.t 22)), none⟩]) .ret)))

set_option maxRecDepth 100000 in
theorem k_few : compileC Try.prog ann (Try.f26.body.getD .skip) = some c_few := by kernel_rfl

theorem s_few {args : List AV} {σ : St} {K : AV → St → Prop} (h : WF σ → T Try.prog ann c_few (Fin σ [(.t 4)] K) (args ++ List.replicate (23 - args.length) (.tup [])) σ) : ACalls Try.prog n_few args σ K :=
  calls_ok Try.func26 (by kernel_rfl) (by kernel_rfl) k_few (by kernel_rfl) (by kernel_rfl) h

abbrev n_fewt : Nat := 13

def c_fewt : C := (.seq (.reg [⟨(some 4), (.mv (.c (.bool false))), none⟩]) (.seq (.reg [⟨(some 5), (.mv (.c (.int .i64 0))), none⟩]) (.seq (.seq (.reg [⟨(some 6), (.mv (.c (.int .i64 0))), none⟩]) (.block 0 (.loop (.seq (.seq (.reg [⟨(some 8), (.mv (.t 6)), none⟩, ⟨(some 9), (.mv (.t 0)), none⟩, ⟨(some 10), (.len (.t 9)), none⟩, ⟨(some 11), (.bin .lss .i64 (.t 8) (.t 10)), none⟩]) (.cond (.t 11) .skip (.exit 0))) (.seq (.block 1 (.seq (.reg [⟨(some 14), (.mv (.t 0)), none⟩, ⟨(some 15), (.mv (.t 6)), none⟩, ⟨(some 16), (.iaddr 2 (.t 14) (.t 15)), none⟩, ⟨(some 17), (.faddr 1 (.t 16)), none⟩, ⟨(some 18), (.load none (.t 17)), none⟩, ⟨(some 19), (.call 26 [(.t 18), (.c (.int .i64 150))]), none⟩, ⟨(some 7), (.mv (.t 19)), none⟩]) (.seq (.seq (.reg [⟨(some 20), (.mv (.t 7)), none⟩, ⟨(some 21), (.not (.t 20)), none⟩]) (.cond (.t 21) (.seq (.reg [⟨(some 4), (.mv (.c (.bool false))), none⟩]) .ret) .skip)) (.reg [⟨(some 22), (.mv (.t 5)), none⟩, ⟨(some 23), (.mv (.t 0)), none⟩, ⟨(some 24), (.mv (.t 6)), none⟩, ⟨(some 25), (.iaddr 2 (.t 23) (.t 24)), none⟩, ⟨(some 26), (.faddr 1 (.t 25)), none⟩, ⟨(some 27), (.load none (.t 26)), none⟩, ⟨(some 28), (.len (.t 27)), none⟩, ⟨(some 29), (.bin .add .i64 (.t 22) (.t 28)), none⟩, ⟨(some 5), (.mv (.t 29)), none⟩])))) (.reg [⟨(some 12), (.mv (.t 6)), none⟩, ⟨(some 13), (.bin .add .i64 (.t 12) (.c (.int .i64 1))), none⟩, ⟨(some 6), (.mv (.t 13)), none⟩])))))) (.seq (.reg [⟨(some 30), (.mv (.t 0)), none⟩, ⟨(some 31), (.len (.t 30)), none⟩, ⟨(some 32), (.bin .leq .i64 (.t 31) (.c (.int .i64 100))), none⟩, ⟨(some 33), (.mv (.t 32)), none⟩, ⟨(some 34), (.mv (.t 5)), (some (33, true))⟩, ⟨(some 35), (.mv (.t 1)), (some (33, true))⟩, ⟨(some 36), (.bin .leq .i64 (.t 34) (.t 35)), (some (33, true))⟩, ⟨(some 37), (.pick (.t 33) (.t 36) (.c (.bool false))), none⟩, ⟨(some 4), (.mv (.t 37)), none⟩]) .ret))))

set_option maxRecDepth 100000 in
theorem k_fewt : compileC Try.prog ann (Try.f13.body.getD .skip) = some c_fewt := by kernel_rfl

theorem s_fewt {args : List AV} {σ : St} {K : AV → St → Prop} (h : WF σ → T Try.prog ann c_fewt (Fin σ [(.t 4)] K) (args ++ List.replicate (38 - args.length) (.tup [])) σ) : ACalls Try.prog n_fewt args σ K :=
  calls_ok Try.func13 (by kernel_rfl) (by kernel_rfl) k_fewt (by kernel_rfl) (by kernel_rfl) h

abbrev n_may : Nat := 118

def c_may : C := (.seq (.reg [⟨(some 1), (.box (.t 0)), none⟩, ⟨(some 2), (.mv (.c (.bool false))), none⟩]) (.seq (.reg [⟨(some 3), (.faddr 2 (.t 1)), none⟩, ⟨(some 4), (.load none (.t 3)), none⟩, ⟨(some 5), (.bin .geq .i64 (.t 4) (.c (.int .i64 0))), none⟩, ⟨(some 6), (.mv (.t 5)), none⟩, ⟨(some 7), (.faddr 2 (.t 1)), (some (6, true))⟩, ⟨(some 8), (.load none (.t 7)), (some (6, true))⟩, ⟨(some 9), (.faddr 3 (.t 1)), (some (6, true))⟩, ⟨(some 10), (.load none (.t 9)), (some (6, true))⟩, ⟨(some 11), (.bin .leq .i64 (.t 8) (.t 10)), (some (6, true))⟩, ⟨(some 12), (.pick (.t 6) (.t 11) (.c (.bool false))), none⟩, ⟨(some 13), (.mv (.t 12)), none⟩, ⟨(some 14), (.faddr 3 (.t 1)), (some (13, true))⟩, ⟨(some 15), (.load none (.t 14)), (some (13, true))⟩, ⟨(some 16), (.bin .leq .i64 (.t 15) (.c (.int .i64 1099511627776))), (some (13, true))⟩, ⟨(some 17), (.pick (.t 13) (.t 16) (.c (.bool false))), none⟩, ⟨(some 18), (.mv (.t 17)), none⟩, ⟨(some 19), (.faddr 4 (.t 1)), (some (18, true))⟩, ⟨(some 20), (.load none (.t 19)), (some (18, true))⟩, ⟨(some 21), (.len (.t 20)), (some (18, true))⟩, ⟨(some 22), (.bin .leq .i64 (.t 21) (.c (.int .i64 64))), (some (18, true))⟩, ⟨(some 23), (.pick (.t 18) (.t 22) (.c (.bool false))), none⟩, ⟨(some 2), (.mv (.t 23)), none⟩]) .ret))

set_option maxRecDepth 100000 in
theorem k_may : compileC Try.prog ann (Try.f118.body.getD .skip) = some c_may := by kernel_rfl

theorem s_may {args : List AV} {σ : St} {K : AV → St → Prop} (h : WF σ → T Try.prog ann c_may (Fin σ [(.t 2)] K) (args ++ List.replicate (24 - args.length) (.tup [])) σ) : ACalls Try.prog n_may args σ K :=
  calls_ok Try.func118 (by kernel_rfl) (by kernel_rfl) k_may (by kernel_rfl) (by kernel_rfl) h

abbrev n_nan1 : Nat := 155

def c_nan1 : C := (.seq (.reg [⟨(some 2), (.mv (.c (.bool false))), none⟩]) (.seq (.reg [⟨(some 3), (.mv (.t 0)), none⟩, ⟨(some 4), (.mv (.t 0)), none⟩, ⟨(some 5), (.bin .neq .i64 (.t 3) (.t 4)), none⟩, ⟨(some 2), (.mv (.t 5)), none⟩]) .ret))

set_option maxRecDepth 100000 in
theorem k_nan1 : compileC Try.prog ann (Try.f155.body.getD .skip) = some c_nan1 := by kernel_rfl

theorem s_nan1 {args : List AV} {σ : St} {K : AV → St → Prop} (h : WF σ → T Try.prog ann c_nan1 (Fin σ [(.t 2)] K) (args ++ List.replicate (6 - args.length) (.tup [])) σ) : ACalls Try.prog n_nan1 args σ K :=
  calls_ok Try.func155 (by kernel_rfl) (by kernel_rfl) k_nan1 (by kernel_rfl) (by kernel_rfl) h

abbrev n_nan2 : Nat := 159

def c_nan2 : C := (.seq (.reg [⟨(some 2), (.mv (.c (.bool false))), none⟩]) (.seq (.reg [⟨(some 3), (.mv (.t 0)), none⟩, ⟨(some 4), (.mv (.t 0)), none⟩, ⟨(some 5), (.bin .neq .u64 (.t 3) (.t 4)), none⟩, ⟨(some 2), (.mv (.t 5)), none⟩]) .ret))

set_option maxRecDepth 100000 in
theorem k_nan2 : compileC Try.prog ann (Try.f159.body.getD .skip) = some c_nan2 := by kernel_rfl

theorem s_nan2 {args : List AV} {σ : St} {K : AV → St → Prop} (h : WF σ → T Try.prog ann c_nan2 (Fin σ [(.t 2)] K) (args ++ List.replicate (6 - args.length) (.tup [])) σ) : ACalls Try.prog n_nan2 args σ K :=
  calls_ok Try.func159 (by kernel_rfl) (by kernel_rfl) k_nan2 (by kernel_rfl) (by kernel_rfl) h

abbrev n_cmpi : Nat := 124

def c_cmpi : C := (.seq (.reg [⟨(some 4), (.mv (.c (.int .i64 0))), none⟩]) (.seq (.reg [⟨(some 7), (.mv (.t 0)), none⟩, ⟨(some 8), (.call 155 [(.t 7)]), none⟩, ⟨(some 5), (.mv (.t 8)), none⟩]) (.seq (.reg [⟨(some 9), (.mv (.t 1)), none⟩, ⟨(some 10), (.call 155 [(.t 9)]), none⟩, ⟨(some 6), (.mv (.t 10)), none⟩]) (.seq (.seq (.reg [⟨(some 11), (.mv (.t 5)), none⟩]) (.cond (.t 11) (.seq (.seq (.reg [⟨(some 12), (.mv (.t 6)), none⟩]) (.cond (.t 12) (.seq (.reg [⟨(some 4), (.mv (.c (.int .i64 0))), none⟩]) .ret) .skip)) (.seq (.reg [⟨(some 4), (.mv (.c (.int .i64 (-1)))), none⟩]) .ret)) .skip)) (.seq (.seq (.reg [⟨(some 13), (.mv (.t 6)), none⟩]) (.cond (.t 13) (.seq (.reg [⟨(some 4), (.mv (.c (.int .i64 1))), none⟩]) .ret) .skip)) (.seq (.seq (.reg [⟨(some 14), (.mv (.t 0)), none⟩, ⟨(some 15), (.mv (.t 1)), none⟩, ⟨(some 16), (.bin .lss .i64 (.t 14) (.t 15)), none⟩]) (.cond (.t 16) (.seq (.reg [⟨(some 4), (.mv (.c (.int .i64 (-1)))), none⟩]) .ret) .skip)) (.seq (.seq (.reg [⟨(some 17), (.mv (.t 0)), none⟩, ⟨(some 18), (.mv (.t 1)), none⟩, ⟨(some 19), (.bin .gtr .i64 (.t 17) (.t 18)), none⟩]) (.cond (.t 19) (.seq (.reg [⟨(some 4), (.mv (.c (.int .i64 1))), none⟩]) .ret) .skip)) (.seq (.reg [⟨(some 4), (.mv (.c (.int .i64 0))), none⟩]) .ret))))))))

set_option maxRecDepth 100000 in
theorem k_cmpi : compileC Try.prog ann (Try.f124.body.getD .skip) = some c_cmpi := by kernel_rfl

theorem s_cmpi {args : List AV} {σ : St} {K : AV → St → Prop} (h : WF σ → T Try.prog ann c_cmpi (Fin σ [(.t 4)] K) (args ++ List.replicate (20 - args.length) (.tup [])) σ) : ACalls Try.prog n_cmpi args σ K :=
  calls_ok Try.func124 (by kernel_rfl) (by kernel_rfl) k_cmpi (by kernel_rfl) (by kernel_rfl) h

abbrev n_cmpu : Nat := 129

def c_cmpu : C := (.seq (.reg [⟨(some 4), (.mv (.c (.int .i64 0))), none⟩]) (.seq (.reg [⟨(some 7), (.mv (.t 0)), none⟩, ⟨(some 8), (.call 159 [(.t 7)]), none⟩, ⟨(some 5), (.mv (.t 8)), none⟩]) (.seq (.reg [⟨(some 9), (.mv (.t 1)), none⟩, ⟨(some 10), (.call 159 [(.t 9)]), none⟩, ⟨(some 6), (.mv (.t 10)), none⟩]) (.seq (.seq (.reg [⟨(some 11), (.mv (.t 5)), none⟩]) (.cond (.t 11) (.seq (.seq (.reg [⟨(some 12), (.mv (.t 6)), none⟩]) (.cond (.t 12) (.seq (.reg [⟨(some 4), (.mv (.c (.int .i64 0))), none⟩]) .ret) .skip)) (.seq (.reg [⟨(some 4), (.mv (.c (.int .i64 (-1)))), none⟩]) .ret)) .skip)) (.seq (.seq (.reg [⟨(some 13), (.mv (.t 6)), none⟩]) (.cond (.t 13) (.seq (.reg [⟨(some 4), (.mv (.c (.int .i64 1))), none⟩]) .ret) .skip)) (.seq (.seq (.reg [⟨(some 14), (.mv (.t 0)), none⟩, ⟨(some 15), (.mv (.t 1)), none⟩, ⟨(some 16), (.bin .lss .u64 (.t 14) (.t 15)), none⟩]) (.cond (.t 16) (.seq (.reg [⟨(some 4), (.mv (.c (.int .i64 (-1)))), none⟩]) .ret) .skip)) (.seq (.seq (.reg [⟨(some 17), (.mv (.t 0)), none⟩, ⟨(some 18), (.mv (.t 1)), none⟩, ⟨(some 19), (.bin .gtr .u64 (.t 17) (.t 18)), none⟩]) (.cond (.t 19) (.seq (.reg [⟨(some 4), (.mv (.c (.int .i64 1))), none⟩]) .ret) .skip)) (.seq (.reg [⟨(some 4), (.mv (.c (.int .i64 0))), none⟩]) .ret))))))))

set_option maxRecDepth 100000 in
theorem k_cmpu : compileC Try.prog ann (Try.f129.body.getD .skip) = some c_cmpu := by kernel_rfl

theorem s_cmpu {args : List AV} {σ : St} {K : AV → St → Prop} (h : WF σ → T Try.prog ann c_cmpu (Fin σ [(.t 4)] K) (args ++ List.replicate (20 - args.length) (.tup [])) σ) : ACalls Try.prog n_cmpu args σ K :=
  calls_ok Try.func129 (by kernel_rfl) (by kernel_rfl) k_cmpu (by kernel_rfl) (by kernel_rfl) h

abbrev n_cor : Nat := 122

def c_cor : C := (.seq (.reg [⟨(some 2), (.mv (.c (.int .i64 0))), none⟩]) (.seq (.reg [⟨(some 3), (.mv (.c (.int .i64 0))), none⟩]) (.seq (.seq (.reg [⟨(some 6), (.mv (.t 0)), none⟩, ⟨(some 7), (.len (.t 6)), none⟩, ⟨(some 8), (.mv (.c (.int .i64 0))), none⟩]) (.block 0 (.loop (.seq (.reg [⟨(some 9), (.bin .lss .i64 (.t 8) (.t 7)), none⟩]) (.seq (.cond (.t 9) .skip (.exit 0)) (.seq (.block 1 (.seq (.reg [⟨(some 10), (.iaddr 1 (.t 6) (.t 8)), none⟩, ⟨(some 11), (.load none (.t 10)), none⟩, ⟨(some 5), (.mv (.t 11)), none⟩]) (.seq (.reg [⟨(some 12), (.mv (.t 5)), none⟩, ⟨(some 13), (.mv (.t 3)), none⟩, ⟨(some 14), (.bin .neq .i64 (.t 12) (.t 13)), none⟩]) (.cond (.t 14) (.seq (.reg [⟨(some 15), (.mv (.t 5)), none⟩, ⟨(some 2), (.mv (.t 15)), none⟩]) .ret) .skip)))) (.reg [⟨(some 16), (.bin .add .i64 (.t 8) (.c (.int .i64 1))), none⟩, ⟨(some 8), (.mv (.t 16)), none⟩]))))))) (.seq (.reg [⟨(some 17), (.mv (.t 3)), none⟩, ⟨(some 2), (.mv (.t 17)), none⟩]) .ret))))

set_option maxRecDepth 100000 in
theorem k_cor : compileC Try.prog ann (Try.f122.body.getD .skip) = some c_cor := by kernel_rfl

theorem s_cor {args : List AV} {σ : St} {K : AV → St → Prop} (h : WF σ → T Try.prog ann c_cor (Fin σ [(.t 2)] K) (args ++ List.replicate (18 - args.length) (.tup [])) σ) : ACalls Try.prog n_cor args σ K :=
  calls_ok Try.func122 (by kernel_rfl) (by kernel_rfl) k_cor (by kernel_rfl) (by kernel_rfl) h

abbrev n_scmp : Nat := 80

def c_scmp : C := (.seq (.reg [⟨(some 2), (.box (.t 0)), none⟩, ⟨(some 3), (.box (.t 1)), none⟩, ⟨(some 4), (.mv (.c (.int .i64 0))), none⟩]) (.seq (.reg [⟨(some 5), (.faddr 2 (.t 2)), none⟩, ⟨(some 6), (.load none (.t 5)), none⟩, ⟨(some 7), (.faddr 2 (.t 3)), none⟩, ⟨(some 8), (.load none (.t 7)), none⟩, ⟨(some 9), (.qcall 124 [(.t 6), (.t 8)]), none⟩, ⟨(some 10), (.faddr 1 (.t 2)), none⟩, ⟨(some 11), (.load none (.t 10)), none⟩, ⟨(some 12), (.faddr 1 (.t 3)), none⟩, ⟨(some 13), (.load none (.t 12)), none⟩, ⟨(some 14), (.qcall 129 [(.t 11), (.t 13)]), none⟩, ⟨(some 15), (.faddr 0 (.t 2)), none⟩, ⟨(some 16), (.load none (.t 15)), none⟩, ⟨(some 17), (.faddr 0 (.t 3)), none⟩, ⟨(some 18), (.load none (.t 17)), none⟩, ⟨(some 19), (.qcall 129 [(.t 16), (.t 18)]), none⟩, ⟨(some 20), (.bslice 1 .val [(.t 9), (.t 14), (.t 19)]), none⟩, ⟨(some 21), (.qcall 122 [(.t 20)]), none⟩, ⟨(some 4), (.mv (.t 21)), none⟩]) .ret))

set_option maxRecDepth 100000 in
theorem k_scmp : compileC Try.prog ann (Try.f80.body.getD .skip) = some c_scmp := by kernel_rfl

theorem s_scmp {args : List AV} {σ : St} {K : AV → St → Prop} (h : WF σ → T Try.prog ann c_scmp (Fin σ [(.t 4)] K) (args ++ List.replicate (22 - args.length) (.tup [])) σ) : ACalls Try.prog n_scmp args σ K :=
  calls_ok Try.func80 (by kernel_rfl) (by kernel_rfl) k_scmp (by kernel_rfl) (by kernel_rfl) h

abbrev n_one : Nat := 107

def c_one : C := (.seq (.reg [⟨(some 1), (.box (.t 0)), none⟩, ⟨(some 2), (.mv (.c (.bool false))), none⟩]) (.seq (.reg [⟨(some 6), .mkMap, none⟩, ⟨(some 3), (.mv (.t 6)), none⟩]) (.seq (.seq (.reg [⟨(some 7), (.faddr 1 (.t 1)), none⟩, ⟨(some 8), (.load none (.t 7)), none⟩, ⟨(some 9), (.len (.t 8)), none⟩, ⟨(some 10), (.mv (.c (.int .i64 0))), none⟩]) (.block 0 (.loop (.seq (.reg [⟨(some 11), (.bin .lss .i64 (.t 10) (.t 9)), none⟩]) (.seq (.cond (.t 11) .skip (.exit 0)) (.seq (.block 1 (.seq (.reg [⟨(some 12), (.mv (.t 10)), none⟩, ⟨(some 13), (.iaddr 5 (.t 8) (.t 10)), none⟩, ⟨(some 14), (.load (some 5) (.t 13)), none⟩, ⟨(some 5), (.alloc [(.int .u64 0), (.int .u64 0), (.int .i64 0), (.int .i64 0), (.sl [] .nil)]), none⟩, ⟨(some 4), (.mv (.t 12)), none⟩, ⟨none, (.store 5 (.t 5) (.t 14)), none⟩]) (.seq (.seq (.reg [⟨(some 15), (.faddr 0 (.t 5)), none⟩, ⟨(some 16), (.load none (.t 15)), none⟩, ⟨(some 17), (.faddr 0 (.t 1)), none⟩, ⟨(some 18), (.load none (.t 17)), none⟩, ⟨(some 19), (.bin .neq .u64 (.t 16) (.t 18)), none⟩, ⟨(some 20), (.mv (.t 19)), none⟩, ⟨(some 21), (.load (some 5) (.t 5)), (some (20, false))⟩, ⟨(some 22), (.qcall 118 [(.t 21)]), (some (20, false))⟩, ⟨(some 23), (.not (.t 22)), (some (20, false))⟩, ⟨(some 24), (.pick (.t 20) (.c (.bool true)) (.t 23)), none⟩, ⟨(some 25), (.mv (.t 24)), none⟩, ⟨(some 26), (.mv (.t 3)), (some (25, false))⟩, ⟨(some 27), (.faddr 1 (.t 5)), (some (25, false))⟩, ⟨(some 28), (.load none (.t 27)), (some (25, false))⟩, ⟨(some 29), (.look 0 (.bool false) false (.t 26) (.t 28)), (some (25, false))⟩, ⟨(some 30), (.pick (.t 25) (.c (.bool true)) (.t 29)), none⟩, ⟨(some 31), (.mv (.t 30)), none⟩, ⟨(some 32), (.mv (.t 4)), (some (31, false))⟩, ⟨(some 33), (.bin .gtr .i64 (.t 32) (.c (.int .i64 0))), (some (31, false))⟩, ⟨(some 34), (.mv (.t 33)), (some (31, false))⟩, ⟨(some 35), (.faddr 1 (.t 1)), (some (34, true))⟩, ⟨(some 36), (.load none (.t 35)), (some (34, true))⟩, ⟨(some 37), (.mv (.t 4)), (some (34, true))⟩, ⟨(some 38), (.bin .sub .i64 (.t 37) (.c (.int .i64 1))), (some (34, true))⟩, ⟨(some 39), (.iaddr 5 (.t 36) (.t 38)), (some (34, true))⟩, ⟨(some 40), (.load (some 5) (.t 39)), (some (34, true))⟩, ⟨(some 41), (.load (some 5) (.t 5)), (some (34, true))⟩, ⟨(some 42), (.qcall 80 [(.t 40), (.t 41)]), (some (34, true))⟩, ⟨(some 43), (.bin .geq .i64 (.t 42) (.c (.int .i64 0))), (some (34, true))⟩, ⟨(some 44), (.pick (.t 34) (.t 43) (.c (.bool false))), (some (31, false))⟩, ⟨(some 45), (.pick (.t 31) (.c (.bool true)) (.t 44)), none⟩]) (.cond (.t 45) (.seq (.reg [⟨(some 2), (.mv (.c (.bool false))), none⟩]) .ret) .skip)) (.reg [⟨(some 46), (.mv (.t 3)), none⟩, ⟨(some 47), (.faddr 1 (.t 5)), none⟩, ⟨(some 48), (.load none (.t 47)), none⟩, ⟨none, (.mapUp 0 (.t 46) (.t 48) (.c (.bool true))), none⟩])))) (.reg [⟨(some 49), (.bin .add .i64 (.t 10) (.c (.int .i64 1))), none⟩, ⟨(some 10), (.mv (.t 49)), none⟩]))))))) (.seq (.reg [⟨(some 50), (.faddr 1 (.t 1)), none⟩, ⟨(some 51), (.load none (.t 50)), none⟩, ⟨(some 52), (.len (.t 51)), none⟩, ⟨(some 53), (.bin .geq .i64 (.t 52) (.c (.int .i64 1))), none⟩, ⟨(some 54), (.mv (.t 53)), none⟩, ⟨(some 55), (.faddr 1 (.t 1)), (some (54, true))⟩, ⟨(some 56), (.load none (.t 55)), (some (54, true))⟩, ⟨(some 57), (.len (.t 56)), (some (54, true))⟩, ⟨(some 58), (.bin .leq .i64 (.t 57) (.c (.int .i64 100))), (some (54, true))⟩, ⟨(some 59), (.pick (.t 54) (.t 58) (.c (.bool false))), none⟩, ⟨(some 2), (.mv (.t 59)), none⟩]) .ret))))

set_option maxRecDepth 100000 in
theorem k_one : compileC Try.prog ann (Try.f107.body.getD .skip) = some c_one := by kernel_rfl

theorem s_one {args : List AV} {σ : St} {K : AV → St → Prop} (h : WF σ → T Try.prog ann c_one (Fin σ [(.t 2)] K) (args ++ List.replicate (60 - args.length) (.tup [])) σ) : ACalls Try.prog n_one args σ K :=
  calls_ok Try.func107 (by kernel_rfl) (by kernel_rfl) k_one (by kernel_rfl) (by kernel_rfl) h

abbrev n_is : Nat := 61

def c_is : C := (.seq (.reg [⟨(some 2), (.mv (.c (.bool false))), none⟩]) (.seq (.seq (.reg [⟨(some 5), (.mv (.t 0)), none⟩, ⟨(some 6), (.len (.t 5)), none⟩, ⟨(some 7), (.mv (.c (.int .i64 0))), none⟩]) (.block 0 (.loop (.seq (.reg [⟨(some 8), (.bin .lss .i64 (.t 7) (.t 6)), none⟩]) (.seq (.cond (.t 8) .skip (.exit 0)) (.seq (.block 1 (.seq (.reg [⟨(some 9), (.mv (.t 7)), none⟩, ⟨(some 10), (.iaddr 2 (.t 5) (.t 7)), none⟩, ⟨(some 11), (.load (some 2) (.t 10)), none⟩, ⟨(some 4), (.alloc [(.int .u64 0), (.sl [] .nil)]), none⟩, ⟨(some 3), (.mv (.t 9)), none⟩, ⟨none, (.store 2 (.t 4) (.t 11)), none⟩]) (.seq (.reg [⟨(some 12), (.load (some 2) (.t 4)), none⟩, ⟨(some 13), (.qcall 107 [(.t 12)]), none⟩, ⟨(some 14), (.not (.t 13)), none⟩, ⟨(some 15), (.mv (.t 14)), none⟩, ⟨(some 16), (.mv (.t 3)), (some (15, false))⟩, ⟨(some 17), (.bin .gtr .i64 (.t 16) (.c (.int .i64 0))), (some (15, false))⟩, ⟨(some 18), (.mv (.t 17)), (some (15, false))⟩, ⟨(some 19), (.mv (.t 0)), (some (18, true))⟩, ⟨(some 20), (.mv (.t 3)), (some (18, true))⟩, ⟨(some 21), (.bin .sub .i64 (.t 20) (.c (.int .i64 1))), (some (18, true))⟩, ⟨(some 22), (.iaddr 2 (.t 19) (.t 21)), (some (18, true))⟩, ⟨(some 23), (.faddr 0 (.t 22)), (some (18, true))⟩, ⟨(some 24), (.load none (.t 23)), (some (18, true))⟩, ⟨(some 25), (.faddr 0 (.t 4)), (some (18, true))⟩, ⟨(some 26), (.load none (.t 25)), (some (18, true))⟩, ⟨(some 27), (.bin .geq .u64 (.t 24) (.t 26)), (some (18, true))⟩, ⟨(some 28), (.pick (.t 18) (.t 27) (.c (.bool false))), (some (15, false))⟩, ⟨(some 29), (.pick (.t 15) (.c (.bool true)) (.t 28)), none⟩]) (.cond (.t 29) (.seq (.reg [⟨(some 2), (.mv (.c (.bool false))), none⟩]) .ret) .skip)))) (.reg [⟨(some 30), (.bin .add .i64 (.t 7) (.c (.int .i64 1))), none⟩, ⟨(some 7), (.mv (.t 30)), none⟩]))))))) (.seq (.reg [⟨(some 2), (.mv (.c (.bool true))), none⟩]) .ret)))

set_option maxRecDepth 100000 in
theorem k_is : compileC Try.prog ann (Try.f61.body.getD .skip) = some c_is := by kernel_rfl

theorem s_is {args : List AV} {σ : St} {K : AV → St → Prop} (h : WF σ → T Try.prog ann c_is (Fin σ [(.t 2)] K) (args ++ List.replicate (31 - args.length) (.tup [])) σ) : ACalls Try.prog n_is args σ K :=
  calls_ok Try.func61 (by kernel_rfl) (by kernel_rfl) k_is (by kernel_rfl) (by kernel_rfl) h

abbrev n_rahead : Nat := 96

def c_rahead : C := (.seq (.reg [⟨(some 2), (.box (.t 0)), none⟩, ⟨(some 3), (.box (.t 1)), none⟩, ⟨(some 4), (.mv (.c (.bool false))), none⟩]) (.seq (.seq (.reg [⟨(some 5), (.faddr 2 (.t 2)), none⟩, ⟨(some 6), (.load none (.t 5)), none⟩, ⟨(some 7), (.faddr 2 (.t 3)), none⟩, ⟨(some 8), (.load none (.t 7)), none⟩, ⟨(some 9), (.bin .neq .i64 (.t 6) (.t 8)), none⟩]) (.cond (.t 9) (.seq (.reg [⟨(some 10), (.faddr 2 (.t 2)), none⟩, ⟨(some 11), (.load none (.t 10)), none⟩, ⟨(some 12), (.faddr 2 (.t 3)), none⟩, ⟨(some 13), (.load none (.t 12)), none⟩, ⟨(some 14), (.bin .lss .i64 (.t 11) (.t 13)), none⟩, ⟨(some 4), (.mv (.t 14)), none⟩]) .ret) .skip)) (.seq (.seq (.reg [⟨(some 15), (.faddr 1 (.t 2)), none⟩, ⟨(some 16), (.load none (.t 15)), none⟩, ⟨(some 17), (.faddr 1 (.t 3)), none⟩, ⟨(some 18), (.load none (.t 17)), none⟩, ⟨(some 19), (.bin .neq .u64 (.t 16) (.t 18)), none⟩]) (.cond (.t 19) (.seq (.reg [⟨(some 20), (.faddr 1 (.t 2)), none⟩, ⟨(some 21), (.load none (.t 20)), none⟩, ⟨(some 22), (.faddr 1 (.t 3)), none⟩, ⟨(some 23), (.load none (.t 22)), none⟩, ⟨(some 24), (.bin .lss .u64 (.t 21) (.t 23)), none⟩, ⟨(some 4), (.mv (.t 24)), none⟩]) .ret) .skip)) (.seq (.reg [⟨(some 25), (.faddr 0 (.t 2)), none⟩, ⟨(some 26), (.load none (.t 25)), none⟩, ⟨(some 27), (.faddr 0 (.t 3)), none⟩, ⟨(some 28), (.load none (.t 27)), none⟩, ⟨(some 29), (.bin .lss .u64 (.t 26) (.t 28)), none⟩, ⟨(some 4), (.mv (.t 29)), none⟩]) .ret))))

set_option maxRecDepth 100000 in
theorem k_rahead : compileC Try.prog ann (Try.f96.body.getD .skip) = some c_rahead := by kernel_rfl

theorem s_rahead {args : List AV} {σ : St} {K : AV → St → Prop} (h : WF σ → T Try.prog ann c_rahead (Fin σ [(.t 4)] K) (args ++ List.replicate (30 - args.length) (.tup [])) σ) : ACalls Try.prog n_rahead args σ K :=
  calls_ok Try.func96 (by kernel_rfl) (by kernel_rfl) k_rahead (by kernel_rfl) (by kernel_rfl) h

abbrev n_rsame : Nat := 83

def c_rsame : C := (.seq (.reg [⟨(some 2), (.box (.t 0)), none⟩, ⟨(some 3), (.box (.t 1)), none⟩, ⟨(some 4), (.mv (.c (.bool false))), none⟩]) (.seq (.reg [⟨(some 5), (.faddr 0 (.t 2)), none⟩, ⟨(some 6), (.load none (.t 5)), none⟩, ⟨(some 7), (.faddr 0 (.t 3)), none⟩, ⟨(some 8), (.load none (.t 7)), none⟩, ⟨(some 9), (.bin .eql .u64 (.t 6) (.t 8)), none⟩, ⟨(some 10), (.mv (.t 9)), none⟩, ⟨(some 11), (.faddr 1 (.t 2)), (some (10, true))⟩, ⟨(some 12), (.load none (.t 11)), (some (10, true))⟩, ⟨(some 13), (.faddr 1 (.t 3)), (some (10, true))⟩, ⟨(some 14), (.load none (.t 13)), (some (10, true))⟩, ⟨(some 15), (.bin .eql .u64 (.t 12) (.t 14)), (some (10, true))⟩, ⟨(some 16), (.pick (.t 10) (.t 15) (.c (.bool false))), none⟩, ⟨(some 17), (.mv (.t 16)), none⟩, ⟨(some 18), (.faddr 2 (.t 2)), (some (17, true))⟩, ⟨(some 19), (.load none (.t 18)), (some (17, true))⟩, ⟨(some 20), (.faddr 2 (.t 3)), (some (17, true))⟩, ⟨(some 21), (.load none (.t 20)), (some (17, true))⟩, ⟨(some 22), (.bin .eql .i64 (.t 19) (.t 21)), (some (17, true))⟩, ⟨(some 23), (.pick (.t 17) (.t 22) (.c (.bool false))), none⟩, ⟨(some 24), (.mv (.t 23)), none⟩, ⟨(some 25), (.faddr 3 (.t 2)), (some (24, true))⟩, ⟨(some 26), (.load none (.t 25)), (some (24, true))⟩, ⟨(some 27), (.faddr 3 (.t 3)), (some (24, true))⟩, ⟨(some 28), (.load none (.t 27)), (some (24, true))⟩, ⟨(some 29), (.bin .eql .i64 (.t 26) (.t 28)), (some (24, true))⟩, ⟨(some 30), (.pick (.t 24) (.t 29) (.c (.bool false))), none⟩, ⟨(some 31), (.mv (.t 30)), none⟩, ⟨(some 32), (.faddr 4 (.t 2)), (some (31, true))⟩, ⟨(some 33), (.load none (.t 32)), (some (31, true))⟩, ⟨(some 34), (.convBS (.t 33)), (some (31, true))⟩, ⟨(some 35), (.faddr 4 (.t 3)), (some (31, true))⟩, ⟨(some 36), (.load none (.t 35)), (some (31, true))⟩, ⟨(some 37), (.convBS (.t 36)), (some (31, true))⟩, ⟨(some 38), (.sbin .eql (.t 34) (.t 37)), (some (31, true))⟩, ⟨(some 39), (.pick (.t 31) (.t 38) (.c (.bool false))), none⟩, ⟨(some 4), (.mv (.t 39)), none⟩]) .ret))

set_option maxRecDepth 100000 in
theorem k_rsame : compileC Try.prog ann (Try.f83.body.getD .skip) = some c_rsame := by kernel_rfl

theorem s_rsame {args : List AV} {σ : St} {K : AV → St → Prop} (h : WF σ → T Try.prog ann c_rsame (Fin σ [(.t 4)] K) (args ++ List.replicate (40 - args.length) (.tup [])) σ) : ACalls Try.prog n_rsame args σ K :=
  calls_ok Try.func83 (by kernel_rfl) (by kernel_rfl) k_rsame (by kernel_rfl) (by kernel_rfl) h

abbrev n_rless : Nat := 29

def c_rless : C := (.seq (.reg [⟨(some 2), (.box (.t 0)), none⟩, ⟨(some 3), (.box (.t 1)), none⟩, ⟨(some 4), (.mv (.c (.bool false))), none⟩]) (.seq (.seq (.reg [⟨(some 5), (.faddr 2 (.t 2)), none⟩, ⟨(some 6), (.load none (.t 5)), none⟩, ⟨(some 7), (.faddr 2 (.t 3)), none⟩, ⟨(some 8), (.load none (.t 7)), none⟩, ⟨(some 9), (.bin .neq .i64 (.t 6) (.t 8)), none⟩]) (.cond (.t 9) (.seq (.reg [⟨(some 10), (.faddr 2 (.t 2)), none⟩, ⟨(some 11), (.load none (.t 10)), none⟩, ⟨(some 12), (.faddr 2 (.t 3)), none⟩, ⟨(some 13), (.load none (.t 12)), none⟩, ⟨(some 14), (.bin .lss .i64 (.t 11) (.t 13)), none⟩, ⟨(some 4), (.mv (.t 14)), none⟩]) .ret) .skip)) (.seq (.seq (.reg [⟨(some 15), (.faddr 3 (.t 2)), none⟩, ⟨(some 16), (.load none (.t 15)), none⟩, ⟨(some 17), (.faddr 3 (.t 3)), none⟩, ⟨(some 18), (.load none (.t 17)), none⟩, ⟨(some 19), (.bin .neq .i64 (.t 16) (.t 18)), none⟩]) (.cond (.t 19) (.seq (.reg [⟨(some 20), (.faddr 3 (.t 2)), none⟩, ⟨(some 21), (.load none (.t 20)), none⟩, ⟨(some 22), (.faddr 3 (.t 3)), none⟩, ⟨(some 23), (.load none (.t 22)), none⟩, ⟨(some 24), (.bin .lss .i64 (.t 21) (.t 23)), none⟩, ⟨(some 4), (.mv (.t 24)), none⟩]) .ret) .skip)) (.seq (.reg [⟨(some 25), (.faddr 4 (.t 2)), none⟩, ⟨(some 26), (.load none (.t 25)), none⟩, ⟨(some 27), (.convBS (.t 26)), none⟩, ⟨(some 28), (.faddr 4 (.t 3)), none⟩, ⟨(some 29), (.load none (.t 28)), none⟩, ⟨(some 30), (.convBS (.t 29)), none⟩, ⟨(some 31), (.sbin .lss (.t 27) (.t 30)), none⟩, ⟨(some 4), (.mv (.t 31)), none⟩]) .ret))))

set_option maxRecDepth 100000 in
theorem k_rless : compileC Try.prog ann (Try.f29.body.getD .skip) = some c_rless := by kernel_rfl

theorem s_rless {args : List AV} {σ : St} {K : AV → St → Prop} (h : WF σ → T Try.prog ann c_rless (Fin σ [(.t 4)] K) (args ++ List.replicate (32 - args.length) (.tup [])) σ) : ACalls Try.prog n_rless args σ K :=
  calls_ok Try.func29 (by kernel_rfl) (by kernel_rfl) k_rless (by kernel_rfl) (by kernel_rfl) h

abbrev n_rspans : Nat := 30

def c_rspans : C := (.seq (.reg [⟨(some 4), (.mv (.c (.bool false))), none⟩]) (.seq (.seq (.reg [⟨(some 7), (.mv (.t 0)), none⟩, ⟨(some 8), (.len (.t 7)), none⟩, ⟨(some 9), (.mv (.t 1)), none⟩, ⟨(some 10), (.len (.t 9)), none⟩, ⟨(some 11), (.bin .neq .i64 (.t 8) (.t 10)), none⟩]) (.cond (.t 11) (.seq (.reg [⟨(some 4), (.mv (.c (.bool false))), none⟩]) .ret) .skip)) (.seq (.seq (.reg [⟨(some 5), (.mv (.c (.int .i64 0))), none⟩]) (.block 0 (.loop (.seq (.seq (.reg [⟨(some 12), (.mv (.t 5)), none⟩, ⟨(some 13), (.mv (.t 0)), none⟩, ⟨(some 14), (.len (.t 13)), none⟩, ⟨(some 15), (.bin .lss .i64 (.t 12) (.t 14)), none⟩]) (.cond (.t 15) .skip (.exit 0))) (.seq (.block 1 (.seq (.reg [⟨(some 18), (.mv (.t 0)), none⟩, ⟨(some 19), (.mv (.t 5)), none⟩, ⟨(some 20), (.iaddr 5 (.t 18) (.t 19)), none⟩, ⟨(some 21), (.load (some 5) (.t 20)), none⟩, ⟨(some 22), (.mv (.t 1)), none⟩, ⟨(some 23), (.mv (.t 5)), none⟩, ⟨(some 24), (.iaddr 5 (.t 22) (.t 23)), none⟩, ⟨(some 25), (.load (some 5) (.t 24)), none⟩, ⟨(some 26), (.qcall 83 [(.t 21), (.t 25)]), none⟩, ⟨(some 6), (.mv (.t 26)), none⟩]) (.seq (.reg [⟨(some 27), (.mv (.t 6)), none⟩, ⟨(some 28), (.not (.t 27)), none⟩]) (.cond (.t 28) (.seq (.reg [⟨(some 4), (.mv (.c (.bool false))), none⟩]) .ret) .skip)))) (.reg [⟨(some 16), (.mv (.t 5)), none⟩, ⟨(some 17), (.bin .add .i64 (.t 16) (.c (.int .i64 1))), none⟩, ⟨(some 5), (.mv (.t 17)), none⟩])))))) (.seq (.reg [⟨(some 4), (.mv (.c (.bool true))), none⟩]) .ret))))

set_option maxRecDepth 100000 in
theorem k_rspans : compileC Try.prog ann (Try.f30.body.getD .skip) = some c_rspans := by kernel_rfl

theorem s_rspans {args : List AV} {σ : St} {K : AV → St → Prop} (h : WF σ → T Try.prog ann c_rspans (Fin σ [(.t 4)] K) (args ++ List.replicate (29 - args.length) (.tup [])) σ) : ACalls Try.prog n_rspans args σ K :=
  calls_ok Try.func30 (by kernel_rfl) (by kernel_rfl) k_rspans (by kernel_rfl) (by kernel_rfl) h

end Go.VL

namespace Go.VL

open Go.Proofs

/-- a span -/
structure Sp where
  tr : Nat
  id : Nat
  st : Int
  en : Int
  da : List UInt8
  deriving DecidableEq

def Sp.av (s : Sp) : AV := .agg [.int .u64 (s.tr : Int), .int .u64 (s.id : Int), .int .i64 s.st, .int .i64 s.en, .sl (bytesAV s.da) .none]

/-- a trace -/
structure Tc where
  id : Nat
  sp : List Sp
  deriving DecidableEq

def Tc.av (t : Tc) : AV := .agg [.int .u64 (t.id : Int), .sl (t.sp.map Sp.av) .none]

def spsAV (l : List Sp) : List AV := l.map Sp.av

def tcsAV (l : List Tc) : List AV := l.map Tc.av

def pgsAV (l : List (List Tc)) : List AV := l.map fun p => .sl (tcsAV p) .none

theorem tcav (t : Tc) : t.av = .agg [.int .u64 (t.id : Int), .sl (spsAV t.sp) .none] := rfl

theorem sps_len (l : List Sp) : (spsAV l).length = l.length := by simp [spsAV]

theorem tcs_len (l : List Tc) : (tcsAV l).length = l.length := by simp [tcsAV]

theorem pgs_len (l : List (List Tc)) : (pgsAV l).length = l.length := by simp [pgsAV]

theorem sps_get {l : List Sp} {i : Nat} (h : i < l.length) : (spsAV l)[i]? = some (l[i].av) := by simp [spsAV, h]

theorem tcs_get {l : List Tc} {i : Nat} (h : i < l.length) : (tcsAV l)[i]? = some (l[i].av) := by simp [tcsAV, h]

theorem pgs_get {l : List (List Tc)} {i : Nat} (h : i < l.length) : (pgsAV l)[i]? = some (.sl (tcsAV l[i]) .none) := by simp [pgsAV, h]

theorem spcells (s : Sp) : s.av.cells = [.int .u64 (s.tr : Int), .int .u64 (s.id : Int), .int .i64 s.st, .int .i64 s.en, .sl (bytesAV s.da) .none] := rfl

theorem tccells (t : Tc) : t.av.cells = [.int .u64 (t.id : Int), .sl (spsAV t.sp) .none] := rfl

theorem inc64 {i n : Nat} (h : i < n) (hn : n ≤ 9223372036854775807) : IntKind.i64.wrap ((i : Int) + 1) = ((i + 1 : Nat) : Int) := by
  rw [wrap64 (by omega) (by omega)]; rfl

def fewB (m : Int) (l : List Sp) : Bool := l.all (fun s => decide (s.da.length ≤ 200)) && decide ((l.length : Int) ≤ m)

theorem take_all {α : Type} {p : α → Bool} {l : List α} {i : Nat} (hi : i < l.length) (h : (l.take i).all p = true) (hp : p l[i] = true) : (l.take (i + 1)).all p = true := by
  rw [List.take_succ_eq_append_getElem hi, List.all_append, h]
  simp [hp]

theorem all_ff {α : Type} {p : α → Bool} {l : List α} {i : Nat} (hi : i < l.length) (hp : p l[i] = false) : l.all p = false := by
  rw [Bool.eq_false_iff]
  intro h
  have := List.all_eq_true.1 h l[i] (List.getElem_mem hi)
  rw [hp] at this; cases this

theorem few_ok {l : List Sp} {g : Ver} {m : Int} {σ : St} (hl : l.length ≤ 9223372036854775807) : ACalls Try.prog n_few [.sl (spsAV l) g, .int .i64 m] σ (fun v σ' => v = .bool (fewB m l) ∧ σ' = σ) := by
  refine s_few (fun wf => ?_)
  unfold c_few
  refine T.seq_k (fun K_h1 h1 => ?_)
  refine T.regi hm ?_
  simp only [↓reduceIte, namesOf, List.any, I.names, aops, aopsI, aopsT, qstep, CPt, qget, Tbl.get, astep, ev, setd, List.set, List.getD, List.getElem?_cons_zero, List.getElem?_cons_succ, List.getElem?_nil, List.cons_append, List.nil_append, List.length_cons, List.length_nil, List.replicate, then_normal, inBlock_normal, Option.getD_some, Option.getD_none, Bool.or_false, Bool.or_true, Bool.true_or, Bool.false_or, Bool.false_eq_true, if_false, if_true, up_zero, Nat.reduceAdd, Nat.reduceSub, binv, ↓opt_def, AV.isAny, AV.cells, ldc, List.map_cons, List.map_nil, St.set_next, St.set_same, St.up_next, Int.natCast_nonneg, lt_len, le_len, Int.toNat_natCast, true_and, and_true, eq_self, reduceCtorEq, decide_true, List.length_singleton, er_int, er_bool, er_str]
  refine h1 _ _ ?_
  try clear h1 K_h1
  refine T.seq_k (fun K_h1 h1 => ?_)
  refine T.seq_k (fun K_h2 h2 => ?_)
  refine T.regi hm ?_
  simp only [↓reduceIte, namesOf, List.any, I.names, aops, aopsI, aopsT, qstep, CPt, qget, Tbl.get, astep, ev, setd, List.set, List.getD, List.getElem?_cons_zero, List.getElem?_cons_succ, List.getElem?_nil, List.cons_append, List.nil_append, List.length_cons, List.length_nil, List.replicate, then_normal, inBlock_normal, Option.getD_some, Option.getD_none, Bool.or_false, Bool.or_true, Bool.true_or, Bool.false_or, Bool.false_eq_true, if_false, if_true, up_zero, Nat.reduceAdd, Nat.reduceSub, binv, ↓opt_def, AV.isAny, AV.cells, ldc, List.map_cons, List.map_nil, St.set_next, St.set_same, St.up_next, Int.natCast_nonneg, lt_len, le_len, Int.toNat_natCast, true_and, and_true, eq_self, reduceCtorEq, decide_true, List.length_singleton, er_int, er_bool, er_str]
  refine h2 _ _ ?_
  try clear h2 K_h2
  refine T.block ?_
  refine T.gh (Gh.keep [0, 1, 5]) ?_
  refine T.loopi (fun i ρ σ' => σ' = σ ∧ (l.take i).all (fun s => decide (s.da.length ≤ 200)) = true ∧ ρ = [.sl (spsAV l) g, .int .i64 m, .any, .any, .any, .int .i64 (i : Int)] ++ List.replicate 17 .any)
    l.length 0 (Nat.zero_le _) ⟨rfl, by simp, rfl⟩ ?_
  rintro i ρ σ' hi ⟨rfl, hpre, rfl⟩
  refine T.seq_k (fun K_h2 h2 => ?_)
  refine T.seq_k (fun K_h3 h3 => ?_)
  refine T.regi hm ?_
  simp only [↓reduceIte, namesOf, List.any, I.names, aops, aopsI, aopsT, qstep, CPt, qget, Tbl.get, astep, ev, setd, List.set, List.getD, List.getElem?_cons_zero, List.getElem?_cons_succ, List.getElem?_nil, List.cons_append, List.nil_append, List.length_cons, List.length_nil, List.replicate, then_normal, inBlock_normal, Option.getD_some, Option.getD_none, Bool.or_false, Bool.or_true, Bool.true_or, Bool.false_or, Bool.false_eq_true, if_false, if_true, up_zero, Nat.reduceAdd, Nat.reduceSub, binv, ↓opt_def, AV.isAny, AV.cells, ldc, List.map_cons, List.map_nil, St.set_next, St.set_same, St.up_next, Int.natCast_nonneg, lt_len, le_len, Int.toNat_natCast, true_and, and_true, eq_self, reduceCtorEq, decide_true, List.length_singleton, er_int, er_bool, er_str]
  refine h3 _ _ ?_
  try clear h3 K_h3
  refine T.cond rfl (fun hb => ?_) (fun hb => ?_)
  · refine T.skip ?_
    refine h2 _ _ ?_
    try clear h2 K_h2
    have hil : i < l.length := by simpa [sps_len] using hb
    clear hb
    refine T.seq_k (fun K_h2 h2 => ?_)
    refine T.block ?_
    refine T.seq_k (fun K_h3 h3 => ?_)
    refine T.regi hm ?_
    simp only [↓reduceIte, namesOf, List.any, I.names, aops, aopsI, aopsT, qstep, CPt, qget, Tbl.get, astep, ev, setd, List.set, List.getD, List.getElem?_cons_zero, List.getElem?_cons_succ, List.getElem?_nil, List.cons_append, List.nil_append, List.length_cons, List.length_nil, List.replicate, then_normal, inBlock_normal, Option.getD_some, Option.getD_none, Bool.or_false, Bool.or_true, Bool.true_or, Bool.false_or, Bool.false_eq_true, if_false, if_true, up_zero, Nat.reduceAdd, Nat.reduceSub, binv, ↓opt_def, AV.isAny, AV.cells, ldc, List.map_cons, List.map_nil, St.set_next, St.set_same, St.up_next, Int.natCast_nonneg, lt_len, le_len, Int.toNat_natCast, true_and, and_true, eq_self, reduceCtorEq, decide_true, List.length_singleton, er_int, er_bool, er_str, sps_len, sps_get hil, hil, spcells, bytesAV_len]
    refine h3 _ _ ?_
    try clear h3 K_h3
    refine T.cond rfl (fun hb => ?_) (fun hb => ?_)
    · refine T.seq_k (fun K_h3 h3 => ?_)
      refine T.regi hm ?_
      simp only [↓reduceIte, namesOf, List.any, I.names, aops, aopsI, aopsT, qstep, CPt, qget, Tbl.get, astep, ev, setd, List.set, List.getD, List.getElem?_cons_zero, List.getElem?_cons_succ, List.getElem?_nil, List.cons_append, List.nil_append, List.length_cons, List.length_nil, List.replicate, then_normal, inBlock_normal, Option.getD_some, Option.getD_none, Bool.or_false, Bool.or_true, Bool.true_or, Bool.false_or, Bool.false_eq_true, if_false, if_true, up_zero, Nat.reduceAdd, Nat.reduceSub, binv, ↓opt_def, AV.isAny, AV.cells, ldc, List.map_cons, List.map_nil, St.set_next, St.set_same, St.up_next, Int.natCast_nonneg, lt_len, le_len, Int.toNat_natCast, true_and, and_true, eq_self, reduceCtorEq, decide_true, List.length_singleton, er_int, er_bool, er_str]
      refine h3 _ _ ?_
      try clear h3 K_h3
      refine T.ret (Fin.ret rfl ⟨?_, rfl⟩)
      have : fewB m l = false := by
        unfold fewB
        rw [all_ff hil (by simp [bytesAV_len] at hb ⊢; omega)]; rfl
      rw [this]; rfl
    · refine T.skip ?_
      refine h2 _ _ ?_
      try clear h2 K_h2
      have hw := inc64 hil hl
      refine T.regi hm ?_
      simp only [↓reduceIte, namesOf, List.any, I.names, aops, aopsI, aopsT, qstep, CPt, qget, Tbl.get, astep, ev, setd, List.set, List.getD, List.getElem?_cons_zero, List.getElem?_cons_succ, List.getElem?_nil, List.cons_append, List.nil_append, List.length_cons, List.length_nil, List.replicate, then_normal, inBlock_normal, Option.getD_some, Option.getD_none, Bool.or_false, Bool.or_true, Bool.true_or, Bool.false_or, Bool.false_eq_true, if_false, if_true, up_zero, Nat.reduceAdd, Nat.reduceSub, binv, ↓opt_def, AV.isAny, AV.cells, ldc, List.map_cons, List.map_nil, St.set_next, St.set_same, St.up_next, Int.natCast_nonneg, lt_len, le_len, Int.toNat_natCast, true_and, and_true, eq_self, reduceCtorEq, decide_true, List.length_singleton, er_int, er_bool, er_str, hw]
      exact ⟨hil, _, _, Gh.keep [0, 1, 5], rfl, take_all hil hpre (by simp [bytesAV_len] at hb ⊢; omega), rfl⟩
  · refine T.exit ?_
    have : i = l.length := by simp [sps_len] at hb; omega
    subst this
    rw [List.take_length] at hpre
    try simp only [↓reduceIte, namesOf, List.any, I.names, aops, aopsI, aopsT, qstep, CPt, qget, Tbl.get, astep, ev, setd, List.set, List.getD, List.getElem?_cons_zero, List.getElem?_cons_succ, List.getElem?_nil, List.cons_append, List.nil_append, List.length_cons, List.length_nil, List.replicate, then_normal, inBlock_normal, Option.getD_some, Option.getD_none, Bool.or_false, Bool.or_true, Bool.true_or, Bool.false_or, Bool.false_eq_true, if_false, if_true, up_zero, Nat.reduceAdd, Nat.reduceSub, binv, ↓opt_def, AV.isAny, AV.cells, ldc, List.map_cons, List.map_nil, St.set_next, St.set_same, St.up_next, Int.natCast_nonneg, lt_len, le_len, Int.toNat_natCast, true_and, and_true, eq_self, reduceCtorEq, decide_true, List.length_singleton, er_int, er_bool, er_str, inBlock_exit, then_exit]
    refine h1 _ _ ?_
    try clear h1 K_h1
    refine T.seq_k (fun K_h1 h1 => ?_)
    refine T.regi hm ?_
    simp only [↓reduceIte, namesOf, List.any, I.names, aops, aopsI, aopsT, qstep, CPt, qget, Tbl.get, astep, ev, setd, List.set, List.getD, List.getElem?_cons_zero, List.getElem?_cons_succ, List.getElem?_nil, List.cons_append, List.nil_append, List.length_cons, List.length_nil, List.replicate, then_normal, inBlock_normal, Option.getD_some, Option.getD_none, Bool.or_false, Bool.or_true, Bool.true_or, Bool.false_or, Bool.false_eq_true, if_false, if_true, up_zero, Nat.reduceAdd, Nat.reduceSub, binv, ↓opt_def, AV.isAny, AV.cells, ldc, List.map_cons, List.map_nil, St.set_next, St.set_same, St.up_next, Int.natCast_nonneg, lt_len, le_len, Int.toNat_natCast, true_and, and_true, eq_self, reduceCtorEq, decide_true, List.length_singleton, er_int, er_bool, er_str, sps_len]
    refine h1 _ _ ?_
    try clear h1 K_h1
    refine T.ret (Fin.ret rfl ⟨?_, rfl⟩)
    unfold fewB; rw [hpre]; rfl

def total (l : List Tc) : Nat := (l.map fun t => t.sp.length).sum

def fewtB (m : Int) (l : List Tc) : Bool := l.all (fun t => fewB 150 t.sp) && decide (l.length ≤ 100) && decide ((total l : Int) ≤ m)

theorem total_take {l : List Tc} {i : Nat} (h : i < l.length) : total (l.take (i + 1)) = total (l.take i) + l[i].sp.length := by
  unfold total
  rw [List.take_succ_eq_append_getElem h, List.map_append, List.sum_append]; simp

theorem total_le {l : List Tc} : l.all (fun t => fewB 150 t.sp) = true → total l ≤ 150 * l.length := by
  induction l with
  | nil => intro _; simp [total]
  | cons t r ih =>
    intro h
    simp only [List.all_cons, Bool.and_eq_true] at h
    have h1 := ih h.2
    have h2 : t.sp.length ≤ 150 := by have := h.1; unfold fewB at this; simp at this; omega
    unfold total at h1 ⊢
    simp only [List.map_cons, List.sum_cons, List.length_cons]; omega

theorem fewt_ok {l : List Tc} {g : Ver} {m : Int} {σ : St} (hl : l.length ≤ 9223372036854775807) (hs : ∀ t ∈ l, t.sp.length ≤ 9223372036854775807) :
    ACalls Try.prog n_fewt [.sl (tcsAV l) g, .int .i64 m] σ (fun v σ' => v = .bool (fewtB m l) ∧ σ' = σ) := by
  refine s_fewt (fun wf => ?_)
  unfold c_fewt
  refine T.seq_k (fun K_h1 h1 => ?_)
  refine T.regi hm ?_
  simp only [↓reduceIte, namesOf, List.any, I.names, aops, aopsI, aopsT, qstep, CPt, qget, Tbl.get, astep, ev, setd, List.set, List.getD, List.getElem?_cons_zero, List.getElem?_cons_succ, List.getElem?_nil, List.cons_append, List.nil_append, List.length_cons, List.length_nil, List.replicate, then_normal, inBlock_normal, Option.getD_some, Option.getD_none, Bool.or_false, Bool.or_true, Bool.true_or, Bool.false_or, Bool.false_eq_true, if_false, if_true, up_zero, Nat.reduceAdd, Nat.reduceSub, binv, ↓opt_def, AV.isAny, AV.cells, ldc, List.map_cons, List.map_nil, St.set_next, St.set_same, St.up_next, Int.natCast_nonneg, lt_len, le_len, Int.toNat_natCast, true_and, and_true, eq_self, reduceCtorEq, decide_true, List.length_singleton, er_int, er_bool, er_str]
  refine h1 _ _ ?_
  try clear h1 K_h1
  refine T.seq_k (fun K_h1 h1 => ?_)
  refine T.regi hm ?_
  simp only [↓reduceIte, namesOf, List.any, I.names, aops, aopsI, aopsT, qstep, CPt, qget, Tbl.get, astep, ev, setd, List.set, List.getD, List.getElem?_cons_zero, List.getElem?_cons_succ, List.getElem?_nil, List.cons_append, List.nil_append, List.length_cons, List.length_nil, List.replicate, then_normal, inBlock_normal, Option.getD_some, Option.getD_none, Bool.or_false, Bool.or_true, Bool.true_or, Bool.false_or, Bool.false_eq_true, if_false, if_true, up_zero, Nat.reduceAdd, Nat.reduceSub, binv, ↓opt_def, AV.isAny, AV.cells, ldc, List.map_cons, List.map_nil, St.set_next, St.set_same, St.up_next, Int.natCast_nonneg, lt_len, le_len, Int.toNat_natCast, true_and, and_true, eq_self, reduceCtorEq, decide_true, List.length_singleton, er_int, er_bool, er_str]
  refine h1 _ _ ?_
  try clear h1 K_h1
  refine T.seq_k (fun K_h1 h1 => ?_)
  refine T.seq_k (fun K_h2 h2 => ?_)
  refine T.regi hm ?_
  simp only [↓reduceIte, namesOf, List.any, I.names, aops, aopsI, aopsT, qstep, CPt, qget, Tbl.get, astep, ev, setd, List.set, List.getD, List.getElem?_cons_zero, List.getElem?_cons_succ, List.getElem?_nil, List.cons_append, List.nil_append, List.length_cons, List.length_nil, List.replicate, then_normal, inBlock_normal, Option.getD_some, Option.getD_none, Bool.or_false, Bool.or_true, Bool.true_or, Bool.false_or, Bool.false_eq_true, if_false, if_true, up_zero, Nat.reduceAdd, Nat.reduceSub, binv, ↓opt_def, AV.isAny, AV.cells, ldc, List.map_cons, List.map_nil, St.set_next, St.set_same, St.up_next, Int.natCast_nonneg, lt_len, le_len, Int.toNat_natCast, true_and, and_true, eq_self, reduceCtorEq, decide_true, List.length_singleton, er_int, er_bool, er_str]
  refine h2 _ _ ?_
  try clear h2 K_h2
  refine T.block ?_
  refine T.gh (Gh.keep [0, 1, 5, 6]) ?_
  refine T.loopi (fun i ρ σ' => σ' = σ ∧ (l.take i).all (fun t => fewB 150 t.sp) = true ∧ ∃ n : Int, (i ≤ 100 → n = (total (l.take i) : Int)) ∧ ρ = [.sl (tcsAV l) g, .int .i64 m, .any, .any, .any, .int .i64 n, .int .i64 (i : Int)] ++ List.replicate 31 .any)
    l.length 0 (Nat.zero_le _) ⟨rfl, by simp, 0, by simp [total], rfl⟩ ?_
  rintro i ρ σ' hi ⟨rfl, hpre, n, hn, rfl⟩
  refine T.seq_k (fun K_h2 h2 => ?_)
  refine T.seq_k (fun K_h3 h3 => ?_)
  refine T.regi hm ?_
  simp only [↓reduceIte, namesOf, List.any, I.names, aops, aopsI, aopsT, qstep, CPt, qget, Tbl.get, astep, ev, setd, List.set, List.getD, List.getElem?_cons_zero, List.getElem?_cons_succ, List.getElem?_nil, List.cons_append, List.nil_append, List.length_cons, List.length_nil, List.replicate, then_normal, inBlock_normal, Option.getD_some, Option.getD_none, Bool.or_false, Bool.or_true, Bool.true_or, Bool.false_or, Bool.false_eq_true, if_false, if_true, up_zero, Nat.reduceAdd, Nat.reduceSub, binv, ↓opt_def, AV.isAny, AV.cells, ldc, List.map_cons, List.map_nil, St.set_next, St.set_same, St.up_next, Int.natCast_nonneg, lt_len, le_len, Int.toNat_natCast, true_and, and_true, eq_self, reduceCtorEq, decide_true, List.length_singleton, er_int, er_bool, er_str]
  refine h3 _ _ ?_
  try clear h3 K_h3
  refine T.cond rfl (fun hb => ?_) (fun hb => ?_)
  · refine T.skip ?_
    refine h2 _ _ ?_
    try clear h2 K_h2
    have hil : i < l.length := by simpa [tcs_len] using hb
    clear hb
    refine T.seq_k (fun K_h2 h2 => ?_)
    refine T.block ?_
    refine T.seq_k (fun K_h3 h3 => ?_)
    refine T.regi hm ?_
    simp only [↓reduceIte, namesOf, List.any, I.names, aops, aopsI, aopsT, qstep, CPt, qget, Tbl.get, astep, ev, setd, List.set, List.getD, List.getElem?_cons_zero, List.getElem?_cons_succ, List.getElem?_nil, List.cons_append, List.nil_append, List.length_cons, List.length_nil, List.replicate, then_normal, inBlock_normal, Option.getD_some, Option.getD_none, Bool.or_false, Bool.or_true, Bool.true_or, Bool.false_or, Bool.false_eq_true, if_false, if_true, up_zero, Nat.reduceAdd, Nat.reduceSub, binv, ↓opt_def, AV.isAny, AV.cells, ldc, List.map_cons, List.map_nil, St.set_next, St.set_same, St.up_next, Int.natCast_nonneg, lt_len, le_len, Int.toNat_natCast, true_and, and_true, eq_self, reduceCtorEq, decide_true, List.length_singleton, er_int, er_bool, er_str, tcs_len, tcs_get hil, hil, tccells]
    refine (few_ok (hs _ (List.getElem_mem hil))).mono ?_
    rintro v σ1 ⟨rfl, rfl⟩
    try simp only [↓reduceIte, namesOf, List.any, I.names, aops, aopsI, aopsT, qstep, CPt, qget, Tbl.get, astep, ev, setd, List.set, List.getD, List.getElem?_cons_zero, List.getElem?_cons_succ, List.getElem?_nil, List.cons_append, List.nil_append, List.length_cons, List.length_nil, List.replicate, then_normal, inBlock_normal, Option.getD_some, Option.getD_none, Bool.or_false, Bool.or_true, Bool.true_or, Bool.false_or, Bool.false_eq_true, if_false, if_true, up_zero, Nat.reduceAdd, Nat.reduceSub, binv, ↓opt_def, AV.isAny, AV.cells, ldc, List.map_cons, List.map_nil, St.set_next, St.set_same, St.up_next, Int.natCast_nonneg, lt_len, le_len, Int.toNat_natCast, true_and, and_true, eq_self, reduceCtorEq, decide_true, List.length_singleton, er_int, er_bool, er_str, up_zero]
    refine h3 _ _ ?_
    try clear h3 K_h3
    refine T.seq_k (fun K_h3 h3 => ?_)
    refine T.seq_k (fun K_h4 h4 => ?_)
    refine T.regi hm ?_
    simp only [↓reduceIte, namesOf, List.any, I.names, aops, aopsI, aopsT, qstep, CPt, qget, Tbl.get, astep, ev, setd, List.set, List.getD, List.getElem?_cons_zero, List.getElem?_cons_succ, List.getElem?_nil, List.cons_append, List.nil_append, List.length_cons, List.length_nil, List.replicate, then_normal, inBlock_normal, Option.getD_some, Option.getD_none, Bool.or_false, Bool.or_true, Bool.true_or, Bool.false_or, Bool.false_eq_true, if_false, if_true, up_zero, Nat.reduceAdd, Nat.reduceSub, binv, ↓opt_def, AV.isAny, AV.cells, ldc, List.map_cons, List.map_nil, St.set_next, St.set_same, St.up_next, Int.natCast_nonneg, lt_len, le_len, Int.toNat_natCast, true_and, and_true, eq_self, reduceCtorEq, decide_true, List.length_singleton, er_int, er_bool, er_str]
    refine h4 _ _ ?_
    try clear h4 K_h4
    refine T.cond rfl (fun hb => ?_) (fun hb => ?_)
    · refine T.seq_k (fun K_h4 h4 => ?_)
      refine T.regi hm ?_
      simp only [↓reduceIte, namesOf, List.any, I.names, aops, aopsI, aopsT, qstep, CPt, qget, Tbl.get, astep, ev, setd, List.set, List.getD, List.getElem?_cons_zero, List.getElem?_cons_succ, List.getElem?_nil, List.cons_append, List.nil_append, List.length_cons, List.length_nil, List.replicate, then_normal, inBlock_normal, Option.getD_some, Option.getD_none, Bool.or_false, Bool.or_true, Bool.true_or, Bool.false_or, Bool.false_eq_true, if_false, if_true, up_zero, Nat.reduceAdd, Nat.reduceSub, binv, ↓opt_def, AV.isAny, AV.cells, ldc, List.map_cons, List.map_nil, St.set_next, St.set_same, St.up_next, Int.natCast_nonneg, lt_len, le_len, Int.toNat_natCast, true_and, and_true, eq_self, reduceCtorEq, decide_true, List.length_singleton, er_int, er_bool, er_str]
      refine h4 _ _ ?_
      try clear h4 K_h4
      refine T.ret (Fin.ret rfl ⟨?_, rfl⟩)
      have : fewtB m l = false := by
        unfold fewtB
        rw [all_ff hil (by simpa using hb)]; rfl
      rw [this]; rfl
    · refine T.skip ?_
      refine h3 _ _ ?_
      try clear h3 K_h3
      have hfw : fewB 150 l[i].sp = true := by simpa using hb
      have h150 : l[i].sp.length ≤ 150 := by have := hfw; unfold fewB at this; simp at this; omega
      have hw := inc64 hil hl
      refine T.regi hm ?_
      simp only [↓reduceIte, namesOf, List.any, I.names, aops, aopsI, aopsT, qstep, CPt, qget, Tbl.get, astep, ev, setd, List.set, List.getD, List.getElem?_cons_zero, List.getElem?_cons_succ, List.getElem?_nil, List.cons_append, List.nil_append, List.length_cons, List.length_nil, List.replicate, then_normal, inBlock_normal, Option.getD_some, Option.getD_none, Bool.or_false, Bool.or_true, Bool.true_or, Bool.false_or, Bool.false_eq_true, if_false, if_true, up_zero, Nat.reduceAdd, Nat.reduceSub, binv, ↓opt_def, AV.isAny, AV.cells, ldc, List.map_cons, List.map_nil, St.set_next, St.set_same, St.up_next, Int.natCast_nonneg, lt_len, le_len, Int.toNat_natCast, true_and, and_true, eq_self, reduceCtorEq, decide_true, List.length_singleton, er_int, er_bool, er_str, tcs_len, tcs_get hil, hil, tccells, sps_len]
      refine h2 _ _ ?_
      try clear h2 K_h2
      refine T.regi hm ?_
      simp only [↓reduceIte, namesOf, List.any, I.names, aops, aopsI, aopsT, qstep, CPt, qget, Tbl.get, astep, ev, setd, List.set, List.getD, List.getElem?_cons_zero, List.getElem?_cons_succ, List.getElem?_nil, List.cons_append, List.nil_append, List.length_cons, List.length_nil, List.replicate, then_normal, inBlock_normal, Option.getD_some, Option.getD_none, Bool.or_false, Bool.or_true, Bool.true_or, Bool.false_or, Bool.false_eq_true, if_false, if_true, up_zero, Nat.reduceAdd, Nat.reduceSub, binv, ↓opt_def, AV.isAny, AV.cells, ldc, List.map_cons, List.map_nil, St.set_next, St.set_same, St.up_next, Int.natCast_nonneg, lt_len, le_len, Int.toNat_natCast, true_and, and_true, eq_self, reduceCtorEq, decide_true, List.length_singleton, er_int, er_bool, er_str, hw]
      have hall := take_all (p := fun t : Tc => fewB 150 t.sp) hil hpre hfw
      refine ⟨hil, _, _, Gh.keep [0, 1, 5, 6], rfl, hall, _, fun h100 => ?_, rfl⟩
      have h1 := total_le hall
      have h2 := total_take hil
      have h3 : (l.take (i + 1)).length ≤ 101 := by rw [List.length_take]; omega
      rw [hn (by omega), List.length_map, wrap64 (by omega) (by omega), h2]; rfl
  · refine T.exit ?_
    have : i = l.length := by simp [tcs_len] at hb; omega
    subst this
    rw [List.take_length] at hpre hn
    try simp only [↓reduceIte, namesOf, List.any, I.names, aops, aopsI, aopsT, qstep, CPt, qget, Tbl.get, astep, ev, setd, List.set, List.getD, List.getElem?_cons_zero, List.getElem?_cons_succ, List.getElem?_nil, List.cons_append, List.nil_append, List.length_cons, List.length_nil, List.replicate, then_normal, inBlock_normal, Option.getD_some, Option.getD_none, Bool.or_false, Bool.or_true, Bool.true_or, Bool.false_or, Bool.false_eq_true, if_false, if_true, up_zero, Nat.reduceAdd, Nat.reduceSub, binv, ↓opt_def, AV.isAny, AV.cells, ldc, List.map_cons, List.map_nil, St.set_next, St.set_same, St.up_next, Int.natCast_nonneg, lt_len, le_len, Int.toNat_natCast, true_and, and_true, eq_self, reduceCtorEq, decide_true, List.length_singleton, er_int, er_bool, er_str, inBlock_exit, then_exit]
    refine h1 _ _ ?_
    try clear h1 K_h1
    refine T.seq_k (fun K_h1 h1 => ?_)
    by_cases h100 : l.length ≤ 100
    · have e1 : decide ((l.length : Int) ≤ 100) = true := decide_eq_true (by omega)
      refine T.regi hm ?_
      simp only [↓reduceIte, namesOf, List.any, I.names, aops, aopsI, aopsT, qstep, CPt, qget, Tbl.get, astep, ev, setd, List.set, List.getD, List.getElem?_cons_zero, List.getElem?_cons_succ, List.getElem?_nil, List.cons_append, List.nil_append, List.length_cons, List.length_nil, List.replicate, then_normal, inBlock_normal, Option.getD_some, Option.getD_none, Bool.or_false, Bool.or_true, Bool.true_or, Bool.false_or, Bool.false_eq_true, if_false, if_true, up_zero, Nat.reduceAdd, Nat.reduceSub, binv, ↓opt_def, AV.isAny, AV.cells, ldc, List.map_cons, List.map_nil, St.set_next, St.set_same, St.up_next, Int.natCast_nonneg, lt_len, le_len, Int.toNat_natCast, true_and, and_true, eq_self, reduceCtorEq, decide_true, List.length_singleton, er_int, er_bool, er_str, tcs_len, e1]
      refine h1 _ _ ?_
      try clear h1 K_h1
      refine T.ret (Fin.ret rfl ⟨?_, rfl⟩)
      unfold fewtB; rw [hpre, hn h100, decide_eq_true h100]; rfl
    · have e1 : decide ((l.length : Int) ≤ 100) = false := decide_eq_false (by omega)
      refine T.regi hm ?_
      simp only [↓reduceIte, namesOf, List.any, I.names, aops, aopsI, aopsT, qstep, CPt, qget, Tbl.get, astep, ev, setd, List.set, List.getD, List.getElem?_cons_zero, List.getElem?_cons_succ, List.getElem?_nil, List.cons_append, List.nil_append, List.length_cons, List.length_nil, List.replicate, then_normal, inBlock_normal, Option.getD_some, Option.getD_none, Bool.or_false, Bool.or_true, Bool.true_or, Bool.false_or, Bool.false_eq_true, if_false, if_true, up_zero, Nat.reduceAdd, Nat.reduceSub, binv, ↓opt_def, AV.isAny, AV.cells, ldc, List.map_cons, List.map_nil, St.set_next, St.set_same, St.up_next, Int.natCast_nonneg, lt_len, le_len, Int.toNat_natCast, true_and, and_true, eq_self, reduceCtorEq, decide_true, List.length_singleton, er_int, er_bool, er_str, tcs_len, e1]
      refine h1 _ _ ?_
      try clear h1 K_h1
      refine T.ret (Fin.ret rfl ⟨?_, rfl⟩)
      unfold fewtB; rw [hpre, decide_eq_false h100]; rfl

end Go.VL
