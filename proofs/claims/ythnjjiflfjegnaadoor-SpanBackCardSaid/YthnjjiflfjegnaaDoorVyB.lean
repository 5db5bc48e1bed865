/- errors.Is at a *api.Spot whose Code is ErrForm; tankardlaw00.Is there. -/
import Derived.Test.YthnjjiflfjegnaaDoorVyA

namespace Go.Proofs.YthnjjiflfjegnaaDoor

open Go.RowKit Go.Extern.Stop Go.Stop Go.Extern

theorem run_equalIn_iface_int {P : Program} (w : World) (d : Nat) {ti tn : TypeId} {ms : Array (String × TypeId)} {i : TypeInfo} {k : IntKind} (a b : Int)
    (hi : P.underlying ti = some (.interface ms)) (hn : P.underlying tn = some (.int k)) (hinfo : P.info? tn = some i) (hcomp : i.comparable = true) :
    (Op.equalIn (d + 2) ti (.iface tn (.int k a)) (.iface tn (.int k b))).run P w = .ok (a == b) w := by
  simp [Op.equalIn, run_underlying hi, run_underlying hn, typeInfo, hinfo, hcomp]

theorem run_eql_iface_int {P : Program} (w : World) {ti tn : TypeId} {ms : Array (String × TypeId)} {i : TypeInfo} {k : IntKind} (a b : Int)
    (hi : P.underlying ti = some (.interface ms)) (hn : P.underlying tn = some (.int k)) (hinfo : P.info? tn = some i) (hcomp : i.comparable = true) :
    (binOp .eql ti (.iface tn (.int k a)) (.iface tn (.int k b))).run P w = .ok (.bool (a == b)) w := by
  simp only [binOp]
  simp [Op.equal, Op.maxDepth, run_equalIn_iface_int w 9998 a b hi hn hinfo hcomp]

theorem run_neq_iface_ptr_same {P : Program} (w : World) {ti tp te : TypeId} {ms : Array (String × TypeId)} {i j : TypeInfo} (a : Addr)
    (hi : P.underlying ti = some (.interface ms)) (hp : P.underlying tp = some (.pointer te)) (hinfo : P.info? tp = some i) (hcomp : i.comparable = true) (hte : P.info? te = some j) :
    (binOp .neq ti (.iface tp (.pointer (some a))) (.iface tp (.pointer (some a)))).run P w = .ok (.bool false) w := by
  simp only [binOp]
  simp [Op.equal, Op.maxDepth, run_equalIn_iface_ptr_same w 9998 a hi hp hinfo hcomp hte]

theorem Tryd.isTypeOf (v : Value) (w : World) : (Extern.ReflectliteType.typeOf #[.iface 34 v]).run Tryd.prog w = .ok (.iface 95 (.agg #[.pointer (some ⟨1, 34, none⟩)])) w := by kernel_rfl

theorem Tryd.isComparable (w : World) : ((Extern.ReflectliteType.method fun t => do Rtype.noPackHeld "Comparable" t; pure (.bool (← typeInfo t).comparable)) #[.agg #[.pointer (some ⟨1, 34, none⟩)]]).run Tryd.prog w = .ok (.bool true) w := by kernel_rfl

theorem Tryd.isComparable2 (w : World) : ((Extern.ReflectliteType.method fun t => do Rtype.noPackHeld "Comparable" t; (fun a => Value.bool a.comparable) <$> typeInfo t) #[.agg #[.pointer (some ⟨1, 34, none⟩)]]).run Tryd.prog w = .ok (.bool true) w := by kernel_rfl

theorem Tryd.isMethodComparable (v : Value) (w : World) : (Go.method 239 95 v "Comparable").run Tryd.prog w = .ok (79, v) w := by kernel_rfl

theorem Tryd.compCode : (Tryd.prog.info? 34).map (·.comparable) = some true := by kernel_rfl

theorem Tryd.compSpot : (Tryd.prog.info? 57).map (·.comparable) = some true := by kernel_rfl

theorem Tryd.sizeSpot : (Tryd.prog.info? 59).map (·.size) = some 2 := by kernel_rfl

theorem Tryd.noIsS (v : Value) (xT : TypeId) (w : World) : (Instr.typeAssert (.iface 57 v) xT 107 true).run Tryd.prog w = .ok (.tuple #[.nilIface, .bool false]) w := run_typeAssert_lacksB Tryd.underlying107 (by kernel_rfl) (by kernel_rfl) v xT w

theorem Tryd.hasUnwrapS (v : Value) (xT : TypeId) (w : World) : (Instr.typeAssert (.iface 57 v) xT 102 true).run Tryd.prog w = .ok (.tuple #[.iface 57 v, .bool true]) w := run_typeAssert_hasB Tryd.underlying102 (by kernel_rfl) v xT w

theorem Tryd.methodUnwrap (v : Value) (w : World) : (Go.method 239 57 v "Unwrap").run Tryd.prog w = .ok (73, v) w := by kernel_rfl

set_option maxHeartbeats 4000000 in
/-- errors.Is(&Spot{.., c}, c) -/
theorem is_spot (b : Nat) (c : Int) (w : World) (h1 : w.cell? ⟨b, 1, none⟩ = some (.int .i64 c)) :
    Calls Tryd.prog 34 #[.iface 57 (.pointer (some ⟨b, 0, none⟩)), .iface 34 (.int .i64 c)] w fun e w' => e = .returned (.bool true) ∧ w' = w := by
  obtain ⟨i, hi, hcmp⟩ := Option.map_eq_some_iff.1 Tryd.compCode
  have h48 := @run_callFunc_extern Tryd.prog 48 _ Extern.ReflectliteType.typeOf Tryd.func48 (by kernel_rfl) (by kernel_rfl) (by kernel_rfl) (by kernel_rfl)
  have h79 := @run_callFunc_extern Tryd.prog 79 _ (Extern.ReflectliteType.method fun t => do Rtype.noPackHeld "Comparable" t; pure (.bool (← typeInfo t).comparable)) Tryd.func79 (by kernel_rfl) (by kernel_rfl) (by kernel_rfl) (by kernel_rfl)
  have tT := Tryd.isTypeOf
  have cT := Tryd.isComparable
  have cT2 := Tryd.isComparable2
  have mR := Tryd.isMethodComparable
  have nS := Tryd.noIsS
  have uS := Tryd.hasUnwrapS
  have mU := Tryd.methodUnwrap
  have hne := run_eql_iface_types (P := Tryd.prog) 57 34 (.pointer (some ⟨b, 0, none⟩)) (.int .i64 c) Tryd.underlying27 (by decide) w
  have heq := run_eql_iface_int (P := Tryd.prog) w c c Tryd.underlying27 Tryd.underlying34 hi hcmp
  rw [beq_self_eq_true] at heq
  go_enter Tryd.func34, Tryd.ntmps34
  go_wp2
  refine wp_loop_rounds 2 ?_
  rw [rounds_succ]
  go_wp2
  rw [rounds_succ]
  go_wp2
  go_ret
  exact ⟨rfl, rfl⟩

end Go.Proofs.YthnjjiflfjegnaaDoor
