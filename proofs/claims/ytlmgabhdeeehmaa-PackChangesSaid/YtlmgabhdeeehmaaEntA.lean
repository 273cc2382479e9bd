/-
  Changes as values; an append that has been run.
-/
import Derived.Test.YtlmgabhdeeehmaaEntG
import Derived.Test.YtlmgabhdeeehmaaRegion
import Derived.Test.YtlmgabhdeeehmaaRef01
namespace Go.Proofs.Ytlmgabhdeeehmaa
open Go.RowKit
set_option linter.unusedVariables false

theorem pti_inj {p q : List Nat} : decide (pti p = pti q) = decide (p = q) := by
  apply bool_ext
  simp only [decide_eq_true_eq]
  constructor
  · intro h
    unfold pti at h
    exact (List.map_inj_right (f := fun n : Nat => (n : Int)) (fun a b (h : (a : Int) = b) => by exact_mod_cast h)).1 h
  · intro h; rw [h]
def AgC (v : Value) (c : Ch) : Value := .agg #[v, .bool c.had, .bool c.has, .int .u64 (c.old : Nat), .int .u64 (c.new : Nat)]
def Zc : Value := .agg #[.slice none 0 0, .bool false, .bool false, .int .u64 0, .int .u64 0]
def Zcells : Obj := .cells #[.slice none 0 0, .bool false, .bool false, .int .u64 0, .int .u64 0] 114
theorem wp_append_run {P : Program} {o : Oper} {a : Act} {w w' : World} {v' : Value} {K : Act → World → Prop} {Q : Exit → Act → World → Prop} {s x : Operand} {t : TypeId}
    (ho : o.op = .call { callee := .builtin .append, args := #[s, x], argTypes := #[t, t] }) (hrun : (Builtin.append_ #[t, t] o.type #[a.eval s, a.eval x]).run P w = .ok v' w') (hK : K (a.put o.dst v') w') : o.wp P a w K Q := by
  unfold Oper.wp execOp
  simp only [ho, resolve, invoke, builtin, Sem.run_bind, Sem.run_pure, Result.andThen_ok, List.map_toArray, List.map_cons, List.map_nil, hrun]
  exact hK
end Go.Proofs.Ytlmgabhdeeehmaa
