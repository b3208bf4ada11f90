/- A call of a function of two arguments as one step of a region that draws its order. -/
import Derived.Test.YtcmobcbecbajiaaRegM
namespace Go.Proofs.Ytcmobcbecbajiaa
open Go.RowKit
theorem step_call2 {P : Program} (w : World) {ops : Array Oper} {o : Oper} {a : Act} {K : Act → World → Prop} {Q : Exit → Act → World → Prop} {E : Prop} (hgd : o.guard = none) (f : FuncId) (x y : Operand) (tys : Array TypeId)
    (ho : o.op = .call { callee := .value (.func f), args := #[x, y], argTypes := tys }) (u v : Value) (hx : a.eval x = u) (hy : a.eval y = v) (hcf : (callFunc f #[u, v]).run P w = .ok (.enter f #[u, v]) w) {post : Ending → World → Prop} (hc : Calls P f #[u, v] w post)
    (h : ∀ e w', post e w' → ∃ r, e = .returned r ∧ K (a.put o.dst r) w') : if Region.wanted o (yielded ops a.tmps) = true then Oper.wp P o a w K Q else E := by
  have hw : Region.wanted o (yielded ops a.tmps) = true := by simp [Region.wanted, hgd]
  rw [if_pos hw]
  have hf : a.eval (.func f) = .func (.func f) #[] #[] := rfl
  unfold Oper.wp execOp
  simp only [ho, resolve, invoke, hf, hx, hy, Deferred.ofValue, Sem.run_bind, Sem.run_pure, Result.andThen_ok, List.map_toArray, List.map_cons, List.map_nil, Array.append_empty]
  have hcc : Calls P f #[u, v] w fun e w' => match e, w' with
      | .returned v, w'' => K (a.put o.dst v) w''
      | .panicked chain, w'' => Q (.panic chain) a w''
      | .outgrown, _ => LetsOut Q := by
    refine hc.mono ?_
    intro e w' hp
    obtain ⟨r, rfl, hk⟩ := h e w' hp
    exact hk
  rw [show (#[] ++ #[u, v] : Array Value) = #[u, v] from by simp, hcf]
  exact hcc
theorem callf_load (u v : Value) (w : World) : (callFunc 66 #[u, v]).run Try.prog w = .ok (.enter 66 #[u, v]) w := by kernel_rfl
end Go.Proofs.Ytcmobcbecbajiaa
