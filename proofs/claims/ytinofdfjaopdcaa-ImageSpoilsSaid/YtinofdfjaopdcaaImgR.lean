/- A region that draws its order, by one invariant: each operation is walked once. For a round of a range over a function, where the tactics for drawn regions do not reach. -/
import Derived.OrdersIn
import Derived.TacticsIn
import Derived.OwnWalkIn
namespace Go.Proofs.Ytinofdfjaopdcaa


theorem filter_lt {p q : Nat → Bool} : ∀ {l : List Nat}, (∀ x ∈ l, q x = true → p x = true) → ∀ i, i ∈ l → p i = true → q i = false → (l.filter q).length < (l.filter p).length := by
  intro l
  induction l with
  | nil => intro _ i hi; cases hi
  | cons a r ih =>
    intro h i hi hp hq
    have hr : ∀ x ∈ r, q x = true → p x = true := fun x hx => h x (List.mem_cons_of_mem _ hx)
    have hle : (r.filter q).length ≤ (r.filter p).length := by
      clear ih hi hp hq
      induction r with
      | nil => exact Nat.le_refl _
      | cons b s ihs =>
        have hs := ihs (fun x hx => h x (by rcases List.mem_cons.1 hx with rfl | hx; exact List.mem_cons_self; exact List.mem_cons_of_mem _ (List.mem_cons_of_mem _ hx))) (fun x hx => hr x (List.mem_cons_of_mem _ hx))
        have hb := hr b List.mem_cons_self
        simp only [List.filter_cons]
        by_cases hqb : q b = true
        · rw [if_pos hqb, if_pos (hb hqb)]; simp only [List.length_cons]; omega
        · rw [if_neg hqb]
          split
          · simp only [List.length_cons]; omega
          · exact hs
    simp only [List.filter_cons]
    rcases List.mem_cons.1 hi with rfl | hi
    · rw [if_pos hp, if_neg (by rw [hq]; simp)]
      simp only [List.length_cons]; omega
    · have := ih hr i hi hp hq
      have ha := h a List.mem_cons_self
      by_cases hqa : q a = true
      · rw [if_pos hqa, if_pos (ha hqa)]; simp only [List.length_cons]; omega
      · rw [if_neg hqa]
        split
        · simp only [List.length_cons]; omega
        · exact this

section
variable {F : Fence} {n : Nat} {P : Program} {md : Region.Mode} {ops : Array Oper} {Q : Exit → Act → World → Prop}

def openOps (N : Nat) (listed : Array Bool) : Nat := ((List.range N).filter fun i => !listed.getD i true).length
/-- each edge leads to an earlier operation -/
def earlier (ops : Array Oper) : Bool := (List.range ops.size).all fun i => ((ops[i]?).map fun o => o.after.all fun e => decide (e.on < i)).getD true

theorem ready_none {listed : Array Bool} (he : earlier ops = true) (hs : listed.size = ops.size) (h : Region.ready md ops listed = []) : ∀ i, i < ops.size → listed.getD i true = true := by
  intro i
  induction i using Nat.strongRecOn with
  | _ i ih =>
    intro hi
    cases hb : listed.getD i true with
    | true => rfl
    | false =>
      have ho := Array.getElem?_eq_getElem hi
      have h1 := List.all_eq_true.1 he i (List.mem_range.2 hi)
      rw [ho] at h1
      simp only [Option.map_some, Option.getD_some, Array.all_eq_true_iff_forall_mem, decide_eq_true_eq] at h1
      have : i ∈ Region.ready md ops listed := mem_ready.2 ⟨hb, _, ho, fun e hm _ => by
        have hlt := h1 e hm
        have := ih e.on hlt (by omega)
        have hlen : e.on < listed.size := by omega
        simp only [Array.getD_eq_getD_getElem?, Array.getElem?_eq_getElem hlen, Option.getD_some] at this ⊢
        exact this⟩
      rw [h] at this
      cases this

theorem wpAnyIn_inv (I : Array Bool → Act → World → Prop) (he : earlier ops = true) (hsz : ∀ listed a w, I listed a w → listed.size = ops.size)
    (hstep : ∀ listed a w, I listed a w → ∀ i o, ops[i]? = some o → listed.getD i true = false → (∀ e ∈ o.after, Region.binds md e = true → listed.getD e.on false = true) → wpOpIn F n P ops Q i (I (listed.setIfInBounds i true)) a w)
    (hend : ∀ listed a w, I listed a w → (∀ i, i < ops.size → listed.getD i true = true) → Q .normal a w) :
    ∀ (fuel : Nat) (listed : Array Bool) (a : Act) (w : World), I listed a w → openOps ops.size listed ≤ fuel → wpAnyIn F n P md ops Q fuel listed a w := by
  have hall : ∀ listed, listed.size = ops.size → openOps ops.size listed = 0 → Region.ready md ops listed = [] := by
    intro listed hs h0
    rw [List.eq_nil_iff_forall_not_mem]
    intro i hi
    obtain ⟨h1, o, ho, _⟩ := mem_ready.1 hi
    have hlt : i < ops.size := (Array.getElem?_eq_some_iff.1 ho).1
    unfold openOps at h0
    have := List.eq_nil_of_length_eq_zero h0
    rw [List.filter_eq_nil_iff] at this
    exact this i (List.mem_range.2 hlt) (by simp only [h1]; rfl)
  intro fuel
  induction fuel with
  | zero =>
    intro listed a w hI hf
    have hr := hall listed (hsz _ _ _ hI) (by omega)
    exact ⟨hr, hend listed a w hI (ready_none he (hsz _ _ _ hI) hr)⟩
  | succ fuel ih =>
    intro listed a w hI hf
    refine ⟨fun hr => hend listed a w hI (ready_none he (hsz _ _ _ hI) hr), fun i hi => ?_⟩
    obtain ⟨h1, o, ho, hafter⟩ := mem_ready.1 hi
    have hlt : i < ops.size := (Array.getElem?_eq_some_iff.1 ho).1
    refine wpOpIn_mono (fun a' w' hI' => ih _ a' w' hI' ?_) (hstep listed a w hI i o ho h1 hafter)
    have : openOps ops.size (listed.setIfInBounds i true) < openOps ops.size listed := by
      unfold openOps
      refine filter_lt ?_ i (List.mem_range.2 hlt) (by simp only [h1]; rfl) ?_
      · intro x _ hx
        by_cases hxi : i = x
        · subst hxi; simp only [h1]; rfl
        · rw [getD_set_ne true hxi] at hx; exact hx
      · have : (listed.setIfInBounds i true).getD i true = true := by
          simp only [Array.getD_eq_getD_getElem?, Array.getElem?_setIfInBounds]
          split
          · split <;> rfl
          · rename_i hne; exact absurd trivial hne
        rw [this]; rfl
    omega

/-- the rule at the region's head -/
theorem wpIn_region_inv {id : Nat} {a : Act} {w : World} (hm : P.follows .mixedOrders = true) (I : Array Bool → Act → World → Prop) (he : earlier ops = true) (hsz : ∀ listed a w, I listed a w → listed.size = ops.size)
    (h0 : I (Array.replicate ops.size false) a w.drew)
    (hstep : ∀ listed a w, I listed a w → ∀ i o, ops[i]? = some o → listed.getD i true = false → (∀ e ∈ o.after, Region.binds .any e = true → listed.getD e.on false = true) → wpOpIn F n P ops Q i (I (listed.setIfInBounds i true)) a w)
    (hend : ∀ listed a w, I listed a w → (∀ i, i < ops.size → listed.getD i true = true) → Q .normal a w) : (Code.region id ops true).wpIn F n P Q a w := by
  refine wpIn_region_any hm ?_
  refine wpAnyIn_inv I he hsz hstep hend _ _ _ _ h0 ?_
  unfold openOps
  refine Nat.le_trans (List.length_filter_le _ _) ?_
  simp

/-- an append whose run is known, as a step of such a region -/
theorem step_run_app {o : Oper} {a : Act} {w w' : World} {K : Act → World → Prop} {E : Prop} (hgd : o.guard = none) (s x : Operand) (t : TypeId)
    (ho : o.op = .call { callee := .builtin .append, args := #[s, x], argTypes := #[t, t] }) {v u v' : Value} (hs : a.eval s = v) (hx : a.eval x = u)
    (hrun : (Builtin.append_ #[t, t] o.type #[v, u]).run P w = .ok v' w') (hK : K (a.put o.dst v') w') : if Region.wanted o (yielded ops a.tmps) = true then Oper.wpIn F n P o a w K Q else E := by
  rw [if_pos (by simp [Region.wanted, hgd])]
  unfold Oper.wpIn
  refine ⟨by intro f hf; simp [Oper.about, ho, resolve, Target.leads, Sem.run_pure] at hf, ?_⟩
  rw [Oper.semAt_plain F _ _ (by rw [ho]; intro c h; cases h)]
  unfold execOp
  simp only [ho, resolve, invoke, builtin, Sem.run_bind, Sem.run_pure, Result.andThen_ok, List.map_toArray, List.map_cons, List.map_nil, hs, hx, hrun]
  exact hK
end
end Go.Proofs.Ytinofdfjaopdcaa
