/- What the laws of the model share: a step of the argument at hand. -/
import Derived.Test.YtedkoplgfidjlaaDoorOpenM
import Derived.Test.YtedkoplgfidjlaaDoorMdlAw
namespace Go.Proofs.YtedkoplgfidjlaaDoor
open Go.RowKit
set_option linter.unusedSimpArgs false
set_option linter.unusedVariables false

theorem rd_at15 {w : World} {t : TypeId} {A : Option Addr} {n k : Nat} {l : List StepP} {s : StepP} (h : Rd w t A (n * 15) (sts l)) (hk : k < n) (hx : l[k]? = some s) :
    ∃ g off, A = some ⟨g, off, none⟩ ∧ ∀ W : World, Chg No w W → W.cell? ⟨g, off + k * 15, none⟩ = some (.string s.c.what) ∧ W.cell? ⟨g, off + k * 15 + 1, none⟩ = some (.string s.c.verb) ∧ W.cell? ⟨g, off + k * 15 + 2, none⟩ = some (.slice s.A s.n s.cp) ∧ W.cell? ⟨g, off + k * 15 + 3, none⟩ = some (.string s.c.data) ∧ W.cell? ⟨g, off + k * 15 + 4, none⟩ = some (.int .u32 s.c.flags.toNat) ∧ W.cell? ⟨g, off + k * 15 + 5, none⟩ = some (.int .i64 s.c.exp) ∧ W.cell? ⟨g, off + k * 15 + 6, none⟩ = some (.int .u64 s.c.cas.toNat) ∧ W.cell? ⟨g, off + k * 15 + 7, none⟩ = some (.int .u64 s.c.by_.toNat) ∧ W.cell? ⟨g, off + k * 15 + 8, none⟩ = some (.bool s.c.wc) ∧ W.cell? ⟨g, off + k * 15 + 9, none⟩ = some (.bool s.c.wt) ∧ W.cell? ⟨g, off + k * 15 + 10, none⟩ = some (.bool s.c.dn) ∧ W.cell? ⟨g, off + k * 15 + 11, none⟩ = some (.bool s.c.qt) ∧ W.cell? ⟨g, off + k * 15 + 12, none⟩ = some (.int .i64 s.now) ∧ W.cell? ⟨g, off + k * 15 + 13, none⟩ = some (.int .u64 s.v.toNat) ∧ W.cell? ⟨g, off + k * 15 + 14, none⟩ = some (.string s.lose) := by
  obtain ⟨g, off, cur, fz, rfl, hg, hc⟩ := h.2 (by omega)
  refine ⟨g, off, rfl, fun W hW => ?_⟩
  have hc' : ∀ j u, (sts l)[j]? = some u → W.cell? ⟨g, off + j, none⟩ = some u := fun j u hu => (cell_of_row W g _ cur t fz (hW.at_ hg (fun h => h))).trans (hc j u hu)
  have c0 := hc' (k * 15 + 0) _ (sts_get l k 0 s hx (by omega))
  have c1 := hc' (k * 15 + 1) _ (sts_get l k 1 s hx (by omega))
  have c2 := hc' (k * 15 + 2) _ (sts_get l k 2 s hx (by omega))
  have c3 := hc' (k * 15 + 3) _ (sts_get l k 3 s hx (by omega))
  have c4 := hc' (k * 15 + 4) _ (sts_get l k 4 s hx (by omega))
  have c5 := hc' (k * 15 + 5) _ (sts_get l k 5 s hx (by omega))
  have c6 := hc' (k * 15 + 6) _ (sts_get l k 6 s hx (by omega))
  have c7 := hc' (k * 15 + 7) _ (sts_get l k 7 s hx (by omega))
  have c8 := hc' (k * 15 + 8) _ (sts_get l k 8 s hx (by omega))
  have c9 := hc' (k * 15 + 9) _ (sts_get l k 9 s hx (by omega))
  have c10 := hc' (k * 15 + 10) _ (sts_get l k 10 s hx (by omega))
  have c11 := hc' (k * 15 + 11) _ (sts_get l k 11 s hx (by omega))
  have c12 := hc' (k * 15 + 12) _ (sts_get l k 12 s hx (by omega))
  have c13 := hc' (k * 15 + 13) _ (sts_get l k 13 s hx (by omega))
  have c14 := hc' (k * 15 + 14) _ (sts_get l k 14 s hx (by omega))
  simp only [stepc, stpc, List.getElem_cons_zero, List.getElem_cons_succ, ← Nat.add_assoc, Nat.add_zero] at c0 c1 c2 c3 c4 c5 c6 c7 c8 c9 c10 c11 c12 c13 c14
  exact ⟨c0, c1, c2, c3, c4, c5, c6, c7, c8, c9, c10, c11, c12, c13, c14⟩
end Go.Proofs.YtedkoplgfidjlaaDoor
