/- Arguments that came in: a slice of the law's steps, each with a slice of keys; a string. -/
import Derived.Test.YtedkoplgfidjlaaDoorMdlS
import Derived.Deep.Slices
import Derived.Deep.Fields
import Derived.Deep.Strs
import Derived.OpenShut
import Derived.SizedLaws
import Derived.ChangeMaps5
namespace Go.Proofs.YtedkoplgfidjlaaDoor
open Go.RowKit Go.ChangeShapes Go.WideShapes Go.Deep
set_option linter.unusedSimpArgs false
set_option linter.unusedVariables false

def stepc (s : StepP) : List Value := (stpc s).toList
def sts (l : List StepP) : List Value := l.flatMap stepc
theorem sts_cons (x : StepP) (r : List StepP) : sts (x :: r) = stepc x ++ sts r := by simp [sts]
theorem sts_length (l : List StepP) : (sts l).length = l.length * 15 := by
  induction l with
  | nil => rfl
  | cons x r ih => rw [sts_cons, List.length_append, ih]; simp [stepc]; omega
theorem sts_get (l : List StepP) (i k : Nat) (x : StepP) (h : l[i]? = some x) (hk : k < 15) : (sts l)[i * 15 + k]? = (stepc x)[k]? := by
  induction l generalizing i with
  | nil => cases h
  | cons y r ih =>
    rw [sts_cons]
    cases i with
    | zero =>
      simp only [List.getElem?_cons_zero, Option.some.injEq] at h
      subst h
      rw [Nat.zero_mul, Nat.zero_add, List.getElem?_append_left (by simp [stepc]; exact hk)]
    | succ i =>
      simp only [List.getElem?_cons_succ] at h
      have e : (i + 1) * 15 + k = (stepc y).length + (i * 15 + k) := by simp [stepc]; omega
      rw [e, List.getElem?_append_right (by omega), Nat.add_sub_cancel_left]
      exact ih i h
section
variable {H : Type} {enc : TypeId × Value → H} {w : World} {base : Nat} {held : Bool}
theorem str_cells : Tryd.prog.cellsOf 9 = 1 := by kernel_rfl
theorem str_bytes : Tryd.prog.bytesOf 9 = 16 := by kernel_rfl
theorem dc_fields : oneCellFields Tryd.prog (match Tryd.prog.underlying tDC with | some (.struct fs) => fs | _ => #[]) = true := by kernel_rfl
theorem dc_cells : Tryd.prog.cellsOf tDC = 12 := by kernel_rfl
theorem step_cells : Tryd.prog.cellsOf tStep = 15 := by kernel_rfl
theorem i64_cells : Tryd.prog.cellsOf 2 = 1 := by kernel_rfl
theorem u64_cells : Tryd.prog.cellsOf 29 = 1 := by kernel_rfl
theorem weights_all {P : Program} {e : TypeId} {l : List (DataW H)} {d : DataW H} (hd : d ∈ l) : ∀ n ∈ d.weights P e, n ∈ DataW.weightsAll P e l := by
  induction l with
  | nil => cases hd
  | cons a r ih =>
    intro n hn
    rw [DataW.weightsAll, List.mem_append]
    rcases List.mem_cons.1 hd with rfl | hd
    · exact .inl hn
    · exact .inr (ih hd n hn)
theorem sized_all {P : Program} {ts : List TypeId} {ds : List (DataW H)} (h : (DataW.weightsEach P ts ds).all (· ≤ reachBytes) = true) {j : Nat} {t : TypeId} {d : DataW H} (ht : ts[j]? = some t) (hd : ds[j]? = some d) : ∀ n ∈ d.weights P t, n ≤ reachBytes := fun n hn => by
  have := List.all_eq_true.1 h n (DataW.weights_mem_each ht hd n hn)
  simpa using this
theorem reach_num : reachBytes = 140737488351232 := rfl
set_option maxRecDepth 100000 in
/-- keys within an argument -/
theorem keys_of {fuel : Nat} {cs : List Value} {x : DataW H × List MemPlace} (h : DataW.trod enc Tryd.prog w base (fun _ => true) held fuel tStrs cs = some x) :
    ∃ (A : Option Addr) (n cp : Nat) (ks : List ByteArray) (t : TypeId), cs = [.slice A n cp] ∧ Rd w t A n (ks.map .string) ∧ n = ks.length ∧ n ≤ cp ∧ (n = 0 ∨ ∃ e sp, x.1 = .slice e sp ∧ e.length = n) := by
  rcases open_strs Tryd.underlying27 Tryd.underlying9 str_cells h with ⟨hcs, _⟩ | ⟨a, len, cap, m, Sx, hcs, _, hl, hm, hmm, hx, hcell⟩
  · exact ⟨none, 0, 0, [], tItem, hcs, Rd.nil _ _ _, rfl, Nat.le_refl _, .inl rfl⟩
  · simp only [if_true] at hmm
    subst hmm
    by_cases hn : len = 0
    · subst hn
      exact ⟨some a, 0, m, [], tItem, hcs, Rd.nil _ _ _, rfl, hl, .inl rfl⟩
    · obtain ⟨g, off, spot⟩ := a
      have hspot : spot = none := by
        have := (hcell 0 (by omega)).1
        simpa [Addr.add] using World.cell?_spot this
      subst hspot
      have h00 := (hcell 0 (by omega)).1
      obtain ⟨cur, t, fz, hg⟩ : ∃ cur t fz, w.heap[g]? = some (.cells cur t fz) := by
        unfold World.cell? at h00
        simp only [Addr.add, if_true] at h00
        split at h00
        · rename_i c t fz hh; exact ⟨c, t, fz, hh⟩
        · cases h00
      refine ⟨some ⟨g, off, none⟩, len, m, (List.range len).map Sx, t, hcs, ⟨by simp, fun _ => ⟨g, off, cur, fz, rfl, hg, ?_⟩⟩, by simp, hl, .inr ⟨_, _, congrArg Prod.fst hx, by simp⟩⟩
      intro j u hu
      rw [List.map_map, List.getElem?_map] at hu
      have hjn : j < len := by
        rcases Nat.lt_or_ge j len with h9 | h9
        · exact h9
        · rw [List.getElem?_eq_none (by simpa using h9)] at hu; cases hu
      rw [List.getElem?_range hjn] at hu
      have hc := (hcell j (by omega)).1
      rw [add_at, cell_of_row w g _ cur t fz hg] at hc
      rw [hc]; exact hu
set_option maxRecDepth 100000 in
/-- a command within an argument -/
theorem dcmd_of {fuel : Nat} {cs : List Value} {y : DataW H × List MemPlace} (h : DataW.trod enc Tryd.prog w base (fun _ => true) held fuel tDC cs = some y) :
    ∃ (c : CmdP) (A : Option Addr) (n cp : Nat) (t : TypeId) (a0 a1 dk : DataW H) (r : List (DataW H)), cs = (cmdc c A n cp).toList ∧ Rd w t A n (c.ks.map .string) ∧ n = c.ks.length ∧ n ≤ cp ∧ tmOk c.exp ∧ y.1 = .agg (a0 :: a1 :: dk :: r) ∧ (n = 0 ∨ ∃ e sp, dk = .slice e sp ∧ e.length = n) := by
  have hone := dc_fields
  rw [Tryd.underlying38] at hone
  obtain ⟨xs, n, _, hx, hcl, hlen, hg⟩ := DataW.trod_struct Tryd.underlying38 h
  rw [dc_cells] at hcl
  match cs, hcl with
  | [c0, c1, c2, c3, c4, c5, c6, c7, c8, c9, c10, c11], _ =>
    match xs, hlen with
    | [y0, y1, y2, y3, y4, y5, y6, y7, y8, y9, y10, y11], _ =>
      obtain ⟨o0, k0⟩ := hone_of hone 0 _ rfl
      obtain ⟨o1, k1⟩ := hone_of hone 1 _ rfl
      obtain ⟨o2, k2⟩ := hone_of hone 2 _ rfl
      obtain ⟨o3, k3⟩ := hone_of hone 3 _ rfl
      obtain ⟨o4, k4⟩ := hone_of hone 4 _ rfl
      obtain ⟨o5, k5⟩ := hone_of hone 5 _ rfl
      obtain ⟨o6, k6⟩ := hone_of hone 6 _ rfl
      obtain ⟨o7, k7⟩ := hone_of hone 7 _ rfl
      obtain ⟨o8, k8⟩ := hone_of hone 8 _ rfl
      obtain ⟨o9, k9⟩ := hone_of hone 9 _ rfl
      obtain ⟨o10, k10⟩ := hone_of hone 10 _ rfl
      obtain ⟨o11, k11⟩ := hone_of hone 11 _ rfl
      have g0 := hg 0 _ rfl
      have g1 := hg 1 _ rfl
      have g2 := hg 2 _ rfl
      have g3 := hg 3 _ rfl
      have g4 := hg 4 _ rfl
      have g5 := hg 5 _ rfl
      have g6 := hg 6 _ rfl
      have g7 := hg 7 _ rfl
      have g8 := hg 8 _ rfl
      have g9 := hg 9 _ rfl
      have g10 := hg 10 _ rfl
      have g11 := hg 11 _ rfl
      rw [o0, k0] at g0
      rw [o1, k1] at g1
      rw [o2, k2] at g2
      rw [o3, k3] at g3
      rw [o4, k4] at g4
      rw [o5, k5] at g5
      rw [o6, k6] at g6
      rw [o7, k7] at g7
      rw [o8, k8] at g8
      rw [o9, k9] at g9
      rw [o10, k10] at g10
      rw [o11, k11] at g11
      obtain ⟨s0, e0, _, _⟩ := DataW.trod_string Tryd.underlying9 g0
      obtain ⟨s1, e1, _, _⟩ := DataW.trod_string Tryd.underlying9 g1
      obtain ⟨A, m, cp, ks, t, e2, hr, hm, hmc, hd⟩ := keys_of g2
      obtain ⟨s3, e3, _, _⟩ := DataW.trod_string Tryd.underlying9 g3
      obtain ⟨n4, e4, _, w4⟩ := DataW.trod_int Tryd.underlying28 g4
      obtain ⟨n5, e5, _, w5⟩ := DataW.trod_int Tryd.underlying2 g5
      obtain ⟨n6, e6, _, w6⟩ := DataW.trod_int Tryd.underlying29 g6
      obtain ⟨n7, e7, _, w7⟩ := DataW.trod_int Tryd.underlying29 g7
      obtain ⟨b8, e8, _⟩ := DataW.trod_bool Tryd.underlying4 g8
      obtain ⟨b9, e9, _⟩ := DataW.trod_bool Tryd.underlying4 g9
      obtain ⟨b10, e10, _⟩ := DataW.trod_bool Tryd.underlying4 g10
      obtain ⟨b11, e11, _⟩ := DataW.trod_bool Tryd.underlying4 g11
      simp only [List.drop_zero, List.drop_succ_cons, List.take_succ_cons, List.take_zero, List.cons.injEq, and_true] at e0 e1 e2 e3 e4 e5 e6 e7 e8 e9 e10 e11
      subst e0; subst e1; subst e2; subst e3; subst e4; subst e5; subst e6; subst e7; subst e8; subst e9; subst e10; subst e11
      have q4 := bounds_u32 w4
      have q5 := bounds_i64 w5
      have q6 := bounds_u64 w6
      have q7 := bounds_u64 w7
      have f4 : ((UInt32.ofNat n4.toNat).toNat : Int) = n4 := by rw [UInt32.toNat_ofNat']; omega
      have f6 : ((UInt64.ofNat n6.toNat).toNat : Int) = n6 := by rw [UInt64.toNat_ofNat']; omega
      have f7 : ((UInt64.ofNat n7.toNat).toNat : Int) = n7 := by rw [UInt64.toNat_ofNat']; omega
      refine ⟨⟨s0, s1, ks, s3, UInt32.ofNat n4.toNat, n5, UInt64.ofNat n6.toNat, UInt64.ofNat n7.toNat, b8, b9, b10, b11⟩, A, m, cp, t, y0.1, y1.1, y2.1, [y3.1, y4.1, y5.1, y6.1, y7.1, y8.1, y9.1, y10.1, y11.1], ?_, hr, hm, hmc, ?_, by rw [hx]; rfl, hd⟩
      · simp only [cmdc, f4, f6, f7]
      · show tmOk n5
        exact ⟨by omega, by omega⟩
set_option maxRecDepth 100000 in
theorem step_of {fuel : Nat} {cs : List Value} {y : DataW H × List MemPlace} (h : DataW.trod enc Tryd.prog w base (fun _ => true) held fuel tStep cs = some y) :
    ∃ (s : StepP) (a0 a1 dk : DataW H) (r r2 : List (DataW H)), cs = stepc s ∧ Rd w s.t s.A s.n (s.c.ks.map .string) ∧ s.n = s.c.ks.length ∧ s.n ≤ s.cp ∧ tmOk s.c.exp ∧ tmOk s.now ∧ y.1 = .agg (.agg (a0 :: a1 :: dk :: r) :: r2) ∧ (s.n = 0 ∨ ∃ e sp, dk = .slice e sp ∧ e.length = s.n) := by
  obtain ⟨xs, n, _, hx, hcl, hlen, hg⟩ := DataW.trod_struct Tryd.underlying41 h
  rw [step_cells] at hcl
  match xs, hlen with
  | [y0, y1, y2, y3], _ =>
    have g0 : DataW.trod enc Tryd.prog w base (fun _ => true) held n tDC ((cs.drop 0).take (Tryd.prog.cellsOf tDC)) = some y0 := hg 0 _ rfl
    have g1 : DataW.trod enc Tryd.prog w base (fun _ => true) held n 2 ((cs.drop 12).take (Tryd.prog.cellsOf 2)) = some y1 := hg 1 _ rfl
    have g2 : DataW.trod enc Tryd.prog w base (fun _ => true) held n 29 ((cs.drop 13).take (Tryd.prog.cellsOf 29)) = some y2 := hg 2 _ rfl
    have g3 : DataW.trod enc Tryd.prog w base (fun _ => true) held n 9 ((cs.drop 14).take (Tryd.prog.cellsOf 9)) = some y3 := hg 3 _ rfl
    rw [dc_cells] at g0
    rw [i64_cells] at g1
    rw [u64_cells] at g2
    rw [str_cells] at g3
    obtain ⟨c, A, m, cp, t, a0, a1, dk, r, e0, hr, hm, hmc, hex, hy, hd⟩ := dcmd_of g0
    obtain ⟨n1, e1, _, w1⟩ := DataW.trod_int Tryd.underlying2 g1
    obtain ⟨n2, e2, _, w2⟩ := DataW.trod_int Tryd.underlying29 g2
    obtain ⟨s3, e3, _, _⟩ := DataW.trod_string Tryd.underlying9 g3
    have q1 := bounds_i64 w1
    have q2 := bounds_u64 w2
    have f2 : ((UInt64.ofNat n2.toNat).toNat : Int) = n2 := by rw [UInt64.toNat_ofNat']; omega
    refine ⟨⟨c, A, m, cp, t, n1, UInt64.ofNat n2.toNat, s3⟩, a0, a1, dk, r, [y1.1, y2.1, y3.1], ?_, hr, hm, hmc, hex, ?_, ?_, hd⟩
    · have hcs : cs = cs.take 12 ++ (cs.drop 12).take 1 ++ (cs.drop 13).take 1 ++ (cs.drop 14).take 1 := by
        match cs, hcl with
        | [c0, c1, c2, c3, c4, c5, c6, c7, c8, c9, c10, c11, c12, c13, c14], _ => rfl
      rw [List.drop_zero] at e0
      rw [hcs, e0, e1, e2, e3]
      simp only [stepc, stpc, f2]
      rfl
    · show tmOk n1
      exact ⟨by omega, by omega⟩
    · rw [hx]
      simp only [List.map_cons, List.map_nil, hy]
instance : Inhabited StepP := ⟨⟨⟨⟨#[]⟩, ⟨#[]⟩, [], ⟨#[]⟩, 0, 0, 0, 0, false, false, false, false⟩, none, 0, 0, 0, 0, 0, ⟨#[]⟩⟩⟩
theorem choose_step {n : Nat} {p : Nat → StepP → Prop} (h : ∀ i, i < n → ∃ x, p i x) : ∃ f : Nat → StepP, ∀ i, i < n → p i (f i) := choose_lt h
set_option maxRecDepth 100000 in
theorem step_sized {s : StepP} {a0 a1 dk : DataW H} {r r2 : List (DataW H)} (h : ∀ n ∈ (DataW.agg (.agg (a0 :: a1 :: dk :: r) :: r2)).weights Tryd.prog tStep, n ≤ reachBytes) (hd : s.n = 0 ∨ ∃ e sp, dk = .slice e sp ∧ e.length = s.n) : s.n * 16 ≤ 140737488355328 := by
  rcases hd with hd | ⟨e, sp, rfl, he⟩
  · omega
  · have := h ((e.length + sp.length) * Tryd.prog.bytesOf 9) (by
      simp only [DataW.weights, Tryd.underlying41]
      simp only [List.map_cons, DataW.weightsEach, List.mem_append]
      left
      simp only [DataW.weights, Tryd.underlying38]
      simp only [List.map_cons, DataW.weightsEach, List.mem_append]
      right; right; left
      simp only [DataW.weights, Tryd.underlying27]
      exact List.mem_cons_self)
    rw [str_bytes, reach_num, he] at this
    have : (s.n + sp.length) * 16 = s.n * 16 + sp.length * 16 := Nat.add_mul _ _ _
    omega
set_option maxRecDepth 100000 in
/-- a slice of steps that came in -/
theorem open_steps {b0 : Nat} {v : Value} {d : DataW H} {p : List MemPlace} (hv : Value.okWide Tryd.prog w .any b0 36 v) (h : DataW.Trod enc Tryd.prog w base (fun _ => true) held 36 v d p) (hs : ∀ n ∈ d.weights Tryd.prog 36, n ≤ reachBytes) :
    ∃ (A : Option Addr) (n c : Nat) (l : List StepP) (t : TypeId), v = .slice A n c ∧ l.length = n ∧ Rd w t A (n * 15) (sts l) ∧ ∀ s ∈ l, StepOk w s := by
  obtain ⟨A, n, c, rfl⟩ := okWide_slice Tryd.underlying36 hv
  obtain ⟨fuel, hf⟩ := h
  rcases open_slice Tryd.underlying36 hf with ⟨hcs, _⟩ | ⟨a, len, cap, m, k, D, Pl, hcs, _, hl, hm, hmm, hx, hi⟩
  · simp only [Value.cells, List.cons.injEq, and_true, Value.slice.injEq] at hcs
    obtain ⟨rfl, rfl, rfl⟩ := hcs
    exact ⟨none, 0, 0, [], tItem, rfl, rfl, Rd.nil _ _ _, fun x hx => by cases hx⟩
  · simp only [Value.cells, List.cons.injEq, and_true, Value.slice.injEq] at hcs
    obtain ⟨rfl, rfl, rfl⟩ := hcs
    simp only [if_true] at hmm
    subst hmm
    rw [step_cells] at hi
    have hd : d = .slice ((List.range n).map D) ((List.range (m - n)).map fun j => D (n + j)) := congrArg Prod.fst hx
    subst hd
    obtain ⟨f, hfn⟩ := choose_step (n := n) (p := fun i s => w.cells? base (a.add (i * 15)) 15 = some (stepc s) ∧ StepOk w s) (fun i hi' => by
      obtain ⟨cs', h1, h2⟩ := hi i (by omega)
      obtain ⟨s, a0, a1, dk, r, r2, rfl, k1, k2, k3, k4, k5, k6, k7⟩ := step_of h2
      refine ⟨s, h1, ⟨k1, k2, step_sized (H := H) (s := s) (a0 := a0) (a1 := a1) (dk := dk) (r := r) (r2 := r2) (fun n' hn' => hs n' ?_) k7⟩, k3, k4, k5⟩
      simp only [DataW.weights, Tryd.underlying36, List.mem_cons, List.mem_append]
      refine .inr (.inl (weights_all (d := D i) (List.mem_map_of_mem (List.mem_range.2 hi')) n' ?_))
      have k6' : D i = _ := k6
      rw [k6']
      exact hn')
    have hok : ∀ s ∈ (List.range n).map f, StepOk w s := by
      intro s hs
      obtain ⟨i, hi1, rfl⟩ := List.mem_map.1 hs
      exact (hfn i (List.mem_range.1 hi1)).2
    by_cases hn : n = 0
    · subst hn
      exact ⟨some a, 0, m, [], tItem, rfl, rfl, Rd.nil _ _ _, fun x hx => by cases hx⟩
    · obtain ⟨g, off, spot⟩ := a
      have hcell : ∀ i j, i < n → j < 15 → w.cell? ((⟨g, off, spot⟩ : Addr).add (i * 15 + j)) = (stepc (f i))[j]? := by
        intro i j hi' hj
        have := (World.cells?_some (hfn i hi').1).2.2 j hj
        rwa [add_add] at this
      have hspot : spot = none := by
        have := hcell 0 0 (by omega) (by omega)
        simp only [Nat.zero_mul, Nat.add_zero, stepc, stpc, List.getElem?_cons_zero] at this
        simpa [Addr.add] using World.cell?_spot this
      subst hspot
      have h00 := hcell 0 0 (by omega) (by omega)
      simp only [Nat.zero_mul, Nat.add_zero, stepc, stpc, List.getElem?_cons_zero] at h00
      obtain ⟨cur, t, fz, hg⟩ : ∃ cur t fz, w.heap[g]? = some (.cells cur t fz) := by
        unfold World.cell? at h00
        simp only [Addr.add, if_true] at h00
        split at h00
        · rename_i c t fz hh; exact ⟨c, t, fz, hh⟩
        · cases h00
      refine ⟨some ⟨g, off, none⟩, n, m, (List.range n).map f, t, rfl, by simp, ⟨by rw [sts_length]; simp, fun _ => ⟨g, off, cur, fz, rfl, hg, ?_⟩⟩, hok⟩
      intro j u hu
      have hjl : j < n * 15 := by
        have := (List.getElem?_eq_some_iff.1 hu).1
        rw [sts_length] at this
        simpa using this
      have hj5 : j = j / 15 * 15 + j % 15 := by omega
      have hjd : j / 15 < n := by omega
      have hget := sts_get ((List.range n).map f) (j / 15) (j % 15) (f (j / 15)) (by simp [hjd]) (by omega)
      rw [← hj5, hu] at hget
      have hc := hcell (j / 15) (j % 15) (by omega) (by omega)
      rw [← hj5, ← hget] at hc
      rw [add_at, cell_of_row w g _ cur t fz hg] at hc
      exact hc
set_option maxRecDepth 100000 in
/-- a string that came in -/
theorem open_strV {b0 : Nat} {v : Value} {d : DataW H} {p : List MemPlace} (hv : Value.okWide Tryd.prog w .any b0 9 v) (h : DataW.Trod enc Tryd.prog w base (fun _ => true) held 9 v d p) (hs : ∀ n ∈ d.weights Tryd.prog 9, n ≤ reachBytes) :
    ∃ s : ByteArray, v = .string s ∧ s.size ≤ reachBytes := by
  obtain ⟨s, rfl, rfl, _, _⟩ := ChangeMaps.open_string Tryd.underlying9 hv h
  exact ⟨s, rfl, hs s.size (by simp [DataW.weights])⟩
end
end Go.Proofs.YtedkoplgfidjlaaDoor
