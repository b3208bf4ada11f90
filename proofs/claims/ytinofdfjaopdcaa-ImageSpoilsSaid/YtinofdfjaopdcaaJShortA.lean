/- ImageShort in plain Lean. -/
import Derived.Test.YtinofdfjaopdcaaJAnew
namespace Go.Proofs.Ytinofdfjaopdcaa
open Go.RowKit
set_option linter.unusedSimpArgs false
set_option linter.unusedVariables false

theorem pgOf_mark (c : List UInt8) : (Dev.pad (pgOf c 0)).set 4 1 = Dev.pad (pgOf c 1) := by
  simp only [Dev.pad, pgOf_len]
  simp [pgOf, pgHead, le]
theorem ldPage_short (c : List UInt8) (j n : Nat) (hc : c.length < 376) (hn : j + 1 < n) : ldPage (Dev.pad (pgOf c j)) j n = none := by
  obtain ⟨z, hz⟩ : ∃ z, Dev.pad (pgOf c j) = pgOf c j ++ z := ⟨_, rfl⟩
  have c3 : cut (pgOf c j ++ z) 2 4 = le 2 c.length := cut_mid (A := [73, 77]) (C := le 4 j ++ (c ++ z)) (by simp [pgOf, pgHead]) rfl (by rw [le_length])
  rw [hz]
  unfold ldPage
  rw [c3, num_le_of_lt (by omega), if_neg (fun hh => hh.2.2.2 ⟨hc, hn⟩)]
theorem ck_whole {b : List UInt8} (h : b.length ≤ 376) : ck b 0 = b := by
  unfold ck
  rw [Nat.zero_mul, List.drop_zero, List.take_of_length_le h]
theorem pad_len {b : List UInt8} (h : b.length ≤ 384) : (Dev.pad b).length = 384 := by
  unfold Dev.pad
  rw [List.length_append, List.length_replicate]; omega
theorem pad_pad (b : List UInt8) (h : b.length ≤ 384) : Dev.pad (Dev.pad b) = Dev.pad b := by
  have := pad_len h
  rw [show Dev.pad (Dev.pad b) = Dev.pad b ++ List.replicate (384 - (Dev.pad b).length) 0 from rfl, this]
  simp
theorem records_append (a b : List Item) : records (a ++ b) = records a ++ records b := by simp [records]
/-- two images of one page each; the second's page, marked as the first one's second -/
theorem short_law {D1 D2 : Dev} {a b : List Item} {n m : Nat} (h1 : DumpR (Dev.new 20) 0 1 a 1 n 0 D1) (h2 : DumpR D1 10 1 b 1 m 0 D2) :
    D2.readE 10 = 0 ∧ (D2.read 10).length = 384 ∧ goods a = true ∧ D2.n = 20 ∧
      (D2.write 1 ((D2.read 10).set 4 1)).load 0 2 = if isum (a.take n) < 376 then ([], 3) else (a.take n ++ b.take m, 0) := by
  have m1 : (Dev.new 20).may 0 1 = true := by decide
  obtain ⟨o1, n1, g1⟩ := h1.okay (new_Ok 20) m1
  have ga : goods a = true := by rcases g1 with ⟨_, h⟩ | ⟨h, _⟩; exact h; cases h
  have n1' : D1.n = 20 := n1
  have m2 : D1.may 10 1 = true := may_of (f := 10) (p := 1) (by omega)
  obtain ⟨o2, n2, g2⟩ := h2.okay o1 m2
  have gb : goods b = true := by rcases g2 with ⟨_, h⟩ | ⟨h, _⟩; exact h; cases h
  obtain ⟨_, _, p1, _, _, _, q1⟩ := h1.good (new_Ok 20) m1 ga
  obtain ⟨_, _, p2, _, _, _, q2⟩ := h2.good o1 m2 gb
  have hra : (records (a.take n)).length ≤ 376 := by unfold ckN at p1; omega
  have hrb : (records (b.take m)).length ≤ 376 := by unfold ckN at p2; omega
  have n2' : D2.n = 20 := n2.trans n1'
  have hp10 : D2.page 10 = .full (Dev.pad (pgOf (records (b.take m)) 0)) := by
    rw [q2, if_pos (by omega)]
    rw [show (10 - (10 : Int).toNat : Nat) = 0 from rfl, ck_whole hrb]
  have hp0 : D2.page 0 = .full (Dev.pad (pgOf (records (a.take n)) 0)) := by
    rw [q2, if_neg (by omega), q1, if_pos (by omega)]
    rw [show (0 - (0 : Int).toNat : Nat) = 0 from rfl, ck_whole hra]
  obtain ⟨r1, r2⟩ := o2.read_ (k := 10) (by omega)
  rw [hp10] at r1 r2
  have r2' : D2.read 10 = Dev.pad (pgOf (records (b.take m)) 0) := r2
  have hlb : (pgOf (records (b.take m)) 0).length ≤ 384 := by rw [pgOf_len]; omega
  have hlb1 : (pgOf (records (b.take m)) 1).length ≤ 384 := by rw [pgOf_len]; omega
  refine ⟨r1, by rw [r2', pad_len hlb], ga, n2', ?_⟩
  rw [r2', pgOf_mark]
  obtain ⟨_, w2⟩ := o2.write_ (k := 1) (b := Dev.pad (pgOf (records (b.take m)) 1)) (by omega) (by rw [pad_len hlb1]; omega)
  have w2' : D2.write 1 (Dev.pad (pgOf (records (b.take m)) 1)) = D2.put 1 (.full (Dev.pad (pgOf (records (b.take m)) 1))) := by rw [← pad_pad _ hlb1]; rw [pad_pad _ hlb1]; exact w2.trans (by rw [pad_pad _ hlb1])
  rw [w2']
  obtain ⟨D3, hD3⟩ : ∃ D3, D3 = D2.put 1 (.full (Dev.pad (pgOf (records (b.take m)) 1))) := ⟨_, rfl⟩
  have o3 : D3.Ok := by rw [hD3]; exact o2.put_ _ _
  have n3 : D3.n = 20 := by rw [hD3]; exact n2'
  have e0 : D3.page 0 = .full (Dev.pad (pgOf (records (a.take n)) 0)) := by rw [hD3, Dev.put_page, if_neg (by omega), hp0]
  have e1 : D3.page 1 = .full (Dev.pad (pgOf (records (b.take m)) 1)) := by rw [hD3, Dev.put_page, if_pos rfl]
  rw [← hD3]
  obtain ⟨s1, s2⟩ := o3.read_ (k := 0) (by omega)
  obtain ⟨t1, t2⟩ := o3.read_ (k := 1) (by omega)
  rw [e0] at s1 s2
  rw [e1] at t1 t2
  have s1' : D3.readE (0 + ((0 : Nat) : Int)) = 0 := s1
  have s2' : D3.read (0 + ((0 : Nat) : Int)) = Dev.pad (pgOf (records (a.take n)) 0) := s2
  have t1' : D3.readE (0 + ((1 : Nat) : Int)) = 0 := t1
  have t2' : D3.read (0 + ((1 : Nat) : Int)) = Dev.pad (pgOf (records (b.take m)) 1) := t2
  have hm3 : D3.may 0 2 = true := may_of (f := 0) (p := 2) (by omega)
  have hB : D3.ldB 0 2 2 = if isum (a.take n) < 376 then .error 3 else .ok (records (a.take n) ++ records (b.take m)) := by
    have h0 : D3.ldB 0 2 0 = .ok [] := rfl
    rw [← isum_records]
    by_cases hs : (records (a.take n)).length < 376
    · rw [if_pos hs]
      refine Dev.ldB_err (k := 1) ?_ (by omega)
      rw [Dev.ldB, h0]
      simp only
      rw [if_pos s1', s2', ldPage_short _ _ _ hs (by omega)]
    · rw [if_neg hs]
      have h1 : D3.ldB 0 2 1 = .ok (records (a.take n)) := by
        rw [Dev.ldB, h0]
        simp only
        rw [if_pos s1', s2', ldPage_pgOf _ _ _ hra (by omega) (fun hh => absurd hh hs)]
        simp
      rw [Dev.ldB, h1]
      simp only
      rw [if_pos t1', t2', ldPage_pgOf _ _ _ hrb (by omega) (fun _ => by omega)]
  unfold Dev.load
  rw [hm3, o3.on]
  simp only [if_true, Bool.false_eq_true, if_false]
  rw [show D3.ldB 0 (2 : Int).toNat (2 : Int).toNat = D3.ldB 0 2 2 from rfl, hB]
  by_cases hs : isum (a.take n) < 376
  · rw [if_pos hs, if_pos hs]
  · rw [if_neg hs, if_neg hs]
    simp only
    rw [← records_append, loadOf_records _ (by rw [goods_append, goods_takeN ga n, goods_takeN gb m]; rfl)]
end Go.Proofs.Ytinofdfjaopdcaa
