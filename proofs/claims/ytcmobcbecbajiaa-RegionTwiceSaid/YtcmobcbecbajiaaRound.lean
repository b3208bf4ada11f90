/- What is laid is read again, in plain Lean. -/
import Derived.Test.YtcmobcbecbajiaaItemSpec
namespace Go.Proofs.Ytcmobcbecbajiaa
open Go.RowKit
set_option linter.unusedSimpArgs false

theorem cut_mid {b A M C : List UInt8} {i j : Nat} (hb : b = A ++ (M ++ C)) (hi : A.length = i) (hj : i + M.length = j) : cut b i j = M := by
  subst hb
  unfold cut
  rw [← hi, List.drop_left, ← hj, ← hi, Nat.add_sub_cancel_left, List.take_left]

theorem bytes_back (s : ByteArray) : (⟨s.data.toList.toArray⟩ : ByteArray) = s := by cases s; simp

set_option maxRecDepth 10000 in
theorem take_record (x : Item) (r : List UInt8) (hg : x.good = true) : take (record x ++ r) = .ok x x.size := by
  have hgg := hg
  simp only [Item.good, Bool.and_eq_true, decide_eq_true_eq] at hgg
  obtain ⟨⟨⟨g1, g2⟩, g3⟩, g4⟩ := hgg
  obtain ⟨b, hb⟩ : ∃ b, b = record x ++ r := ⟨_, rfl⟩
  rw [← hb]
  have hkl : x.key.data.toList.length = x.key.size := Array.length_toList
  have hvl : x.val.data.toList.length = x.val.size := Array.length_toList
  have k0 : keyLen b = x.key.size := by
    unfold keyLen
    rw [hb]
    simp [record, hd24, UInt8.toNat_ofNat']
    omega
  have b3 : b.getD 3 0 = 82 := by
    rw [hb]
    simp [record, hd24, le]
  have c00 : cut b 1 3 = le 2 x.val.size := cut_mid (A := [UInt8.ofNat x.key.size]) (C := (82 :: (le 4 x.flags.toNat ++ (le 8 x.exp.toUInt64.toNat ++ le 8 x.ver.toNat))) ++ ((le 4 (crc (hd24 x)) ++ (le 4 (crc (body x)) ++ body x)) ++ r)) (by rw [hb]; simp [record, hd24]) rfl (by rw [le_length])
  have hv0 : valLen b = x.val.size := by
    unfold valLen
    rw [c00]
    exact num_le_of_lt (by omega)
  have he : endOf b = x.size := by unfold endOf; rw [k0, hv0]; rfl
  have c1 : cut b 4 8 = le 4 x.flags.toNat := cut_mid (A := UInt8.ofNat x.key.size :: (le 2 x.val.size ++ [82])) (C := (le 8 x.exp.toUInt64.toNat ++ le 8 x.ver.toNat) ++ ((le 4 (crc (hd24 x)) ++ (le 4 (crc (body x)) ++ body x)) ++ r)) (by rw [hb]; simp [record, hd24]) (by simp [le_length]) (by rw [le_length])
  have c2 : cut b 8 16 = le 8 x.exp.toUInt64.toNat := cut_mid (A := UInt8.ofNat x.key.size :: (le 2 x.val.size ++ (82 :: le 4 x.flags.toNat))) (C := le 8 x.ver.toNat ++ ((le 4 (crc (hd24 x)) ++ (le 4 (crc (body x)) ++ body x)) ++ r)) (by rw [hb]; simp [record, hd24]) (by simp [le_length]) (by rw [le_length])
  have c3 : cut b 16 24 = le 8 x.ver.toNat := cut_mid (A := UInt8.ofNat x.key.size :: (le 2 x.val.size ++ (82 :: (le 4 x.flags.toNat ++ le 8 x.exp.toUInt64.toNat)))) (C := (le 4 (crc (hd24 x)) ++ (le 4 (crc (body x)) ++ body x)) ++ r) (by rw [hb]; simp [record, hd24]) (by simp [le_length]) (by rw [le_length])
  have c4 : cut b 0 24 = hd24 x := cut_mid (A := []) (C := (le 4 (crc (hd24 x)) ++ (le 4 (crc (body x)) ++ body x)) ++ r) (by rw [hb]; simp [record]) rfl (by rw [hd24_length])
  have c5 : cut b 24 28 = le 4 (crc (hd24 x)) := cut_mid (A := hd24 x) (C := (le 4 (crc (body x)) ++ body x) ++ r) (by rw [hb]; simp [record]) (hd24_length x) (by rw [le_length])
  have c6 : cut b 28 32 = le 4 (crc (body x)) := cut_mid (A := hd24 x ++ le 4 (crc (hd24 x))) (C := body x ++ r) (by rw [hb]; simp [record]) (by rw [List.length_append, hd24_length, le_length]) (by rw [le_length])
  have c7 : cut b 32 x.size = body x := cut_mid (A := hd24 x ++ (le 4 (crc (hd24 x)) ++ le 4 (crc (body x)))) (C := r) (by rw [hb]; simp [record]) (by simp only [List.length_append, hd24_length, le_length]) (by rw [body_length]; unfold Item.size; omega)
  have c8 : cut b 32 (32 + x.key.size) = x.key.data.toList := cut_mid (A := hd24 x ++ (le 4 (crc (hd24 x)) ++ le 4 (crc (body x)))) (C := x.val.data.toList ++ r) (by rw [hb]; simp [record, body]) (by simp only [List.length_append, hd24_length, le_length]) (by rw [hkl])
  have c9 : cut b (32 + x.key.size) x.size = x.val.data.toList := cut_mid (A := hd24 x ++ (le 4 (crc (hd24 x)) ++ (le 4 (crc (body x)) ++ x.key.data.toList))) (C := r) (by rw [hb]; simp [record, body]) (by simp only [List.length_append, hd24_length, le_length, hkl]; omega) (by rw [hvl]; rfl)
  have hit : itemOf b = x := by
    unfold itemOf
    rw [k0, he, c8, c9, c1, c2, c3]
    rw [num_le_of_lt (by have := x.flags.toNat_lt; omega), num_le_of_lt (by have := x.exp.toUInt64.toNat_lt; omega), num_le_of_lt (by have := x.ver.toNat_lt; omega)]
    rw [bytes_back, bytes_back]
    simp
  have hlen : x.size ≤ b.length := by rw [hb, List.length_append, record_length]; omega
  have hs32 : 32 ≤ x.size := by unfold Item.size; omega
  have hne : ¬ (b.length = 0 ∨ b.getD 0 0 = 0) := by
    rintro (h | h)
    · omega
    · unfold keyLen at k0
      rw [h] at k0
      simp at k0
      omega
  unfold take
  rw [if_neg hne, hit, he]
  have h1 : headOk b = true := by
    unfold headOk
    rw [b3, c4, c5, num_le_of_lt (by have := crc_lt (hd24 x); omega)]
    simp; omega
  have h2 : bodyOk b = true := by
    unfold bodyOk
    rw [he, c6, c7, num_le_of_lt (by have := crc_lt (body x); omega)]
    simp; omega
  rw [h1, h2, hg]
  rfl

theorem take_zeros (n : Nat) : take (List.replicate n 0) = .none := by
  unfold take
  rw [if_pos]
  right
  cases n with
  | zero => rfl
  | succ n => simp [List.replicate_succ]

theorem listOf_records (l : List Item) (n : Nat) (hg : goods l = true) : listOf (records l ++ List.replicate n 0) = some l := by
  induction l with
  | nil =>
    rw [listOf_step]
    simp only [records, List.flatMap_nil, List.nil_append]
    rw [take_zeros]
  | cons x r ih =>
    simp only [goods, List.all_cons, Bool.and_eq_true] at hg
    rw [listOf_step]
    have e : records (x :: r) ++ List.replicate n 0 = record x ++ (records r ++ List.replicate n 0) := by simp [records]
    rw [e, take_record x _ hg.1]
    simp only
    rw [← record_length, List.drop_left, ih hg.2]
    rfl

theorem listOf_layB (l : List Item) (room : Nat) (hr : room ≤ 65536) (hg : goods l = true) (hf : (records l).length ≤ room) : listOf (layB l room) = some l ∧ (layB l room).length = room := by
  have he : layE l room = 0 := by
    unfold layE
    rw [hg, if_pos rfl, if_neg (by omega), if_neg (by omega)]
  unfold layB
  rw [if_pos he]
  refine ⟨listOf_records l _ hg, ?_⟩
  simp; omega
end Go.Proofs.Ytcmobcbecbajiaa
