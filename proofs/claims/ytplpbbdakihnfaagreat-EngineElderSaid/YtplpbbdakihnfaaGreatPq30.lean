/- Packed texts: EngWi, EngPj, EngGo, EngNw, EngX, EngKn, EngEl, OpenI. -/
import Derived.Test.YtplpbbdakihnfaaGreatPq28
import Derived.Test.YtplpbbdakihnfaaGreatPq29
import Derived.Test.YtplpbbdakihnfaaGreatPq24
import Derived.Shelf.SlSortCmp.QuietGrown
import Derived.Test.YtplpbbdakihnfaaGreatPq07
import Derived.ChangeMaps5
set_option linter.unusedSimpArgs false
set_option linter.unusedVariables false
section
namespace Go.Proofs.YtplpbbdakihnfaaGreat
open Go.RowKit
attribute [local go_sem ↓] Go.wp_at_zero Go.wp_at_succ
theorem eng_new30 (w : World) : Calls Tryz.prog 13 #[.int .i64 30] w fun e w' => ∃ h : DevH, e = .returned (.tuple #[.pointer (some ⟨h.d, 0, none⟩), .int .i64 0]) ∧ DevAt w' h (Dev.new 30) ∧ Chg No w w' ∧ ∀ k, h.foot k → w.heap.size ≤ k := new_calls 30 w (by decide) (by decide)
section
variable {g : Geo} {Q : Item → Prop} {K : ByteArray → Prop} {c : Nat} {X : Eng} {D : Dev} {ls : List (List Item)}
end
end Go.Proofs.YtplpbbdakihnfaaGreat
end

section
namespace Go.Proofs.YtplpbbdakihnfaaGreat
open Go.RowKit
section
variable {n : Nat} {ks : List ByteArray} {g : Geo} {Q Q2 : Item → Prop} {K : ByteArray → Prop} {c c2 : Nat} {X X2 Y : Eng} {D D2 E : Dev} {ls ls2 : List (List Item)}
structure Rid (ks : List ByteArray) (X X2 : Eng) (last : Nat) : Prop where
  no : ∀ k ∈ ks, X.may k = true → ∀ x : Item, x.key = k → x.ver.toNat ≤ last → X2.counts x = false
theorem Rid.same (h : Rid ks X X2 n) (hJ : Y.J = X2.J) (hb : Y.blk.horizon = X2.blk.horizon) : Rid ks X Y n := by
  refine ⟨fun k hk hm x hx hv => ?_⟩
  have := h.no k hk hm x hx hv
  unfold Eng.counts at this ⊢
  rw [hJ, hb]; exact this
end
end Go.Proofs.YtplpbbdakihnfaaGreat
end

section
namespace Go.Proofs.YtplpbbdakihnfaaGreat
open Go.RowKit
attribute [local go_sem ↓] Go.wp_at_zero Go.wp_at_succ
section
variable {w0 w w' : World} {h : DevH} {t : EngH} {g : Geo} {Q : Item → Prop} {K : ByteArray → Prop} {c : Nat} {X Y : Eng} {D E : Dev} {ls : List (List Item)}
theorem get_one (X : Eng) (D : Dev) (k : ByteArray) : (X.getE D k = 0 ∧ X.one D k = some (X.get D k)) ∨ (X.getE D k = 5 ∧ X.one D k = none ∧ X.get D k = Item.zero) := by
  unfold Eng.getE Eng.get
  cases h : X.one D k with
  | none => exact .inr ⟨rfl, rfl, rfl⟩
  | some x => exact .inl ⟨rfl, rfl⟩
theorem Aft.rid {X1 : Eng} {ks : List ByteArray} {last : Nat} (h : All g Q K c X D ls) (ha : Aft g Q K X ls Y E) (ho : Y.G.Ok) (hr : Rid ks X1 X last) (hQ : ∀ y, Q y → y.ver.toNat ≤ last → X1.may y.key = true) {k : ByteArray} (hk : k ∈ ks) {x : Item} (hx : Y.one E k = some x) : last < x.ver.toNat := by
  obtain ⟨h1, h2, h3, _⟩ := ha.told h ho hx
  rcases Nat.lt_or_ge last x.ver.toNat with h9 | h9
  · exact h9
  · have := hr.no k hk (by rw [← h1]; exact hQ x h2 h9) x h1 h9
    rw [this] at h3; cases h3
end
end Go.Proofs.YtplpbbdakihnfaaGreat
end

section
namespace Go.Proofs.YtplpbbdakihnfaaGreat
open Go.RowKit
def Vis (X : Eng) (ls : List (List Item)) (key : ByteArray) (y : Item) : Prop := (∃ l, ls[X.B.no key]? = some l ∧ y ∈ l ∧ y.key = key) ∨ X.G.view key = some y
structure Newest10 (al : List Item) (X : Eng) (ls : List (List Item)) : Prop where
  vis : ∀ key y, Vis X ls key y → y ∈ al ∧ ∀ z ∈ al, z.key = key → z.ver.toNat ≤ y.ver.toNat
  last : ∀ z ∈ al, z.good = true ∧ z.ver.toNat ≤ X.last
section
variable {w0 w w' : World} {h : DevH} {t : EngH} {g : Geo} {Q : Item → Prop} {K : ByteArray → Prop} {c : Nat} {X X2 : Eng} {D D2 : Dev} {ls ls2 : List (List Item)} {al : List Item}
theorem view_drop (G : Lg) (hd : (akeys G.keys).Nodup) (k key : ByteArray) : (G.drop k).view key = if k = key then none else G.view key := by
  have e : (G.drop k).view key = (aget (adel G.keys k) key).map (G.drop k).item := rfl
  rw [e, aget_adel _ hd]
  split
  · rfl
  · rfl
theorem one_vis (h : All g Q K c X D ls) {key : ByteArray} {x : Item} (hx : X.one D key = some x) : Vis X ls key x ∧ x.key = key ∧ X.may key = true ∧ X.counts x = true := by
  obtain ⟨h1, h2⟩ := one_cases hx
  obtain ⟨l, hl⟩ := h.bks.get_ key
  have ht := h.bks.tell key hl
  rcases h2 with ⟨h3, h4⟩ | ⟨h3, h4⟩
  · cases hf : l.find? (keyed key) with
    | none => rw [hf] at ht; rw [ht] at h4; exact absurd h4 (by decide)
    | some y =>
      rw [hf] at ht
      rw [ht] at h3
      have h5 : x = y := h3
      subst h5
      have hk : x.key = key := by have := List.find?_some hf; simpa [keyed] using this
      have hm := h.bks.may_ hl (List.mem_of_find?_eq_some hf)
      refine ⟨.inl ⟨l, hl, List.mem_of_find?_eq_some hf, hk⟩, hk, ?_, h1⟩
      unfold Eng.may
      rw [← hk, hm]; rfl
  · have hv := X.G.get_view key
    cases hw : X.G.view key with
    | none => rw [hw] at hv; rw [hv.2] at h4; exact absurd h4 (by decide)
    | some y =>
      rw [hw] at hv
      have h5 : x = y := by rw [h3, hv.1]; rfl
      subst h5
      refine ⟨.inr hw, (h.lgs.view_q hw).2, ?_, h1⟩
      unfold Eng.may
      have : X.G.has key = true := by
        unfold Lg.view at hw
        unfold Lg.has
        cases hp : aget X.G.keys key with
        | none => rw [hp] at hw; cases hw
        | some p => rfl
      rw [this]; simp
theorem Newest10.same (n : Newest10 al X ls) (hB : X2.B = X.B) (hG : X2.G = X.G) (hl : X.last ≤ X2.last) : Newest10 al X2 ls := by
  refine ⟨fun key y hv => n.vis key y ?_, fun z hz => ⟨(n.last z hz).1, Nat.le_trans (n.last z hz).2 hl⟩⟩
  unfold Vis at hv ⊢
  rw [hB, hG] at hv
  exact hv
theorem set_vis {i j : Nat} {l l' m : List Item} (hi : ls[i]? = some l) (h : (ls.set i l')[j]? = some m) : (j = i ∧ m = l') ∨ (j ≠ i ∧ ls[j]? = some m) := by
  by_cases e : i = j
  · subst e
    rw [List.getElem?_set_self (List.getElem?_eq_some_iff.1 hi).1] at h
    injection h with h
    exact .inl ⟨rfl, h.symm⟩
  · rw [List.getElem?_set_ne e] at h
    exact .inr ⟨fun h9 => e h9.symm, h⟩
theorem Newest10.put (n : Newest10 al X ls) {x : Item} (hg : x.good = true) (hx : ∀ z ∈ al, z.ver.toNat ≤ x.ver.toNat) (hl : X.last ≤ X2.last) (hxl : x.ver.toNat ≤ X2.last) (hv : ∀ key y, Vis X2 ls2 key y → (y = x ∧ key = x.key) ∨ (key ≠ x.key ∧ Vis X ls key y)) : Newest10 (al ++ [x]) X2 ls2 := by
  refine ⟨fun key y hy => ?_, fun z hz => ?_⟩
  · rcases hv key y hy with ⟨rfl, rfl⟩ | ⟨h1, h2⟩
    · refine ⟨by simp, fun z hz _ => ?_⟩
      rcases List.mem_append.1 hz with hz | hz
      · exact hx z hz
      · rw [List.mem_singleton.1 hz]; exact Nat.le_refl _
    · obtain ⟨k1, k2⟩ := n.vis key y h2
      refine ⟨List.mem_append_left _ k1, fun z hz hk => ?_⟩
      rcases List.mem_append.1 hz with hz | hz
      · exact k2 z hz hk
      · rw [List.mem_singleton.1 hz] at hk; exact absurd hk.symm h1
  · rcases List.mem_append.1 hz with hz | hz
    · exact ⟨(n.last z hz).1, Nat.le_trans (n.last z hz).2 hl⟩
    · rw [List.mem_singleton.1 hz]; exact ⟨hg, hxl⟩
theorem small_vis (h : All g Q K c X D ls) {x : Item} {l : List Item} (hl : ls[X.B.no x.key]? = some l) {key : ByteArray} {y : Item} (hv : Vis { X with B := X.B.add x, G := X.G.drop x.key } (ls.set (X.B.no x.key) (pleft l x)) key y) : (y = x ∧ key = x.key) ∨ (key ≠ x.key ∧ Vis X ls key y) := by
  rcases hv with ⟨m, h1, h2, h3⟩ | h1
  · have h1' : (ls.set (X.B.no x.key) (pleft l x))[(X.B.add x).no key]? = some m := h1
    rw [add_no] at h1'
    rcases set_vis hl h1' with ⟨e1, rfl⟩ | ⟨e1, e2⟩
    · rcases pleft_sub h2 with rfl | ⟨k1, k2⟩
      · exact .inl ⟨rfl, h3.symm⟩
      · exact .inr ⟨h3 ▸ k2, .inl ⟨l, by rw [e1]; exact hl, k1, h3⟩⟩
    · exact .inr ⟨fun e => e1 (by rw [e]), .inl ⟨m, e2, h2, h3⟩⟩
  · have h1' : (X.G.drop x.key).view key = some y := h1
    rw [view_drop _ h.lgs.live.nd] at h1'
    split at h1'
    · cases h1'
    · rename_i hne
      exact .inr ⟨fun e => hne e.symm, .inr h1'⟩
theorem great_vis {x : Item} {l : List Item} (hl : ls[X.B.no x.key]? = some l) (q3 : (X.G.put D x).G.view x.key = some x) (q4 : ∀ key, key ≠ x.key → (X.G.put D x).G.view key = none ∨ (X.G.put D x).G.view key = X.G.view key) {key : ByteArray} {y : Item} (hv : Vis (X.pgX D x) (ls.set (X.B.no x.key) (rid l x.key)) key y) : (y = x ∧ key = x.key) ∨ (key ≠ x.key ∧ Vis X ls key y) := by
  rcases hv with ⟨m, h1, h2, h3⟩ | h1
  · rcases set_vis hl h1 with ⟨e1, rfl⟩ | ⟨e1, e2⟩
    · obtain ⟨k1, k2⟩ := mem_rid.1 h2
      exact .inr ⟨h3 ▸ k2, .inl ⟨l, by rw [← hl]; exact congrArg _ e1, k1, h3⟩⟩
    · exact .inr ⟨fun e => e1 (by show X.B.no key = _; rw [e]), .inl ⟨m, e2, h2, h3⟩⟩
  · have h1' : (X.G.put D x).G.view key = some y := h1
    by_cases hk : key = x.key
    · rw [hk, q3] at h1'
      injection h1' with h1'
      exact .inl ⟨h1'.symm, hk⟩
    · rcases q4 key hk with e | e
      · rw [e] at h1'; cases h1'
      · rw [e] at h1'; exact .inr ⟨hk, .inr h1'⟩
theorem Heng.putNew (H : Heng w0 h t g Q K c X D ls w) (hc : c + 1 ≤ 1000000) (n : Newest10 al X ls) (y : Item) (hk : y.key.size ≤ 140737488351232) (hv : y.val.size ≤ 140737488351232) (hnew : ¬ Q y) (hK : ∀ z, Q z → z.key = y.key → K y.key) (hy : ∀ z ∈ al, z.ver.toNat ≤ y.ver.toNat) (hyl : y.ver.toNat ≤ X.last) :
    Calls Tryz.prog 16 #[.pointer (some ⟨t.E, 0, none⟩), itemV y] w fun e w' => ∃ er t' X' D' ls' al', e = .returned (.int .i64 er) ∧ Hgo w0 w h t g (fun z => Q z ∨ (z = y ∧ y.good = true)) K (c + 1) X' D' ls' t' w' ∧ Newest10 al' X' ls' ∧ X'.last = X.last ∧ ((er = 0 ∧ y.good = true ∧ y.size ≤ 1472 ∧ al' = al ++ [y]) ∨ (er ≠ 0 ∧ ¬ (y.good = true ∧ y.size ≤ 1472) ∧ al' = al)) := by
  by_cases hg : y.good = true
  · by_cases hs : y.size ≤ 1472
    · obtain ⟨l, hl⟩ := H.all.bks.get_ y.key
      by_cases h1 : y.size ≤ 120
      · obtain ⟨_, _, _, q4, _⟩ := H.all.small hc hg h1 hnew hK hl
        refine (H.small hc hg h1 hnew hK hl).mono ?_
        rintro e w' ⟨rfl, s⟩
        rw [q4] at s
        exact ⟨0, t, _, _, _, al ++ [y], rfl, s.quo (fun z hz => hz.imp id (fun e => ⟨e, hg⟩)) (Nat.le_refl _) hc, n.put hg hy (Nat.le_refl _) hyl (fun key z hz => small_vis H.all hl hz), rfl, .inl ⟨rfl, hg, hs, rfl⟩⟩
      · obtain ⟨_, _, q3, q4, _⟩ := H.all.great hc hg hs hnew hK hl
        refine (H.great hc hg (by omega) hs hnew hK hl).mono ?_
        rintro e w' ⟨t', rfl, s⟩
        exact ⟨0, t', _, _, _, al ++ [y], rfl, s.quo (fun z hz => hz.imp id (fun e => ⟨e, hg⟩)) (Nat.le_refl _) hc, n.put hg hy (Nat.le_refl _) hyl (fun key z hz => great_vis hl q3 q4 hz), rfl, .inl ⟨rfl, hg, hs, rfl⟩⟩
    · refine (H.bad y hk hv (.inr (by omega))).mono ?_
      rintro e w' ⟨rfl, hch⟩
      exact ⟨_, t, X, D, ls, al, rfl, ((Hgo.rfl_ H).no hch).quo (fun z hz => .inl hz) (Nat.le_succ c) hc, n, rfl, .inr ⟨by simp [hg], fun h9 => hs h9.2, rfl⟩⟩
  · have hgf : y.good = false := by simpa using hg
    refine (H.bad y hk hv (.inl hgf)).mono ?_
    rintro e w' ⟨rfl, hch⟩
    exact ⟨_, t, X, D, ls, al, rfl, ((Hgo.rfl_ H).no hch).quo (fun z hz => .inl hz) (Nat.le_succ c) hc, n, rfl, .inr ⟨by simp [hgf], fun h9 => hg h9.1, rfl⟩⟩
end
end Go.Proofs.YtplpbbdakihnfaaGreat
end

section
namespace Go.Proofs.YtplpbbdakihnfaaGreat
open Go.RowKit
attribute [local go_sem ↓] Go.wp_at_zero Go.wp_at_succ
section
variable {w w' : World} {h : DevH} {D : Dev}
end
end Go.Proofs.YtplpbbdakihnfaaGreat
end

section
namespace Go.Proofs.YtplpbbdakihnfaaGreat
open Go.RowKit
attribute [local go_sem ↓] Go.wp_at_zero Go.wp_at_succ
def zs (n : Nat) : ByteArray := ⟨(List.replicate n (0 : UInt8)).toArray⟩
theorem zs_size (n : Nat) : (zs n).size = n := by simp [zs, ByteArray.size]
theorem mk_bytes (n : Nat) (hn : n ≤ 100000) (W : World) : (Instr.makeSlice tBytes (.int .i64 n) (.int .i64 n)).run Tryz.prog W = .ok (.slice (some ⟨W.heap.size, 0, none⟩) n n) (W.alloc (.cells (mk n (.int .u8 0)) tU8)) := run_mk W Tryz.underlying40 ti_u8 rfl n (by omega) (by omega)
theorem cv_bytes {n : Nat} {W : World} {g : Nat} (h : Blk W g tU8 (mk n (.int .u8 0))) : (convert tBytes 9 (.slice (some ⟨g, 0, none⟩) n n)).run Tryz.prog W = .ok (.string (zs n)) W := by
  refine run_b2s W (some ⟨g, 0, none⟩) n n (List.replicate n 0) Tryz.underlying40 Tryz.underlying5 Tryz.underlying9 tU8 ?_
  have := Rd.ofBlk (k := n) h (by simp [mk])
  simpa [mk, bys] using this
end Go.Proofs.YtplpbbdakihnfaaGreat
end

section
namespace Go.Proofs.YtplpbbdakihnfaaGreat
open Go.RowKit
attribute [local go_sem ↓] Go.wp_at_zero Go.wp_at_succ
def gEld : Geo := ⟨3, 1, 1, 0⟩
def Uq (X : Eng) : Item → Prop := fun z => z.good = true ∧ z.ver.toNat ≤ X.last
def eitem (key : ByteArray) (n v : Nat) : Item := { key := key, val := zs n, flags := 0, exp := 0, ver := UInt64.ofNat v }
theorem eitem_facts (key : ByteArray) (n v : Nat) (hk : 1 ≤ key.size ∧ key.size ≤ 21) (hn : n ≤ 500) (hv : 0 < v ∧ v ≤ 100) : (eitem key n v).good = true ∧ (eitem key n v).size ≤ 1472 ∧ (eitem key n v).ver.toNat = v ∧ (eitem key n v).key.size ≤ 140737488351232 ∧ (eitem key n v).val.size ≤ 140737488351232 ∧ itemV (eitem key n v) = .agg #[.string key, .string (zs n), .int .u32 0, .int .i64 0, .int .u64 ((v : Nat) : Int)] := by
  have hver : (eitem key n v).ver.toNat = v := by
    show (UInt64.ofNat v).toNat = v
    rw [UInt64.toNat_ofNat']
    exact Nat.mod_eq_of_lt (by omega)
  have e1 : (eitem key n v).key = key := rfl
  have e2 : (eitem key n v).val.size = n := zs_size n
  refine ⟨?_, ?_, hver, by rw [e1]; omega, by rw [e2]; omega, ?_⟩
  · unfold Item.good
    rw [hver, e1, e2]
    simp only [Bool.and_eq_true, decide_eq_true_eq]
    omega
  · unfold Item.size
    rw [e1, e2]; omega
  · show Value.agg #[.string key, .string (zs n), .int .u32 0, .int .i64 0, .int .u64 (((eitem key n v).ver.toNat : Nat) : Int)] = _
    rw [hver]
structure ElderSt (w0 : World) (h : DevH) (tE : Nat) (key : ByteArray) (k : Nat) (wr : World) : Prop where
  st : ∃ t X D ls al, t.E = tE ∧ Heng w0 h t gEld (Uq X) (fun _ => True) (1 + 2 * k) X D ls wr ∧ Newest10 al X ls ∧ X.last = k ∧ (∀ z ∈ al, z.key = key → z.ver.toNat ≤ 2) ∧ (2 ≤ k → ∃ z ∈ al, z.key = key ∧ z.ver.toNat = 2)
set_option maxRecDepth 100000 in
set_option maxHeartbeats 8000000 in
theorem eelder_calls (w : World) (key : ByteArray) (hks : key.size ≤ 140737488351232) (f s n : Int) (hf : -9223372036854775808 ≤ f ∧ f ≤ 9223372036854775807) (hs : -9223372036854775808 ≤ s ∧ s ≤ 9223372036854775807) (hn : -9223372036854775808 ≤ n ∧ n ≤ 9223372036854775807) :
    Calls Tryz.prog 5 #[.string key, .int .i64 f, .int .i64 s, .int .i64 n] w fun e w' => e = .returned (.bool true) ∧ Chg No w w' := by
  have HAW := Lib.hid (awake10_calls w)
  have HN0 := fun W => Lib.hid (eng_new30 W)
  have hkb : (key.size : Int) ≤ 140737488351232 := by omega
  by_cases c1 : (key.size : Int) < 1
  · skip
    go_enter Tryz.func5, Tryz.ntmps5
    go_wp2_with fail
    refine HAW.out.mono ?_
    rintro e w1 ⟨rfl, hc1⟩
    have HC1 := Lib.hid hc1
    clear hc1
    go_wp2_with fail
    go_ret
    exact ⟨rfl, HC1.out⟩
  by_cases c2 : (20 : Int) < (key.size : Int)
  · skip
    go_enter Tryz.func5, Tryz.ntmps5
    go_wp2_with fail
    refine HAW.out.mono ?_
    rintro e w1 ⟨rfl, hc1⟩
    have HC1 := Lib.hid hc1
    clear hc1
    go_wp2_with fail
    go_ret
    exact ⟨rfl, HC1.out⟩
  by_cases c3 : f < 0
  · skip
    go_enter Tryz.func5, Tryz.ntmps5
    go_wp2_with fail
    refine HAW.out.mono ?_
    rintro e w1 ⟨rfl, hc1⟩
    have HC1 := Lib.hid hc1
    clear hc1
    go_wp2_with fail
    go_ret
    exact ⟨rfl, HC1.out⟩
  by_cases c4 : 500 < f
  · skip
    go_enter Tryz.func5, Tryz.ntmps5
    go_wp2_with fail
    refine HAW.out.mono ?_
    rintro e w1 ⟨rfl, hc1⟩
    have HC1 := Lib.hid hc1
    clear hc1
    go_wp2_with fail
    go_ret
    exact ⟨rfl, HC1.out⟩
  by_cases c5 : s < 0
  · skip
    go_enter Tryz.func5, Tryz.ntmps5
    go_wp2_with fail
    refine HAW.out.mono ?_
    rintro e w1 ⟨rfl, hc1⟩
    have HC1 := Lib.hid hc1
    clear hc1
    go_wp2_with fail
    go_ret
    exact ⟨rfl, HC1.out⟩
  by_cases c6 : 500 < s
  · skip
    go_enter Tryz.func5, Tryz.ntmps5
    go_wp2_with fail
    refine HAW.out.mono ?_
    rintro e w1 ⟨rfl, hc1⟩
    have HC1 := Lib.hid hc1
    clear hc1
    go_wp2_with fail
    go_ret
    exact ⟨rfl, HC1.out⟩
  by_cases c7 : n < 0
  · skip
    go_enter Tryz.func5, Tryz.ntmps5
    go_wp2_with fail
    refine HAW.out.mono ?_
    rintro e w1 ⟨rfl, hc1⟩
    have HC1 := Lib.hid hc1
    clear hc1
    go_wp2_with fail
    go_ret
    exact ⟨rfl, HC1.out⟩
  by_cases c8 : 20 < n
  · skip
    go_enter Tryz.func5, Tryz.ntmps5
    go_wp2_with fail
    refine HAW.out.mono ?_
    rintro e w1 ⟨rfl, hc1⟩
    have HC1 := Lib.hid hc1
    clear hc1
    go_wp2_with fail
    go_ret
    exact ⟨rfl, HC1.out⟩
  obtain ⟨f, rfl⟩ : ∃ f' : Nat, f = f' := ⟨f.toNat, by omega⟩
  obtain ⟨s, rfl⟩ : ∃ s' : Nat, s = s' := ⟨s.toNat, by omega⟩
  obtain ⟨n, rfl⟩ : ∃ n' : Nat, n = n' := ⟨n.toNat, by omega⟩
  have HK := Lib.hid (And.intro c1 (And.intro c2 (And.intro c4 (And.intro c6 c8))))
  go_enter Tryz.func5, Tryz.ntmps5
  go_wp2_with fail
  refine HAW.out.mono ?_
  rintro e w1 ⟨rfl, hc1⟩
  have HC1 := Lib.hid hc1
  clear hc1 HAW
  go_wp2_with fail
  refine (HN0 _).out.mono ?_
  rintro e w2 ⟨h, rfl, hd2, hc2, hf2⟩
  have HD2 := Lib.hid hd2
  have HC2 := Lib.hid (HC1.out.trans hc2)
  have HF2 : Hid (∀ k, h.foot k → w.heap.size ≤ k) := fun k hk => Nat.le_trans HC1.out.size (hf2 k hk)
  clear hd2 hc2 hf2 HN0 HC1
  go_wp2_with fail
  obtain ⟨n1, nn2, nn3, nn4, nn5⟩ := all_new 30 gEld rfl (by decide) (fun _ => True)
  have HO := Lib.hid (Heng.opened (w0 := w) (h := h) HD2.out HF2.out HC2.out (g := gEld) rfl (by decide) rfl (by rw [n1]; decide) (by rw [n1]; decide) nn2 nn4)
  rw [n1, show gEld.V = .agg #[.int .i64 3, .int .i64 1, .int .i64 1, .int .i64 0] from rfl] at HO
  obtain ⟨X0, hX0⟩ : ∃ X0, X0 = Eng.opened (Dev.new 30) gEld := ⟨_, rfl⟩
  obtain ⟨D0, hD0⟩ : ∃ D0, D0 = (Dev.new 30).stD (Eng.now (Dev.new 30)) := ⟨_, rfl⟩
  rw [← hX0, ← hD0] at HO
  rw [← hX0] at nn3
  have HX0 := Lib.hid nn3
  clear n1 nn2 nn3 nn4 nn5 hX0 hD0 HD2 HC2
  refine HO.out.mono ?_
  rintro e w4 ⟨t, rfl, h4, hc4, hall⟩
  have H4 := Lib.hid h4
  clear h4 hc4 hall HO
  rw [sbV_eq]
  go_wp2_with fail
  have a5 : Chg No w4 (w4.alloc (.cells #[.int .u64 Sb.zero.seq, .int .u64 Sb.zero.epoch, .int .u64 Sb.zero.reserved, .int .u64 Sb.zero.horizon, .int .u64 Sb.zero.gen, .bool Sb.zero.clean, .int .i64 Sb.zero.image] tSb)) := (Chg.refl No w4).alloc _
  have HNS : Hid (Newest10 [] X0 (List.replicate gEld.b [])) := by
    refine ⟨fun key y hv => ?_, fun z hz => by cases hz⟩
    exfalso
    rcases hv with ⟨m, h1, h2, _⟩ | h1
    · rw [List.getElem?_replicate] at h1
      split at h1
      · injection h1 with h1; subst h1; cases h2
      · cases h1
    · have hG : X0.G.keys = [] := by rw [HX0.out]; rfl
      unfold Lg.view at h1
      rw [hG] at h1
      have h2 : none = some y := h1
      cases h2
  have hl0 : X0.last = 0 := by rw [HX0.out]; rfl
  have HS0 := Lib.hid (ElderSt.mk (w0 := w) (h := h) (tE := t.E) (key := key) (k := 0) (wr := w4.alloc (.cells #[.int .u64 Sb.zero.seq, .int .u64 Sb.zero.epoch, .int .u64 Sb.zero.reserved, .int .u64 Sb.zero.horizon, .int .u64 Sb.zero.gen, .bool Sb.zero.clean, .int .i64 Sb.zero.image] tSb)) ⟨t, X0, D0, _, [], rfl, ⟨(H4.out.chgNo a5).dev, (H4.out.chgNo a5).eng, H4.out.all.mono (fun _ hf => hf.elim) (Nat.le_refl _) (by decide), (H4.out.chgNo a5).far, (H4.out.chgNo a5).chg⟩, HNS.out, hl0, (fun z hz => by cases hz), (fun h9 => by omega)⟩)
  clear a5 H4 hl0
  clear c1 c2 c3 c4 c5 c6 c7 c8 hf hs hn
  have hn22 : n ≤ 20 := by have := HK.out.2.2.2.2; omega
  have hf22 : f ≤ 500 := by have := HK.out.2.2.1; omega
  have hs22 : s ≤ 500 := by have := HK.out.2.2.2.1; omega
  have hwn : IntKind.i64.wrap ((n : Int) + 2) = ((n + 2 : Nat) : Int) := IntWalk.i64_in _ (by omega)
  obtain ⟨m, hm⟩ : ∃ m, m = n + 2 := ⟨_, rfl⟩
  rw [← hm] at hwn
  have hm22 : m ≤ 22 := by omega
  have HM := Lib.hid hm
  clear hm
  go_loopg [14] m (fun g v14 wr => ∃ k : Nat, v14 = .int .i64 k ∧ k ≤ m ∧ m - k = g ∧ Hid (ElderSt w h t.E key k wr))
  case atStart => exact ⟨0, rfl, by omega, by omega, HS0.out⟩
  case round =>
    obtain ⟨k, rfl, hk, hg, HH⟩ := hrel
    obtain ⟨t1, X, D, ls, al, hE1, h1, hn1, hxl, ha1, ha2⟩ := HH.out.st
    have HE1 := Lib.hid hE1
    have HH1 := Lib.hid h1
    have N1 := Lib.hid hn1
    have A1 := Lib.hid (And.intro hxl (And.intro ha1 ha2))
    clear hE1 h1 hn1 hxl ha1 ha2 HH HS0
    by_cases hkm : k < m
    · have N1L : Hid (∀ z ∈ al, z.ver.toNat ≤ k) := fun z hz => by have := (N1.out.last z hz).2; have := A1.out.1; omega
      have HV := Lib.hid (HH1.out.version (by omega))
      obtain ⟨f1, f2, f3⟩ := ver_facts HH1.out (by omega)
      obtain ⟨_, _, _, _, _, _, g7, g8, _⟩ := HH1.out.all.run.version (by omega)
      obtain ⟨X3, hX3⟩ : ∃ X3, X3 = X.verX D := ⟨_, rfl⟩
      obtain ⟨D3, hD3⟩ : ∃ D3, D3 = X.verD D := ⟨_, rfl⟩
      rw [← hX3, ← hD3, HE1.out, A1.out.1] at HV
      rw [← hX3, A1.out.1] at f1
      rw [← hX3] at g7 g8
      have F := Lib.hid f1
      have N3 := Lib.hid (N1.out.same g7 g8 (by rw [f1, A1.out.1]; omega))
      clear hX3 hD3 f1 f2 f3 g7 g8
      go_wp2_with fail
      refine HV.out.mono ?_
      rintro e w3 ⟨rfl, s3⟩
      have HH3 := Lib.hid s3.st
      clear s3 HV N1 HH1
      have HQN : Hid (¬ k + 1 ≤ X.last) := by have := A1.out.1; show ¬ _; omega
      rcases (by omega : k = 0 ∨ k = 1 ∨ 2 ≤ k) with rfl | rfl | hk2
      · have hmk := mk_bytes f (by omega)
        have hcv : ∀ c : Obj, (convert tBytes 9 (.slice (some ⟨w3.heap.size + 1, 0, none⟩) f f)).run Tryz.prog ((w3.alloc c).alloc (.cells (mk f (.int .u8 0)) tU8)) = .ok (.string (zs f)) ((w3.alloc c).alloc (.cells (mk f (.int .u8 0)) tU8)) := fun c => cv_bytes (by have := Blk.new (w3.alloc c) tU8 (mk f (.int .u8 0)); rw [World.size_alloc] at this; exact this)
        have HCW : ∀ a b, Hid (Chg No w3 ((w3.alloc a).alloc b)) := fun a b => ((Chg.refl No w3).alloc _).alloc _
        have hyk : 1 ≤ key.size ∧ key.size ≤ 21 := by have := HK.out.1; have := HK.out.2.1; omega
        go_wp2_with fail
        have HYN : Hid ((key = key → 0 + 1 ≤ 2) ∧ (0 = 1 → key = key)) := ⟨fun _ => by omega, fun h9 => by omega⟩
        have HCW := HCW (.cells #[.string key, .string (zs f), .int .u32 0, .int .i64 0, .int .u64 1] tItem) (.cells (mk f (.int .u8 0)) tU8)
        have HYF := Lib.hid (eitem_facts key f (0 + 1) hyk (by omega) (by omega))
        have HP := Lib.hid ((HH3.out.chgNo HCW.out).putNew (by omega) N3.out (eitem key f (0 + 1)) HYF.out.2.2.2.1 HYF.out.2.2.2.2.1 (by
          rintro ⟨_, h9⟩
          rw [HYF.out.2.2.1] at h9
          have := HQN.out
          omega) (fun _ _ _ => True.intro) (fun z hz => by
          have h9 := (N1L.out z hz)
          have h8 := A1.out.1
          rw [HYF.out.2.2.1]
          omega) (by rw [HYF.out.2.2.1, F.out]; exact Nat.le_refl _))
        rw [HE1.out, HYF.out.2.2.2.2.2] at HP
        skip
        refine HP.out.mono ?_
        rintro e w6 ⟨er, t6, X6, D6, ls6, al6, rfl, s6, n6, e6, hor⟩
        have hor2 : er = 0 ∧ al6 = al ++ [eitem key f (0 + 1)] := by
          rcases hor with ⟨r1, _, _, r2⟩ | ⟨_, r1, _⟩
          · exact ⟨r1, r2⟩
          · exact absurd ⟨HYF.out.1, HYF.out.2.1⟩ r1
        obtain ⟨rfl, rfl⟩ := hor2
        have HS6 : Hid (ElderSt w h t.E key (0 + 1) w6) := ⟨t6, X6, D6, ls6, _, s6.E.trans HE1.out, ⟨s6.st.dev, s6.st.eng, s6.st.all.mono (fun z hz => by
          have h7 := F.out
          rcases hz with ⟨q1, q2⟩ | ⟨rfl, q1⟩
          · exact ⟨q1, by have := A1.out.1; rw [e6, h7]; omega⟩
          · exact ⟨q1, by rw [e6, HYF.out.2.2.1, h7]; exact Nat.le_refl _⟩) (by omega) (by omega), s6.st.far, s6.st.chg⟩, n6, e6.trans F.out, fun z hz hk => by
            rcases List.mem_append.1 hz with hz | hz
            · exact A1.out.2.1 z hz hk
            · rw [List.mem_singleton.1 hz] at hk ⊢
              rw [HYF.out.2.2.1]
              exact HYN.out.1 hk, fun h9 => by
            by_cases h8 : 2 ≤ 0
            · obtain ⟨z, z1, z2⟩ := A1.out.2.2 h8
              exact ⟨z, List.mem_append_left _ z1, z2⟩
            · exact ⟨_, List.mem_append_right _ (List.mem_singleton.2 rfl), HYN.out.2 (by omega), by have := HYF.out.2.2.1; omega⟩⟩
        clear s6 n6 e6 hor HP
        go_wp2_with fail
        go_roundg (m - (0 + 1))
        case measure => omega
        case rel => exact ⟨0 + 1, by go_num, by omega, rfl, HS6.out⟩
      · have hmk := mk_bytes s (by omega)
        have hcv : ∀ c : Obj, (convert tBytes 9 (.slice (some ⟨w3.heap.size + 1, 0, none⟩) s s)).run Tryz.prog ((w3.alloc c).alloc (.cells (mk s (.int .u8 0)) tU8)) = .ok (.string (zs s)) ((w3.alloc c).alloc (.cells (mk s (.int .u8 0)) tU8)) := fun c => cv_bytes (by have := Blk.new (w3.alloc c) tU8 (mk s (.int .u8 0)); rw [World.size_alloc] at this; exact this)
        have HCW : ∀ a b, Hid (Chg No w3 ((w3.alloc a).alloc b)) := fun a b => ((Chg.refl No w3).alloc _).alloc _
        have hyk : 1 ≤ key.size ∧ key.size ≤ 21 := by have := HK.out.1; have := HK.out.2.1; omega
        go_wp2_with fail
        have HYN : Hid ((key = key → 1 + 1 ≤ 2) ∧ (1 = 1 → key = key)) := ⟨fun _ => by omega, fun h9 => rfl⟩
        have HCW := HCW (.cells #[.string key, .string (zs s), .int .u32 0, .int .i64 0, .int .u64 2] tItem) (.cells (mk s (.int .u8 0)) tU8)
        have HYF := Lib.hid (eitem_facts key s (1 + 1) hyk (by omega) (by omega))
        have HP := Lib.hid ((HH3.out.chgNo HCW.out).putNew (by omega) N3.out (eitem key s (1 + 1)) HYF.out.2.2.2.1 HYF.out.2.2.2.2.1 (by
          rintro ⟨_, h9⟩
          rw [HYF.out.2.2.1] at h9
          have := HQN.out
          omega) (fun _ _ _ => True.intro) (fun z hz => by
          have h9 := (N1L.out z hz)
          have h8 := A1.out.1
          rw [HYF.out.2.2.1]
          omega) (by rw [HYF.out.2.2.1, F.out]; exact Nat.le_refl _))
        rw [HE1.out, HYF.out.2.2.2.2.2] at HP
        skip
        refine HP.out.mono ?_
        rintro e w6 ⟨er, t6, X6, D6, ls6, al6, rfl, s6, n6, e6, hor⟩
        have hor2 : er = 0 ∧ al6 = al ++ [eitem key s (1 + 1)] := by
          rcases hor with ⟨r1, _, _, r2⟩ | ⟨_, r1, _⟩
          · exact ⟨r1, r2⟩
          · exact absurd ⟨HYF.out.1, HYF.out.2.1⟩ r1
        obtain ⟨rfl, rfl⟩ := hor2
        have HS6 : Hid (ElderSt w h t.E key (1 + 1) w6) := ⟨t6, X6, D6, ls6, _, s6.E.trans HE1.out, ⟨s6.st.dev, s6.st.eng, s6.st.all.mono (fun z hz => by
          have h7 := F.out
          rcases hz with ⟨q1, q2⟩ | ⟨rfl, q1⟩
          · exact ⟨q1, by have := A1.out.1; rw [e6, h7]; omega⟩
          · exact ⟨q1, by rw [e6, HYF.out.2.2.1, h7]; exact Nat.le_refl _⟩) (by omega) (by omega), s6.st.far, s6.st.chg⟩, n6, e6.trans F.out, fun z hz hk => by
            rcases List.mem_append.1 hz with hz | hz
            · exact A1.out.2.1 z hz hk
            · rw [List.mem_singleton.1 hz] at hk ⊢
              rw [HYF.out.2.2.1]
              exact HYN.out.1 hk, fun h9 => by
            by_cases h8 : 2 ≤ 1
            · obtain ⟨z, z1, z2⟩ := A1.out.2.2 h8
              exact ⟨z, List.mem_append_left _ z1, z2⟩
            · exact ⟨_, List.mem_append_right _ (List.mem_singleton.2 rfl), HYN.out.2 (by omega), by have := HYF.out.2.2.1; omega⟩⟩
        clear s6 n6 e6 hor HP
        go_wp2_with fail
        go_roundg (m - (1 + 1))
        case measure => omega
        case rel => exact ⟨1 + 1, by go_num, by omega, rfl, HS6.out⟩
      · have hmk : ∀ W : World, (Instr.makeSlice tBytes (.int .i64 60) (.int .i64 60)).run Tryz.prog W = .ok (.slice (some ⟨W.heap.size, 0, none⟩) 60 60) (W.alloc (.cells (mk 60 (.int .u8 0)) tU8)) := mk_bytes 60 (by decide)
        have hw8 : IntKind.u8.wrap (k : Int) = (k : Int) := IntWalk.u8_in _ (by omega)
        have q0 : ((k : Int) == 0) = false := by simp; omega
        have q1 : ((k : Int) == 1) = false := by simp; omega
        have hcv : ∀ c : Obj, (convert tBytes 9 (.slice (some ⟨w3.heap.size + 1, 0, none⟩) 1 1)).run Tryz.prog ((w3.alloc c).alloc (.cells #[.int .u8 (k : Int)] tU8)) = .ok (.string ⟨#[UInt8.ofNat k]⟩) ((w3.alloc c).alloc (.cells #[.int .u8 (k : Int)] tU8)) := by
          intro c
          have hb0 := Blk.new (w3.alloc c) tU8 #[.int .u8 (k : Int)]
          rw [World.size_alloc] at hb0
          have hb := Rd.ofBlk (k := 1) hb0 (by simp)
          have e : (#[Value.int .u8 (k : Int)].toList.take 1) = bys [UInt8.ofNat k] := by
            have : ((UInt8.ofNat k).toNat : Int) = (k : Int) := by rw [UInt8.toNat_ofNat']; omega
            simp [bys]
            omega
          rw [e] at hb
          exact run_b2s _ _ 1 1 [UInt8.ofNat k] Tryz.underlying40 Tryz.underlying5 Tryz.underlying9 tU8 hb
        have hcv2 : ∀ c b : Obj, (convert tBytes 9 (.slice (some ⟨w3.heap.size + 1 + 1, 0, none⟩) 60 60)).run Tryz.prog (((w3.alloc c).alloc b).alloc (.cells (mk 60 (.int .u8 0)) tU8)) = .ok (.string (zs 60)) (((w3.alloc c).alloc b).alloc (.cells (mk 60 (.int .u8 0)) tU8)) := fun c b => cv_bytes (by have := Blk.new ((w3.alloc c).alloc b) tU8 (mk 60 (.int .u8 0)); rw [World.size_alloc, World.size_alloc] at this; exact this)
        go_wp2_with fail
        have hes : (key ++ ⟨#[UInt8.ofNat k]⟩ : ByteArray).size = key.size + 1 := by rw [ByteArray.size_append]; rfl
        have hyk : 1 ≤ (key ++ ⟨#[UInt8.ofNat k]⟩ : ByteArray).size ∧ (key ++ ⟨#[UInt8.ofNat k]⟩ : ByteArray).size ≤ 21 := by have := HK.out.1; have := HK.out.2.1; omega
        have HYN : Hid (((key ++ ⟨#[UInt8.ofNat k]⟩ : ByteArray) = key → k + 1 ≤ 2) ∧ (k = 1 → (key ++ ⟨#[UInt8.ofNat k]⟩ : ByteArray) = key)) := ⟨fun h9 => by rw [h9] at hes; omega, fun h9 => by omega⟩
        have HCW : Hid (Chg No w3 (((w3.alloc (.cells #[.string (key ++ ⟨#[UInt8.ofNat k]⟩), .string (zs 60), .int .u32 0, .int .i64 0, .int .u64 ((k : Int) + 1)] tItem)).alloc (.cells #[.int .u8 (k : Int)] tU8)).alloc (.cells (mk 60 (.int .u8 0)) tU8))) := (((Chg.refl No w3).alloc _).alloc _).alloc _
        clear hes
        have HYF := Lib.hid (eitem_facts (key ++ ⟨#[UInt8.ofNat k]⟩) 60 (k + 1) hyk (by omega) (by omega))
        have HP := Lib.hid ((HH3.out.chgNo HCW.out).putNew (by omega) N3.out (eitem (key ++ ⟨#[UInt8.ofNat k]⟩) 60 (k + 1)) HYF.out.2.2.2.1 HYF.out.2.2.2.2.1 (by
          rintro ⟨_, h9⟩
          rw [HYF.out.2.2.1] at h9
          have := HQN.out
          omega) (fun _ _ _ => True.intro) (fun z hz => by
          have h9 := (N1L.out z hz)
          have h8 := A1.out.1
          rw [HYF.out.2.2.1]
          omega) (by rw [HYF.out.2.2.1, F.out]; exact Nat.le_refl _))
        rw [HE1.out, HYF.out.2.2.2.2.2] at HP
        rw [show (((k + 1 : Nat)) : Int) = (k : Int) + 1 from by omega] at HP
        refine HP.out.mono ?_
        rintro e w6 ⟨er, t6, X6, D6, ls6, al6, rfl, s6, n6, e6, hor⟩
        have hor2 : er = 0 ∧ al6 = al ++ [eitem (key ++ ⟨#[UInt8.ofNat k]⟩) 60 (k + 1)] := by
          rcases hor with ⟨r1, _, _, r2⟩ | ⟨_, r1, _⟩
          · exact ⟨r1, r2⟩
          · exact absurd ⟨HYF.out.1, HYF.out.2.1⟩ r1
        obtain ⟨rfl, rfl⟩ := hor2
        have HS6 : Hid (ElderSt w h t.E key (k + 1) w6) := ⟨t6, X6, D6, ls6, _, s6.E.trans HE1.out, ⟨s6.st.dev, s6.st.eng, s6.st.all.mono (fun z hz => by
          have h7 := F.out
          rcases hz with ⟨q1, q2⟩ | ⟨rfl, q1⟩
          · exact ⟨q1, by have := A1.out.1; rw [e6, h7]; omega⟩
          · exact ⟨q1, by rw [e6, HYF.out.2.2.1, h7]; exact Nat.le_refl _⟩) (by omega) (by omega), s6.st.far, s6.st.chg⟩, n6, e6.trans F.out, fun z hz hk => by
            rcases List.mem_append.1 hz with hz | hz
            · exact A1.out.2.1 z hz hk
            · rw [List.mem_singleton.1 hz] at hk ⊢
              rw [HYF.out.2.2.1]
              exact HYN.out.1 hk, fun h9 => by
            by_cases h8 : 2 ≤ k
            · obtain ⟨z, z1, z2⟩ := A1.out.2.2 h8
              exact ⟨z, List.mem_append_left _ z1, z2⟩
            · exact ⟨_, List.mem_append_right _ (List.mem_singleton.2 rfl), HYN.out.2 (by omega), by have := HYF.out.2.2.1; omega⟩⟩
        clear s6 n6 e6 hor HP
        go_wp2_with fail
        go_roundg (m - (k + 1))
        case measure => omega
        case rel => exact ⟨k + 1, by go_num, by omega, rfl, HS6.out⟩
    · have HT := Lib.hid (HH1.out.get (fun y hy => hy.1) key hks)
      rw [HE1.out] at HT
      go_wp2_with fail
      refine HT.out.mono ?_
      rintro e w7 ⟨rfl, s7⟩
      have HG1 := Lib.hid (get_one X D key)
      obtain ⟨x, hx⟩ : ∃ x, x = X.get D key := ⟨_, rfl⟩
      rw [← hx] at HG1 ⊢
      have a8 : Chg No w7 (w7.alloc (.cells #[.string x.key, .string x.val, .int .u32 x.flags.toNat, .int .i64 x.exp.toInt, .int .u64 x.ver.toNat] tItem)) := (Chg.refl No w7).alloc _
      have H8 := Lib.hid (s7.st.chgNo a8)
      have HX8 := Lib.hid (Blk.new w7 tItem #[.string x.key, .string x.val, .int .u32 x.flags.toNat, .int .i64 x.exp.toInt, .int .u64 x.ver.toNat])
      clear s7 HT HH1 a8 hx
      rcases HG1.out with ⟨e1, e2⟩ | ⟨e1, e2, e3⟩
      · rw [e1]
        obtain ⟨v1, v2, v3, _⟩ := one_vis H8.out.all e2
        obtain ⟨n1, n2⟩ := N1.out.vis key x v1
        have hx2 : x.ver.toNat = 2 := by
          obtain ⟨z, z1, z2, z3⟩ := A1.out.2.2 (by have := HM.out; omega)
          have := n2 z z1 z2
          have := A1.out.2.1 x n1 v2
          omega
        rw [hx2] at HX8 H8
        have HC8 := Lib.hid H8.out.chg
        rw [show itemV x = .agg #[.string x.key, .string x.val, .int .u32 x.flags.toNat, .int .i64 x.exp.toInt, .int .u64 (2 : Int)] from by show Value.agg #[.string x.key, .string x.val, .int .u32 x.flags.toNat, .int .i64 x.exp.toInt, .int .u64 ((x.ver.toNat : Nat) : Int)] = _; rw [hx2]; rfl]
        have x4 := HX8.out.cell 4
        simp only [List.getElem?_toArray, List.getElem?_cons_zero, List.getElem?_cons_succ] at x4
        clear e1 e2 v1 v2 v3 n1 n2 hx2 H8 HG1
        go_wp2_with fail
        go_ret
        exact ⟨rfl, HC8.out⟩
      · rw [e1]
        have HC8 := Lib.hid H8.out.chg
        clear e1 e2 e3 H8 HG1 HX8
        go_wp2_with fail
        go_ret
        exact ⟨rfl, HC8.out⟩
end Go.Proofs.YtplpbbdakihnfaaGreat
end

section
namespace Go.Proofs.YtplpbbdakihnfaaGreat
open Go.RowKit Go.ChangeShapes Go.WideShapes
section
variable {H : Type} {enc : TypeId × Value → H} {w : World} {base : Nat} {spare : Nat → Bool} {held : Bool}
set_option maxRecDepth 100000 in
theorem open_strV {b0 : Nat} {v : Value} {d : DataW H} {p : List MemPlace} (hv : Value.okWide Tryz.prog w .any b0 9 v) (h : DataW.Trod enc Tryz.prog w base (fun _ => true) held 9 v d p) (hs : ∀ n ∈ d.weights Tryz.prog 9, n ≤ reachBytes) :
    ∃ s : ByteArray, v = .string s ∧ s.size ≤ reachBytes := by
  obtain ⟨s, rfl, rfl, _, _⟩ := ChangeMaps.open_string Tryz.underlying9 hv h
  exact ⟨s, rfl, hs s.size (by simp [DataW.weights])⟩
end
end Go.Proofs.YtplpbbdakihnfaaGreat
end
