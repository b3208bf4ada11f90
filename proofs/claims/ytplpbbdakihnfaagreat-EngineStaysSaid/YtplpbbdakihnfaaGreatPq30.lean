/- Packed texts: EngWi, EngPj, EngGo, EngOw, EngFu, EngSt, OpenS. -/
import Derived.Test.YtplpbbdakihnfaaGreatPq28
import Derived.Test.YtplpbbdakihnfaaGreatPq29
import Derived.Test.YtplpbbdakihnfaaGreatPq02
import Derived.Deep.Strs
set_option linter.unusedSimpArgs false
set_option linter.unusedVariables false
section
namespace Go.Proofs.YtplpbbdakihnfaaGreat
open Go.RowKit
attribute [local go_sem ↓] Go.wp_at_zero Go.wp_at_succ
theorem eng_new30 (w : World) : Calls Tryz.prog 13 #[.int .i64 30] w fun e w' => ∃ h : DevH, e = .returned (.tuple #[.pointer (some ⟨h.d, 0, none⟩), .int .i64 0]) ∧ DevAt w' h (Dev.new 30) ∧ Chg No w w' ∧ ∀ k, h.foot k → w.heap.size ≤ k := new_calls 30 w (by decide) (by decide)
section
variable {g : Geo} {Q : Item → Prop} {K : ByteArray → Prop} {c : Nat} {X : Eng} {D : Dev} {ls : List (List Item)}
end
end Go.Proofs.YtplpbbdakihnfaaGreat
end

section
namespace Go.Proofs.YtplpbbdakihnfaaGreat
open Go.RowKit
section
variable {n : Nat} {ks : List ByteArray} {g : Geo} {Q Q2 : Item → Prop} {K : ByteArray → Prop} {c c2 : Nat} {X X2 Y : Eng} {D D2 E : Dev} {ls ls2 : List (List Item)}
structure Rid (ks : List ByteArray) (X X2 : Eng) (last : Nat) : Prop where
  no : ∀ k ∈ ks, X.may k = true → ∀ x : Item, x.key = k → x.ver.toNat ≤ last → X2.counts x = false
theorem Rid.same (h : Rid ks X X2 n) (hJ : Y.J = X2.J) (hb : Y.blk.horizon = X2.blk.horizon) : Rid ks X Y n := by
  refine ⟨fun k hk hm x hx hv => ?_⟩
  have := h.no k hk hm x hx hv
  unfold Eng.counts at this ⊢
  rw [hJ, hb]; exact this
end
end Go.Proofs.YtplpbbdakihnfaaGreat
end

section
namespace Go.Proofs.YtplpbbdakihnfaaGreat
open Go.RowKit
attribute [local go_sem ↓] Go.wp_at_zero Go.wp_at_succ
section
variable {w0 w w' : World} {h : DevH} {t : EngH} {g : Geo} {Q : Item → Prop} {K : ByteArray → Prop} {c : Nat} {X Y : Eng} {D E : Dev} {ls : List (List Item)}
theorem get_one (X : Eng) (D : Dev) (k : ByteArray) : (X.getE D k = 0 ∧ X.one D k = some (X.get D k)) ∨ (X.getE D k = 5 ∧ X.one D k = none ∧ X.get D k = Item.zero) := by
  unfold Eng.getE Eng.get
  cases h : X.one D k with
  | none => exact .inr ⟨rfl, rfl, rfl⟩
  | some x => exact .inl ⟨rfl, rfl⟩
theorem Aft.rid {X1 : Eng} {ks : List ByteArray} {last : Nat} (h : All g Q K c X D ls) (ha : Aft g Q K X ls Y E) (ho : Y.G.Ok) (hr : Rid ks X1 X last) (hQ : ∀ y, Q y → y.ver.toNat ≤ last → X1.may y.key = true) {k : ByteArray} (hk : k ∈ ks) {x : Item} (hx : Y.one E k = some x) : last < x.ver.toNat := by
  obtain ⟨h1, h2, h3, _⟩ := ha.told h ho hx
  rcases Nat.lt_or_ge last x.ver.toNat with h9 | h9
  · exact h9
  · have := hr.no k hk (by rw [← h1]; exact hQ x h2 h9) x h1 h9
    rw [this] at h3; cases h3
end
end Go.Proofs.YtplpbbdakihnfaaGreat
end

section
namespace Go.Proofs.YtplpbbdakihnfaaGreat
open Go.RowKit
abbrev tStr : TypeId := 9
structure Row10 (w0 w : World) (h : DevH) (t : EngH) (T : TypeId) (size : Nat) (v : Value) (n : Nat) (xs : List Value) : Prop where
  own : w.ownsRow w0.heap.size T size v n xs
  no : ∀ k, v.ownBlock = some k → ¬ t.all h k
section
variable {w0 w w' : World} {h : DevH} {t t' : EngH} {g : Geo} {Q Q' : Item → Prop} {K : ByteArray → Prop} {c c' : Nat} {X X' Y : Eng} {D D' E : Dev} {ls ls' : List (List Item)} {T : TypeId} {size n n' : Nat} {v v' : Value} {xs xs' : List Value} {S : Nat → Prop}
theorem own_at {base : Nat} (ho : w.ownsRow base T size v n xs) {k : Nat} (hk : v.ownBlock = some k) : ∃ cs, w.heap[k]? = some (.cells cs T (0, 0)) := by
  rcases ho.2 with ⟨rfl, _⟩ | ⟨g, cap, cur, rfl, h2, h3, _⟩
  · cases hk
  · injection hk with hk
    subst hk
    exact ⟨_, h3⟩
theorem Heng.aside (H : Heng w0 h t g Q K c X D ls w) (hc : Chg S w w') (hS : ∀ k, S k → ¬ t.all h k ∧ w0.heap.size ≤ k ∧ ∃ cs T fz, w.heap[k]? = some (.cells cs T fz) ∧ (T = tStr ∨ T = tItem)) : Heng w0 h t g Q K c X D ls w' := by
  have hty : ∀ (g : Nat) (cs : Array Value) (T : TypeId), T ≠ tStr → T ≠ tItem → Blk w g T cs → ¬ S g := by
    intro g cs T h1 h2 hb hs
    obtain ⟨_, _, cs', T', fz, h3, h4⟩ := hS g hs
    unfold Blk at hb
    rw [hb] at h3
    cases h3
    exact h4.elim h1 h2
  have hno : ∀ k, t.all h k → ¬ S k := fun k hk hs => (hS k hs).1 hk
  refine ⟨(DevN.chg H.dev hc (hno _ (.inl (.inl rfl))) (hno _ (.inl (.inr (.inl rfl)))) (hno _ (.inl (.inr (.inr rfl)))) (fun g cs T _ hT hb => hty g cs T (by rcases hT with rfl | rfl <;> decide) (by rcases hT with rfl | rfl <;> decide) hb)).at_, ?_, H.all, H.far, H.chg.then hc (fun i hi hk => by have := (hS i hk).2.1; omega)⟩
  have he := H.eng
  exact { he with
    box := he.box.chg hc (hno _ (.inr (.inl rfl)))
    jn := he.jn.chg hc (fun k hk => hno _ (.inr (.inr (.inl hk))))
    sto := he.sto.chg hc (fun g cs T hT hb => hty g cs T (by rcases hT with rfl | rfl | rfl | rfl <;> decide) (by rcases hT with rfl | rfl | rfl | rfl <;> decide) hb)
    lg := he.lg.chg hc (fun k hk => hno _ (.inr (.inr (.inr (.inr hk))))) }
theorem Row10.nil (w0 w : World) (h : DevH) (t : EngH) (T : TypeId) (size : Nat) : Row10 w0 w h t T size (.slice none 0 0) 0 [] := ⟨World.ownsRow_nil _ _ _ _, fun k hk => by cases hk⟩
theorem Row10.chgNo (r : Row10 w0 w h t T size v n xs) (hc : Chg No w w') : Row10 w0 w' h t T size v n xs := ⟨own_chg r.own hc (fun _ _ h => h), r.no⟩
theorem Hgo.row (s : Hgo w0 w h t g Q K c X D ls t' w') (r : Row10 w0 w h t T size v n xs) : Row10 w0 w' h t' T size v n xs := ⟨own_chg r.own s.chg r.no, fun k hk => s.loc (r.own.lt k hk).2 (r.no k hk)⟩
theorem Row10.app (r : Row10 w0 w h t T size v n xs) (H : Heng w0 h t g Q K c X D ls w) (hT : T = tStr ∨ T = tItem) (ho : w'.ownsRow w0.heap.size T size v' n' xs') (hg : w.grownBy w' v.ownBlock) (hb : v'.ownBlock = v.ownBlock ∨ v'.ownBlock = some w.heap.size) :
    Heng w0 h t g Q K c X D ls w' ∧ Row10 w0 w' h t T size v' n' xs' := by
  refine ⟨H.aside (S := fun k => v.ownBlock = some k) (Chg.grown (Chg.refl _ _) hg (fun k hk => .inl hk)) (fun k hk => ?_), ho, fun k hk => ?_⟩
  · obtain ⟨cs, h1⟩ := own_at r.own hk
    exact ⟨r.no k hk, (r.own.lt k hk).1, cs, T, _, h1, hT⟩
  · rcases hb with e | e
    · exact r.no k (e ▸ hk)
    · intro h9
      have h8 := H.lt h9
      rw [e] at hk
      injection hk with hk
      omega
theorem Loc10.aside {b : Nat} {cs : Array Value} {Tb : TypeId} (l : Loc10 w h t b Tb cs) (hc : Chg S w w') (hS : ¬ S b) : Loc10 w' h t b Tb cs := ⟨l.blk.chg hc hS, l.no⟩
theorem open10c (hA : All g Q K c X D ls) (hcc : c + 1 ≤ 1000000) (picks : List UInt8) (hd : DevAt w h (D.back picks)) (hf : ∀ k, h.foot k → w0.heap.size ≤ k) (hc : Chg No w0 w) :
    Calls Tryz.prog 14 #[.pointer (some ⟨h.d, 0, none⟩), g.V] w fun e w' => ∃ (t : EngH) (b : Sb), e = .returned (.tuple #[.pointer (some ⟨t.E, 0, none⟩), sbV b, .int .i64 0]) ∧ Haft w0 h t g Q K X ls (Eng.opened (D.back picks) g) ((D.back picks).stD (Eng.now (D.back picks))) w' ∧ Chg h.foot w w' := by
  obtain ⟨q1, q2, q3, q4, q5, q6⟩ := hA.back hcc picks
  refine (eopen_calls hd g hA.run.geo q2 q1 q3 q4 q5).mono ?_
  rintro e w' ⟨t, rfl, ⟨he, _⟩, hd', hch⟩
  exact ⟨t, _, rfl, ⟨hd', he, q6, hf, hc.then hch (fun i hi hk => by have := hf i hk; omega)⟩, hch⟩
theorem Haft.getc (H : Haft w0 h t g Q K X ls Y E w) (hA : All g Q K c X D ls) (hQ : ∀ x, Q x → x.good = true) (key : ByteArray) (hk : key.size ≤ 140737488351232) :
    Calls Tryz.prog 17 #[.pointer (some ⟨t.E, 0, none⟩), .string key] w fun e w' => e = .returned (.tuple #[itemV (Y.get E key), .int .i64 (Y.getE E key)]) ∧ Haft w0 h t g Q K X ls Y E w' ∧ Chg h.foot w w' := by
  obtain ⟨h1, h2, h3⟩ := H.aft.get_key hA H.eng.lg.ok hQ key
  refine (eget_calls (show DevN w.heap.size w h E from H.dev) H.eng H.aft.on.off H.aft.los key hk h1 h2 h3).mono ?_
  rintro e w' ⟨rfl, hd, hch⟩
  exact ⟨rfl, H.footC hd.at_ hch, hch⟩
end
end Go.Proofs.YtplpbbdakihnfaaGreat
end

section
namespace Go.Proofs.YtplpbbdakihnfaaGreat
open Go.RowKit
attribute [local go_sem ↓] Go.wp_at_zero Go.wp_at_succ
def gFull : Geo := ⟨2, 3, 2, 0⟩
def fkey (k : Nat) : ByteArray := ⟨#[UInt8.ofNat (97 + k)]⟩
def fkeys (k : Nat) : List ByteArray := (List.range k).map fkey
def Fq (X : Eng) : Item → Prop := fun y => y.good = true ∧ y.ver.toNat ≤ X.last ∧ X.counts y = false
theorem ti_str : TI Tryz.prog tStr (.string ⟨#[]⟩) 1 16 := (by kernel_rfl : (Tryz.prog.info? tStr).map (fun i => (i.zero, i.size, i.bytes)) = some (some (.string ⟨#[]⟩), 1, 16))
theorem str_one_cell (xs : List ByteArray) : ∀ u ∈ xs.map skey, u.oneCell' = true := by
  intro u hu
  obtain ⟨x, _, rfl⟩ := List.mem_map.1 hu
  rfl
structure FullSt (w0 : World) (h : DevH) (tE bg : Nat) (k : Nat) (v : Value) (wr : World) : Prop where
  st : ∃ t X D ls, Heng w0 h t gFull (Fq X) (fun _ => True) (1 + 3 * k) X D ls wr ∧ t.E = tE ∧ Row10 w0 wr h t tStr 1 v k ((fkeys k).map skey) ∧ Loc10 wr h t bg 34 #[.int .i64 2, .int .i64 3, .int .i64 2, .int .i64 0]
section
variable {w0 w w' : World} {h : DevH} {t : EngH} {g : Geo} {Q : Item → Prop} {K : ByteArray → Prop} {c : Nat} {X X2 : Eng} {D D2 : Dev} {ls ls2 : List (List Item)}
end
end Go.Proofs.YtplpbbdakihnfaaGreat
end

section
namespace Go.Proofs.YtplpbbdakihnfaaGreat
open Go.RowKit
attribute [local go_sem ↓] Go.wp_at_zero Go.wp_at_succ
def gStay : Geo := ⟨3, 1, 1, 0⟩
def keyN (l : List (Int × Item)) (key : ByteArray) : Nat := (l.filter (fun p => decide (p.2.key = key))).length
def Kt (l : List (Int × Item)) (key : ByteArray) : Prop := ∃ (i j : Nat) (p q : Int × Item), i < j ∧ l[i]? = some p ∧ l[j]? = some q ∧ p.2.key = key ∧ q.2.key = key
theorem keyN_ge {l : List (Int × Item)} {key : ByteArray} (h : Kt l key) : 1 < keyN l key := by
  obtain ⟨i, j, p, q, hij, hi, hj, hp, hq⟩ := h
  have hil := (List.getElem?_eq_some_iff.1 hi).1
  have h1 : l = l.take j ++ l.drop j := (List.take_append_drop j l).symm
  unfold keyN
  rw [h1, List.filter_append, List.length_append]
  have m1 : p ∈ (l.take j).filter (fun p => decide (p.2.key = key)) := by
    refine List.mem_filter.2 ⟨List.mem_of_getElem? (i := i) ?_, by simp [hp]⟩
    rw [List.getElem?_take_of_lt hij]; exact hi
  have m2 : q ∈ (l.drop j).filter (fun p => decide (p.2.key = key)) := by
    refine List.mem_filter.2 ⟨List.mem_of_getElem? (i := 0) ?_, by simp [hq]⟩
    rw [List.getElem?_drop]; exact hj
  have := List.length_pos_of_mem m1
  have := List.length_pos_of_mem m2
  omega
theorem keyN_take {l : List (Int × Item)} {k : Nat} {p : Int × Item} (h : l[k]? = some p) (key : ByteArray) : keyN (l.take (k + 1)) key = keyN (l.take k) key + if p.2.key = key then 1 else 0 := by
  unfold keyN
  rw [List.take_add_one, h, Option.toList_some, List.filter_append, List.length_append]
  by_cases hp : p.2.key = key
  · rw [if_pos hp]; simp [hp]
  · rw [if_neg hp]; simp [hp]
theorem twice_calls (w : World) (A : Option Addr) (n cp : Nat) (xs : List Value) (l : List (Int × Item)) (te : TypeId) (hn : l.length = n) (hr : Rd w te A (n * 12) xs) (hxs : Calls10 xs l) (hn2 : n ≤ 1000) (key : ByteArray) :
    Calls Tryz.prog 27 #[.slice A n cp, .string key] w fun e w' => e = .returned (.bool (decide (1 < keyN l key))) ∧ Chg No w w' := by
  have HR := Lib.hid hr
  have HX := Lib.hid hxs
  have HN := Lib.hid hn
  clear hr hxs hn
  go_enter Tryz.func27, Tryz.ntmps27
  go_wp2_with fail
  go_loopg [5, 6] n (fun g v5 v6 wr => ∃ k : Nat, v6 = .int .i64 k ∧ v5 = .int .i64 (keyN (l.take k) key) ∧ k ≤ n ∧ n - k = g ∧ keyN (l.take k) key ≤ k ∧ Hid (Chg No w wr))
  case atStart => exact ⟨0, rfl, rfl, by omega, by omega, Nat.le_refl _, Chg.refl _ _⟩
  case round =>
    obtain ⟨k, rfl, rfl, hk, hg, hle, HH⟩ := hrel
    by_cases hkn : k < n
    · obtain ⟨⟨op, x⟩, hx⟩ : ∃ x, l[k]? = some x := ⟨_, List.getElem?_eq_getElem (by rw [HN.out]; exact hkn)⟩
      obtain ⟨gy, oy, eA, hgy, hcy⟩ := (HR.out.chg HH.out (fun _ _ _ _ h => h)).at_ (j := k * 12) (by omega)
      subst eA
      obtain ⟨q0, q1, q2, q3, q4, q5⟩ := HX.out k _ hx
      have d1 := hcy _ _ q1
      simp only [← Nat.add_assoc] at d1
      have hs := Lib.hid (keyN_take hx key)
      have hse := str_eq x.key key
      clear q0 q1 q2 q3 q4 q5 hcy hx hgy
      obtain ⟨m, hm⟩ : ∃ m, m = keyN (l.take k) key := ⟨_, rfl⟩
      rw [← hm] at hle hs ⊢
      clear hm
      by_cases he : x.key = key
      · rw [decide_eq_true he] at hse
        rw [if_pos he] at hs
        clear he
        go_wp2_with fail
        go_roundg (n - (k + 1))
        case measure => omega
        case rel => exact ⟨k + 1, by go_num, by rw [hs.out]; go_num, by omega, rfl, by rw [hs.out]; omega, HH.out⟩
      · rw [decide_eq_false he] at hse
        rw [if_neg he] at hs
        clear he
        go_wp2_with fail
        go_roundg (n - (k + 1))
        case measure => omega
        case rel => exact ⟨k + 1, by go_num, by rw [hs.out]; rfl, by omega, rfl, by rw [hs.out]; omega, HH.out⟩
    · obtain rfl : n = k := by omega
      rw [show l.take n = l from List.take_of_length_le (by rw [HN.out]; exact Nat.le_refl _)] at hle ⊢
      obtain ⟨m, hm⟩ : ∃ m, m = keyN l key := ⟨_, rfl⟩
      rw [← hm]
      have HM := Lib.hid hm
      clear hm hle
      go_wp2_with fail
      go_ret
      exact ⟨by rw [← HM.out]; simp; omega, HH.out⟩
section
variable {w0 w w' : World} {h : DevH} {t : EngH} {g : Geo} {Q : Item → Prop} {K : ByteArray → Prop} {c : Nat} {X Y : Eng} {D E : Dev} {ls : List (List Item)}
theorem one_none {key : ByteArray} (h : X.one D key = none) : ¬ ((X.B.get D key).2 = 0 ∧ X.counts (X.B.get D key).1 = true) ∧ ¬ (X.G.getE key = 0 ∧ X.counts (X.G.get key) = true) := by
  unfold Eng.one at h
  by_cases h1 : X.G.getE key = 0 ∧ X.counts (X.G.get key) = true
  · rw [if_pos h1] at h
    by_cases h2 : (X.B.get D key).2 = 0 ∧ X.counts (X.B.get D key).1 = true
    · simp only [if_pos h2] at h
      split at h <;> cases h
    · simp only [if_neg h2] at h
      cases h
  · rw [if_neg h1] at h
    refine ⟨fun h2 => ?_, h1⟩
    rw [if_pos h2] at h
    cases h
theorem Aft.stays (h : All g Q K c X D ls) (ha : Aft g Q K X ls Y E) (ho : Y.G.Ok) (hQ : ∀ y, Q y → X.counts y = true) {key : ByteArray} (hK : ¬ K key) (h0 : X.one D key = none) : Y.one E key = none := by
  cases hx : Y.one E key with
  | none => rfl
  | some x =>
    exfalso
    obtain ⟨k1, k2, k3, k4, k5⟩ := ha.told h ho hx
    obtain ⟨n1, n2⟩ := one_none h0
    rcases k5 with ⟨i, l, hi, hxl⟩ | k5 | ⟨_, k5⟩
    · have e := h.bks.fine.home i l hi x hxl
      rw [k1] at e
      subst e
      have ht := h.bks.tell key hi
      cases hf : l.find? (keyed key) with
      | none => exact absurd (by simp [keyed, k1] : keyed key x = true) (by simpa using List.find?_eq_none.1 hf x hxl)
      | some y =>
        rw [hf] at ht
        rw [ht] at n1
        exact n1 ⟨rfl, hQ y (h.bks.q _ l hi y (List.mem_of_find?_eq_some hf))⟩
    · exact hK (k1 ▸ k5)
    · rw [k1] at k5
      have hv := X.G.get_view key
      cases hw : X.G.view key with
      | none =>
        unfold Lg.view at hw
        unfold Lg.has at k5
        cases hg : aget X.G.keys key with
        | none => rw [hg] at k5; cases k5
        | some p => rw [hg] at hw; cases hw
      | some y =>
        rw [hw] at hv
        refine n2 ⟨hv.2, ?_⟩
        rw [hv.1]
        exact hQ y (h.lgs.view_q hw).1
end
structure StaySt (w0 : World) (h : DevH) (t : EngH) (g : Geo) (Q : Item → Prop) (K : ByteArray → Prop) (c : Nat) (X : Eng) (D : Dev) (ls : List (List Item)) (bg : Nat) (ks : List ByteArray) (k : Nat) (v : Value) (wr : World) : Prop where
  st : ∃ gl : List ByteArray, gl.length ≤ k ∧ Heng w0 h t g Q K c X D ls wr ∧ Row10 w0 wr h t tStr 1 v gl.length (gl.map skey) ∧ Loc10 wr h t bg 34 #[.int .i64 3, .int .i64 1, .int .i64 1, .int .i64 0] ∧ ∀ key ∈ gl, key ∈ ks ∧ X.one D key = none ∧ ¬ K key
set_option maxRecDepth 100000 in
set_option maxHeartbeats 8000000 in
theorem estays_calls (w : World) (A : Option Addr) (n cp : Nat) (xs : List Value) (l : List (Int × Item)) (te : TypeId) (hn : l.length = n) (hr : Rd w te A (n * 12) xs) (hxs : Calls10 xs l) (hsz : ∀ p ∈ l, p.2.key.size ≤ 140737488351232 ∧ p.2.val.size ≤ 140737488351232)
    (AK : Option Addr) (nk ck : Nat) (ks : List ByteArray) (tk : TypeId) (hnk : ks.length = nk) (hrk : Rd w tk AK nk (ks.map skey)) (hsk : ∀ k ∈ ks, k.size ≤ 140737488351232)
    (A3 : Option Addr) (n3 cp3 : Nat) (picks : List UInt8) (te3 : TypeId) (hn3 : picks.length = n3) (hr3 : Rd w te3 A3 n3 (bys picks)) :
    Calls Tryz.prog 9 #[.slice A n cp, .slice AK nk ck, .slice A3 n3 cp3] w fun e w' => e = .returned (.bool true) ∧ Chg No w w' := by
  have HAW := Lib.hid (awake10_calls w)
  have HN0 := fun W => Lib.hid (eng_new30 W)
  have H1 := Lib.hid (And.intro hn (And.intro hr (And.intro hxs hsz)))
  have H3 := Lib.hid (And.intro hn3 hr3)
  have HK := Lib.hid (And.intro hnk (And.intro hrk hsk))
  clear hn hr hxs hsz hn3 hr3 hnk hrk hsk
  by_cases hle : n ≤ 30 ∧ nk ≤ 20
  rotate_left
  · by_cases h20 : 30 < n
    · have hb : decide ((30 : Int) < (n : Int)) = true := by simp; omega
      have hb2 : (30 : Int) < (n : Int) := by omega
      clear hle h20
      go_enter Tryz.func9, Tryz.ntmps9
      go_wp2_with fail
      refine HAW.out.mono ?_
      rintro e w1 ⟨rfl, hc1⟩
      have HC1 := Lib.hid hc1
      clear hc1
      go_wp2_with fail
      go_ret
      exact ⟨rfl, HC1.out⟩
    · have hb2 : ¬ (30 : Int) < (n : Int) := by omega
      have hb3 : (20 : Int) < (nk : Int) := by omega
      clear hle h20
      go_enter Tryz.func9, Tryz.ntmps9
      go_wp2_with fail
      refine HAW.out.mono ?_
      rintro e w1 ⟨rfl, hc1⟩
      have HC1 := Lib.hid hc1
      clear hc1
      go_wp2_with fail
      go_ret
      exact ⟨rfl, HC1.out⟩
  obtain ⟨hl1, hl2⟩ := hle
  have hb2 : ¬ (30 : Int) < (n : Int) := by omega
  have hb3 : ¬ (20 : Int) < (nk : Int) := by omega
  go_enter Tryz.func9, Tryz.ntmps9
  go_wp2_with fail
  refine HAW.out.mono ?_
  rintro e w1 ⟨rfl, hc1⟩
  have HC1 := Lib.hid hc1
  clear hc1 HAW
  go_wp2_with fail
  refine (HN0 _).out.mono ?_
  rintro e w2 ⟨h, rfl, hd2, hc2, hf2⟩
  have HD2 := Lib.hid hd2
  have HC2 := Lib.hid (HC1.out.trans hc2)
  have HF2 : Hid (∀ k, h.foot k → w.heap.size ≤ k) := fun k hk => Nat.le_trans HC1.out.size (hf2 k hk)
  clear hd2 hc2 hf2 HN0 HC1
  go_wp2_with fail
  have a3 : Chg No w2 (w2.alloc (.cells #[.int .i64 3, .int .i64 1, .int .i64 1, .int .i64 0] 34)) := (Chg.refl No w2).alloc _
  obtain ⟨n1, nn2, nn3, nn4, nn5⟩ := all_new 30 gStay rfl (by decide) (Kt l)
  have HO := Lib.hid (Heng.opened (w0 := w) (h := h) ((DevN.chgNo HD2.out a3).at_) HF2.out (HC2.out.trans a3) (g := gStay) rfl (by decide) rfl (by rw [n1]; decide) (by rw [n1]; decide) nn2 nn4)
  rw [n1, show gStay.V = .agg #[.int .i64 3, .int .i64 1, .int .i64 1, .int .i64 0] from rfl] at HO
  have HB3 := Lib.hid (Blk.new w2 34 #[.int .i64 3, .int .i64 1, .int .i64 1, .int .i64 0])
  have HBF : Hid (¬ h.foot w2.heap.size) := fun hk => by have := foot_size HD2.out hk; omega
  obtain ⟨X0, hX0⟩ : ∃ X0, X0 = Eng.opened (Dev.new 30) gStay := ⟨_, rfl⟩
  obtain ⟨D0, hD0⟩ : ∃ D0, D0 = (Dev.new 30).stD (Eng.now (Dev.new 30)) := ⟨_, rfl⟩
  rw [← hX0, ← hD0] at HO
  rw [← hX0] at nn3
  have HX0 := Lib.hid nn3
  obtain ⟨bg, hbg⟩ : ∃ bg, bg = w2.heap.size := ⟨_, rfl⟩
  rw [← hbg] at HB3 HBF ⊢
  have HBG := Lib.hid hbg
  clear a3 n1 nn2 nn3 nn4 nn5 hX0 hD0 hbg HD2 HC2
  refine HO.out.mono ?_
  rintro e w4 ⟨t, rfl, h4, hc4, hall⟩
  have L4 : Hid (Loc10 w4 h t bg 34 #[.int .i64 3, .int .i64 1, .int .i64 1, .int .i64 0]) := ⟨HB3.out.chg hc4 HBF.out, fun hk => (hall bg hk).elim HBF.out (fun h9 => by have := HBG.out; simp at h9; omega)⟩
  have H4 := Lib.hid h4
  clear h4 hc4 hall HO HB3
  rw [sbV_eq]
  go_wp2_with fail
  have a5 : Chg No w4 (w4.alloc (.cells #[.int .u64 Sb.zero.seq, .int .u64 Sb.zero.epoch, .int .u64 Sb.zero.reserved, .int .u64 Sb.zero.horizon, .int .u64 Sb.zero.gen, .bool Sb.zero.clean, .int .i64 Sb.zero.image] tSb)) := (Chg.refl No w4).alloc _
  have HP := Lib.hid (put10_calls (H4.out.chgNo a5) A n cp xs l te H1.out.1 H1.out.2.1 H1.out.2.2.1 (by omega) H1.out.2.2.2 (by omega) (fun y hy => hy.elim) (fun i j p q hij hi hj hpq => ⟨i, j, p, q, hij, hi, hj, hpq, rfl⟩) (fun y hy => hy.elim) 0)
  rw [show ((0 : Nat) : Int) = 0 from rfl] at HP
  have L5 := Lib.hid (L4.out.chgNo a5)
  clear a5 H4 L4
  refine HP.out.mono ?_
  rintro e w6 ⟨lr, t6, X1, D1, ls1, rfl, S6⟩
  have H6 := Lib.hid S6.go.st
  have L6 := Lib.hid (S6.go.keep L5.out)
  have HE6 : Hid (t6.E = t.E) := S6.go.E
  have HQ1 : Hid (∀ y, PutQ (fun _ => False) l n X0.last X1.last y → y.good = true ∧ X1.counts y = true) := by
    rintro y (hy | ⟨q1, _, q3, _⟩)
    · exact hy.elim
    · refine ⟨q1, ?_⟩
      have hj : X1.J.marks = [] := by rw [S6.J, HX0.out]; rfl
      have hh : X1.blk.horizon = 0 := by rw [S6.hor, HX0.out]; rfl
      unfold Eng.counts
      have hv : 0 < y.ver.toNat := by
        unfold Item.good at q1
        simp only [Bool.and_eq_true, decide_eq_true_eq] at q1
        exact q1.2
      have hg : X1.J.gone (Eng.key y.key) y.ver.toNat = false := by unfold Jn.gone; rw [hj]; rfl
      rw [hh, hg]
      simp [hv]
  clear S6 HP L5
  obtain ⟨Q1, hQ1⟩ : ∃ Q1, Q1 = PutQ (fun _ => False) l n X0.last X1.last := ⟨_, rfl⟩
  rw [← hQ1] at H6 HQ1
  clear hQ1
  go_wp2_with fail
  go_loopg [13, 14] nk (fun g v13 v14 wr => ∃ k : Nat, v14 = .int .i64 k ∧ k ≤ nk ∧ nk - k = g ∧ Hid (StaySt w h t6 gStay Q1 (Kt l) (1 + 2 * n) X1 D1 ls1 bg ks k v13 wr))
  case atStart => exact ⟨0, rfl, by omega, by omega, ⟨[], Nat.le_refl _, H6.out, Row10.nil _ _ _ _ _ _, L6.out, fun key hk => by cases hk⟩⟩
  case round =>
    obtain ⟨k, rfl, hk, hg, HH⟩ := hrel
    obtain ⟨gl, h0, h1, h2, h3, h4⟩ := HH.out.st
    have H1' := Lib.hid h1
    have R1 := Lib.hid h2
    have L1 := Lib.hid h3
    have G1 := Lib.hid h4
    clear h1 h2 h3 h4 HH
    by_cases hkm : k < nk
    · obtain ⟨key, hkey⟩ : ∃ key, ks[k]? = some key := ⟨_, List.getElem?_eq_getElem (by rw [HK.out.1]; exact hkm)⟩
      have hin := Lib.hid (List.mem_of_getElem? hkey)
      obtain ⟨gy, oy, eA, hgy, hcy⟩ := (HK.out.2.1.chg H1'.out.chg (fun _ _ _ _ h => h)).at_ (j := k) hkm
      have HAK := Lib.hid HK.out.2.1
      subst eA
      have d0 : wr.cell? ⟨gy, oy + k, none⟩ = some (.string key) := hcy _ _ (by rw [List.getElem?_map, hkey]; rfl)
      have HCY : Hid (∀ W, Chg No w W → W.cell? ⟨gy, oy + k, none⟩ = some (.string key)) := fun W hW => by
        obtain ⟨g2, o2, e2, _, hc2⟩ := (HAK.out.chg hW (fun _ _ _ _ h => h)).at_ (j := k) hkm
        injection e2 with e2
        injection e2 with e3 e4
        subst e3
        subst e4
        exact hc2 _ _ (by rw [List.getElem?_map, hkey]; rfl)
      have HT := Lib.hid (H1'.out.get (fun y hy => (HQ1.out y hy).1) key (HK.out.2.2 key hin.out))
      rw [HE6.out] at HT
      clear hcy hkey hgy
      go_wp2_with fail
      refine HT.out.mono ?_
      rintro e w7 ⟨rfl, s7⟩
      have HG1 := Lib.hid (get_one X1 D1 key)
      obtain ⟨x, hx⟩ : ∃ x, x = X1.get D1 key := ⟨_, rfl⟩
      rw [← hx] at HG1 ⊢
      have a8 : Chg No w7 (w7.alloc (.cells #[.string x.key, .string x.val, .int .u32 x.flags.toNat, .int .i64 x.exp.toInt, .int .u64 x.ver.toNat] tItem)) := (Chg.refl No w7).alloc _
      have H7 := Lib.hid (s7.st.chgNo a8)
      have R7 := Lib.hid ((s7.row R1.out).chgNo a8)
      have L7 := Lib.hid ((s7.keep L1.out).chgNo a8)
      have d1 := HCY.out _ H7.out.chg
      clear s7 HT R1 L1 H1' a8 d0 hx
      rcases HG1.out with ⟨e1, e2⟩ | ⟨e1, e2, e3⟩
      · rw [e1]
        clear e1 e2
        go_wp2_with fail
        go_roundg (nk - (k + 1))
        case measure => omega
        case rel => exact ⟨k + 1, by go_num, by omega, rfl, ⟨gl, by omega, H7.out, R7.out, L7.out, G1.out⟩⟩
      · rw [e1]
        have HE5 := Lib.hid e2
        clear e1 e2 e3
        have HTW := Lib.hid (twice_calls (w7.alloc (.cells #[.string x.key, .string x.val, .int .u32 x.flags.toNat, .int .i64 x.exp.toInt, .int .u64 x.ver.toNat] tItem)) A n cp xs l te H1.out.1 (H1.out.2.1.chg H7.out.chg (fun _ _ _ _ h => h)) H1.out.2.2.1 (by omega) key)
        go_wp2_with fail
        refine HTW.out.mono ?_
        rintro e w9 ⟨rfl, hc9⟩
        have H9 := Lib.hid (H7.out.chgNo hc9)
        have R9 := Lib.hid (R7.out.chgNo hc9)
        have L9 := Lib.hid (L7.out.chgNo hc9)
        have d2 := HCY.out _ H9.out.chg
        clear hc9 HTW H7 R7 L7 d1
        by_cases htw : 1 < keyN l key
        · rw [decide_eq_true htw]
          clear htw
          go_wp2_with fail
          go_roundg (nk - (k + 1))
          case measure => omega
          case rel => exact ⟨k + 1, by go_num, by omega, rfl, ⟨gl, by omega, H9.out, R9.out, L9.out, G1.out⟩⟩
        · rw [decide_eq_false htw]
          have HNK : Hid (¬ Kt l key) := fun h9 => htw (keyN_ge h9)
          clear htw
          have R10 := Lib.hid (R9.out.chgNo ((Chg.refl No w9).alloc (.cells #[.string key] tStr)))
          have H10 := Lib.hid (H9.out.chgNo ((Chg.refl No w9).alloc (.cells #[.string key] tStr)))
          have L10 := Lib.hid (L9.out.chgNo ((Chg.refl No w9).alloc (.cells #[.string key] tStr)))
          have hbz : w.heap.size ≤ (w9.alloc (.cells #[.string key] tStr)).heap.size := H10.out.chg.size
          clear H9 R9 L9
          go_wp2_with (first
            | (at_builtin; go_loud (refine wpList_app _ rfl (.tmp 73) (.tmp 78) 49 rfl tStr Tryz.underlying49 ti_str rfl (by omega) w.heap.size _ gl.length _ rfl R10.out.own tStr _ 1 1 [.string key] rfl (rd_one _ _ _) (str_one_cell [key]) (by simp only [maxLen]; omega) (by omega) hbz ?_); intro v11 w11 ho11 hg11 hb11; have HA := Lib.hid (R10.out.app H10.out (.inl rfl) ho11 hg11 hb11); have HG11 := Lib.hid hg11; clear ho11 hg11 hb11))
          have L11 := Lib.hid (L10.out.aside (Chg.grown (Chg.refl _ _) HG11.out (fun k' hk' => .inl hk')) (fun e => by
            obtain ⟨cs, h9⟩ := own_at R10.out.own e
            have h8 := L10.out.blk
            unfold Blk at h8
            rw [h9] at h8
            injection h8 with h8
            injection h8 with _ h8
            exact absurd h8 (by decide)))
          go_roundg (nk - (k + 1))
          case measure => omega
          case rel =>
            refine ⟨k + 1, by go_num, by omega, rfl, ⟨gl ++ [key], by rw [List.length_append]; simp; omega, HA.out.1, ?_, L11.out, fun q hq => ?_⟩⟩
            · rw [List.map_append, List.length_append]
              exact HA.out.2
            · rcases List.mem_append.1 hq with hq | hq
              · exact G1.out q hq
              · rw [List.mem_singleton.1 hq]; exact ⟨hin.out, HE5.out, HNK.out⟩
    · obtain rfl : nk = k := by omega
      obtain ⟨A7, c7, rfl, hnc, hrd⟩ := own_slice R1.out.own
      have HFF : Hid (∀ k, h.foot k → w.heap.size ≤ k) := fun k hk => H1'.out.far k (.inl hk)
      have HNF : Hid (∀ W D', DevAt W h D' → ∀ g cur fz, W.heap[g]? = some (.cells cur tStr fz) → ¬ h.foot g) := fun W D' hd g cur fz hb => DevN.not_foot (show DevN W.heap.size W h D' from hd) hb (by decide) (by decide)
      have HRD := Lib.hid hrd
      have HDV := Lib.hid H1'.out.dev
      have HCR := Lib.hid (crash10 H1'.out.dev HFF.out H1'.out.chg A3 n3 cp3 picks te3 H3.out.1 H3.out.2)
      have HALL := Lib.hid H1'.out.all
      have HBN : Hid (¬ h.foot bg) := fun hk => L1.out.no (.inl hk)
      have HBB := Lib.hid L1.out.blk
      clear hrd R1 L1 H1'
      go_wp2_with fail
      refine HCR.out.mono ?_
      rintro e w10 ⟨rfl, hd10, hc10, hf10⟩
      have HD10 := Lib.hid hd10
      have HC10 := Lib.hid hc10
      have HB10 := Lib.hid (HBB.out.chg hf10 HBN.out)
      have HR10 := Lib.hid (HRD.out.chg hf10 (HNF.out _ _ HDV.out))
      clear hd10 hc10 hf10 HCR HBB HRD HDV
      go_wp2_with fail
      refine (on10 HD10.out HFF.out HC10.out).mono ?_
      rintro e w11 ⟨rfl, hd11, hc11, hf11⟩
      have HD11 : Hid (DevAt w11 h (D1.back picks)) := hd11
      have HC11 := Lib.hid hc11
      have HB11 := Lib.hid (HB10.out.chg hf11 HBN.out)
      have HR11 := Lib.hid (HR10.out.chg hf11 (HNF.out _ _ HD10.out))
      clear hd11 hc11 hf11 HD10 HC10 HB10 HR10
      have y0 := HB11.out.cell 0
      have y1 := HB11.out.cell 1
      have y2 := HB11.out.cell 2
      have y3 := HB11.out.cell 3
      simp at y0 y1 y2 y3
      go_wp2_with fail
      have HO := Lib.hid (open10c HALL.out (by omega) picks HD11.out HFF.out HC11.out)
      rw [show gStay.V = .agg #[.int .i64 3, .int .i64 1, .int .i64 1, .int .i64 0] from rfl] at HO
      clear y0 y1 y2 y3
      refine HO.out.mono ?_
      rintro e w12 ⟨t12, b12, rfl, h12, hf12⟩
      have H12 := Lib.hid h12
      have HR12 := Lib.hid (HR11.out.chg hf12 (HNF.out _ _ HD11.out))
      clear h12 hf12 HO HD11 HC11 HB11 HR11
      obtain ⟨Y, hY⟩ : ∃ Y, Y = Eng.opened (D1.back picks) gStay := ⟨_, rfl⟩
      obtain ⟨E, hE⟩ : ∃ E, E = (D1.back picks).stD (Eng.now (D1.back picks)) := ⟨_, rfl⟩
      rw [← hY, ← hE] at H12
      clear hY hE
      have HG : Hid (∀ key ∈ gl, Y.getE E key = 5) := by
        intro key hk
        have h9 := Aft.stays HALL.out H12.out.aft H12.out.eng.lg.ok (fun y hy => (HQ1.out y hy).2) (G1.out key hk).2.2 (G1.out key hk).2.1
        unfold Eng.getE
        rw [h9]
      rw [sbV_eq]
      go_wp2_with fail
      obtain ⟨m, hm⟩ : ∃ m, m = gl.length := ⟨_, rfl⟩
      rw [← hm] at HR12 h0 hnc ⊢
      have HM := Lib.hid hm
      clear hm
      go_loopg [17] m (fun g v16 wr => ∃ k : Nat, v16 = .int .i64 k ∧ k ≤ m ∧ m - k = g ∧ Hid (Haft w h t12 gStay Q1 (Kt l) X1 ls1 Y E wr ∧ Rd wr tStr A7 (m * 1) (gl.map skey)))
      case atStart => exact ⟨0, rfl, by omega, by omega, H12.out, HR12.out⟩
      case round =>
        obtain ⟨k, rfl, hk, hg, HH⟩ := hrel
        by_cases hkm : k < m
        · obtain ⟨key, hkey⟩ : ∃ key, gl[k]? = some key := ⟨_, List.getElem?_eq_getElem (by rw [← HM.out]; exact hkm)⟩
          have hin := List.mem_of_getElem? hkey
          obtain ⟨gy, oy, eA, hgy, hcy⟩ := HH.out.2.at_ (j := k) (by omega)
          subst eA
          have d0 : wr.cell? ⟨gy, oy + k, none⟩ = some (.string key) := hcy _ _ (by rw [List.getElem?_map, hkey]; rfl)
          have HT := Lib.hid (HH.out.1.getc HALL.out (fun y hy => (HQ1.out y hy).1) key (HK.out.2.2 key (G1.out key hin).1))
          rw [HG.out key hin] at HT
          clear hcy hkey hin
          go_wp2_with fail
          refine HT.out.mono ?_
          rintro e w14 ⟨rfl, h14, hf14⟩
          have HH14 := Lib.hid h14
          have HR14 := Lib.hid (HH.out.2.chg hf14 (HNF.out _ _ HH.out.1.dev))
          clear h14 hf14 HT
          obtain ⟨x, hx⟩ : ∃ x, x = Y.get E key := ⟨_, rfl⟩
          rw [← hx]
          clear hx
          go_wp2_with fail
          go_roundg (m - (k + 1))
          case measure => omega
          case rel => exact ⟨k + 1, by go_num, by omega, rfl, HH14.out.chgNo ((Chg.refl No w14).alloc _), HR14.out.chg ((Chg.refl No w14).alloc _) (fun _ _ _ _ h => h)⟩
        · obtain rfl : m = k := by omega
          go_wp2_with fail
          go_ret
          exact ⟨rfl, HH.out.1.chg⟩
end Go.Proofs.YtplpbbdakihnfaaGreat
end

section
namespace Go.Proofs.YtplpbbdakihnfaaGreat
open Go.RowKit Go.ChangeShapes Go.WideShapes Go.Deep
section
variable {H : Type} {enc : TypeId × Value → H} {w : World} {base : Nat} {spare : Nat → Bool} {held : Bool}
theorem str_cells : Tryz.prog.cellsOf 9 = 1 := by kernel_rfl
set_option maxRecDepth 100000 in
theorem open_strings {b0 : Nat} {v : Value} {d : DataW H} {p : List MemPlace} (hv : Value.okWide Tryz.prog w .any b0 49 v) (h : DataW.Trod enc Tryz.prog w base (fun _ => true) held 49 v d p) (hs : ∀ n ∈ d.weights Tryz.prog 49, n ≤ reachBytes) :
    ∃ (A : Option Addr) (n c : Nat) (l : List ByteArray) (t : TypeId), v = .slice A n c ∧ l.length = n ∧ n ≤ c ∧ Rd w t A n (l.map skey) ∧ ∀ k ∈ l, k.size ≤ reachBytes := by
  obtain ⟨A, n, c, rfl⟩ := okWide_slice Tryz.underlying49 hv
  obtain ⟨fuel, hf⟩ := h
  rcases open_strs Tryz.underlying49 Tryz.underlying9 str_cells hf with ⟨hcs, _⟩ | ⟨a, len, cap, m, Sx, hcs, _, hl, hm, hmm, hx, hcell⟩
  · simp only [Value.cells, List.cons.injEq, and_true, Value.slice.injEq] at hcs
    obtain ⟨rfl, rfl, rfl⟩ := hcs
    exact ⟨none, 0, 0, [], tItem, rfl, rfl, Nat.le_refl _, Rd.nil _ _ _, fun x hx => by cases hx⟩
  · simp only [Value.cells, List.cons.injEq, and_true, Value.slice.injEq] at hcs
    obtain ⟨rfl, rfl, rfl⟩ := hcs
    simp only [if_true] at hmm
    subst hmm
    have hd : d = .slice ((List.range n).map fun i => .lit (.string (Sx i).data.toList)) ((List.range (m - n)).map fun j => .lit (.string (Sx (n + j)).data.toList)) := congrArg Prod.fst hx
    subst hd
    have hstr : ∀ k ∈ (List.range n).map Sx, k.size ≤ reachBytes := by
      intro k hk
      obtain ⟨i, hi1, rfl⟩ := List.mem_map.1 hk
      have h9 := hs (Sx i).size (by
        simp only [DataW.weights, Tryz.underlying49, List.mem_cons, List.mem_append]
        refine .inr (.inl (weights_all (d := .lit (.string (Sx i).data.toList)) (List.mem_map_of_mem (f := fun i => (DataW.lit (.string (Sx i).data.toList) : DataW H)) hi1) _ ?_))
        simp [DataW.weights])
      exact h9
    by_cases hn : n = 0
    · subst hn
      exact ⟨some a, 0, m, [], tItem, rfl, rfl, hl, Rd.nil _ _ _, fun x hx => by cases hx⟩
    · obtain ⟨g, off, spot⟩ := a
      have hspot : spot = none := by
        have := (hcell 0 (by omega)).1
        simpa [Addr.add] using World.cell?_spot this
      subst hspot
      have h00 := (hcell 0 (by omega)).1
      obtain ⟨cur, t, fz, hg⟩ : ∃ cur t fz, w.heap[g]? = some (.cells cur t fz) := by
        unfold World.cell? at h00
        simp only [Addr.add, if_true] at h00
        split at h00
        · rename_i c t fz hh; exact ⟨c, t, fz, hh⟩
        · cases h00
      refine ⟨some ⟨g, off, none⟩, n, m, (List.range n).map Sx, t, rfl, by simp, hl, ⟨by simp, fun _ => ⟨g, off, cur, fz, rfl, hg, ?_⟩⟩, hstr⟩
      intro j u hu
      rw [List.map_map, List.getElem?_map] at hu
      have hjn : j < n := by
        rcases Nat.lt_or_ge j n with h9 | h9
        · exact h9
        · rw [List.getElem?_eq_none (by simpa using h9)] at hu; cases hu
      rw [List.getElem?_range hjn] at hu
      have hc := (hcell j (by omega)).1
      rw [add_at, cell_of_row w g _ cur t fz hg] at hc
      rw [hc]; exact hu
end
end Go.Proofs.YtplpbbdakihnfaaGreat
end
