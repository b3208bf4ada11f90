/- Packed texts: EngWi, EngPj, EngGo, EngOw, EngFu. -/
import Derived.Test.YtplpbbdakihnfaaGreatPq28
import Derived.Test.YtplpbbdakihnfaaGreatPq29
import Derived.Test.YtplpbbdakihnfaaGreatPq02
set_option linter.unusedSimpArgs false
set_option linter.unusedVariables false
section
namespace Go.Proofs.YtplpbbdakihnfaaGreat
open Go.RowKit
attribute [local go_sem ↓] Go.wp_at_zero Go.wp_at_succ
theorem eng_new30 (w : World) : Calls Tryz.prog 13 #[.int .i64 30] w fun e w' => ∃ h : DevH, e = .returned (.tuple #[.pointer (some ⟨h.d, 0, none⟩), .int .i64 0]) ∧ DevAt w' h (Dev.new 30) ∧ Chg No w w' ∧ ∀ k, h.foot k → w.heap.size ≤ k := new_calls 30 w (by decide) (by decide)
section
variable {g : Geo} {Q : Item → Prop} {K : ByteArray → Prop} {c : Nat} {X : Eng} {D : Dev} {ls : List (List Item)}
end
end Go.Proofs.YtplpbbdakihnfaaGreat
end

section
namespace Go.Proofs.YtplpbbdakihnfaaGreat
open Go.RowKit
section
variable {n : Nat} {ks : List ByteArray} {g : Geo} {Q Q2 : Item → Prop} {K : ByteArray → Prop} {c c2 : Nat} {X X2 Y : Eng} {D D2 E : Dev} {ls ls2 : List (List Item)}
theorem All.rebase (h : All g Q K c X D ls) : All g (fun y => Q y ∧ X.may y.key = true) K c X D ls := by
  have hB : ∀ k, X.B.may k = true → X.may k = true := fun k hk => by unfold Eng.may; rw [hk]; rfl
  have hC : ∀ k, (X.B.may k = true ∨ X.G.has k = true) → X.may k = true := fun k hk => by
    rcases hk with hk | hk
    · exact hB k hk
    · unfold Eng.may; rw [hk]; simp
  refine ⟨h.run, ⟨h.bks.bk, h.bks.fine, fun i l hi x hx => ⟨h.bks.q i l hi x hx, hB _ (h.bks.may_ hi hx)⟩, fun i l hi => ?_⟩, ?_, h.jns, h.jgen⟩
  · obtain ⟨l', h1, h2⟩ := h.bks.fl i l hi
    exact ⟨l', h1, fun x hx => ⟨⟨(h2 x hx).1, hB _ (h2 x hx).2.1⟩, (h2 x hx).2⟩⟩
  · have hl := h.lgs
    refine ⟨hl.live, hl.nums, hl.cov, hl.few, hl.num, fun i S hS x hx => ?_, fun x hx => ?_, hl.pg, hl.still⟩
    · obtain ⟨j, hj⟩ := List.mem_iff_getElem?.1 hx
      obtain ⟨k1, k2⟩ := hl.stands hS hj
      exact ⟨k1, hC _ k2⟩
    · obtain ⟨j, hj⟩ := List.mem_iff_getElem?.1 hx
      exact ⟨hl.qo x hx, hC _ (hl.cov.known (p := ⟨true, 0, j⟩) ⟨x, rfl, .inl ⟨rfl, rfl, hj⟩⟩)⟩
structure Rid (ks : List ByteArray) (X X2 : Eng) (last : Nat) : Prop where
  no : ∀ k ∈ ks, X.may k = true → ∀ x : Item, x.key = k → x.ver.toNat ≤ last → X2.counts x = false
theorem All.rid_ (h : All g Q K c X D ls) (hc : c + 1 ≤ 1000000) (ks : List ByteArray) : Rid ks X (X.rm D ks).2.1 X.last := by
  obtain ⟨_, _, _, _, _, _, _, q, _⟩ := h.remove hc ks
  exact ⟨fun k hk hm x hx hv => counts_no (by rw [hx]; exact q k hk hm _ hv)⟩
theorem Rid.same (h : Rid ks X X2 n) (hJ : Y.J = X2.J) (hb : Y.blk.horizon = X2.blk.horizon) : Rid ks X Y n := by
  refine ⟨fun k hk hm x hx hv => ?_⟩
  have := h.no k hk hm x hx hv
  unfold Eng.counts at this ⊢
  rw [hJ, hb]; exact this
end
end Go.Proofs.YtplpbbdakihnfaaGreat
end

section
namespace Go.Proofs.YtplpbbdakihnfaaGreat
open Go.RowKit
attribute [local go_sem ↓] Go.wp_at_zero Go.wp_at_succ
section
variable {w0 w w' : World} {h : DevH} {t : EngH} {g : Geo} {Q : Item → Prop} {K : ByteArray → Prop} {c : Nat} {X Y : Eng} {D E : Dev} {ls : List (List Item)}
theorem Heng.rebase (H : Heng w0 h t g Q K c X D ls w) : Heng w0 h t g (fun y => Q y ∧ X.may y.key = true) K c X D ls w := ⟨H.dev, H.eng, H.all.rebase, H.far, H.chg⟩
theorem get_one (X : Eng) (D : Dev) (k : ByteArray) : (X.getE D k = 0 ∧ X.one D k = some (X.get D k)) ∨ (X.getE D k = 5 ∧ X.one D k = none ∧ X.get D k = Item.zero) := by
  unfold Eng.getE Eng.get
  cases h : X.one D k with
  | none => exact .inr ⟨rfl, rfl, rfl⟩
  | some x => exact .inl ⟨rfl, rfl⟩
theorem Aft.rid {X1 : Eng} {ks : List ByteArray} {last : Nat} (h : All g Q K c X D ls) (ha : Aft g Q K X ls Y E) (ho : Y.G.Ok) (hr : Rid ks X1 X last) (hQ : ∀ y, Q y → y.ver.toNat ≤ last → X1.may y.key = true) {k : ByteArray} (hk : k ∈ ks) {x : Item} (hx : Y.one E k = some x) : last < x.ver.toNat := by
  obtain ⟨h1, h2, h3, _⟩ := ha.told h ho hx
  rcases Nat.lt_or_ge last x.ver.toNat with h9 | h9
  · exact h9
  · have := hr.no k hk (by rw [← h1]; exact hQ x h2 h9) x h1 h9
    rw [this] at h3; cases h3
end
end Go.Proofs.YtplpbbdakihnfaaGreat
end

section
namespace Go.Proofs.YtplpbbdakihnfaaGreat
open Go.RowKit
abbrev tStr : TypeId := 9
structure Row10 (w0 w : World) (h : DevH) (t : EngH) (T : TypeId) (size : Nat) (v : Value) (n : Nat) (xs : List Value) : Prop where
  own : w.ownsRow w0.heap.size T size v n xs
  no : ∀ k, v.ownBlock = some k → ¬ t.all h k
section
variable {w0 w w' : World} {h : DevH} {t t' : EngH} {g : Geo} {Q Q' : Item → Prop} {K : ByteArray → Prop} {c c' : Nat} {X X' Y : Eng} {D D' E : Dev} {ls ls' : List (List Item)} {T : TypeId} {size n n' : Nat} {v v' : Value} {xs xs' : List Value} {S : Nat → Prop}
theorem own_at {base : Nat} (ho : w.ownsRow base T size v n xs) {k : Nat} (hk : v.ownBlock = some k) : ∃ cs, w.heap[k]? = some (.cells cs T (0, 0)) := by
  rcases ho.2 with ⟨rfl, _⟩ | ⟨g, cap, cur, rfl, h2, h3, _⟩
  · cases hk
  · injection hk with hk
    subst hk
    exact ⟨_, h3⟩
theorem Heng.aside (H : Heng w0 h t g Q K c X D ls w) (hc : Chg S w w') (hS : ∀ k, S k → ¬ t.all h k ∧ w0.heap.size ≤ k ∧ ∃ cs T fz, w.heap[k]? = some (.cells cs T fz) ∧ (T = tStr ∨ T = tItem)) : Heng w0 h t g Q K c X D ls w' := by
  have hty : ∀ (g : Nat) (cs : Array Value) (T : TypeId), T ≠ tStr → T ≠ tItem → Blk w g T cs → ¬ S g := by
    intro g cs T h1 h2 hb hs
    obtain ⟨_, _, cs', T', fz, h3, h4⟩ := hS g hs
    unfold Blk at hb
    rw [hb] at h3
    cases h3
    exact h4.elim h1 h2
  have hno : ∀ k, t.all h k → ¬ S k := fun k hk hs => (hS k hs).1 hk
  refine ⟨(DevN.chg H.dev hc (hno _ (.inl (.inl rfl))) (hno _ (.inl (.inr (.inl rfl)))) (hno _ (.inl (.inr (.inr rfl)))) (fun g cs T _ hT hb => hty g cs T (by rcases hT with rfl | rfl <;> decide) (by rcases hT with rfl | rfl <;> decide) hb)).at_, ?_, H.all, H.far, H.chg.then hc (fun i hi hk => by have := (hS i hk).2.1; omega)⟩
  have he := H.eng
  exact { he with
    box := he.box.chg hc (hno _ (.inr (.inl rfl)))
    jn := he.jn.chg hc (fun k hk => hno _ (.inr (.inr (.inl hk))))
    sto := he.sto.chg hc (fun g cs T hT hb => hty g cs T (by rcases hT with rfl | rfl | rfl | rfl <;> decide) (by rcases hT with rfl | rfl | rfl | rfl <;> decide) hb)
    lg := he.lg.chg hc (fun k hk => hno _ (.inr (.inr (.inr (.inr hk))))) }
theorem Row10.nil (w0 w : World) (h : DevH) (t : EngH) (T : TypeId) (size : Nat) : Row10 w0 w h t T size (.slice none 0 0) 0 [] := ⟨World.ownsRow_nil _ _ _ _, fun k hk => by cases hk⟩
theorem Row10.chgNo (r : Row10 w0 w h t T size v n xs) (hc : Chg No w w') : Row10 w0 w' h t T size v n xs := ⟨own_chg r.own hc (fun _ _ h => h), r.no⟩
theorem Hgo.row (s : Hgo w0 w h t g Q K c X D ls t' w') (r : Row10 w0 w h t T size v n xs) : Row10 w0 w' h t' T size v n xs := ⟨own_chg r.own s.chg r.no, fun k hk => s.loc (r.own.lt k hk).2 (r.no k hk)⟩
theorem Row10.app (r : Row10 w0 w h t T size v n xs) (H : Heng w0 h t g Q K c X D ls w) (hT : T = tStr ∨ T = tItem) (ho : w'.ownsRow w0.heap.size T size v' n' xs') (hg : w.grownBy w' v.ownBlock) (hb : v'.ownBlock = v.ownBlock ∨ v'.ownBlock = some w.heap.size) :
    Heng w0 h t g Q K c X D ls w' ∧ Row10 w0 w' h t T size v' n' xs' := by
  refine ⟨H.aside (S := fun k => v.ownBlock = some k) (Chg.grown (Chg.refl _ _) hg (fun k hk => .inl hk)) (fun k hk => ?_), ho, fun k hk => ?_⟩
  · obtain ⟨cs, h1⟩ := own_at r.own hk
    exact ⟨r.no k hk, (r.own.lt k hk).1, cs, T, _, h1, hT⟩
  · rcases hb with e | e
    · exact r.no k (e ▸ hk)
    · intro h9
      have h8 := H.lt h9
      rw [e] at hk
      injection hk with hk
      omega
theorem Loc10.aside {b : Nat} {cs : Array Value} {Tb : TypeId} (l : Loc10 w h t b Tb cs) (hc : Chg S w w') (hS : ¬ S b) : Loc10 w' h t b Tb cs := ⟨l.blk.chg hc hS, l.no⟩
theorem open10c (hA : All g Q K c X D ls) (hcc : c + 1 ≤ 1000000) (picks : List UInt8) (hd : DevAt w h (D.back picks)) (hf : ∀ k, h.foot k → w0.heap.size ≤ k) (hc : Chg No w0 w) :
    Calls Tryz.prog 14 #[.pointer (some ⟨h.d, 0, none⟩), g.V] w fun e w' => ∃ (t : EngH) (b : Sb), e = .returned (.tuple #[.pointer (some ⟨t.E, 0, none⟩), sbV b, .int .i64 0]) ∧ Haft w0 h t g Q K X ls (Eng.opened (D.back picks) g) ((D.back picks).stD (Eng.now (D.back picks))) w' ∧ Chg h.foot w w' := by
  obtain ⟨q1, q2, q3, q4, q5, q6⟩ := hA.back hcc picks
  refine (eopen_calls hd g hA.run.geo q2 q1 q3 q4 q5).mono ?_
  rintro e w' ⟨t, rfl, ⟨he, _⟩, hd', hch⟩
  exact ⟨t, _, rfl, ⟨hd', he, q6, hf, hc.then hch (fun i hi hk => by have := hf i hk; omega)⟩, hch⟩
theorem Haft.getc (H : Haft w0 h t g Q K X ls Y E w) (hA : All g Q K c X D ls) (hQ : ∀ x, Q x → x.good = true) (key : ByteArray) (hk : key.size ≤ 140737488351232) :
    Calls Tryz.prog 17 #[.pointer (some ⟨t.E, 0, none⟩), .string key] w fun e w' => e = .returned (.tuple #[itemV (Y.get E key), .int .i64 (Y.getE E key)]) ∧ Haft w0 h t g Q K X ls Y E w' ∧ Chg h.foot w w' := by
  obtain ⟨h1, h2, h3⟩ := H.aft.get_key hA H.eng.lg.ok hQ key
  refine (eget_calls (show DevN w.heap.size w h E from H.dev) H.eng H.aft.on.off H.aft.los key hk h1 h2 h3).mono ?_
  rintro e w' ⟨rfl, hd, hch⟩
  exact ⟨rfl, H.footC hd.at_ hch, hch⟩
theorem counts_keep {X X2 : Eng} (hh : X.blk.horizon ≤ X2.blk.horizon) (hg : ∀ k v, X.J.gone k v = true → v ≤ X2.blk.horizon ∨ X2.J.gone k v = true ∨ X.last < v) {z : Item} (hz : z.ver.toNat ≤ X.last) (hc : X.counts z = false) : X2.counts z = false := by
  unfold Eng.counts at hc
  rw [Bool.and_eq_false_iff] at hc
  rcases hc with h1 | h1
  · have : ¬ X.blk.horizon < z.ver.toNat := of_decide_eq_false h1
    exact counts_no (.inl (by omega))
  · have h2 : X.J.gone (Eng.key z.key) z.ver.toNat = true := by simpa using h1
    rcases hg _ _ h2 with h3 | h3 | h3
    · exact counts_no (.inl h3)
    · exact counts_no (.inr h3)
    · omega
end
end Go.Proofs.YtplpbbdakihnfaaGreat
end

section
namespace Go.Proofs.YtplpbbdakihnfaaGreat
open Go.RowKit
attribute [local go_sem ↓] Go.wp_at_zero Go.wp_at_succ
def gFull : Geo := ⟨2, 3, 2, 0⟩
def fkey (k : Nat) : ByteArray := ⟨#[UInt8.ofNat (97 + k)]⟩
def fit10 (k v : Nat) : Item := { key := fkey k, val := ⟨#[]⟩, flags := 0, exp := 0, ver := UInt64.ofNat v }
def fkeys (k : Nat) : List ByteArray := (List.range k).map fkey
def Fq (X : Eng) : Item → Prop := fun y => y.good = true ∧ y.ver.toNat ≤ X.last ∧ X.counts y = false
theorem ti_str : TI Tryz.prog tStr (.string ⟨#[]⟩) 1 16 := (by kernel_rfl : (Tryz.prog.info? tStr).map (fun i => (i.zero, i.size, i.bytes)) = some (some (.string ⟨#[]⟩), 1, 16))
theorem str_one_cell (xs : List ByteArray) : ∀ u ∈ xs.map skey, u.oneCell' = true := by
  intro u hu
  obtain ⟨x, _, rfl⟩ := List.mem_map.1 hu
  rfl
theorem fit10_ver (k : Nat) {v : Nat} (h : v < 18446744073709551616) : (fit10 k v).ver.toNat = v := by
  show (UInt64.ofNat v).toNat = v
  rw [UInt64.toNat_ofNat']
  exact Nat.mod_eq_of_lt h
theorem fit10_V (k : Nat) {v : Nat} (h : v < 18446744073709551616) : itemV (fit10 k v) = .agg #[.string (fkey k), .string ⟨#[]⟩, .int .u32 0, .int .i64 0, .int .u64 v] := by
  show Value.agg #[.string (fkey k), .string ⟨#[]⟩, .int .u32 ((0 : UInt32).toNat : Int), .int .i64 (0 : Int64).toInt, .int .u64 ((UInt64.ofNat v).toNat : Int)] = _
  rw [show (UInt64.ofNat v).toNat = v from fit10_ver k h]
  rfl
theorem fit10_good (k : Nat) {v : Nat} (h : v < 18446744073709551616) (h0 : 0 < v) : (fit10 k v).good = true ∧ (fit10 k v).size ≤ 1472 := by
  have e := fit10_ver k h
  refine ⟨?_, by show 32 + 1 + 0 ≤ 1472; decide⟩
  unfold Item.good
  rw [e]
  have h1 : (fit10 k v).key.size = 1 := rfl
  have h2 : (fit10 k v).val.size = 0 := rfl
  rw [h1, h2]
  simp [h0]
structure FullSt (w0 : World) (h : DevH) (tE bg : Nat) (k : Nat) (v : Value) (wr : World) : Prop where
  st : ∃ t X D ls, Heng w0 h t gFull (Fq X) (fun _ => True) (1 + 3 * k) X D ls wr ∧ t.E = tE ∧ Row10 w0 wr h t tStr 1 v k ((fkeys k).map skey) ∧ Loc10 wr h t bg 34 #[.int .i64 2, .int .i64 3, .int .i64 2, .int .i64 0]
section
variable {w0 w w' : World} {h : DevH} {t : EngH} {g : Geo} {Q : Item → Prop} {K : ByteArray → Prop} {c : Nat} {X X2 : Eng} {D D2 : Dev} {ls ls2 : List (List Item)}
theorem full_step (h : All g Q K c X D ls) (hc : c + 1 ≤ 1000000) (key : ByteArray) (h2 : All g (fun y => Q y ∧ X.may y.key = true) K (c + 1) (X.rm D [key]).2.1 (X.rm D [key]).2.2 ls) (hQ : ∀ y, Q y → y.good = true ∧ y.ver.toNat ≤ X.last ∧ (y.key = key ∨ X.counts y = false)) :
    All g (Fq (X.rm D [key]).2.1) K (c + 1) (X.rm D [key]).2.1 (X.rm D [key]).2.2 ls := by
  obtain ⟨_, _, _, _, q5, q6, q7, _⟩ := h.remove hc [key]
  have hr := h.rid_ hc [key]
  refine h2.mono (fun y hy => ?_) (Nat.le_refl _) hc
  obtain ⟨k1, k2, k3⟩ := hQ y hy.1
  refine ⟨k1, by rw [q5]; exact k2, ?_⟩
  rcases k3 with k3 | k3
  · exact hr.no key (by simp) (by rw [← k3]; exact hy.2) y k3 k2
  · exact counts_keep q6 q7 k2 k3
end
set_option maxRecDepth 100000 in
set_option maxHeartbeats 8000000 in
theorem efull_calls (w : World) (z : Int) (A3 : Option Addr) (n3 cp3 : Nat) (picks : List UInt8) (te3 : TypeId) (hn3 : picks.length = n3) (hr3 : Rd w te3 A3 n3 (bys picks)) :
    Calls Tryz.prog 8 #[.int .i64 z, .slice A3 n3 cp3] w fun e w' => e = .returned (.bool true) ∧ Chg No w w' := by
  have HAW := Lib.hid (awake10_calls w)
  have HN0 := fun W => Lib.hid (eng_new30 W)
  have H3 := Lib.hid (And.intro hn3 hr3)
  clear hn3 hr3
  by_cases hle : 1 ≤ z ∧ z ≤ 12
  rotate_left
  · by_cases h20 : z < 1
    · have hb : decide (z < 1) = true := by simp; omega
      clear hle
      go_enter Tryz.func8, Tryz.ntmps8
      go_wp2_with fail
      refine HAW.out.mono ?_
      rintro e w1 ⟨rfl, hc1⟩
      have HC1 := Lib.hid hc1
      clear hc1
      go_wp2_with fail
      go_ret
      exact ⟨rfl, HC1.out⟩
    · have hb3 : (12 : Int) < z := by omega
      clear hle
      go_enter Tryz.func8, Tryz.ntmps8
      go_wp2_with fail
      refine HAW.out.mono ?_
      rintro e w1 ⟨rfl, hc1⟩
      have HC1 := Lib.hid hc1
      clear hc1
      go_wp2_with fail
      go_ret
      exact ⟨rfl, HC1.out⟩
  obtain ⟨n, rfl⟩ : ∃ n : Nat, z = n := ⟨z.toNat, by omega⟩
  have hb2 : ¬ (n : Int) < 1 := by omega
  have hb3 : ¬ (12 : Int) < (n : Int) := by omega
  go_enter Tryz.func8, Tryz.ntmps8
  go_wp2_with fail
  refine HAW.out.mono ?_
  rintro e w1 ⟨rfl, hc1⟩
  have HC1 := Lib.hid hc1
  clear hc1 HAW
  go_wp2_with fail
  refine (HN0 _).out.mono ?_
  rintro e w2 ⟨h, rfl, hd2, hc2, hf2⟩
  have HD2 := Lib.hid hd2
  have HC2 := Lib.hid (HC1.out.trans hc2)
  have HF2 : Hid (∀ k, h.foot k → w.heap.size ≤ k) := fun k hk => Nat.le_trans HC1.out.size (hf2 k hk)
  clear hd2 hc2 hf2 HN0 HC1
  go_wp2_with fail
  have a3 : Chg No w2 (w2.alloc (.cells #[.int .i64 2, .int .i64 3, .int .i64 2, .int .i64 0] 34)) := (Chg.refl No w2).alloc _
  obtain ⟨n1, nn2, nn3, nn4, nn5⟩ := all_new 30 gFull rfl (by decide) (fun _ => True)
  have HO := Lib.hid (Heng.opened (w0 := w) (h := h) ((DevN.chgNo HD2.out a3).at_) HF2.out (HC2.out.trans a3) (g := gFull) rfl (by decide) rfl (by rw [n1]; decide) (by rw [n1]; decide) nn2 nn4)
  rw [n1, show gFull.V = .agg #[.int .i64 2, .int .i64 3, .int .i64 2, .int .i64 0] from rfl] at HO
  have HB3 := Lib.hid (Blk.new w2 34 #[.int .i64 2, .int .i64 3, .int .i64 2, .int .i64 0])
  have HBF : Hid (¬ h.foot w2.heap.size) := fun hk => by have := foot_size HD2.out hk; omega
  obtain ⟨X0, hX0⟩ : ∃ X0, X0 = Eng.opened (Dev.new 30) gFull := ⟨_, rfl⟩
  obtain ⟨D0, hD0⟩ : ∃ D0, D0 = (Dev.new 30).stD (Eng.now (Dev.new 30)) := ⟨_, rfl⟩
  rw [← hX0, ← hD0] at HO
  rw [← hX0] at nn3
  have HX0 := Lib.hid nn3
  obtain ⟨bg, hbg⟩ : ∃ bg, bg = w2.heap.size := ⟨_, rfl⟩
  rw [← hbg] at HB3 HBF ⊢
  have HBG := Lib.hid hbg
  clear a3 n1 nn2 nn3 nn4 nn5 hX0 hD0 hbg HD2 HC2
  refine HO.out.mono ?_
  rintro e w4 ⟨t, rfl, h4, hc4, hall⟩
  have L4 : Hid (Loc10 w4 h t bg 34 #[.int .i64 2, .int .i64 3, .int .i64 2, .int .i64 0]) := ⟨HB3.out.chg hc4 HBF.out, fun hk => (hall bg hk).elim HBF.out (fun h9 => by have := HBG.out; simp at h9; omega)⟩
  have H4 := Lib.hid h4
  clear h4 hc4 hall HO HB3
  rw [sbV_eq]
  go_wp2_with fail
  have a5 : Chg No w4 (w4.alloc (.cells #[.int .u64 Sb.zero.seq, .int .u64 Sb.zero.epoch, .int .u64 Sb.zero.reserved, .int .u64 Sb.zero.horizon, .int .u64 Sb.zero.gen, .bool Sb.zero.clean, .int .i64 Sb.zero.image] tSb)) := (Chg.refl No w4).alloc _
  have HS0 := Lib.hid (FullSt.mk (w0 := w) (h := h) (tE := t.E) (bg := bg) (k := 0) (v := .slice none 0 0) (wr := w4.alloc (.cells #[.int .u64 Sb.zero.seq, .int .u64 Sb.zero.epoch, .int .u64 Sb.zero.reserved, .int .u64 Sb.zero.horizon, .int .u64 Sb.zero.gen, .bool Sb.zero.clean, .int .i64 Sb.zero.image] tSb)) ⟨t, X0, D0, _, ⟨(H4.out.chgNo a5).dev, (H4.out.chgNo a5).eng, H4.out.all.mono (fun _ hf => hf.elim) (Nat.le_refl _) (by decide), (H4.out.chgNo a5).far, (H4.out.chgNo a5).chg⟩, rfl, Row10.nil _ _ _ _ _ _, L4.out.chgNo a5⟩)
  clear a5 H4 L4
  go_loopg [11, 12] n (fun g v11 v12 wr => ∃ k : Nat, v12 = .int .i64 k ∧ k ≤ n ∧ n - k = g ∧ Hid (FullSt w h t.E bg k v11 wr))
  case atStart => exact ⟨0, rfl, by omega, by omega, HS0.out⟩
  case round =>
    obtain ⟨k, rfl, hk, hg, HH⟩ := hrel
    obtain ⟨t1, X, D, ls, h1, h2, h3, h4⟩ := HH.out.st
    have H1 := Lib.hid h1
    have HE1 := Lib.hid h2
    have R1 := Lib.hid h3
    have L1 := Lib.hid h4
    clear h1 h2 h3 h4 HH HS0
    by_cases hkn : k < n
    · have hwi : IntKind.i64.wrap (97 + (k : Int)) = 97 + (k : Int) := IntWalk.i64_in _ (by omega)
      have hw8 : IntKind.u8.wrap (97 + (k : Int)) = 97 + (k : Int) := IntWalk.u8_in _ (by omega)
      have hcv : ∀ W : World, (convert tBytes 9 (.slice (some ⟨W.heap.size, 0, none⟩) 1 1)).run Tryz.prog (W.alloc (.cells #[.int .u8 (97 + (k : Int))] tU8)) = .ok (.string (fkey k)) (W.alloc (.cells #[.int .u8 (97 + (k : Int))] tU8)) := by
        intro W
        have hb := Rd.ofBlk (k := 1) (Blk.new W tU8 #[.int .u8 (97 + (k : Int))]) (by simp)
        have e : (#[Value.int .u8 (97 + (k : Int))].toList.take 1) = bys [UInt8.ofNat (97 + k)] := by
          have : ((UInt8.ofNat (97 + k)).toNat : Int) = 97 + (k : Int) := by rw [UInt8.toNat_ofNat']; omega
          simp [bys]
          omega
        rw [e] at hb
        exact run_b2s _ _ 1 1 [UInt8.ofNat (97 + k)] Tryz.underlying40 Tryz.underlying5 Tryz.underlying9 tU8 hb
      go_wp2_with fail
      have a2 : Chg No wr (wr.alloc (.cells #[.int .u8 (97 + (k : Int))] tU8)) := (Chg.refl No wr).alloc _
      have H2 := Lib.hid (H1.out.chgNo a2)
      have R2 := Lib.hid (R1.out.chgNo a2)
      have L2 := Lib.hid (L1.out.chgNo a2)
      have HV := Lib.hid (H2.out.version (by omega))
      obtain ⟨f1, f2, f3⟩ := ver_facts H2.out (by omega)
      have hvb : X.last + 1 < 18446744073709551616 := by
        have h1 := H1.out.all.run.last
        have h2 := H1.out.all.run.res
        omega
      obtain ⟨X3, hX3⟩ : ∃ X3, X3 = X.verX D := ⟨_, rfl⟩
      obtain ⟨D3, hD3⟩ : ∃ D3, D3 = X.verD D := ⟨_, rfl⟩
      rw [← hX3, ← hD3, HE1.out] at HV
      rw [← hX3] at f1 f2 f3
      obtain ⟨v, hv⟩ : ∃ v, v = X.last + 1 := ⟨_, rfl⟩
      rw [← hv] at HV f1 hvb
      have F := Lib.hid (And.intro hv (And.intro f1 (And.intro f2 (And.intro f3 hvb))))
      clear hX3 hD3 f1 f2 f3 hvb hv a2 hcv hwi hw8 H1 R1 L1
      refine HV.out.mono ?_
      rintro e w3 ⟨rfl, s3⟩
      have H3' := Lib.hid s3.st
      have R3 := Lib.hid (s3.row R2.out)
      have L3 := Lib.hid (s3.keep L2.out)
      have HE3 : Hid (t1.E = t.E) := HE1.out
      clear s3 HV R2 L2 H2
      go_wp2_with fail
      have hg9 := fit10_good k F.out.2.2.2.2 (by have := F.out.1; omega)
      have hnv := fit10_ver k F.out.2.2.2.2
      have HP := Lib.hid (H3'.out.putAny (by omega) (fit10 k v) (by show 1 ≤ 140737488351232; decide) (by show 0 ≤ 140737488351232; decide) (by
        rintro ⟨_, h9, _⟩
        rw [hnv] at h9
        have := F.out.1
        omega) (fun _ _ _ => True.intro))
      rw [fit10_V k F.out.2.2.2.2, HE3.out] at HP
      have HG9 := Lib.hid (And.intro hg9 hnv)
      clear hg9 hnv
      refine HP.out.mono ?_
      rintro e w4 ⟨er, t4, X4, D4, ls4, rfl, s4, e1, e2, e3, e4⟩
      obtain rfl : er = 0 := e4.2 HG9.out.1
      have H4' := Lib.hid s4.st
      have R4 := Lib.hid (s4.row R3.out)
      have L4 := Lib.hid (s4.keep L3.out)
      have HE4 : Hid (t4.E = t.E) := s4.E.trans HE3.out
      have F4 := Lib.hid (And.intro e1 (And.intro e2 e3))
      clear s4 HP R3 L3 H3' e1 e2 e3 e4
      go_wp2_with fail
      have a5 : Chg No w4 (w4.alloc (.cells #[.string (fkey k)] tStr)) := (Chg.refl No w4).alloc _
      have H5 := Lib.hid (H4'.out.chgNo a5)
      have R5 := Lib.hid (R4.out.chgNo a5)
      have L5 := Lib.hid (L4.out.chgNo a5)
      have HRM := Lib.hid (H5.out.rebase.remove (by omega) (some ⟨w4.heap.size, 0, none⟩) 1 1 [fkey k] rfl tStr (Rd.ofBlk (k := 1) (Blk.new w4 tStr #[.string (fkey k)]) (by simp)) (by decide) (fun q hq => by rw [List.mem_singleton.1 hq]; show 1 ≤ 140737488351232; decide))
      rw [HE4.out] at HRM
      have HQ4 : Hid (∀ y, (Fq X y ∨ (y = fit10 k v ∧ (fit10 k v).good = true)) → y.good = true ∧ y.ver.toNat ≤ X4.last ∧ (y.key = fkey k ∨ X4.counts y = false)) := by
        have l4 : X4.last = v := F4.out.2.2.trans F.out.2.1
        have lv := F.out.1
        rintro y (⟨q1, q2, q3⟩ | ⟨rfl, q1⟩)
        · refine ⟨q1, by omega, .inr ?_⟩
          refine counts_keep (X := X) (X2 := X4) ?_ (fun k' v' hk' => ?_) q2 q3
          · rw [F4.out.2.1, F.out.2.2.2.1]; exact Nat.le_refl _
          · right; left; rw [F4.out.1, F.out.2.2.1]; exact hk'
        · exact ⟨q1, by rw [HG9.out.2, l4]; exact Nat.le_refl _, .inl rfl⟩
      refine HRM.out.mono ?_
      rintro e w5 ⟨t5, rfl, s5⟩
      have H6 : Hid (Heng w h t5 gFull (Fq (X4.rm D4 [fkey k]).2.1) (fun _ => True) (1 + 3 * k + 1 + 1 + 1) (X4.rm D4 [fkey k]).2.1 (X4.rm D4 [fkey k]).2.2 ls4 w5) := ⟨s5.st.dev, s5.st.eng, full_step H5.out.all (by omega) (fkey k) s5.st.all HQ4.out, s5.st.far, s5.st.chg⟩
      have R6 := Lib.hid (s5.row R5.out)
      have L6 := Lib.hid (s5.keep L5.out)
      have HE6 : Hid (t5.E = t.E) := s5.E.trans HE4.out
      clear s5 HRM HQ4 R5 L5 H5 a5 H4' R4 L4 F F4 HG9
      have R7 := Lib.hid (R6.out.chgNo ((Chg.refl No w5).alloc (.cells #[.string (fkey k)] tStr)))
      have H7 := Lib.hid (H6.out.chgNo ((Chg.refl No w5).alloc (.cells #[.string (fkey k)] tStr)))
      have L7 := Lib.hid (L6.out.chgNo ((Chg.refl No w5).alloc (.cells #[.string (fkey k)] tStr)))
      have hbz : w.heap.size ≤ (w5.alloc (.cells #[.string (fkey k)] tStr)).heap.size := H7.out.chg.size
      go_wp2_with (first
        | (at_builtin; go_loud (refine wpList_app _ rfl (.tmp 73) (.tmp 75) 49 rfl tStr Tryz.underlying49 ti_str rfl (by omega) w.heap.size _ k _ rfl R7.out.own tStr _ 1 1 [.string (fkey k)] rfl (rd_one _ _ _) (str_one_cell [fkey k]) (by simp only [maxLen]; omega) (by omega) hbz ?_); intro v8 w8 ho8 hg8 hb8; have HA := Lib.hid (R7.out.app H7.out (.inl rfl) ho8 hg8 hb8); have HG8 := Lib.hid hg8; clear ho8 hg8 hb8))
      have L8 := Lib.hid (L7.out.aside (Chg.grown (Chg.refl _ _) HG8.out (fun k' hk' => .inl hk')) (fun e => by
        obtain ⟨cs, h9⟩ := own_at R7.out.own e
        have h8 := L7.out.blk
        unfold Blk at h8
        rw [h9] at h8
        injection h8 with h8
        injection h8 with _ h8
        exact absurd h8 (by decide)))
      go_roundg (n - (k + 1))
      case measure => omega
      case rel =>
        refine ⟨k + 1, by go_num, by omega, rfl, ⟨t5, _, _, ls4, HA.out.1, HE6.out, ?_, L8.out⟩⟩
        have e : (fkeys (k + 1)).map skey = (fkeys k).map skey ++ [.string (fkey k)] := by
          unfold fkeys
          rw [List.range_succ, List.map_append, List.map_append]; rfl
        rw [e]
        exact HA.out.2
    · obtain rfl : n = k := by omega
      obtain ⟨A7, c7, rfl, hnc, hrd⟩ := own_slice R1.out.own
      have HFF : Hid (∀ k, h.foot k → w.heap.size ≤ k) := fun k hk => H1.out.far k (.inl hk)
      have HNF : Hid (∀ W D', DevAt W h D' → ∀ g cur fz, W.heap[g]? = some (.cells cur tStr fz) → ¬ h.foot g) := fun W D' hd g cur fz hb => DevN.not_foot (show DevN W.heap.size W h D' from hd) hb (by decide) (by decide)
      have HRD := Lib.hid hrd
      have HDV := Lib.hid H1.out.dev
      have HCR := Lib.hid (crash10 H1.out.dev HFF.out H1.out.chg A3 n3 cp3 picks te3 H3.out.1 H3.out.2)
      have HALL := Lib.hid H1.out.all
      have HBN : Hid (¬ h.foot bg) := fun hk => L1.out.no (.inl hk)
      have HBB := Lib.hid L1.out.blk
      clear hrd R1 L1 H1
      go_wp2_with fail
      refine HCR.out.mono ?_
      rintro e w10 ⟨rfl, hd10, hc10, hf10⟩
      have HD10 := Lib.hid hd10
      have HC10 := Lib.hid hc10
      have HB10 := Lib.hid (HBB.out.chg hf10 HBN.out)
      have HR10 := Lib.hid (HRD.out.chg hf10 (HNF.out _ _ HDV.out))
      clear hd10 hc10 hf10 HCR HBB HRD HDV
      go_wp2_with fail
      refine (on10 HD10.out HFF.out HC10.out).mono ?_
      rintro e w11 ⟨rfl, hd11, hc11, hf11⟩
      have HD11 : Hid (DevAt w11 h (D.back picks)) := hd11
      have HC11 := Lib.hid hc11
      have HB11 := Lib.hid (HB10.out.chg hf11 HBN.out)
      have HR11 := Lib.hid (HR10.out.chg hf11 (HNF.out _ _ HD10.out))
      clear hd11 hc11 hf11 HD10 HC10 HB10 HR10
      have y0 := HB11.out.cell 0
      have y1 := HB11.out.cell 1
      have y2 := HB11.out.cell 2
      have y3 := HB11.out.cell 3
      simp at y0 y1 y2 y3
      go_wp2_with fail
      have HO := Lib.hid (open10c HALL.out (by omega) picks HD11.out HFF.out HC11.out)
      rw [show gFull.V = .agg #[.int .i64 2, .int .i64 3, .int .i64 2, .int .i64 0] from rfl] at HO
      clear y0 y1 y2 y3
      refine HO.out.mono ?_
      rintro e w12 ⟨t12, b12, rfl, h12, hf12⟩
      have H12 := Lib.hid h12
      have HR12 := Lib.hid (HR11.out.chg hf12 (HNF.out _ _ HD11.out))
      clear h12 hf12 HO HD11 HC11 HB11 HR11
      obtain ⟨Y, hY⟩ : ∃ Y, Y = Eng.opened (D.back picks) gFull := ⟨_, rfl⟩
      obtain ⟨E, hE⟩ : ∃ E, E = (D.back picks).stD (Eng.now (D.back picks)) := ⟨_, rfl⟩
      rw [← hY, ← hE] at H12
      clear hY hE
      have HG : Hid (∀ key, Y.getE E key = 5) := by
        intro key
        rcases get_one Y E key with ⟨_, e2⟩ | ⟨e1, _⟩
        · exfalso
          obtain ⟨_, k2, k3, _⟩ := Aft.told HALL.out H12.out.aft H12.out.eng.lg.ok e2
          rw [k2.2.2] at k3
          cases k3
        · exact e1
      rw [sbV_eq]
      go_wp2_with fail
      go_loopg [16] n (fun g v16 wr => ∃ k : Nat, v16 = .int .i64 k ∧ k ≤ n ∧ n - k = g ∧ Hid (Haft w h t12 gFull (Fq X) (fun _ => True) X ls Y E wr ∧ Rd wr tStr A7 (n * 1) ((fkeys n).map skey)))
      case atStart => exact ⟨0, rfl, by omega, by omega, H12.out, HR12.out⟩
      case round =>
        obtain ⟨k, rfl, hk, hg, HH⟩ := hrel
        by_cases hkm : k < n
        · have hkey : (fkeys n)[k]? = some (fkey k) := by unfold fkeys; rw [List.getElem?_map, List.getElem?_range hkm]; rfl
          obtain ⟨gy, oy, eA, hgy, hcy⟩ := HH.out.2.at_ (j := k) (by omega)
          subst eA
          have d0 : wr.cell? ⟨gy, oy + k, none⟩ = some (.string (fkey k)) := hcy _ _ (by rw [List.getElem?_map, hkey]; rfl)
          have HT := Lib.hid (HH.out.1.getc HALL.out (fun y hy => hy.1) (fkey k) (by show 1 ≤ 140737488351232; decide))
          rw [HG.out] at HT
          clear hcy hkey
          go_wp2_with fail
          refine HT.out.mono ?_
          rintro e w14 ⟨rfl, h14, hf14⟩
          have HH14 := Lib.hid h14
          have HR14 := Lib.hid (HH.out.2.chg hf14 (HNF.out _ _ HH.out.1.dev))
          clear h14 hf14 HT
          obtain ⟨x, hx⟩ : ∃ x, x = Y.get E (fkey k) := ⟨_, rfl⟩
          rw [← hx]
          clear hx
          go_wp2_with fail
          go_roundg (n - (k + 1))
          case measure => omega
          case rel => exact ⟨k + 1, by go_num, by omega, rfl, HH14.out.chgNo ((Chg.refl No w14).alloc _), HR14.out.chg ((Chg.refl No w14).alloc _) (fun _ _ _ _ h => h)⟩
        · obtain rfl : n = k := by omega
          go_wp2_with fail
          go_ret
          exact ⟨rfl, HH.out.1.chg⟩
end Go.Proofs.YtplpbbdakihnfaaGreat
end
