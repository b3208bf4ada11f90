/- Logs at the laws: a device and a log of one's own. -/
import Derived.Test.YtcmobcbecbajiaaRegN
import Derived.Test.YtcmobcbecbajiaaRegS
import Derived.Test.YtcmobcbecbajiaaFlashG
namespace Go.Proofs.Ytcmobcbecbajiaa
open Go.RowKit
open Go.ChangeMaps (setBlock)
set_option linter.unusedSimpArgs false
set_option linter.unusedVariables false

/-- a log and its device, made since w0 -/
structure Hlog (w0 : World) (h : DevH) (t : LgH) (G : Lg) (D : Dev) (w : World) : Prop where
  log : LgAt w h t G
  dev : DevAt w h D
  own : ∀ k, t.own k → w0.heap.size ≤ k
  foot : ∀ k, h.foot k → w0.heap.size ≤ k
  chg : Chg No w0 w
section
variable {w0 w w' : World} {h : DevH} {t : LgH} {G : Lg} {D : Dev}
theorem Hlog.chgNo (H : Hlog w0 h t G D w) (hc : Chg No w w') : Hlog w0 h t G D w' := ⟨H.log.chgNo hc, (DevN.chgNo H.dev hc).at_, H.own, H.foot, H.chg.trans hc⟩
/-- what a call of the log may change -/
theorem Hlog.opened {h : DevH} {D : Dev} {first n : Nat} (hdv : DevAt w h D) (hf : ∀ k, h.foot k → w0.heap.size ≤ k) (hc : Chg No w0 w) (hn : 1 ≤ n) (hm : n < 20) (hfit : first + 4 * n ≤ D.n) (hoff : D.off = false) :
    Calls Try.prog 24 #[.pointer (some ⟨h.d, 0, none⟩), .int .i64 first, .int .i64 n] w fun e w' => ∃ t : LgH, e = .returned (.tuple #[.pointer (some ⟨t.L, 0, none⟩), .int .i64 0]) ∧ Hlog w0 h t (Lg.opened D first n) D w' ∧ (∀ k, t.own k → w.heap.size ≤ k) ∧ Chg h.foot w w' := by
  refine (gopen_calls hdv first n hn hm hfit hoff).mono ?_
  rintro e w' ⟨t, he, hl, hd, ho, hch⟩
  exact ⟨t, he, ⟨hl, hd.at_, fun k hk => Nat.le_trans hc.size (ho k hk), hf, hc.then hch (fun i hi hT => by have := hf i hT; omega)⟩, ho, hch⟩
/-- what Put and Seal leave -/
structure Hpost (w0 w : World) (h : DevH) (t : LgH) (R : LgR) (v : Value) (t' : LgH) (w' : World) : Prop where
  st : Hlog w0 h t' R.G R.D w'
  lost : w'.ownsRow w.heap.size tItem 5 v R.lost.length (its R.lost)
  lostNo : ∀ k, v.ownBlock = some k → ¬ t'.own k
  L : t'.L = t.L
  own : ∀ k, t'.own k → t.own k ∨ w.heap.size ≤ k
  chg : Chg (fun k => h.foot k ∨ t.own k) w w'
theorem Hlog.post {R : LgR} {v : Value} {t' : LgH} (H : Hlog w0 h t G D w) (hp : LgPost w h t R v t' w') : Hpost w0 w h t R v t' w' := by
  have hch : Chg (fun k => h.foot k ∨ t.own k) w w' := hp.chg.mono (fun k _ hk => by rcases hk with hk | hk; exact .inl hk; exact .inr (H.log.spot_own hk))
  refine ⟨⟨hp.log, hp.dev, fun k hk => ?_, H.foot, H.chg.then hch (fun i hi hT => ?_)⟩, hp.lost, hp.lostNo, hp.L, hp.own, hch⟩
  · rcases hp.own k hk with h | h
    · exact H.own k h
    · exact Nat.le_trans H.chg.size h
  · rcases hT with hT | hT
    · have := H.foot i hT; omega
    · have := H.own i hT; omega
theorem Hlog.put (H : Hlog w0 h t G D w) (x : Item) (hk : x.key.size ≤ 140737488351232) (hv : x.val.size ≤ 140737488351232) :
    Calls Try.prog 25 #[.pointer (some ⟨t.L, 0, none⟩), itemV x] w fun e w' => ∃ v t', e = .returned (.tuple #[v, .int .i64 (G.put D x).e]) ∧ Hpost w0 w h t (G.put D x) v t' w' := by
  refine (gput_calls H.dev H.log x hk hv).mono ?_
  rintro e w' ⟨v, t', he, hp⟩
  exact ⟨v, t', he, H.post hp⟩
theorem Hlog.shut (H : Hlog w0 h t G D w) :
    Calls Try.prog 26 #[.pointer (some ⟨t.L, 0, none⟩)] w fun e w' => ∃ v t', e = .returned (.tuple #[v, .int .i64 (G.sl D).e]) ∧ Hpost w0 w h t (G.sl D) v t' w' := by
  refine (seal_calls H.dev H.log).mono ?_
  rintro e w' ⟨v, t', he, hp⟩
  exact ⟨v, t', he, H.post hp⟩
/-- a local block is none of theirs -/
structure Loc (h : DevH) (t : LgH) (g : Nat) : Prop where
  foot : ¬ h.foot g
  own : ¬ t.own g
theorem Loc.ofNew (H : Hlog w0 h t G D w) : Loc h t w.heap.size := ⟨fun hf => by have := foot_size H.dev hf; omega, fun ho => by have := H.log.lt _ ho; omega⟩
theorem Loc.step {R : LgR} {v : Value} {t' : LgH} {g : Nat} (hl : Loc h t g) (hg : g < w.heap.size) (hp : Hpost w0 w h t R v t' w') : Loc h t' g := ⟨hl.foot, fun ho => by
  rcases hp.own g ho with h | h
  · exact hl.own h
  · omega⟩
theorem Loc.keep {R : LgR} {v : Value} {t' : LgH} {g : Nat} {T : TypeId} {cs : Array Value} (hl : Loc h t g) (hb : Blk w g T cs) (hp : Hpost w0 w h t R v t' w') : Blk w' g T cs := hb.chg hp.chg (by rintro (hf | ho); exact hl.foot hf; exact hl.own ho)
end

def itJ (key : ByteArray) (v : UInt64) : Item := { key := key, val := ⟨#[118]⟩, flags := 0, exp := 0, ver := v }
set_option maxRecDepth 100000 in
theorem it9_calls (key : ByteArray) (v : UInt64) (w : World) :
    Calls Try.prog 33 #[.string key, .int .u64 v.toNat] w fun e w' => e = .returned (itemV (itJ key v)) ∧ Chg No w w' := by
  go_enter Try.func33, Try.ntmps33
  go_wp2
  refine bodyPost_ret (v := itemV (itJ key v)) (by simp [results, Try.results33, go_sem]; exact ⟨rfl, rfl, rfl, rfl, rfl⟩) rfl ⟨rfl, ?_⟩
  (repeat (first | (with_reducible exact Chg.refl _ _) | (with_reducible assumption) | (with_reducible refine Chg.drewN ?_ _) | (with_reducible refine Chg.drew ?_) | (with_reducible refine Chg.alloc ?_ _) | (with_reducible refine Chg.setCell ?_ (by first | (left; simp [DevH.foot]; done) | (right; simp; done) | (right; simp; omega)) _)))
end Go.Proofs.Ytcmobcbecbajiaa
