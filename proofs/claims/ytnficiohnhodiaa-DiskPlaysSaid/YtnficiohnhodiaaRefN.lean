import Derived.Test.YtnficiohnhodiaaRefM
/-
  play: Sync, Crash, Read.
-/
namespace Go.Proofs.Ytnficiohnhodiaa
open Go.RowKit
theorem sync_code (d : Dev) : 0 ≤ d.sync.1 := by
  unfold Dev.sync
  split
  · show (0 : Int) ≤ 0; omega
  · rcases step_code d with h | h <;> rw [h] <;> omega
/-- the operation is laid into memory; both devices are as they were -/
structure Both (w0 w : World) (p mn ms mc : Nat) (A : RAd) (d : Dev) (L : Int) (n : Nat) : Prop where
  dev : DB w0 w p mn ms mc d n
  ref : RefAt w w0.heap.size A d L
  off : ∀ k, DFoot p mn ms mc k → ¬ A.S k
  low : ∀ k, A.S k → w0.heap.size ≤ k
section
variable {w0 w w' : World} {A : RAd} {d d' : Dev} {L L' : Int} {p mn ms mc n m : Nat}
theorem Both.below (h : Both w0 w p mn ms mc A d L n) (hb : Below w.heap.size w w') : Both w0 w' p mn ms mc A d L n := ⟨h.dev.below hb, h.ref.below hb, h.off, h.low⟩
/-- the program's device has made its step, the document's has not yet -/
theorem Both.ahead (h : Both w0 w p mn ms mc A d L n) (hk : Keeps (DFoot p mn ms mc) w w') : RefAt w' w0.heap.size A d L :=
  ((RefX.of h.ref h.dev.lay h.dev.ok.lens).keeps hk (fun _ e => e) h.off).ref
theorem Both.behind (h : Both w0 w p mn ms mc A d L n) (hd : DB w0 w p mn ms mc d' m) (hk : Keeps A.S w w') (hr : RefAt w' w0.heap.size A d' L') : Both w0 w' p mn ms mc A d' L' m :=
  ⟨Pre.DB.oth hd hk h.off h.low, hr, h.off, h.low⟩
set_option maxRecDepth 100000 in
set_option maxHeartbeats 2000000 in
theorem play_sync (h : Both w0 w p mn ms mc A d L n) (hn : n ≤ 1000000) (hL : L ≤ 9223372036854775807) (hL0 : -100000000 ≤ L) (at_ x : Int) (bs ks : Value) :
    Calls Try.prog 25 #[.pointer (some ⟨p, 0, none⟩), .pointer (some ⟨A.b, 0, none⟩), .agg #[.int .i64 3, .int .i64 at_, .int .i64 x, bs, ks]] w fun e w' => e = .returned (.bool true) ∧ Both w0 w' p mn ms mc A d.sync.2 (stepL d L) (n + 1) ∧ Keeps (fun k => DFoot p mn ms mc k ∨ A.S k) w w' := by
  have hal : Below w.heap.size w (w.alloc (.cells #[.int .i64 3, .int .i64 at_, .int .i64 x, bs, ks] 54)) := (Below.refl _ _).alloc (Nat.le_refl _) _
  have H1 := Lib.hid (h.below hal)
  have Hal := Lib.hid hal
  have hs := sync_db (h.below hal).dev (by omega)
  have hc := sync_code d
  clear h hal
  go_enter Try.func25, Try.ntmps25
  go_wp2_with (first
    | (go_at_call 47; (with_reducible refine hs.mono ?_); rintro _ w2 ⟨rfl, h2, k2⟩; clear hs; have HD2 := Lib.hid h2; have K2 := Lib.hid k2; have hnum := num_any d.sync.1 w2 hc; have hr := rsync_any (H1.out.ahead k2) H1.out.dev.ok hn hL hL0; clear h2 k2)
    | (go_at_call 10; (with_reducible refine hnum.mono ?_); rintro _ _ ⟨rfl, rfl⟩; clear hnum)
    | (go_at_call 55; (with_reducible refine hr.mono ?_); rintro _ w3 ⟨rfl, h3, k3⟩; clear hr; have HR3 := Lib.hid h3; have K3 := Lib.hid k3; clear h3 k3))
  go_ret
  refine ⟨by simp, ⟨Pre.DB.oth HD2.out K3.out H1.out.off H1.out.low, HR3.out, H1.out.off, H1.out.low⟩, (Keeps.of_below Hal.out).trans ((K2.out.mono (fun _ _ e => .inl e)).trans (K3.out.mono (fun _ _ e => .inr e)))⟩
end
end Go.Proofs.Ytnficiohnhodiaa
