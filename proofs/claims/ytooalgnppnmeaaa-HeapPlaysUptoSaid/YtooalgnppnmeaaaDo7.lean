/- do: All. -/
import Derived.Test.YtooalgnppnmeaaaDo2
import Derived.Test.YtooalgnppnmeaaaRanged
import Derived.Test.YtooalgnppnmeaaaS2
namespace Go.Proofs.Ytooalgnppnmeaaa
open Go.RowKit

section
variable {F1 F2 : Nat → Prop} {hb rb : Nat} {room : Int} {ns : List Nd} {w : World}
set_option maxRecDepth 100000 in
set_option maxHeartbeats 2000000 in
theorem do_7 (b : Both w F1 F2 hb rb room ns ns) (hg : Good room ns) (hr : room ≤ 4000) (x : Opr) (lv nv : Value) (hx : x.kind = 7) :
    Calls Try.prog 37 #[.pointer (some ⟨hb, 0, none⟩), .pointer (some ⟨rb, 0, none⟩), opVal x lv nv] w (RetDo w F1 F2 hb rb room) := by
  have hl4 := hg.len4 hr
  have h6 : Hid (∀ n ∈ ns, n.args.length ≤ 6) := fun n hn => (hg.may n hn).2.1
  have HB := Lib.hid b
  have HG := Lib.hid hg
  obtain ⟨kind, n, m, two, l, nodes⟩ := x
  dsimp only [opVal] at hx ⊢
  subst hx
  clear b hg
  have hsh : Hid (Short ns) := ⟨by omega, fun n hn => by have := h6.out n hn; omega⟩
  go_enter Try.func37, Try.ntmps37
  go_wp2_with fail
  have k0 : Kept No w (w.alloc (.cells #[.int .i64 7, .int .i64 n, .int .i64 m, .bool two, lv, nv] 63)) := (Kept.refl No w).alloc _
  refine (ranged_any (HB.out.keptNo k0).h hl4 h6.out).mono ?_
  rintro e w1 ⟨v, rfl, hv, k1⟩
  obtain ⟨A1, c1, rfl⟩ := hv.reads.slice
  have K1 : Hid (Kept No w w1) := k0.thenNo k1
  have HV := Lib.hid hv
  obtain ⟨A, c, _, _, _, z1, _, hn⟩ := (HB.out.keptNo K1.out).r.open_
  have HN := Lib.hid hn.reads
  clear k0 k1 hv hn
  go_wp2_with fail
  refine (sameNodes_any HV.out.reads HN.out hsh.out hsh.out).mono ?_
  rintro e w2 ⟨rfl, k2⟩
  rw [decide_eq_true rfl]
  have K2 : Hid (Kept No w w2) := K1.out.thenNo k2
  have HV2 := Lib.hid (HV.out.keptNo k2)
  clear k2
  go_wp2_with fail
  refine (spoil_any HV2.out ⟨by omega, fun n hn => by have := h6.out n hn; omega⟩ (-6)).mono ?_
  rintro e w3 ⟨rfl, k3⟩
  have far : ∀ k, k < w.heap.size → ¬ Fr (w.alloc (.cells #[.int .i64 7, .int .i64 n, .int .i64 m, .bool two, lv, nv] 63)).heap.size k := fun k hk h => by
    unfold Fr at h; rw [World.size_alloc] at h; omega
  have HF := Lib.hid (RetDo.same ((HB.out.keptNo K2.out).kept k3 (fun k h1 h2 => far k (HB.out.b1 k h1) h2.1) (fun k h1 h2 => far k (HB.out.b2 k h1) h2.1)) HG.out (K2.out.all.trans k3 (fun k hlt h2 => absurd h2.1 (far k hlt))))
  clear k3 far
  go_wp2_with fail
  go_ret
  exact HF.out
end
end Go.Proofs.Ytooalgnppnmeaaa
