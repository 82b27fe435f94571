/- do: Resolve, Clear, and what is no call. -/
import Derived.Test.YtooalgnppnmeaaaDo1
namespace Go.Proofs.Ytooalgnppnmeaaa
open Go.RowKit

section
variable {F1 F2 : Nat → Prop} {hb rb : Nat} {room : Int} {ns : List Nd} {w : World}
theorem Good.len4 (hg : Good room ns) (hr : room ≤ 4000) : ns.length ≤ 4000 := by have := hg.len; omega

set_option maxRecDepth 100000 in
set_option maxHeartbeats 2000000 in
theorem do_6 (b : Both w F1 F2 hb rb room ns ns) (hg : Good room ns) (hr : room ≤ 4000) (x : Opr) (lv nv : Value) (hx : x.kind = 6) :
    Calls Try.prog 37 #[.pointer (some ⟨hb, 0, none⟩), .pointer (some ⟨rb, 0, none⟩), opVal x lv nv] w (RetDo w F1 F2 hb rb room) := by
  have hl := hg.len4 hr
  have HB := Lib.hid b
  have HG := Lib.hid hg
  clear b hg
  obtain ⟨kind, n, m, two, l, nodes⟩ := x
  dsimp only [opVal] at hx ⊢
  subst hx
  go_enter Try.func37, Try.ntmps37
  go_wp2_with fail
  have HB0 := Lib.hid (HB.out.keptNo ((Kept.refl No w).alloc (.cells #[.int .i64 6, .int .i64 n, .int .i64 m, .bool two, lv, nv] 63)))
  refine (clear_any HB0.out.h hl).mono ?_
  rintro e w3 ⟨rfl, h3, k3⟩
  have HB3 := Lib.hid (HB0.out.sameH h3 k3)
  have K3 := Lib.hid k3
  clear h3 k3
  go_wp2_with fail
  refine (rclear_any HB3.out.r hl).mono ?_
  rintro e w4 ⟨rfl, h4, k4⟩
  have HF := Lib.hid (show RetDo w F1 F2 hb rb room (.returned (.bool true)) w4 from ⟨rfl, F1, F2, _, HB3.out.sameR h4 k4, HG.out.clear, fun _ h => .inl h, fun _ h => .inl h, ((((Kept.refl No w).alloc _).all.trans K3.out (fun _ _ h => .inl h)).trans k4 (fun _ _ h => .inr h))⟩)
  clear h4 k4
  go_wp2_with fail
  go_ret
  exact HF.out

set_option maxRecDepth 100000 in
set_option maxHeartbeats 2000000 in
theorem do_3 (b : Both w F1 F2 hb rb room ns ns) (hg : Good room ns) (x : Opr) (lv nv : Value) (hx : x.kind = 3) :
    Calls Try.prog 37 #[.pointer (some ⟨hb, 0, none⟩), .pointer (some ⟨rb, 0, none⟩), opVal x lv nv] w (RetDo w F1 F2 hb rb room) := by
  have HB := Lib.hid b
  have HG := Lib.hid hg
  obtain ⟨kind, n, m, two, l, nodes⟩ := x
  dsimp only [opVal] at hx ⊢
  subst hx
  have HB0 := Lib.hid (HB.out.keptNo ((Kept.refl No w).alloc (.cells #[.int .i64 3, .int .i64 n, .int .i64 m, .bool two, lv, nv] 63)))
  have HF := Lib.hid (RetDo.same HB0.out hg ((Kept.refl _ w).alloc _))
  cases hq : inR ns n with
  | false =>
    have HQ := Lib.hid hq
    clear b hg hq
    go_enter Try.func37, Try.ntmps37
    go_wp2_with fail
    refine (resolve_no HB0.out.h n HQ.out).mono ?_
    rintro e w3 ⟨rfl, rfl⟩
    go_wp2_with fail
    refine (rresolve_no HB0.out.r n HQ.out).mono ?_
    rintro e w3 ⟨rfl, rfl⟩
    go_wp2_with fail
    go_ret
    exact HF.out
  | true =>
    obtain ⟨t, ht⟩ := Is.exists_ hg.sane hg.acyc n hq
    have HT := Lib.hid ht
    clear b hg hq ht
    go_enter Try.func37, Try.ntmps37
    go_wp2_with fail
    refine (resolve_yes HB0.out.h HG.out.acyc n t HT.out).mono ?_
    rintro e w3 ⟨rfl, rfl⟩
    go_wp2_with fail
    refine (rresolve_yes HB0.out.r HG.out.acyc n t HT.out).mono ?_
    rintro e w3 ⟨rfl, rfl⟩
    go_wp2_with fail
    go_ret
    exact HF.out

set_option maxRecDepth 100000 in
set_option maxHeartbeats 2000000 in
theorem do_none (b : Both w F1 F2 hb rb room ns ns) (hg : Good room ns) (x : Opr) (lv nv : Value) (hx : x.kind < 1 ∨ 9 < x.kind) :
    Calls Try.prog 37 #[.pointer (some ⟨hb, 0, none⟩), .pointer (some ⟨rb, 0, none⟩), opVal x lv nv] w (RetDo w F1 F2 hb rb room) := by
  obtain ⟨kind, n, m, two, l, nodes⟩ := x
  dsimp only [opVal] at hx ⊢
  have HB0 := b.keptNo ((Kept.refl No w).alloc (.cells #[.int .i64 kind, .int .i64 n, .int .i64 m, .bool two, lv, nv] 63))
  have HF := Lib.hid (RetDo.same HB0 hg ((Kept.refl _ w).alloc _))
  have e1 : (kind == 1) = false := by simp; omega
  have e2 : (kind == 2) = false := by simp; omega
  have e3 : (kind == 3) = false := by simp; omega
  have e4 : (kind == 4) = false := by simp; omega
  have e5 : (kind == 5) = false := by simp; omega
  have e6 : (kind == 6) = false := by simp; omega
  have e7 : (kind == 7) = false := by simp; omega
  have e8 : (kind == 8) = false := by simp; omega
  have e9 : (kind == 9) = false := by simp; omega
  clear b hg HB0 hx
  go_enter Try.func37, Try.ntmps37
  go_wp2_with fail
  go_ret
  exact HF.out
end
end Go.Proofs.Ytooalgnppnmeaaa
