/- may. -/
import Derived.Test.YtooalgnppnmeaaaS2
import Derived.Test.YtooalgnppnmeaaaGood
namespace Go.Proofs.Ytooalgnppnmeaaa
open Go.RowKit

set_option maxRecDepth 100000 in
set_option maxHeartbeats 2000000 in
theorem may_any {F : Nat → Prop} {av : Value} {n : Nd} {w : World} (many : Int) (hr : RowR w 1 F av n.args.length (ints n.args)) (hsz : n.args.length ≤ 9223372036854775807) (b : Bool) (hb : b = true ↔ MayP n many) :
    Calls Try.prog 57 #[ndVal av n, .int .i64 many] w (RetBool w b) := by
  obtain ⟨A, c, rfl⟩ := hr.slice
  have HR := Lib.hid hr
  have HB := Lib.hid hb
  have no : Hid (¬ MayP n many → ∀ W, Kept No w W → RetBool w b (.returned (.bool false)) W) := fun h W hk => by
    have : b = false := by
      cases hq : b with
      | false => rfl
      | true => exact absurd (hb.1 hq) h
    exact ⟨by rw [this], hk⟩
  clear hr hb
  have KK : Hid (∀ o, Kept No w (w.alloc o)) := fun o => (Kept.refl No w).alloc o
  unfold ndVal
  by_cases h0 : n.sym < 0
  · have hbad := Lib.hid (no.out (fun h => by have := h.1; omega))
    go_enter Try.func57, Try.ntmps57
    go_wp2_with fail
    go_ret
    exact hbad.out _ (KK.out _)
  by_cases h1 : (6 : Int) < n.args.length
  · have hbad := Lib.hid (no.out (fun h => by have := h.2.1; omega))
    have d0 : decide (n.sym < 0) = false := by simpa using h0
    go_enter Try.func57, Try.ntmps57
    go_wp2_with fail
    go_ret
    exact hbad.out _ (KK.out _)
  by_cases h2 : n.mark < 0
  · have hbad := Lib.hid (no.out (fun h => by have := h.2.2.1; omega))
    have d0 : decide (n.sym < 0) = false := by simpa using h0
    have d1 : decide ((6 : Int) < n.args.length) = false := by simpa using h1
    go_enter Try.func57, Try.ntmps57
    go_wp2_with fail
    go_ret
    exact hbad.out _ (KK.out _)
  by_cases h3 : 2 < n.mark
  · have hbad := Lib.hid (no.out (fun h => by have := h.2.2.2.1; omega))
    have d0 : decide (n.sym < 0) = false := by simpa using h0
    have d1 : decide ((6 : Int) < n.args.length) = false := by simpa using h1
    have d2 : decide (n.mark < 0) = false := by simpa using h2
    go_enter Try.func57, Try.ntmps57
    go_wp2_with fail
    go_ret
    exact hbad.out _ (KK.out _)
  by_cases h4 : n.to < 0
  · have hbad := Lib.hid (no.out (fun h => by
      cases hp : n.pts with
      | true => have := (h.2.2.2.2.2.1 hp).1; omega
      | false => have := h.2.2.2.2.2.2 hp; omega))
    have d0 : decide (n.sym < 0) = false := by simpa using h0
    have d1 : decide ((6 : Int) < n.args.length) = false := by simpa using h1
    have d2 : decide (n.mark < 0) = false := by simpa using h2
    have d3 : decide (2 < n.mark) = false := by simpa using h3
    go_enter Try.func57, Try.ntmps57
    go_wp2_with fail
    go_ret
    exact hbad.out _ (KK.out _)
  have d0 : decide (n.sym < 0) = false := by simpa using h0
  have d1 : decide ((6 : Int) < n.args.length) = false := by simpa using h1
  have d2 : decide (n.mark < 0) = false := by simpa using h2
  have d3 : decide (2 < n.mark) = false := by simpa using h3
  have d4 : decide (n.to < 0) = false := by simpa using h4
  go_enter Try.func57, Try.ntmps57
  go_wp2_with fail
  go_loop [34] (fun i => ∃ k : Nat, k ≤ n.args.length ∧ i = .int .i64 k ∧ Hid (∀ (j : Nat) (x : Int), j < k → n.args[j]? = some x → 0 ≤ x ∧ x < many)) (fun i => n.args.length - (intOf i).toNat)
  case atStart => exact ⟨0, by omega, rfl, fun j x h => absurd h (by omega)⟩
  case round =>
    obtain ⟨k, hk, rfl, HJ⟩ := hrel
    by_cases hlt : k < n.args.length
    · have hx : n.args[k]? = some n.args[k] := List.getElem?_eq_getElem hlt
      obtain ⟨_, A', c', he, _, hrd⟩ := HR.out.keptNo (KK.out (.cells #[.int .i64 n.sym, .slice A n.args.length c, .int .i64 n.mark, .bool n.pts, .int .i64 n.to] 32))
      obtain ⟨b1, o1, rfl, _, _, hcell⟩ := hrd (by omega)
      injection he with he _ hc
      subst he hc
      have hcx := hcell k (.int .i64 n.args[k]) (by rw [ints_get, hx]; rfl)
      have HX := Lib.hid hx
      clear hcell hrd hx
      generalize n.args[k] = x at *
      by_cases hx0 : x < 0
      · have hbad := Lib.hid (no.out (fun h => by have := (h.2.2.2.2.1 x (List.mem_of_getElem? HX.out)).1; omega))
        go_wp2_with fail
        go_ret
        exact hbad.out _ (KK.out _)
      · have dx0 : decide (x < 0) = false := by simpa using hx0
        by_cases hx1 : many ≤ x
        · have hbad := Lib.hid (no.out (fun h => by have := (h.2.2.2.2.1 x (List.mem_of_getElem? HX.out)).2; omega))
          go_wp2_with fail
          go_ret
          exact hbad.out _ (KK.out _)
        · have HJ2 : Hid (∀ (j : Nat) (y : Int), j < k + 1 → n.args[j]? = some y → 0 ≤ y ∧ y < many) := fun j y hj hy => by
            by_cases hjk : j = k
            · subst hjk; rw [HX.out] at hy; injection hy with hy; omega
            · exact HJ.out j y (by omega) hy
          go_wp2_with fail
          go_round
          case rel => exact ⟨k + 1, by omega, by go_num, HJ2⟩
          case measure => (simp [intOf]; try omega)
    · have hin : Hid (∀ a ∈ n.args, 0 ≤ a ∧ a < many) := fun a ha => by
        obtain ⟨j, hj⟩ := List.getElem?_of_mem ha
        have := (List.getElem?_eq_some_iff.1 hj).1
        exact HJ.out j a (by omega) hj
      have yes : Hid ((n.pts = true → 0 ≤ n.to ∧ n.to < many ∧ n.sym = 0 ∧ n.mark = 0 ∧ n.args = []) → (n.pts = false → n.to = 0) → ∀ W, Kept No w W → RetBool w b (.returned (.bool true)) W) := fun h1 h2 W hk =>
        ⟨by rw [HB.out.2 ⟨by omega, by omega, by omega, by omega, hin.out, h1, h2⟩], hk⟩
      clear HJ
      cases hp : n.pts with
      | true =>
        by_cases t1 : n.to < many
        · have e1 : decide (n.to < many) = true := by simpa using t1
          by_cases t2 : n.sym = 0
          · have e2 : (n.sym == 0) = true := by simpa using t2
            by_cases t3 : n.mark = 0
            · have e3 : (n.mark == 0) = true := by simpa using t3
              by_cases t4 : n.args.length = 0
              · have e4 : ((n.args.length : Int) == 0) = true := by simp; exact List.eq_nil_of_length_eq_zero t4
                have hgood := Lib.hid (yes.out (fun _ => ⟨by omega, t1, t2, t3, List.eq_nil_of_length_eq_zero t4⟩) (fun h => by rw [hp] at h; cases h))
                clear t2 t3 t4
                go_wp2_with fail
                go_ret
                exact hgood.out _ (KK.out _)
              · have e4 : ((n.args.length : Int) == 0) = false := by simp; intro h; exact t4 (by rw [h]; rfl)
                have hbad := Lib.hid (no.out (fun h => t4 (by rw [(h.2.2.2.2.2.1 hp).2.2.2.2]; rfl)))
                clear t2 t3 t4
                go_wp2_with fail
                go_ret
                exact hbad.out _ (KK.out _)
            · have e3 : (n.mark == 0) = false := by simpa using t3
              have hbad := Lib.hid (no.out (fun h => t3 (h.2.2.2.2.2.1 hp).2.2.2.1))
              clear t2 t3
              go_wp2_with fail
              go_ret
              exact hbad.out _ (KK.out _)
          · have e2 : (n.sym == 0) = false := by simpa using t2
            have hbad := Lib.hid (no.out (fun h => t2 (h.2.2.2.2.2.1 hp).2.2.1))
            clear t2
            go_wp2_with fail
            go_ret
            exact hbad.out _ (KK.out _)
        · have e1 : decide (n.to < many) = false := by simpa using t1
          have hbad := Lib.hid (no.out (fun h => t1 (h.2.2.2.2.2.1 hp).2.1))
          go_wp2_with fail
          go_ret
          exact hbad.out _ (KK.out _)
      | false =>
        by_cases t5 : n.to = 0
        · have e5 : (n.to == 0) = true := by simpa using t5
          have hgood := Lib.hid (yes.out (fun h => by rw [hp] at h; cases h) (fun _ => t5))
          clear t5
          go_wp2_with fail
          go_ret
          exact hgood.out _ (KK.out _)
        · have e5 : (n.to == 0) = false := by simpa using t5
          have hbad := Lib.hid (no.out (fun h => t5 (h.2.2.2.2.2.2 hp)))
          clear t5
          go_wp2_with fail
          go_ret
          exact hbad.out _ (KK.out _)
end Go.Proofs.Ytooalgnppnmeaaa
