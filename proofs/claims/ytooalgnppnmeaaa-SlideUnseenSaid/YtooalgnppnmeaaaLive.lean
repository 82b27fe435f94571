/- slide.Live. -/
import Derived.Test.YtooalgnppnmeaaaKeptG
import Derived.Test.YtooalgnppnmeaaaGood
import Derived.Test.YtooalgnppnmeaaaRH4
namespace Go.Proofs.Ytooalgnppnmeaaa
open Go.RowKit

/-- Those of the first k that are kept. -/
def liveUp (keep : List Bool) (k : Nat) : List Int := ((List.range k).filter fun (i : Nat) => sees keep (i : Int)).map fun (i : Nat) => (i : Int)
def liveK (keep : List Bool) : List Int := liveUp keep keep.length
theorem liveUp_zero (keep : List Bool) : liveUp keep 0 = [] := rfl
theorem liveUp_succ (keep : List Bool) (k : Nat) : liveUp keep (k + 1) = if sees keep (k : Int) = true then liveUp keep k ++ [(k : Int)] else liveUp keep k := by
  unfold liveUp
  rw [List.range_succ, List.filter_append, List.map_append]
  split
  · rename_i h; simp [h]
  · rename_i h; simp [h]
theorem liveUp_le (keep : List Bool) (k : Nat) : (liveUp keep k).length ≤ k := by
  unfold liveUp
  rw [List.length_map]
  exact Nat.le_trans (List.length_filter_le _ _) (by simp)
noncomputable def liveOf (ns : List Nd) (is roots : List Int) : List Int := if okRoots ns roots = true then liveK (keepOf ns is roots) else []
def errOf (ns : List Nd) (roots : List Int) : Int := if okRoots ns roots = true then 0 else 120
def RetLive (w : World) (ns : List Nd) (is roots : List Int) (e : Ending) (w' : World) : Prop :=
  ∃ v, e = .returned (.tuple #[v, .int .i64 (errOf ns roots)]) ∧ w'.ownsRow w.heap.size 3 1 v (liveOf ns is roots).length (ints (liveOf ns is roots)) ∧ Kept No w w'

theorem live_nil (v : Value) (w : World) : Calls Try.prog 41 #[.pointer none, v] w (fun e w' => e = .returned (.tuple #[.slice none 0 0, .int .i64 1]) ∧ w = w') := by
  go_enter Try.func41, Try.ntmps41
  go_wp2
  go_ret2
  exact ⟨rfl, rfl⟩

set_option maxRecDepth 100000 in
set_option maxHeartbeats 4000000 in
theorem live_any {F G : Nat → Prop} {hb : Nat} {room : Int} {v : Value} {ns : List Nd} {is roots : List Int} {w : World} (h : HeapO w F hb room ns) (hs : Sane ns) (hA : Acyc ns) (hlen : ns.length ≤ 4000) (hi : IsL ns is) (hv : RowR w 1 G v roots.length (ints roots)) (hsz : roots.length ≤ 2000000) :
    Calls Try.prog 41 #[.pointer (some ⟨hb, 0, none⟩), v] w (RetLive w ns is roots) := by
  obtain ⟨Av, cv, rfl⟩ := hv.slice
  have HR := Lib.hid (read_any h hs hA hlen hi)
  have HS := Lib.hid hs
  have HI := Lib.hid hi
  have HV := Lib.hid hv
  clear h hs hA hi hv
  go_enter Try.func41, Try.ntmps41
  go_wp2_with fail
  refine HR.out.mono ?_
  rintro e w1 ⟨nv, iv, avs, rfl, hg, k1⟩
  have HG := Lib.hid hg
  have K1 := Lib.hid k1
  clear hg k1
  go_wp2_with fail
  refine (kept_any HG.out HS.out HI.out hlen (HV.out.keptNo K1.out) hsz).mono ?_
  rintro e w2 ⟨kv, rfl, hk, hk0, k2⟩
  have K2 := Lib.hid (K1.out.thenNo k2)
  have hz1 := K1.out.size
  cases hok : okRoots ns roots with
  | false =>
    have := hk0 hok
    subst this
    have hfin : Hid (RetLive w ns is roots (.returned (.tuple #[.slice none 0 0, .int .i64 120])) w2) :=
      ⟨.slice none 0 0, by simp [errOf, hok], by simp only [liveOf, hok]; exact World.ownsRow_nil _ _ _ _, K2.out⟩
    clear hk hk0 hok k2 K2
    go_wp2_with fail
    go_ret2
    exact hfin.out
  | true =>
    have hko := hk hok
    have HOK := Lib.hid hok
    obtain ⟨keep, hkp⟩ : ∃ keep, keep = keepOf ns is roots := ⟨_, rfl⟩
    have hkl : keep.length = ns.length := by rw [hkp, keepOf_length]
    rw [← hkp] at hko
    have HKP := Lib.hid hkp
    obtain ⟨Ak, ck, rfl⟩ := (own_reads hko (F := fun _ => True) (fun _ _ => trivial)).slice
    have HKO := Lib.hid (own_base hko (base' := w.heap.size) (fun k hk => by have := (hko.lt k hk).1; omega))
    clear hk hk0 hok k2 hko hkp
    go_wp2_with fail
    go_loopw [8, 24] (fun t8 t24 wr => ∃ k : Nat, k ≤ ns.length ∧ t24 = .int .i64 k ∧ Hid (wr.ownsRow w.heap.size 3 1 t8 (liveUp keep k).length (ints (liveUp keep k))) ∧ Hid (wr.ownsRow w.heap.size 4 1 (.slice Ak ns.length ck) ns.length (bools keep)) ∧ Hid (Kept No w wr)) (fun _ t24 _ => ns.length - (intOf t24).toNat)
    case atStart => exact ⟨0, by omega, rfl, World.ownsRow_nil _ _ _ _, HKO, K2⟩
    case round =>
      clear HKO K2
      obtain ⟨k, hk, rfl, HO, HB, HK⟩ := hrel
      obtain ⟨A2, c2, rfl⟩ := (own_reads HO.out (F := fun _ => True) (fun _ _ => trivial)).slice
      have hll := liveUp_le keep k
      have hsu := liveUp_succ keep k
      by_cases hlt : k < ns.length
      · obtain ⟨gk, ck', he, hcu⟩ := sees_row HB.out hkl (x := (k : Int)) ⟨by omega, by omega⟩
        injection he with he _ hc
        subst he hc
        simp only [Int.toNat_natCast] at hcu
        cases hse : sees keep (k : Int) with
        | false =>
          rw [hse] at hcu hsu
          rw [if_neg (by simp)] at hsu
          have HSU := Lib.hid hsu
          clear hsu hse
          go_wp2_with fail
          go_roundw
          case rel => exact ⟨k + 1, by omega, by go_num, by rw [HSU.out]; exact HO, HB, HK⟩
          case measure => (simp [intOf]; try omega)
        | true =>
          rw [hse] at hcu hsu
          rw [if_pos rfl] at hsu
          obtain ⟨g4, c4, w4, happ, ho4, k4, _⟩ := int_push HO.out HK.out.size (k : Int) (by omega)
          have HO4 := Lib.hid ho4
          have HSU := Lib.hid hsu
          have HB4 := Lib.hid (own_kept HB.out k4 (fun i hi e => own_ne HO.out HB.out (by decide) i e hi))
          have HK4 := Lib.hid (HK.out.trans k4 (fun i hlt hi => by have := (HO.out.lt i hi).1; omega))
          have hl4 : (liveUp keep k ++ [(k : Int)]).length = (liveUp keep k).length + 1 := by simp
          clear ho4 k4 hsu hse
          go_wp2_with (at_builtin; refine wpList_append_run rfl (.tmp 30) (.tmp 32) 22 rfl rfl rfl happ ?_; clear happ)
          go_roundw
          case rel => exact ⟨k + 1, by omega, by go_num, by rw [HSU.out]; exact HO4, HB4, HK4⟩
          case measure => (simp [intOf]; try omega)
      · have hke : k = ns.length := by omega
        subst hke
        have hfin : Hid (RetLive w ns is roots (.returned (.tuple #[.slice A2 (liveUp keep ns.length).length c2, .int .i64 0])) wr) := by
          have e1 : liveOf ns is roots = liveUp keep ns.length := by unfold liveOf; rw [if_pos HOK.out, ← HKP.out]; unfold liveK; rw [hkl]
          refine ⟨.slice A2 (liveUp keep ns.length).length c2, by simp [errOf, HOK.out], ?_, HK.out⟩
          rw [e1]
          exact HO.out
        clear hsu hll
        go_wp2_with fail
        go_ret2
        exact hfin.out
end Go.Proofs.Ytooalgnppnmeaaa
