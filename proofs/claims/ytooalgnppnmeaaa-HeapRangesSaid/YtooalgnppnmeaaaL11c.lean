/- Layer 11's laws: grown. -/
import Derived.Test.YtooalgnppnmeaaaL11b
import Derived.Test.YtooalgnppnmeaaaGood
namespace Go.Proofs.Ytooalgnppnmeaaa
open Go.RowKit

theorem Good.step {room : Int} {ns : List Nd} (h : Good room ns) {x : Rw} {p : List Nd × Int} (hp : StepR room ns x p) : Good room p.1 := by
  rcases hp with ⟨_, _, rfl⟩ | ⟨_, rfl⟩ | ⟨_, sym, l, h1, h2, h3, rfl⟩
  · unfold pointP
    split
    · exact h
    · rename_i h1
      split
      · exact h
      · rename_i h2
        refine h.point ?_ ?_ h2
        · cases hq : inR ns (pickP x.n (many ns)) with
          | true => rfl
          | false => exact absurd (.inl hq) h1
        · cases hq : inR ns (pickP x.m (many ns)) with
          | true => rfl
          | false => exact absurd (.inr hq) h1
  · unfold markP
    split
    · exact h
    · rename_i n hn
      split
      · exact h
      · rename_i hp
        split
        · exact h
        · exact h.mark hn (by simpa using hp) (by omega)
  · dsimp only
    unfold makeP
    split
    · exact h
    · split
      · exact h
      · rename_i h4
        split
        · exact h
        · exact h.make h1 (by omega) (by simpa using h4) (by omega)

/-- Raw calls in memory. -/
def rwCells (x : Rw) : List Value := [.int .i64 x.kind, .int .i64 x.n, .int .i64 x.m, .int .i64 x.k]
theorem rw_get (rs : List Rw) (i : Nat) (x : Rw) (h : rs[i]? = some x) (k : Nat) (hk : k < 4) : (rs.flatMap rwCells)[i * 4 + k]? = (rwCells x)[k]? := by
  induction rs generalizing i with
  | nil => simp at h
  | cons y rs ih =>
    rw [List.flatMap_cons]
    cases i with
    | zero =>
      simp at h
      subst h
      rw [List.getElem?_append_left (by simp [rwCells]; omega)]
      simp
    | succ i =>
      rw [List.getElem?_append_right (by simp [rwCells]; omega)]
      rw [show (i + 1) * 4 + k - (rwCells y).length = i * 4 + k by simp [rwCells]; omega]
      exact ih i (by simpa using h)
def RawsR (w : World) (F : Nat → Prop) (v : Value) (rs : List Rw) : Prop := RowR w 4 F v rs.length (rs.flatMap rwCells)
theorem RawsR.at_ {w : World} {F : Nat → Prop} {v : Value} {rs : List Rw} (h : RawsR w F v rs) {i : Nat} {x : Rw} (hi : rs[i]? = some x) : ∃ b o c, v = .slice (some ⟨b, o, none⟩) rs.length c ∧ F b ∧ b < w.heap.size ∧
    w.cell? ⟨b, o + i * 4, none⟩ = some (.int .i64 x.kind) ∧ w.cell? ⟨b, o + i * 4 + 1, none⟩ = some (.int .i64 x.n) ∧ w.cell? ⟨b, o + i * 4 + 2, none⟩ = some (.int .i64 x.m) ∧ w.cell? ⟨b, o + i * 4 + 3, none⟩ = some (.int .i64 x.k) := by
  obtain ⟨_, A, c, rfl, hc, hr⟩ := h
  have hlt : i < rs.length := (List.getElem?_eq_some_iff.1 hi).1
  obtain ⟨b, o, rfl, hf, hb, hx⟩ := hr (by omega)
  have hg := fun k hk => rw_get rs i x hi k hk
  refine ⟨b, o, c, rfl, hf, hb, ?_, ?_, ?_, ?_⟩
  · simpa using hx (i * 4 + 0) _ (hg 0 (by omega))
  · simpa [Nat.add_assoc] using hx (i * 4 + 1) _ (hg 1 (by omega))
  · simpa [Nat.add_assoc] using hx (i * 4 + 2) _ (hg 2 (by omega))
  · simpa [Nat.add_assoc] using hx (i * 4 + 3) _ (hg 3 (by omega))

/-- A heap of which much was asked. -/
def RetGrown (w : World) (room : Int) (e : Ending) (w' : World) : Prop :=
  ∃ hb ns, e = .returned (.pointer (some ⟨hb, 0, none⟩)) ∧ HeapN w.heap.size w' hb room ns ∧ Good room ns ∧ Kept No w w'

set_option maxRecDepth 100000 in
set_option maxHeartbeats 2000000 in
theorem grown_any (room : Int) (v : Value) (rs : List Rw) (w : World) (hroom : I64 room) (hl : RawsR w (fun _ => True) v rs) (hI : ∀ x ∈ rs, x.ok) (hsz : rs.length ≤ 9223372036854775807) :
    Calls Try.prog 26 #[.int .i64 room, v] w (RetGrown w (1 + pickP room 200)) := by
  obtain ⟨A, c, rfl⟩ := RowR.slice hl
  have HL := Lib.hid hl
  have HI := Lib.hid hI
  clear hl hI
  have hp := pickP_range room 200 (by decide)
  obtain ⟨n, hn⟩ : ∃ n : Nat, 1 + pickP room 200 = (n : Int) := ⟨(1 + pickP room 200).toNat, by omega⟩
  have hn1 : 1 ≤ n := by omega
  have hn2 : n ≤ 200 := by omega
  have hb : IntKind.i64.wrap (1 + pickP room 200) = (n : Int) := by
    rw [hn]; exact IntWalk.i64_in _ (by omega)
  have HN := Lib.hid hn
  clear hn hp
  go_enter Try.func26, Try.ntmps26
  go_wp2_with fail
  refine (pick_any room 200 _ hroom (by decide) (by decide)).mono ?_
  rintro e w2 ⟨rfl, rfl⟩
  go_wp2_with fail
  refine (new_yes n _ (by omega) (by omega)).mono ?_
  rintro e w3 ⟨rfl, hw⟩
  have h3 : HeapN w.heap.size w3 w.heap.size n [] := hw ▸ HeapN.of (heap_new w n) (fun k hk _ => Nat.le_of_eq hk.symm)
  have k3 : Kept (Fr w.heap.size) w w3 := hw ▸ (Kept.refl _ w).alloc _
  clear hw hb
  obtain ⟨hb, hhb⟩ : ∃ hb, hb = w.heap.size := ⟨_, rfl⟩
  have h3' : HeapN w.heap.size w3 hb n [] := hhb ▸ h3
  have H3 := Lib.hid h3'
  have K3 := Lib.hid k3
  have HB := Lib.hid hhb
  rw [← HB.out]
  clear h3 k3 h3' hhb
  go_wp2_with fail
  go_loopw [7] (fun i wr => ∃ (k : Nat) (ns : List Nd), k ≤ rs.length ∧ i = .int .i64 k ∧ Hid (Good n ns) ∧ Hid (HeapN w.heap.size wr hb n ns) ∧ Hid (Kept (Fr w.heap.size) w wr)) (fun i _ => rs.length - (intOf i).toNat)
  case atStart => exact ⟨0, [], by omega, rfl, Good.nil (by omega), H3, K3⟩
  case round =>
    obtain ⟨k, ns, hk, rfl, HG, HH, HK⟩ := hrel
    by_cases hlt : k < rs.length
    · have hx : rs[k]? = some rs[k] := List.getElem?_eq_getElem hlt
      have hok := HI.out _ (List.mem_of_getElem? hx)
      have hrw : RawsR wr (fun b => b < w.heap.size) (.slice A rs.length c) rs := by
        have h1 : RowR w 4 (fun b => b < w.heap.size) (.slice A rs.length c) rs.length (rs.flatMap rwCells) := RowR.mono HL.out (fun b _ hb => hb)
        exact h1.kept HK.out (fun b hb hf => by unfold Fr at hf; omega)
      obtain ⟨b, o, c', he, _, _, c0, c1, c2, c3⟩ := hrw.at_ hx
      injection he with he _ hc
      subst he hc
      have hlen : ns.length ≤ 4000 := by have := HG.out.len; omega
      have hst := Lib.hid (step_any HH.out.1 (Sc.bnd _ _) HG.out.sane (show (n : Int) ≤ 4000 by omega) hlen rs[k] hok)
      clear hx hrw hlen hok
      generalize rs[k] = x at *
      go_wp2_with fail
      refine hst.out.mono ?_
      rintro e w5 ⟨p, hp, rfl, h5, k5⟩
      have H5 := Lib.hid (HeapN.step HH.out.2 k5.size h5)
      have K5 := Lib.hid (HK.out.trans k5 (fun _ _ h => h.1))
      have G5 := Lib.hid (HG.out.step hp)
      clear h5 k5 hp
      go_wp2_with fail
      go_roundw
      case rel => exact ⟨k + 1, p.1, by omega, by go_num, G5, H5, K5⟩
      case measure => (simp [intOf]; try omega)
    · go_wp2_with fail
      go_ret
      rw [HN.out]
      exact ⟨hb, ns, rfl, HH.out, HG.out, HK.out.toNo⟩
end Go.Proofs.Ytooalgnppnmeaaa
