/- (*Heap).Make. -/
import Derived.Test.YtooalgnppnmeaaaPush
import Derived.Deep.RegionHeld3
import Derived.Deep.RegionLaw
import Derived.Deep.RegionWith
import Derived.LoopTactic
namespace Go.Proofs.Ytooalgnppnmeaaa
open Go.RowKit

/-- What Make does. -/
def makeP (room : Int) (ns : List Nd) (sym : Int) (l : List Int) : List Nd × Int × Int :=
  if sym < 0 ∨ 6 < l.length then (ns, 0, 1) else if l.all (inR ns) = false then (ns, 0, 112) else if room ≤ ns.length then (ns, 0, 111) else (ns ++ [⟨sym, l, 0, false, 0⟩], ns.length, 0)

def RetMake (w : World) (F : Nat → Prop) (hb : Nat) (room : Int) (p : List Nd × Int × Int) (e : Ending) (w' : World) : Prop :=
  e = .returned (.tuple #[.int .i64 p.2.1, .int .i64 p.2.2]) ∧ HeapO w' (Grow F w w') hb room p.1 ∧ Kept F w w'

theorem RetMake.same {w : World} {F : Nat → Prop} {hb : Nat} {room : Int} {ns : List Nd} (h : HeapO w F hb room ns) {r err : Int} : RetMake w F hb room (ns, r, err) (.returned (.tuple #[.int .i64 r, .int .i64 err])) w :=
  ⟨rfl, h.mono (fun _ hk _ => .inl hk), Kept.refl _ _⟩

theorem make_bad {F G : Nat → Prop} {hb : Nat} {room : Int} {ns : List Nd} {w : World} (h : HeapO w F hb room ns) (sym : Int) (v : Value) (l : List Int) (hl : RowR w 1 G v l.length (ints l)) (hbad : sym < 0 ∨ 6 < l.length) :
    Calls Try.prog 22 #[.pointer (some ⟨hb, 0, none⟩), .int .i64 sym, v] w (RetMake w F hb room (makeP room ns sym l)) := by
  obtain ⟨A, c, rfl⟩ := hl.slice
  have hp : makeP room ns sym l = (ns, 0, 1) := by simp [makeP, hbad]
  rw [hp]
  have HF := Lib.hid (RetMake.same h (r := 0) (err := 1))
  clear h hl hp
  by_cases h0 : sym < 0
  · clear hbad
    go_enter Try.func22, Try.ntmps22
    go_wp2
    go_ret2
    exact HF.out
  · have h1 : decide (sym < 0) = false := by simpa using h0
    have h2 : 6 < l.length := by rcases hbad with h | h; exact absurd h h0; exact h
    clear hbad
    go_enter Try.func22, Try.ntmps22
    go_wp2
    go_ret2
    exact HF.out

set_option maxRecDepth 100000 in
set_option maxHeartbeats 1000000 in
theorem make_rest {F G : Nat → Prop} {hb : Nat} {room : Int} {ns : List Nd} {w : World} (h : HeapO w F hb room ns) (sym : Int) (v : Value) (l : List Int) (hl : RowR w 1 G v l.length (ints l)) (h0 : 0 ≤ sym) (h6 : l.length ≤ 6)
    (hroom : room ≤ 4000) (hF : Bnd F w) :
    Calls Try.prog 22 #[.pointer (some ⟨hb, 0, none⟩), .int .i64 sym, v] w (RetMake w F hb room (makeP room ns sym l)) := by
  obtain ⟨A, c, rfl⟩ := hl.slice
  have H := Lib.hid h
  have HL := Lib.hid hl
  have d0 : decide (sym < 0) = false := by simp; omega
  clear h hl
  go_enter Try.func22, Try.ntmps22
  go_wp2
  go_loop [23] (fun i => ∃ k : Nat, k ≤ l.length ∧ i = .int .i64 k ∧ Hid ((l.take k).all (inR ns) = true)) (fun i => l.length - (intOf i).toNat)
  case atStart => exact ⟨0, Nat.zero_le _, rfl, (by simp : (l.take 0).all (inR ns) = true)⟩
  case round =>
    obtain ⟨k, hk, rfl, hall⟩ := hrel
    by_cases hlt : k < l.length
    · obtain ⟨_, A', c', he, _, hrd⟩ := HL.out
      obtain ⟨b, o, rfl, _, _, hcell⟩ := hrd (by omega)
      injection he with he _ hc
      subst he hc
      have hx : l[k]? = some l[k] := List.getElem?_eq_getElem hlt
      have hcx := hcell k (.int .i64 l[k]) (by rw [ints_get, hx]; rfl)
      clear hcell hrd
      have HX := Lib.hid hx
      clear hx
      generalize l[k] = x at *
      have hin : ∃ q, inR ns x = q := ⟨_, rfl⟩
      obtain ⟨q, hq⟩ := hin
      cases q with
      | false =>
        have hp : makeP room ns sym l = (ns, 0, 112) := by
          have hall' : l.all (inR ns) = false := by
            rw [List.all_eq_false]
            exact ⟨x, List.mem_of_getElem? HX.out, by simp [hq]⟩
          unfold makeP; rw [if_neg (by omega), if_pos hall']
        have HF := Lib.hid (hp ▸ RetMake.same H.out (r := 0) (err := 112) : RetMake w F hb room (makeP room ns sym l) _ w)
        have HQ := Lib.hid hq
        clear hp hq
        go_wp2_with fail
        refine (has_any H.out x).mono ?_
        rintro e w1 ⟨rfl, rfl⟩
        rw [HQ.out]
        go_wp2_with fail
        go_ret2
        exact HF.out
      | true =>
        have HA : Hid ((l.take (k + 1)).all (inR ns) = true) := by
          show _ = true
          rw [List.take_add_one, HX.out, List.all_append, hall.out]
          simp [hq]
        have HQ := Lib.hid hq
        clear hq
        go_wp2_with fail
        refine (has_any H.out x).mono ?_
        rintro e w1 ⟨rfl, rfl⟩
        rw [HQ.out]
        go_wp2_with fail
        go_round
        case rel => exact ⟨k + 1, by omega, by go_num, HA⟩
        case measure => simp [intOf]; omega
    · have hke : k = l.length := by omega
      have HA : Hid (l.all (inR ns) = true) := by
        show _ = true
        have := hall.out
        rwa [hke, List.take_length] at this
      clear hke hall
      obtain ⟨A2, c2, _, _, z0, z1, zf, hn⟩ := H.out.open_
      by_cases hfull : room ≤ ns.length
      · have hp : makeP room ns sym l = (ns, 0, 111) := by
          unfold makeP; rw [if_neg (by omega), if_neg (by simp [HA.out]), if_pos hfull]
        have HF := Lib.hid (fun n => (hp ▸ ⟨rfl, H.out.move (fun _ hk _ => .inl hk) (fun _ _ _ => rfl), (Kept.refl F w).drewN n⟩ : RetMake w F hb room (makeP room ns sym l) (.returned (.tuple #[.int .i64 0, .int .i64 111])) (w.drewN n)))
        clear hp
        go_wp2_with fail
        go_quiet (fail)
        go_wp2_with fail
        go_ret2
        exact HF.out nq
      · have hp : makeP room ns sym l = (ns ++ [⟨sym, l, 0, false, 0⟩], (ns.length : Int), 0) := by
          unfold makeP; rw [if_neg (by omega), if_neg (by simp [HA.out]), if_neg hfull]
        have HP := Lib.hid hp
        have HN := Lib.hid hn
        clear hp hn
        go_wp2_with fail
        go_quiet (fail)
        go_wp2_with fail
        generalize hw1 : w.drewN nq = w1
        have k1 : Kept No w w1.drew := hw1 ▸ ((Kept.refl No w).drewN nq).drew
        have y1 : w1.cell? ⟨hb, 1, none⟩ = some (.slice A2 ns.length c2) := hw1 ▸ z1
        have yf : w1.frozen? ⟨hb, 1, none⟩ = false := hw1 ▸ zf
        have K1 := Lib.hid k1
        have Z1 := Lib.hid z1
        clear hw1 k1 z1 zf z0
        go_region_law (first | (refine step_append_run rfl (.tmp 46) (.tmp 51) 39 rfl rfl rfl happ ?_; clear happ) | (go_simp; go_at_call 53; refine (fresh_any G _ l _ (by omega) (HL.out.keptNo K1.out)).mono ?_; rintro e w3 ⟨v3, rfl, ho, hk⟩; obtain ⟨A3, c3, rfl⟩ := (own_reads ho (F := fun _ => True) (fun _ _ => trivial)).slice; have x1 := (hk.cell (p := ⟨hb, 1, none⟩) (Nat.lt_of_lt_of_le (by assumption) K1.out.size) (fun h => h)).trans y1; have hb3 : hb < w3.heap.size := Nat.lt_of_lt_of_le (Nat.lt_of_lt_of_le (by assumption) K1.out.size) hk.size; obtain ⟨g4, c4, w4, happ, u1, u2, u3, u4, u5⟩ := heap_push H.out Z1.out hF (K1.out.thenNo hk) ⟨sym, l, 0, false, 0⟩ (.slice A3 l.length c3) (own_base ho (fun k hk2 => by have := (ho.lt k hk2).1; have := K1.out.size; omega)) (by omega); have U4 := Lib.hid u4; have U5 := Lib.hid u5; clear u4 u5; dsimp only [ndCells] at happ))
        all_goals
          go_wp2_with fail
          go_ret2
          rw [HP.out]
          exact ⟨rfl, U4.out, U5.out⟩

def RetMakeN (N : Nat) (w : World) (hb : Nat) (room : Int) (p : List Nd × Int × Int) (e : Ending) (w' : World) : Prop :=
  e = .returned (.tuple #[.int .i64 p.2.1, .int .i64 p.2.2]) ∧ HeapN N w' hb room p.1 ∧ Kept (Fr N) w w'
/-- Make, whatever is asked. -/
theorem make_any {F G : Nat → Prop} {hb : Nat} {room : Int} {ns : List Nd} {w : World} (h : HeapO w F hb room ns) (sym : Int) (v : Value) (l : List Int) (hl : RowR w 1 G v l.length (ints l))
    (hroom : room ≤ 4000) (hF : Bnd F w) :
    Calls Try.prog 22 #[.pointer (some ⟨hb, 0, none⟩), .int .i64 sym, v] w (RetMake w F hb room (makeP room ns sym l)) := by
  by_cases hb : sym < 0 ∨ 6 < l.length
  · exact make_bad h sym v l hl hb
  · exact make_rest h sym v l hl (by omega) (by omega) hroom hF
theorem makeN {N : Nat} {G : Nat → Prop} {hb : Nat} {room : Int} {ns : List Nd} {w : World} (h : HeapN N w hb room ns) (sym : Int) (v : Value) (l : List Int) (hl : RowR w 1 G v l.length (ints l)) (hroom : room ≤ 4000) {p : List Nd × Int × Int} (hp : makeP room ns sym l = p) :
    Calls Try.prog 22 #[.pointer (some ⟨hb, 0, none⟩), .int .i64 sym, v] w (RetMakeN N w hb room p) := by
  subst hp
  exact (make_any h.1 sym v l hl hroom (Sc.bnd _ _)).mono fun e w' ⟨he, hh, hk⟩ => ⟨he, HeapN.step h.2 hk.size hh, hk.mono (fun _ _ hf => hf.1)⟩
end Go.Proofs.Ytooalgnppnmeaaa
