/- All: the iterator's contract. -/
import Derived.Test.YtooalgnppnmeaaaRangeLaw
import Derived.Test.YtooalgnppnmeaaaRefill
import Derived.RangeFuncBound
import Derived.RangeFuncLeaves
import Derived.Shelf.Abstract
import Derived.Shelf.RegionOpen
import Derived.OwnWalkIn
import Derived.TacticsInMore
import Derived.LoopNIn
import Derived.LoopIn
namespace Go.Proofs.Ytooalgnppnmeaaa
open Go.RowKit Go.Shelf
attribute [local go_sem] Oper.semAt_some

/-- NodesO, at these slices of arguments. -/
structure NodesA (w : World) (F : Nat → Prop) (v : Value) (avs : List Value) (ns : List Nd) : Prop where
  len : avs.length = ns.length
  row : w.ownsRow 0 32 5 v ns.length (flat avs ns)
  blk : ∀ k, v.ownBlock = some k → F k
  apart : Apart avs
  arg : ∀ (i : Nat) (a : Value) (n : Nd), avs[i]? = some a → ns[i]? = some n → w.ownsRow 0 3 1 a n.args.length (ints n.args) ∧ ∀ k, a.ownBlock = some k → F k
theorem NodesO.at {w : World} {F : Nat → Prop} {v : Value} {ns : List Nd} (h : NodesO w F v ns) : ∃ avs, NodesA w F v avs ns := by
  obtain ⟨avs, h1, h2, h3, h4, h5⟩ := h
  exact ⟨avs, h1, h2, h3, h4, h5⟩
theorem NodesA.all {w : World} {F : Nat → Prop} {v : Value} {avs : List Value} {ns : List Nd} (h : NodesA w F v avs ns) : NodesO w F v ns := ⟨avs, h.len, h.row, h.blk, h.apart, h.arg⟩
theorem own_cells {w : World} {base : Nat} {e : TypeId} {s n : Nat} {v : Value} {xs : List Value} (h : w.ownsRow base e s v n xs) {k : Nat} (hk : v.ownBlock = some k) : ∃ o : Obj, w.heap[k]? = some o ∧ o.isCells = true := by
  rcases h.2 with ⟨rfl, _⟩ | ⟨g, cap, cur, rfl, _, hh, _⟩
  · simp [Value.ownBlock] at hk
  · have : g = k := by simpa [Value.ownBlock] using hk
    subst this
    exact ⟨_, hh, rfl⟩
theorem own_high {w w' : World} {base B m : Nat} {e : TypeId} {s n : Nat} {v : Value} {xs : List Value} (h : w.ownsRow base e s v n xs) (hc : CellsIn B m w w') (hB : ∀ k, v.ownBlock = some k → B ≤ k ∧ k < m) : w'.ownsRow base e s v n xs :=
  own_move' h (fun k hk _ => by
    obtain ⟨o, h1, h2⟩ := own_cells h hk
    rw [h1]
    exact hc.same k o (hB k hk).1 (hB k hk).2 h1 h2)
theorem NodesA.high {w w' : World} {F : Nat → Prop} {v : Value} {avs : List Value} {ns : List Nd} {B m : Nat} (h : NodesA w F v avs ns) (hc : CellsIn B m w w') (hB : ∀ k, F k → B ≤ k ∧ k < m) : NodesA w' F v avs ns :=
  ⟨h.len, own_high h.row hc (fun k hk => hB k (h.blk k hk)), h.blk, h.apart, fun i a n h1 h2 => ⟨own_high (h.arg i a n h1 h2).1 hc (fun k hk => hB k ((h.arg i a n h1 h2).2 k hk)), (h.arg i a n h1 h2).2⟩⟩
theorem NodesA.kept {w w' : World} {F G : Nat → Prop} {v : Value} {avs : List Value} {ns : List Nd} (h : NodesA w F v avs ns) (hk : Kept G w w') (hd : ∀ k, F k → ¬ G k) : NodesA w' F v avs ns :=
  ⟨h.len, own_kept h.row hk (fun k hk => hd k (h.blk k hk)), h.blk, h.apart, fun i a n h1 h2 => ⟨own_kept (h.arg i a n h1 h2).1 hk (fun k hk => hd k ((h.arg i a n h1 h2).2 k hk)), (h.arg i a n h1 h2).2⟩⟩
theorem Kept.grownNo {w w' : World} (h : Kept No w w') : w.grownBy w' none := ⟨h.os, h.tape, h.output, h.size, fun k hk _ => h.block k hk (fun hn => hn)⟩

/-- What a round is handed: an address, and a node whose arguments are a new slice. -/
structure Yd where
  m : Nat
  i : Nat
  av : Value
  nd : Nd
def ydArgs (x : Yd) : Array Value := #[.int .i64 (x.i : Int), ndVal x.av x.nd]
/-- What it may lean on. -/
def YdAt (base : Nat) (ns : List Nd) (pre : List Yd) (x : Yd) (W : World) : Prop :=
  x.i = pre.length ∧ ns[x.i]? = some x.nd ∧ W.ownsRow base 3 1 x.av x.nd.args.length (ints x.nd.args) ∧ (∀ k, x.av.ownBlock = some k → k < x.m) ∧ (∀ y ∈ pre, y.m = x.m)
/-- At the end. -/
def AllS (base : Nat) (ns : List Nd) (xs : List Yd) (W : World) : Prop :=
  xs.map Yd.nd = ns ∧ Apart (xs.map Yd.av) ∧ ∀ x ∈ xs, W.ownsRow base 3 1 x.av x.nd.args.length (ints x.nd.args)

def ydOf (m : Nat) (avs : List Value) (ns : List Nd) (k : Nat) : Yd := ⟨m, k, avs[k]?.getD (.slice none 0 0), ns[k]?.getD Nd.zero⟩
def ydUp (m : Nat) (avs : List Value) (ns : List Nd) (k : Nat) : List Yd := (List.range k).map (ydOf m avs ns)
theorem ydUp_succ (m : Nat) (avs : List Value) (ns : List Nd) (k : Nat) : ydUp m avs ns (k + 1) = ydUp m avs ns k ++ [ydOf m avs ns k] := by simp [ydUp, List.range_succ]
theorem ydUp_length (m : Nat) (avs : List Value) (ns : List Nd) (k : Nat) : (ydUp m avs ns k).length = k := by simp [ydUp]
theorem ydUp_nd (m : Nat) (avs : List Value) (ns : List Nd) : (ydUp m avs ns ns.length).map Yd.nd = ns := by
  apply List.ext_getElem
  · simp [ydUp]
  · intro i h1 h2
    simp [ydUp, ydOf, h2]
theorem ydUp_av (m : Nat) (avs : List Value) (ns : List Nd) (h : avs.length = ns.length) : (ydUp m avs ns ns.length).map Yd.av = avs := by
  apply List.ext_getElem
  · simp [ydUp, h]
  · intro i h1 h2
    simp [ydUp, ydOf, h2]

set_option maxRecDepth 100000 in
set_option maxHeartbeats 4000000 in
theorem all_gives {F0 : Nat → Prop} {hb box : Nat} {room : Int} {ns : List Nd} {w : World} (n : Nat) (hn : 1 ≤ n) (hbox : w.cell? ⟨box, 0, none⟩ = some (.pointer (some ⟨hb, 0, none⟩))) (hbl : box < w.heap.size) (h : HeapO w F0 hb room ns) (hlen : ns.length ≤ 4000) (hsm : ∀ n ∈ ns, n.args.length ≤ 6) :
    Gives Fence.wide n Try.prog 56 #[.pointer (some ⟨box, 0, none⟩)] ydArgs Yd.m (YdAt w.heap.size ns) w.heap.size (AllS w.heap.size ns) (fun _ => True) ns.length w := by
  intro l J Jx W hW hJ hJx hY h0
  have kW : Kept No w W := Kept.of_below hW
  have hbox2 := (kW.cell (p := ⟨box, 0, none⟩) hbl (fun h => h)).trans hbox
  have H := Lib.hid (h.keptNo kW)
  have HSm := Lib.hid hsm
  have hz := kW.size
  obtain ⟨A, c, _, hbl2, _, z1, _, hnn⟩ := H.out.open_
  have HNN := Lib.hid hnn
  have HJ := Lib.hid hJ
  have HY := Lib.hid hY
  have H0 := Lib.hid h0
  clear kW hbox h hsm hnn hJ hY h0 hJx hW
  refine callsIn_wide.2 ?_
  have happend : #[Value.func (.yield l) #[] #[]] ++ #[Value.pointer (some ⟨box, 0, none⟩)] = #[Value.func (.yield l) #[] #[], .pointer (some ⟨box, 0, none⟩)] := rfl
  rw [happend]
  go_enter Try.func56, Try.ntmps56
  go_wp2_with fail
  clear happend
  go_loopw [3, 15] (fun t3 t15 wr => ∃ k : Nat, k ≤ ns.length ∧ t15 = .int .i64 k ∧ Hid (NodesO wr (Sc W.heap.size wr) t3 (ns.take k)) ∧ Hid (Kept No W wr)) (fun _ t15 _ => ns.length - (intOf t15).toNat)
  case atStart => exact ⟨0, Nat.zero_le _, rfl, NodesO.nil _ _, Kept.refl _ _⟩
  case round =>
    obtain ⟨k, hk, rfl, HN, HK⟩ := hrel
    have hlk : (ns.take k).length = k := by rw [List.length_take]; omega
    obtain ⟨A5, c5, rfl⟩ := HN.out.reads.slice
    have hz0 := HK.out.size
    by_cases hlt : k < ns.length
    · have hn2 : ns[k]? = some ns[k] := List.getElem?_eq_getElem hlt
      obtain ⟨b1, o1, c3, av, he, _, hb1, m0, m1, m2, m3, m4, hrow⟩ := (HNN.out.keptNo HK.out).reads.at_ hn2
      injection he with he _ hc
      subst he hc
      have htk := List.take_add_one (l := ns) (i := k)
      rw [hn2] at htk
      generalize ns[k] = nd at *
      have hsn := HSm.out nd (List.mem_of_getElem? hn2)
      obtain ⟨Av, cv, rfl⟩ := hrow.slice
      have HR := Lib.hid hrow
      have HT := Lib.hid htk
      clear hn2 hrow htk
      go_wp2_with fail
      refine (own_any F0 (.slice Av nd.args.length cv) nd _ (by omega) (HR.out.keptNo ((Kept.refl No wr).alloc _))).mono ?_
      rintro e w5 ⟨a, rfl, ho, k5⟩
      have K5 : Kept No wr w5 := ((Kept.refl No wr).alloc _).thenNo k5
      have hz5 := k5.size
      simp only [World.size_alloc] at hz5 ho
      obtain ⟨v6, w6, happ, ho6, k6, g6, c6, rfl⟩ := nodes_push (HN.out.keptNo K5) nd a (own_zero ho) (fun i hi hs => by have := (ho.lt i hi).1; have := hs.2; omega) (by omega)
      dsimp only [ndCells] at happ
      rw [hlk] at happ ho6
      have hz6 := k6.size
      have N6 : Hid (NodesO w6 (Sc W.heap.size w6) (.slice (some ⟨g6, 0, none⟩) (k + 1) c6) (ns.take (k + 1))) := by
        show NodesO _ _ _ _
        rw [HT.out]
        refine ho6.mono (fun i hi _ => ?_)
        rcases hi with hi | hi | hi
        · exact ⟨hi.1, by have := hi.2; omega⟩
        · have := ho.lt i hi; exact ⟨by omega, by omega⟩
        · exact ⟨by omega, hi.2⟩
      have K6 : Hid (Kept No W w6) := (HK.out.thenNo K5).trans k6 (fun i hlt hi => by
        obtain ⟨_, _, _, hF, _⟩ := HN.out
        have := (hF i hi).1; omega)
      clear ho k5 ho6 k6 hz5 hz6 hlk K5
      unfold ndVal
      go_wp2_with (at_builtin; refine wpList_append_run rfl (.tmp 19) (.tmp 22) 39 rfl rfl rfl happ ?_; clear happ)
      exact ⟨⟨k + 1, by omega, by go_num, N6, K6⟩, by (simp [intOf]; try omega)⟩
    · have hke : k = ns.length := by omega
      have HN2 : NodesO wr (Sc W.heap.size wr) (.slice A5 ns.length c5) ns := by
        have := HN.out
        rw [hke, List.take_length] at this
        exact this
      obtain ⟨avs, hA⟩ := HN2.at
      obtain ⟨m, hm⟩ : ∃ m, m = wr.heap.size := ⟨_, rfl⟩
      have HA : Hid (NodesA wr (fun i => W.heap.size ≤ i ∧ i < m) (.slice A5 ns.length c5) avs ns) := by rw [hm]; exact hA
      have HMz : Hid (m ≤ wr.heap.size) := by rw [hm]; exact Nat.le_refl _
      have HMW : Hid (W.heap.size ≤ m) := by rw [hm]; exact hz0
      have J1 : Hid (J [] wr) := HJ.out [] W wr none H0.out HK.out.grownNo (fun r e => by cases e)
      rw [hlk, hke]
      clear HN2 HN hA hke hlk H0 hz0 hm
      go_wp2_with fail
      refine (wpIn_wide (n := n)).1 ?_
      gi_loopw [27] (fun t27 wx => ∃ k : Nat, k ≤ ns.length ∧ t27 = .int .i64 k ∧ Hid (NodesA wx (fun i => W.heap.size ≤ i ∧ i < m) (.slice A5 ns.length c5) avs ns) ∧ Hid (J (ydUp m avs ns k) wx) ∧ Hid (m ≤ wx.heap.size)) (fun t27 _ => ns.length - (intOf t27).toNat)
      case atStart => exact ⟨0, Nat.zero_le _, rfl, HA, J1, HMz⟩
      case round =>
        clear HA J1
        obtain ⟨k, hk, rfl, HA, HJ1, HZ⟩ := hrel
        by_cases hlt : k < ns.length
        · have hal : k < avs.length := by rw [HA.out.len]; exact hlt
          have hn2 : ns[k]? = some ns[k] := List.getElem?_eq_getElem hlt
          have ha2 : avs[k]? = some avs[k] := List.getElem?_eq_getElem hal
          have hyd : ydOf m avs ns k = ⟨m, k, avs[k], ns[k]⟩ := by simp [ydOf, hn2, ha2]
          have hup : ydUp m avs ns (k + 1) = ydUp m avs ns k ++ [⟨m, k, avs[k], ns[k]⟩] := by rw [ydUp_succ, hyd]
          obtain ⟨o1, o2⟩ := HA.out.arg k _ _ ha2 hn2
          obtain ⟨g5, cg, e, hg5, hgl⟩ := HA.out.row.form (by omega)
          injection e with e _ ec
          subst e ec
          have hcells : ∀ j u, j < 5 → (ndCells (avs[k]) ns[k])[j]? = some u → wr.cell? ⟨g5, k * 5 + j, none⟩ = some u := fun j u hj hu => by
            rw [HA.out.row.cellAt (k * 5 + j) (by omega), flat_get avs ns k _ _ ha2 hn2 j hj]
            exact hu
          have m0 : wr.cell? ⟨g5, k * 5, none⟩ = some (.int .i64 ns[k].sym) := by simpa using hcells 0 _ (by omega) rfl
          have m1 := hcells 1 _ (by omega) rfl
          have m2 := hcells 2 _ (by omega) rfl
          have m3 := hcells 3 _ (by omega) rfl
          have m4 := hcells 4 _ (by omega) rfl
          have HN2 := Lib.hid hn2
          have HU := Lib.hid hup
          clear hcells hn2 ha2 hyd hup
          generalize ns[k] = nd at *
          generalize avs[k] = av at *
          obtain ⟨Av, cv, rfl⟩ := (own_reads o1 (F := fun _ => True) (fun _ _ => trivial)).slice
          have kb : Kept No wr (wr.alloc (.cells #[.int .i64 nd.sym, .slice Av nd.args.length cv, .int .i64 nd.mark, .bool nd.pts, .int .i64 nd.to] 32)) := (Kept.refl No wr).alloc _
          have HAb := Lib.hid (HA.out.kept kb (fun _ _ hn => hn))
          have HZb := Lib.hid (Nat.le_trans HZ.out kb.size)
          obtain ⟨fn, tmps, assign, body, hy, hR⟩ := HY.out (ydUp m avs ns k) ⟨m, k, .slice Av nd.args.length cv, nd⟩ _ (HJ.out _ wr _ none HJ1.out kb.grownNo (fun r e => by cases e))
            ⟨(ydUp_length m avs ns k).symm, HN2.out, own_base (own_kept o1 kb (fun _ _ hn => hn)) (fun i hi => by have := (o2 i hi).1; omega), fun i hi => (o2 i hi).2, fun y hy => by
              obtain ⟨i, _, rfl⟩ := List.mem_map.1 hy
              rfl⟩ HMW.out HZb.out (by rw [ydUp_length]; exact hlt)
          dsimp only [ydArgs, ndVal] at hy
          clear o1 o2 kb
          gi_wp2
          refine hR.mono ?_
          rintro e W3 (⟨rfl, hJ3, hc3⟩ | ⟨rfl, hJx3⟩)
          · have HA3 := Lib.hid (HAb.out.high hc3 (fun i hi => ⟨by have := hi.1; omega, hi.2⟩))
            have HJ3 : Hid (J (ydUp m avs ns (k + 1)) W3) := by show J _ _; rw [HU.out]; exact hJ3
            have HZ3 := Lib.hid (Nat.le_trans HZb.out hc3.size)
            clear hJ3 hc3
            gi_wp2
            go_roundw
            case rel => exact ⟨k + 1, by omega, by go_num, HA3, HJ3, HZ3⟩
            case measure => (simp [intOf]; try omega)
          · have HX := Lib.hid hJx3
            clear hJx3
            gi_wp2
            refine bodyPost_ret (results_none rfl _ _ _) rfl ?_
            exact ⟨⟨_, rfl⟩, .inr ⟨_, trivial, HX.out⟩⟩
        · have hke : k = ns.length := by omega
          have HF : Hid (AllS w.heap.size ns (ydUp m avs ns ns.length) wr ∧ J (ydUp m avs ns ns.length) wr) := by
            have hj := HJ1.out
            rw [hke] at hj
            refine ⟨⟨ydUp_nd m avs ns, by rw [ydUp_av m avs ns HA.out.len]; exact HA.out.apart, fun x hx => ?_⟩, hj⟩
            obtain ⟨i, hi, rfl⟩ := List.mem_map.1 hx
            have hi := List.mem_range.1 hi
            have h1 : ns[i]? = some ns[i] := List.getElem?_eq_getElem hi
            have h2 : avs[i]? = some (avs[i]'(by rw [HA.out.len]; exact hi)) := List.getElem?_eq_getElem _
            obtain ⟨o1, o2⟩ := HA.out.arg i _ _ h2 h1
            simp only [ydOf, h1, h2, Option.getD_some]
            exact own_base o1 (fun j hj => by have := (o2 j hj).1; omega)
          clear hke
          gi_wp2
          go_end0
          exact ⟨⟨_, rfl⟩, .inl ⟨_, HF.out.1, HF.out.2⟩⟩
end Go.Proofs.Ytooalgnppnmeaaa
