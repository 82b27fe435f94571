/- Collecting is not seen, as plain data. -/
import Derived.Test.YtooalgnppnmeaaaSlideA
import Derived.Test.YtooalgnppnmeaaaAlikeP
namespace Go.Proofs.Ytooalgnppnmeaaa

/-- A kept node, and where it goes. -/
def SlideR (ns : List Nd) (keep : List Bool) (x y : Int) : Prop := inR ns x = true ∧ sees keep x = true ∧ y = rankK keep x
theorem slide_bisim {room : Int} {ns : List Nd} {is : List Int} {keep : List Bool} (hg : Good room ns) (hi : IsL ns is) (hk : KeepOk ns is keep) : Bisim ns (slideAll ns keep is) (SlideR ns keep) := by
  refine ⟨fun x y ⟨h1, h2, h3⟩ => ?_, fun x y ⟨h1, h2, h3⟩ n k hn hkk i c d hc hd => ?_⟩
  · obtain ⟨n, hn, _⟩ := ndAt_of h1
    subst h3
    exact ⟨n, slideNd keep is n, hn, slideAll_rank hn h2, rfl, by simp [slideNd], hg.sane.few n (ndAt_mem hn)⟩
  · subst h3
    have e := slideAll_rank (is := is) hn h2
    rw [e] at hkk
    injection hkk with hkk
    subst hkk
    have hcm := List.mem_of_getElem? hc
    have hci := hi.is (hg.sane.arg (ndAt_mem hn) hcm)
    have hd2 : d = rankK keep (at0 is c) := by
      unfold slideNd at hd
      rw [List.getElem?_map, hc] at hd
      simpa using hd.symm
    have hks := hk.down x n hn h2 c hcm
    have hcr := hi.inR (hg.sane.arg (ndAt_mem hn) hcm)
    obtain ⟨nc, hnc, _⟩ := ndAt_of hcr
    refine ⟨at0 is c, d, hci, ?_, hcr, hks, hd2⟩
    rw [hd2]
    exact .app (slideAll_rank hnc hks) (hk.app _ nc hnc hks)
theorem rank_inj {ns : List Nd} {keep : List Bool} {x y : Int} (hx : inR ns x = true) (hy : inR ns y = true) (hsx : sees keep x = true) (hsy : sees keep y = true) : (x = y) ↔ (rankK keep x = rankK keep y) := by
  refine ⟨fun h => by rw [h], fun h => ?_⟩
  have hx1 := inR_iff.1 hx
  have hy1 := inR_iff.1 hy
  have a := liveUp_rank (keep := keep) (k := ns.length) (y := x.toNat) (by omega) (by rw [Int.toNat_of_nonneg hx1.1]; exact hsx)
  have b := liveUp_rank (keep := keep) (k := ns.length) (y := y.toNat) (by omega) (by rw [Int.toNat_of_nonneg hy1.1]; exact hsy)
  unfold rankK at h
  have h' : (liveUp keep x.toNat).length = (liveUp keep y.toNat).length := by omega
  rw [h', b] at a
  injection a with a
  omega
end Go.Proofs.Ytooalgnppnmeaaa
