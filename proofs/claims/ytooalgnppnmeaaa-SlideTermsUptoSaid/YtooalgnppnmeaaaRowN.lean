/- How lists of numbers and of nodes that came in are read, and how long they are at most. -/
import Derived.Test.YtooalgnppnmeaaaRow1
import Derived.Test.YtooalgnppnmeaaaRep
import Derived.JoinedCond
namespace Go.Proofs.Ytooalgnppnmeaaa
open Go.ChangeShapes Go.WideShapes Go.ChangeAt Go.RowKit Go.Deep

theorem bulk_pos {H : Type} (d : DataW H) : 1 ≤ Rows.uptoBulk d := by
  cases d with
  | lit l => cases l <;> simp [Rows.uptoBulk]
  | _ => simp [Rows.uptoBulk]
theorem bulk_mem {H : Type} {d : DataW H} {l : List (DataW H)} (h : d ∈ l) : Rows.uptoBulk d ≤ Rows.uptoBulkAll l := by
  induction l with
  | nil => cases h
  | cons x r ih =>
    simp only [Rows.uptoBulkAll]
    rcases List.mem_cons.1 h with e | e
    · subst e; omega
    · have := ih e; omega
theorem bulk_len {H : Type} (l : List (DataW H)) : l.length ≤ Rows.uptoBulkAll l := by
  induction l with
  | nil => simp [Rows.uptoBulkAll]
  | cons x r ih => have := bulk_pos x; simp only [Rows.uptoBulkAll, List.length_cons]; omega
theorem bulk_of {H : Type} {l : List (DataW H)} (hk : Rows.uptoSmall H l = true) : ∀ d ∈ l, Rows.uptoBulk d ≤ 1048576 := fun _ hd => Nat.le_trans (bulk_mem hd) (of_decide_eq_true hk)

section
variable {H : Type} {enc : TypeId × Value → H} {w : World}
theorem slice_in2 {t e : TypeId} {C n : Nat} {v : Value} {y : DataW H × List MemPlace} (ht : Try.prog.underlying t = some (.slice e)) (hC : Try.prog.cellsOf e = C) (hC0 : 0 < C)
    (h : DataW.trod enc Try.prog w 0 (fun _ => true) true n t [v] = some y) :
    ∃ (len : Nat) (css : List (List Value)), css.length = len ∧ RowR w C (fun _ => True) v len css.flatten ∧ len ≤ Rows.uptoBulk y.1 ∧
      ∀ (i : Nat) (cs : List Value), css[i]? = some cs → cs.length = C ∧ ∃ m z, DataW.trod enc Try.prog w 0 (fun _ => true) true m e cs = some z ∧ Rows.uptoBulk z.1 ≤ Rows.uptoBulk y.1 := by
  rcases open_slice ht h with ⟨hcs, _⟩ | ⟨a, l, c, m, n, D, Pl, hcs, _, hl, hm, hmm, hy, hx⟩
  · simp at hcs
    subst hcs
    exact ⟨0, [], rfl, RowR.nil _ _ _, by omega, by simp⟩
  · simp at hcs
    subst hcs
    have hmc : m = c := by simpa using hmm
    rw [hC] at hx
    have hb : ∀ i, i < l → Rows.uptoBulk (D i) ≤ Rows.uptoBulk y.1 := fun i hi => by
      rw [hy]
      have := bulk_mem (d := D i) (l := (List.range l).map D) (List.mem_map.2 ⟨i, List.mem_range.2 hi, rfl⟩)
      simp only [Rows.uptoBulk]
      omega
    obtain ⟨css, hlen, hp⟩ := list_of l (fun i (cs : List Value) => w.cells? 0 (a.add (i * C)) C = some cs ∧ ∃ m z, DataW.trod enc Try.prog w 0 (fun _ => true) true m e cs = some z ∧ Rows.uptoBulk z.1 ≤ Rows.uptoBulk y.1) (fun i hi => by
      obtain ⟨cs, h1, h2⟩ := hx i (by omega)
      exact ⟨cs, h1, n, _, h2, hb i hi⟩)
    have hCs : ∀ (i : Nat) (cs : List Value), css[i]? = some cs → cs.length = C := fun i cs hi => (World.cells?_some (hp i cs hi).1).2.1
    refine ⟨l, css, hlen, ⟨by rw [flatten_len hCs, hlen], _, _, rfl, hl, fun hpos => ?_⟩, ?_, fun i cs hi => ⟨hCs i cs hi, (hp i cs hi).2⟩⟩
    · obtain ⟨b, off, spot⟩ := a
      have h0 : css[0]? = some (css[0]'(by omega)) := List.getElem?_eq_getElem (by omega)
      have hc0 := (World.cells?_some (hp 0 _ h0).1).2.2 0 (by omega)
      have hl0 := hCs 0 _ h0
      rw [List.getElem?_eq_getElem (by omega)] at hc0
      simp only [Nat.zero_mul] at hc0
      have hspot : spot = none := by simpa [Addr.add] using World.cell?_spot hc0
      subst hspot
      refine ⟨b, off, rfl, trivial, World.block_lt_of_cell? w _ (by simpa [Addr.add] using hc0), fun j u hj => ?_⟩
      have hjl := (List.getElem?_eq_some_iff.1 hj).1
      rw [flatten_len hCs, hlen] at hjl
      have hq : j / C < l := by
        rw [Nat.div_lt_iff_lt_mul hC0]; exact hjl
      have hr : j % C < C := Nat.mod_lt _ hC0
      have hjj : j / C * C + j % C = j := by rw [Nat.mul_comm]; exact Nat.div_add_mod j C
      have hi : css[j / C]? = some (css[j / C]'(by omega)) := List.getElem?_eq_getElem (by omega)
      have hg := flatten_get hCs hi hr
      rw [hjj, hj] at hg
      have hc := (World.cells?_some (hp (j / C) _ hi).1).2.2 (j % C) hr
      rw [← hg] at hc
      have hadd : ((⟨b, off, none⟩ : Addr).add (j / C * C)).add (j % C) = ⟨b, off + j, none⟩ := by
        rw [addr_add, addr_add, Nat.add_assoc, hjj]
      rw [hadd] at hc
      exact hc
    · rw [hy]
      have := bulk_len ((List.range l).map D)
      simp only [List.length_map, List.length_range] at this
      simp only [Rows.uptoBulk]
      omega
theorem struct_in2 {e : TypeId} {fs : Array Field} {n : Nat} {cs : List Value} {y : DataW H × List MemPlace} (he : Try.prog.underlying e = some (.struct fs)) (hone : oneCellFields Try.prog fs = true) (hC : Try.prog.cellsOf e = fs.size)
    (h : DataW.trod enc Try.prog w 0 (fun _ => true) true n e cs = some y) : ∀ (j : Nat) (f : Field), fs[j]? = some f → ∃ v m z, cs[j]? = some v ∧ DataW.trod enc Try.prog w 0 (fun _ => true) true m f.type [v] = some z ∧ Rows.uptoBulk z.1 ≤ Rows.uptoBulk y.1 := by
  obtain ⟨ys, n', _, hy, hlen, hyl, hf⟩ := DataW.trod_struct he h
  intro j f hj
  obtain ⟨ho, hk⟩ := hone_of hone j f hj
  have hjl : j < fs.size := (Array.getElem?_eq_some_iff.1 hj).1
  have h1 := hf j f hj
  rw [ho, hk] at h1
  have hjc : j < cs.length := by omega
  have e1 : (cs.drop j).take 1 = [cs[j]] := by
    rw [List.drop_eq_getElem_cons hjc]; rfl
  rw [e1] at h1
  refine ⟨cs[j], n', ys[j]'(by omega), List.getElem?_eq_getElem hjc, by rw [h1]; exact List.getElem?_eq_getElem (by omega), ?_⟩
  rw [hy]
  have := bulk_mem (d := (ys[j]'(by omega)).1) (l := ys.map (·.1)) (List.mem_map.2 ⟨_, List.getElem_mem (by omega), rfl⟩)
  simp only [Rows.uptoBulk]
  omega
theorem css_one {l : List Int} {css : List (List Value)} (hl : css.length = l.length) (h : ∀ (i : Nat) (x : Int), l[i]? = some x → css[i]? = some [.int .i64 x]) : css.flatten = ints l := by
  have : css = l.map fun x => [.int .i64 x] := by
    apply List.ext_getElem?
    intro i
    rw [List.getElem?_map]
    cases hi : l[i]? with
    | none => rw [List.getElem?_eq_none_iff] at hi; simp only [Option.map_none]; rw [List.getElem?_eq_none_iff]; omega
    | some x => simpa using h i x hi
  rw [this, ← List.flatMap_def]
  unfold ints
  clear this h hl
  induction l with
  | nil => rfl
  | cons x l ih => rw [List.flatMap_cons, ih]; rfl
theorem ints_in2 {n : Nat} {v : Value} {y : DataW H × List MemPlace} (h : DataW.trod enc Try.prog w 0 (fun _ => true) true n 22 [v] = some y) :
    ∃ l : List Int, RowR w 1 (fun _ => True) v l.length (ints l) ∧ (∀ x ∈ l, I64 x) ∧ l.length ≤ Rows.uptoBulk y.1 := by
  obtain ⟨len, css, h1, h2, h3, h4⟩ := slice_in2 (C := 1) Try.underlying22 (by kernel_rfl) (by omega) h
  obtain ⟨l, hl, hp⟩ := list_of len (fun i (x : Int) => css[i]? = some [.int .i64 x] ∧ I64 x) (fun i hi => by
    have hc : css[i]? = some (css[i]'(by omega)) := List.getElem?_eq_getElem (by omega)
    obtain ⟨hl1, m, z, hz, _⟩ := h4 i _ hc
    obtain ⟨u, hu⟩ := List.length_eq_one_iff.1 hl1
    rw [hu] at hz
    obtain ⟨x, e, hx⟩ := int_in hz
    exact ⟨x, by rw [hc, hu, e], hx⟩)
  subst hl
  rw [css_one h1 (fun i x hi => (hp i x hi).1)] at h2
  exact ⟨l, h2, fun x hx => by obtain ⟨i, hi⟩ := List.getElem?_of_mem hx; exact (hp i x hi).2, h3⟩
theorem five_cells {cs : List Value} {a b c d e : Value} (hl : cs.length = 5) (h0 : cs[0]? = some a) (h1 : cs[1]? = some b) (h2 : cs[2]? = some c) (h3 : cs[3]? = some d) (h4 : cs[4]? = some e) : cs = [a, b, c, d, e] := by
  match cs, hl with
  | [x0, x1, x2, x3, x4], _ => simp_all
theorem six_cells {cs : List Value} {a b c d e f : Value} (hl : cs.length = 6) (h0 : cs[0]? = some a) (h1 : cs[1]? = some b) (h2 : cs[2]? = some c) (h3 : cs[3]? = some d) (h4 : cs[4]? = some e) (h5 : cs[5]? = some f) : cs = [a, b, c, d, e, f] := by
  match cs, hl with
  | [x0, x1, x2, x3, x4, x5], _ => simp_all
theorem node_in {n : Nat} {cs : List Value} {y : DataW H × List MemPlace} (hl : cs.length = 5) (h : DataW.trod enc Try.prog w 0 (fun _ => true) true n 32 cs = some y) :
    ∃ (a : Value) (m : Nd), cs = ndCells a m ∧ RowR w 1 (fun _ => True) a m.args.length (ints m.args) ∧ m.args.length ≤ Rows.uptoBulk y.1 := by
  have hf := struct_in2 Try.underlying32 (by kernel_rfl) (by kernel_rfl) h
  obtain ⟨v0, m0, z0, c0, t0, _⟩ := hf 0 _ rfl
  obtain ⟨v1, m1, z1, c1, t1, b1⟩ := hf 1 _ rfl
  obtain ⟨v2, m2, z2, c2, t2, _⟩ := hf 2 _ rfl
  obtain ⟨v3, m3, z3, c3, t3, _⟩ := hf 3 _ rfl
  obtain ⟨v4, m4, z4, c4, t4, _⟩ := hf 4 _ rfl
  obtain ⟨x0, rfl, _⟩ := int_in t0
  obtain ⟨l, hr, _, hb⟩ := ints_in2 t1
  obtain ⟨x2, rfl, _⟩ := int_in t2
  obtain ⟨x3, rfl⟩ := bool_in t3
  obtain ⟨x4, rfl, _⟩ := int_in t4
  exact ⟨v1, ⟨x0, l, x2, x3, x4⟩, five_cells hl c0 c1 c2 c3 c4, hr, Nat.le_trans hb b1⟩
theorem flatten_zip {α β : Type} {f : α → β → List Value} {css : List (List Value)} {ps : List α} {xs : List β} (h1 : css.length = ps.length) (h2 : css.length = xs.length)
    (h : ∀ (i : Nat) (p : α) (x : β), ps[i]? = some p → xs[i]? = some x → css[i]? = some (f p x)) : css.flatten = (ps.zip xs).flatMap fun q => f q.1 q.2 := by
  have : css = (ps.zip xs).map fun q => f q.1 q.2 := by
    apply List.ext_getElem?
    intro i
    rw [List.getElem?_map]
    by_cases hi : i < css.length
    · have e1 : ps[i]? = some (ps[i]'(by omega)) := List.getElem?_eq_getElem (by omega)
      have e2 : xs[i]? = some (xs[i]'(by omega)) := List.getElem?_eq_getElem (by omega)
      rw [h i _ _ e1 e2]
      have : (ps.zip xs)[i]? = some (ps[i]'(by omega), xs[i]'(by omega)) := by rw [List.getElem?_zip_eq_some]; exact ⟨e1, e2⟩
      rw [this]; rfl
    · have : (ps.zip xs)[i]? = none := by rw [List.getElem?_eq_none_iff]; simp; omega
      rw [this, List.getElem?_eq_none_iff.2 (by omega)]; rfl
  rw [this, List.flatMap_def]
theorem nodes_in {n : Nat} {v : Value} {y : DataW H × List MemPlace} (h : DataW.trod enc Try.prog w 0 (fun _ => true) true n 39 [v] = some y) :
    ∃ ns : List Nd, NodesR w (fun _ => True) v ns ∧ ns.length ≤ Rows.uptoBulk y.1 ∧ ∀ n ∈ ns, n.args.length ≤ Rows.uptoBulk y.1 := by
  obtain ⟨len, css, h1, h2, h3, h4⟩ := slice_in2 (C := 5) Try.underlying39 (by kernel_rfl) (by omega) h
  obtain ⟨qs, hl, hp⟩ := list_of len (fun i (q : Value × Nd) => css[i]? = some (ndCells q.1 q.2) ∧ RowR w 1 (fun _ => True) q.1 q.2.args.length (ints q.2.args) ∧ q.2.args.length ≤ Rows.uptoBulk y.1) (fun i hi => by
    have hc : css[i]? = some (css[i]'(by omega)) := List.getElem?_eq_getElem (by omega)
    obtain ⟨hl1, m, z, hz, hb⟩ := h4 i _ hc
    obtain ⟨a, nd, e, hr, hx⟩ := node_in hl1 hz
    exact ⟨(a, nd), by rw [hc, e], hr, Nat.le_trans hx hb⟩)
  subst hl
  have hget : ∀ (i : Nat) (a : Value) (n : Nd), (qs.map (·.1))[i]? = some a → (qs.map (·.2))[i]? = some n → qs[i]? = some (a, n) := by
    intro i a n ha hn
    rw [List.getElem?_map] at ha hn
    cases hq : qs[i]? with
    | none => rw [hq] at ha; simp at ha
    | some q => rw [hq] at ha hn; simp at ha hn; rw [← ha, ← hn]
  refine ⟨qs.map (·.2), ⟨qs.map (·.1), by simp, ?_, fun i a n ha hn => (hp i _ (hget i a n ha hn)).2.1⟩, by simpa using h3, fun n hn => ?_⟩
  · have := flatten_zip (f := fun (a : Value) (n : Nd) => ndCells a n) (css := css) (ps := qs.map (·.1)) (xs := qs.map (·.2)) (by simpa using h1) (by simpa using h1) (fun i a n ha hn => (hp i _ (hget i a n ha hn)).1)
    rw [this] at h2
    simpa [flat] using h2
  · obtain ⟨q, hq, rfl⟩ := List.mem_map.1 hn
    obtain ⟨i, hi⟩ := List.getElem?_of_mem hq
    exact (hp i q hi).2.2
end
end Go.Proofs.Ytooalgnppnmeaaa
