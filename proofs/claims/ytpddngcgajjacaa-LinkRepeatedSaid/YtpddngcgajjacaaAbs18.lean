/-
  Regions that draw their order, part 4: one operation, wherever it stands; the theorem.
-/
import Derived.Test.YtpddngcgajjacaaAbs17
import Derived.OrdersIn
namespace Go.Zz
section
variable {P : Program} {call : AV → List AV → Mem → Option (AV × Mem)} {ops : Array Oper} {perm : List Nat} {b : Array Nat} {l : List IOper} {tx : Nat → St} {sn : Nat → Hp × Nat × Nat}

/-- What holds when 'D' is done. -/
structure Inv (P : Program) (b : Array Nat) (l : List IOper) (tx : Nat → St) (sn : Nat → Hp × Nat × Nat) (M0 : Mp) (w0 : World) (ds : List Deferred) (D : Nat → Bool) (s : St) (M : Mp) (a : Act) (w : World) : Prop where
  post : Post P M0 (tx 0) w0 ds s M a w
  len : s.T.length = (tx 0).T.length
  sl : ∀ t, gt s.T t = fo (us l tx) (gt (tx 0).T) D l.length t
  heap : s.heap = HD b l tx sn D
  loops : s.loops = fo (ul l tx) (fun _ => (tx 0).loops) D l.length ()

theorem ordered_comm {i k : Nat} : ordered b i k = ordered b k i := by
  unfold ordered; rw [Bool.or_comm]

/-- Behind a call, in no order with it, nothing is made. -/
theorem Dr.behind' (h : Dr P call ops perm b l tx sn) {k i : Nat} {ok oi : IOper} (hk : l[k]? = some ok) (hi : l[i]? = some oi) (hc : isCall ok.op = true) (hki : k < i) (hu : ordered b i k = false) : makesNone oi.op = true := by
  have h1 := List.all_zipIdx (f := fun (oj : IOper) (j : Nat) => !isCallI oj.op || l.zipIdx.all fun p => decide (p.2 ≤ j) || ordered b p.2 j || makesNone p.1.op) h.behind hk
  have e : isCallI ok.op = true := by cases hop : ok.op <;> rw [hop] at hc <;> first | rfl | cases hc
  simp only [e, Bool.not_true, Bool.false_or] at h1
  have h2 := List.all_zipIdx (f := fun (oi : IOper) (i : Nat) => decide (i ≤ k) || ordered b i k || makesNone oi.op) h1 hi
  rw [hu] at h2
  simpa [Nat.not_le.2 hki] using h2

theorem Dr.callord (h : Dr P call ops perm b l tx sn) {k i : Nat} {ok oi : IOper} (hk : l[k]? = some ok) (hi : l[i]? = some oi) (hc : isCall ok.op = true) (hc' : isCall oi.op = true) (hne : i ≠ k) : ordered b i k = true := by
  cases ho : ordered b i k with
  | true => rfl
  | false =>
    have nm : ∀ {o : IOper}, isCall o.op = true → makesNone o.op = true → False := by
      intro o h1 h2
      cases hop : o.op <;> rw [hop] at h1 h2 <;> first | (cases h1; done) | (simp [makesNone, freeOp] at h2)
    rcases Nat.lt_or_gt_of_ne hne with hlt | hgt
    · exact (nm hc (h.behind' hi hk hc' hlt (by rw [ordered_comm]; exact ho))).elim
    · exact (nm hc' (h.behind' hk hi hc hgt ho)).elim

theorem loops_call (h : Dr P call ops perm b l tx sn) {D : Nat → Bool} {k : Nat} {io : IOper} (hio : l[k]? = some io) (hs : Stands b D l.length k) (hc : isCall io.op = true) :
    fo (ul l tx) (fun _ => (tx 0).loops) D l.length () = (tx k).loops ∧ fo (ul l tx) (fun _ => (tx 0).loops) (with' D k) l.length () = (tx (k + 1)).loops := by
  have hk := (List.getElem?_eq_some_iff.1 hio).1
  have key : ∀ i, i < l.length → (ul l tx i ()).isSome = true → i = k ∨ ordered b i k = true := by
    intro i hi hu
    by_cases e : i = k
    · exact .inl e
    · refine .inr ?_
      obtain ⟨oi, hoi⟩ := h.at hi
      unfold ul at hu
      rw [hoi] at hu
      simp only at hu
      split at hu
      · rename_i hci; exact h.callord hio hoi hc hci e
      · cases hu
  constructor
  · rw [h.loops k (by omega)]
    exact fo_text (by omega) fun i hi hu => without_text hs hi (key i hi hu)
  · rw [h.loops (k + 1) (by omega)]
    exact fo_text (by omega) fun i hi hu => with_text hs hi (key i hi hu)

theorem loops_other {D : Nat → Bool} {k : Nat} {io : IOper} (hio : l[k]? = some io) (hc : isCall io.op = false) :
    fo (ul l tx) (fun _ => (tx 0).loops) (with' D k) l.length () = fo (ul l tx) (fun _ => (tx 0).loops) D l.length () := by
  refine fo_agree _ fun i hi hu => ?_
  unfold with'
  rw [if_neg]
  rintro rfl
  simp [ul, hio, hc] at hu

/-- Where a block was made. -/
theorem maker (h : Dr P call ops perm b l tx sn) {k id : Nat} : ∀ i, k ≤ i → i ≤ l.length → (tx k).heap.length ≤ id → id < (tx i).heap.length → ∃ j, k ≤ j ∧ j < i ∧ (tx j).heap.length ≤ id ∧ id < (tx (j + 1)).heap.length
  | 0, hk, _, h1, h2 => by rw [Nat.le_zero.1 hk] at h1; omega
  | i + 1, hk, hi, h1, h2 => by
    by_cases e : k = i + 1
    · subst e; omega
    · by_cases hlt : id < (tx i).heap.length
      · obtain ⟨j, g1, g2, g3⟩ := maker h i (by omega) (by omega) h1 hlt
        exact ⟨j, g1, by omega, g3⟩
      · exact ⟨i, by omega, by omega, by omega, h2⟩

/-- Whoever makes a block is wanted, and more than a look. -/
theorem makes (h : Dr P call ops perm b l tx sn) {j id : Nat} {oj : IOper} (hj : l[j]? = some oj) (h1 : (tx j).heap.length ≤ id) (h2 : id < (tx (j + 1)).heap.length) : wantedI (tx j).T oj.guard = true ∧ freeOp oj.op = false ∧ readOp oj.op = false ∧ makesNone oj.op = false := by
  cases h.goes hj with
  | skip hw e hn => rw [e] at h2; simp [St.put, St.mem] at h2; omega
  | free hw hf v e hn hv => rw [e] at h2; simp [St.put, St.mem] at h2; omega
  | op hw hf v m' hv hV hle hd e hl hget hn =>
    have hne : m'.heap.length ≠ (view b l tx sn j oj).length := by rw [hV.1]; omega
    refine ⟨hw, hf, ?_, ?_⟩
    · cases hr : readOp oj.op with
      | false => rfl
      | true => exact absurd (by rw [read_still hr hv]) hne
    · cases hr : makesNone oj.op with
      | false => rfl
      | true => exact absurd (none_made hr hv) hne

/-- **ONE OPERATION, WHEREVER IT STANDS.** -/
theorem draw_step (h : Dr P call ops perm b l tx sn) {M0 : Mp} {w0 : World} {ds : List Deferred} (hf0 : Fresh M0 (tx 0).heap (tx 0).loops) {D : Nat → Bool} {s : St} {M : Mp} {a : Act} {w : World} (hI : Inv P b l tx sn M0 w0 ds D s M a w)
    {k : Nat} (hk : k < l.length) (hs : Stands b D l.length k) (hdown : ∀ i j, i < l.length → j < l.length → D i = true → (b.getD i 0).testBit j = true → D j = true) {ro : Option Nat} {N : Nat} {Q : Exit → Act → World → Prop} {K : Act → World → Prop}
    (hK : ∀ s' M' a' w', Inv P b l tx sn M0 w0 ds (with' D k) s' M' a' w' → K a' w') : wpOpIn (fen ro) N P ops Q (perm.getD k ops.size) K a w := by
  obtain ⟨o, io, ho, hio, hco⟩ := h.get k hk
  obtain ⟨c1, c2, c3⟩ := cOper_eq hco
  have hslots : ∀ t ∈ io.slots, gt s.T t = gt (tx k).T t := fun t ht => by rw [hI.sl t, slots_at h hio hs ht]
  have hopslots : ∀ t ∈ io.op.slots, gt s.T t = gt (tx k).T t := fun t ht => hslots t (by simp [IOper.slots, ht])
  have hwant : Region.wanted o (yielded ops a.tmps) = wantedI (tx k).T io.guard := by
    rw [wanted_sound hI.post.rt c2]
    exact wanted_congr fun t b hg => hslots t (by simp [IOper.slots, hg])
  have hnew : ∀ id g, (tx 0).heap.length ≤ id → (∀ x : Blk, s.heap[id]? ≠ some (some x)) → M.loc id g = none := fun id g h1 h2 => by
    cases hx : M.loc id g with
    | none => rfl
    | some lc =>
      obtain ⟨x, hx⟩ := hI.post.fr.only id g lc hx (hf0.loc id g h1)
      exact absurd hx (h2 x)
  have hn0 : (tx 0).heap.length ≤ (tx k).heap.length := h.lenH k (Nat.zero_le _) (by omega)
  -- how it goes on
  have go : ∀ (v : AV) (m' m2 : Mem) (cv : Value) (M' : Mp) (w' : World), tx (k + 1) = (tx k).put io.dst v m' → RV M' v cv → Holds P M' m2.heap m2.loops w' → Fr M s.heap s.loops w M' m2.heap m2.loops w' →
      m2.heap = HD b l tx sn (with' D k) → m2.loops = fo (ul l tx) (fun _ => (tx 0).loops) (with' D k) l.length () → K (a.put o.dst cv) w' := by
    intro v m' m2 cv M' w' he hv hh hfr e1 e2
    obtain ⟨g1, g2⟩ := slots_step h hio hs hI.len hI.sl (m2 := m2) he
    refine hK (s.put io.dst v m2) M' _ w' ⟨hI.post.trans ⟨?_, hh, hfr, .of_same (by cases o.dst <;> rfl)⟩, g1, g2, e1, e2⟩
    rw [c3]
    exact RT.put (hI.post.rt.mono hfr.le) hv
  have same : (∀ id, ¬ Wr b l tx sn k id) → s.heap = HD b l tx sn (with' D k) := by
    intro hn
    rw [hI.heap]
    unfold HD
    exact List.map_congr_left fun id _ => (HD_other (hn id)).symm
  unfold wpOpIn
  rw [ho]
  simp only
  rw [hwant]
  cases h.goes hio with
  | skip hw e hn =>
    rw [hw]
    simp only [Bool.false_eq_true, if_false]
    refine ⟨fun _ _ => trivial, ?_⟩
    refine go und _ s.mem undef M w e .tup0 hI.post.holds (Fr.refl _ _ _ _) (same ?_) ?_
    · rintro id ⟨io', h1, h2, _⟩
      rw [hio] at h1
      cases h1
      rw [hw] at h2
      cases h2
    · show s.loops = _
      rw [hI.loops]
      cases hc : isCall io.op with
      | false => exact (loops_other hio hc).symm
      | true =>
        obtain ⟨g1, g2⟩ := loops_call h hio hs hc
        rw [g1, g2, e]
        rfl
  | free hw hf v e hn hv =>
    rw [hw]
    simp only [if_true]
    have hc : isCall io.op = false := by cases hop : io.op <;> first | rfl | (rw [hop] at hf; simp [freeOp] at hf)
    have hev := hv call s.mem
    rw [evOp_congr (T' := s.T) fun t ht => (hopslots t ht).symm] at hev
    obtain ⟨cv, w', M', h1, h2, h3, h4⟩ := op_sound (m := s.mem) hI.post.holds (fun hlt => absurd hlt (Nat.lt_irrefl _)) hI.post.rt c1 hc hev
    refine wpIn_gives (cOp_defer c1) h1 (go v _ s.mem cv M' w' e h2 h3 h4 (same ?_) ?_)
    · rintro id ⟨io', g1, _, g3, _⟩
      rw [hio] at g1
      cases g1
      rw [hf] at g3
      cases g3
    · show s.loops = _
      rw [hI.loops, loops_other hio hc]
  | op hw hf v m' hv hV hle hd e hl hget hn =>
    rw [hw]
    simp only [if_true]
    have hsub : Sub (view b l tx sn k io) s.heap := by rw [hI.heap]; exact view_sub h hio hf hw hs
    have hVl := hV.1
    have hmono : (tx (k + 1)).heap.length ≤ (tx l.length).heap.length := h.lenH _ (by omega) (Nat.le_refl _)
    have hholds : Holds P M (view b l tx sn k io) s.loops w := hI.post.holds.sub hsub
    have hwr : readOp io.op = false → ∀ id, ((∃ x : Blk, (view b l tx sn k io)[id]? = some (some x)) ∨ ((tx k).heap.length ≤ id ∧ id < (tx (k + 1)).heap.length)) → Wr b l tx sn k id := fun hr id hx => ⟨io, hio, hw, hf, hr, hx⟩
    have hord : ∀ id, Wr b l tx sn k id → ∀ i, i < l.length → Wr b l tx sn i id → i = k ∨ ordered b i k = true := by
      rintro id ⟨io', g1, g2, g3, g4, g5⟩
      rw [hio] at g1
      cases g1
      rcases g5 with ⟨x, hx⟩ | g5
      · exact view_wr h hio hf hw hx
      · exact new_wr h hio hf hw g4 g5
    have hnow : ∀ id, Wr b l tx sn k id → (tx (k + 1)).heap[id]? = m'.heap[id]? := by
      rintro id ⟨io', g1, g2, g3, g4, g5⟩
      rw [hio] at g1
      cases g1
      rw [hget]
      rcases g5 with ⟨x, hx⟩ | g5
      · rw [if_pos (live_join.2 ⟨x, hx⟩)]; split <;> rfl
      · rw [if_neg (by omega)]
    have unborn : ∀ id, (tx k).heap.length ≤ id → id < (tx (k + 1)).heap.length → ∀ x : Blk, s.heap[id]? ≠ some (some x) := by
      intro id g1 g2 x hx
      obtain ⟨_, _, g3, _⟩ := makes h hio g1 g2
      rw [hI.heap, HD_get, (HD_wr h hk hs (new_wr h hio hf hw g3 ⟨g1, g2⟩)).2, List.getElem?_eq_none g1] at hx
      simp at hx
    have wrget : ∀ id, Wr b l tx sn k id → ∀ x : Blk, (HD b l tx sn (with' D k))[id]? = some (some x) ↔ m'.heap[id]? = some (some x) := by
      intro id hx x
      rw [HD_get, (HD_wr h hk hs (hord id hx)).1, hnow id hx, join_some]
      refine ⟨fun g => g.2, fun g => ⟨?_, g⟩⟩
      have := (List.getElem?_eq_some_iff.1 g).1
      omega
    have other : ∀ id, ¬ Wr b l tx sn k id → ∀ x : Blk, (HD b l tx sn (with' D k))[id]? = some (some x) ↔ s.heap[id]? = some (some x) := by
      intro id hx x
      rw [hI.heap, HD_get, HD_get, HD_other hx]
    have rd : readOp io.op = true → m'.heap = view b l tx sn k io := fun hr => by rw [read_still hr hv]
    have fin : ∀ (cv : Value) (M' : Mp) (w' : World) (L' : List (Option ALoop)), L' = fo (ul l tx) (fun _ => (tx 0).loops) (with' D k) l.length () → RV M' v cv → Holds P M' m'.heap L' w' → Fr M (view b l tx sn k io) s.loops w M' m'.heap L' w' → K (a.put o.dst cv) w' := by
      intro cv M' w' L' hL g1 g2 g3
      have mm : Holds P M' (HD b l tx sn (with' D k)) L' w' ∧ Fr M s.heap s.loops w M' (HD b l tx sn (with' D k)) L' w' := by
        refine merge hI.post.holds hsub g2 g3 ?_ ?_ ?_ (by rw [hI.heap, HD_length, HD_length]; exact Nat.le_refl _)
        · intro id x hx
          by_cases hW : Wr b l tx sn k id
          · exact .inl ((wrget id hW x).1 hx)
          · have hx' := (other id hW x).1 hx
            by_cases hv' : ∃ y : Blk, m'.heap[id]? = some (some y)
            · left
              obtain ⟨y, hy⟩ := hv'
              cases hr : readOp io.op with
              | true =>
                have hy' := hy
                rw [rd hr] at hy
                have := hsub id y hy
                rw [hx'] at this
                cases this
                exact hy'
              | false =>
                exfalso
                by_cases hlt : id < (view b l tx sn k io).length
                · obtain ⟨z, hz⟩ := hd id y hlt hy
                  exact hW (hwr hr id (.inl ⟨z, hz⟩))
                · have := (List.getElem?_eq_some_iff.1 hy).1
                  exact hW (hwr hr id (.inr ⟨by omega, by omega⟩))
            · exact .inr ⟨hx', fun y hy => hv' ⟨y, hy⟩⟩
        · intro id x hx
          cases hr : readOp io.op with
          | true =>
            rw [rd hr] at hx
            refine ⟨x, (other id ?_ x).2 (hsub id x hx)⟩
            rintro ⟨io', q1, _, _, q4, _⟩
            rw [hio] at q1
            cases q1
            rw [hr] at q4
            cases q4
          | false =>
            by_cases hlt : id < (view b l tx sn k io).length
            · obtain ⟨z, hz⟩ := hd id x hlt hx
              exact ⟨x, (wrget id (hwr hr id (.inl ⟨z, hz⟩)) x).2 hx⟩
            · have := (List.getElem?_eq_some_iff.1 hx).1
              exact ⟨x, (wrget id (hwr hr id (.inr ⟨by omega, by omega⟩)) x).2 hx⟩
        · intro id x hx
          by_cases hW : Wr b l tx sn k id
          · have hW' := hW
            obtain ⟨io', q1, _, _, q4, q5⟩ := hW'
            rw [hio] at q1
            cases q1
            rcases q5 with ⟨y, hy⟩ | q5
            · obtain ⟨z, hz⟩ := g3.live id y hy
              exact ⟨z, (wrget id hW z).2 hz⟩
            · exact absurd hx (unborn id q5.1 q5.2 x)
          · exact ⟨x, (other id hW x).2 hx⟩
      exact go v _ ⟨HD b l tx sn (with' D k), L'⟩ cv M' w' e g1 mm.1 mm.2 rfl hL
    rw [evOp_congr (T' := s.T) fun t ht => (hopslots t ht).symm] at hv
    cases hic : isCall io.op with
    | false =>
      have hv2 := (evOp_loops hic hv).2 call s.loops
      obtain ⟨cv, w', M', h1, h2, h3, h4⟩ := op_sound (m := ⟨view b l tx sn k io, s.loops⟩) hholds (fun hlt g => by
        simp only [hVl] at hlt ⊢
        exact hnew _ g hn0 (unborn _ (Nat.le_refl _) (by omega))) hI.post.rt c1 hic hv2
      exact wpIn_gives (cOp_defer c1) h1 (fin cv M' w' s.loops (by rw [hI.loops, loops_other hio hic]) h2 h3 h4)
    | true =>
      obtain ⟨l1, l2⟩ := loops_call h hio hs hic
      have el : s.loops = (tx k).loops := by rw [hI.loops, l1]
      have el2 : (tx (k + 1)).loops = m'.loops := by rw [e]; rfl
      rw [← el] at hv
      have dead : ∀ id, (tx k).heap.length ≤ id → ∀ x : Blk, s.heap[id]? ≠ some (some x) := by
        intro id hid x hx
        rw [hI.heap, HD_get] at hx
        have : fh b l tx sn D l.length id = ((tx 0).heap[id]?).join := by
          refine fo_none _ fun i hi hD => ?_
          cases hu : uh b l tx sn i id with
          | none => rfl
          | some z =>
            exfalso
            have hW : Wr b l tx sn i id := uh_wr (by rw [hu]; rfl)
            obtain ⟨oi, hoi, wi, fi, ri, ht⟩ := hW
            rcases Nat.lt_trichotomy i k with h1 | h1 | h1
            · rcases ht with ⟨y, hy⟩ | ht
              · cases h.goes hoi with
                | skip hw' => rw [wi] at hw'; cases hw'
                | free _ hf' => rw [fi] at hf'; cases hf'
                | op _ _ _ _ _ hV' _ _ _ _ _ _ =>
                  have h1' := (List.getElem?_eq_some_iff.1 hy).1
                  rw [hV'.1] at h1'
                  have := h.lenH (i := i) k (by omega) (by omega)
                  omega
              · have := h.lenH (i := i + 1) k (by omega) (by omega); omega
            · subst h1; rw [hs.1] at hD; cases hD
            · have hno : ordered b i k = false := by
                cases hor : ordered b i k with
                | false => rfl
                | true => have := (hs.2 i hi hor).1 hD; omega
              have hmn := h.behind' hio hoi hic h1 hno
              rcases ht with ⟨y, hy⟩ | ht
              · have hli : id < (tx i).heap.length := by
                  cases h.goes hoi with
                  | skip hw' => rw [wi] at hw'; cases hw'
                  | free _ hf' => rw [fi] at hf'; cases hf'
                  | op _ _ _ _ _ hV' _ _ _ _ _ _ =>
                    have h1' := (List.getElem?_eq_some_iff.1 hy).1
                    rw [hV'.1] at h1'
                    exact h1'
                obtain ⟨j, j1, j2, j3, j4⟩ := maker h i (by omega) (by omega) hid hli
                obtain ⟨oj, hoj⟩ := h.at (k := j) (by omega)
                obtain ⟨m1, m2, m3, m4⟩ := makes h hoj j3 j4
                have hord2 := view_wr h hoi fi wi hy j (by omega) ⟨oj, hoj, m1, m2, m3, .inr ⟨j3, j4⟩⟩
                have hji : (b.getD i 0).testBit j = true := by
                  rcases hord2 with e1 | e1
                  · omega
                  · unfold ordered at e1
                    rw [Bool.or_eq_true] at e1
                    rcases e1 with e1 | e1
                    · exact e1
                    · have := closed_lt h.closed (p := j) (i := i) (by rw [← h.len]; omega) (by rw [← h.len]; omega) e1
                      omega
                have hDj := hdown i j hi (by omega) hD hji
                by_cases hjk : j = k
                · subst hjk; rw [hs.1] at hDj; cases hDj
                · cases hor : ordered b j k with
                  | true => have := (hs.2 j (by omega) hor).1 hDj; omega
                  | false =>
                    have := h.behind' hio hoj hic (by omega) hor
                    rw [m4] at this
                    cases this
              · have := (makes h hoi ht.1 ht.2).2.2.2
                rw [hmn] at this
                cases this
        rw [this, List.getElem?_eq_none (by omega)] at hx
        simp at hx
      have hfresh : Fresh M (view b l tx sn k io) s.loops := ⟨fun id g hid => hnew id g (by omega) (dead id (by omega)), (hf0.fr hI.post.fr).lp⟩
      exact oper_gives h.calls (m := ⟨view b l tx sn k io, s.loops⟩) hholds hfresh hI.post.rt c1 hv fun M' cv w' g1 g2 g3 => fin cv M' w' m'.loops (by rw [l2, el2]) g1 g2 g3

theorem ready_mem {listed : Array Bool} (hsz : listed.size = ops.size) {i : Nat} : i ∈ Region.ready .any ops listed ↔ ∃ o, ops[i]? = some o ∧ listed.getD i false = false ∧ ∀ e ∈ o.after, Region.binds .any e = true → listed.getD e.on false = true := by
  unfold Region.ready
  simp only [List.mem_filter, List.mem_range]
  constructor
  · rintro ⟨h1, h2⟩
    rw [Array.getElem?_eq_getElem h1] at h2
    simp only [Bool.and_eq_true, Option.map_some, Option.getD_some, Array.all_eq_true', Bool.not_eq_true'] at h2
    refine ⟨ops[i], by simp [h1], ?_, fun e he hb => ?_⟩
    · have := h2.1
      simp only [Array.getD, hsz, h1, dite_true] at this ⊢
      exact this
    · have := h2.2 e he
      simpa [hb] using this
  · rintro ⟨o, h1, h2, h3⟩
    have hlt := (Array.getElem?_eq_some_iff.1 h1).1
    refine ⟨hlt, ?_⟩
    rw [h1]
    simp only [Bool.and_eq_true, Option.map_some, Option.getD_some, Array.all_eq_true', Bool.not_eq_true']
    refine ⟨?_, fun e he => ?_⟩
    · simp only [Array.getD, hsz, hlt, dite_true] at h2 ⊢
      exact h2
    · cases hb : Region.binds .any e with
      | false => rfl
      | true => simpa using h3 e he hb

/-- All is done: the state is that of the list's order. -/
theorem Inv.last (h : Dr P call ops perm b l tx sn) {M0 : Mp} {w0 : World} {ds : List Deferred} {D : Nat → Bool} {s : St} {M : Mp} {a : Act} {w : World} (hI : Inv P b l tx sn M0 w0 ds D s M a w) (hall : ∀ i, i < l.length → D i = true) : s = tx l.length := by
  have hT : s.T = (tx l.length).T := by
    refine List.ext_getElem (by rw [hI.len, h.lenT _ (Nat.le_refl _)]) fun t h1 h2 => ?_
    have := hI.sl t
    rw [fo_text (k := l.length) (Nat.le_refl _) (fun i hi _ => by simp [hall i hi, hi]), ← h.T t _ (Nat.le_refl _), gt_of_lt h1, gt_of_lt h2] at this
    exact this
  have hH : s.heap = (tx l.length).heap := by rw [hI.heap, HD_all h hall]
  have hL : s.loops = (tx l.length).loops := by
    rw [hI.loops, fo_text (k := l.length) (Nat.le_refl _) (fun i hi _ => by simp [hall i hi, hi]), ← h.loops _ (Nat.le_refl _)]
  obtain ⟨T, H, L⟩ := s
  generalize tx l.length = s' at *
  obtain ⟨T', H', L'⟩ := s'
  simp only at hT hH hL
  rw [hT, hH, hL]

theorem any_sound (h : Dr P call ops perm b l tx sn) {M0 : Mp} {w0 : World} {ds : List Deferred} (hf0 : Fresh M0 (tx 0).heap (tx 0).loops) {ro : Option Nat} {N : Nat} {Q : Exit → Act → World → Prop}
    (hQ : ∀ M a w, Post P M0 (tx 0) w0 ds (tx l.length) M a w → Q .normal a w) :
    ∀ (fuel : Nat) (listed : Array Bool) (s : St) (M : Mp) (a : Act) (w : World), listed.size = ops.size → listed.toList.count false ≤ fuel → Down ops (fun i => listed.getD i false) → Inv P b l tx sn M0 w0 ds (fun p => listed.getD (perm.getD p ops.size) false) s M a w →
      wpAnyIn (fen ro) N P .any ops Q fuel listed a w := by
  intro fuel
  obtain ⟨pl, psurj, pinj⟩ := permOk_spec h.permok
  have hle := h.len
  have hdone : ∀ (listed : Array Bool) (s : St) (M : Mp) (a : Act) (w : World), listed.size = ops.size → Region.ready .any ops listed = [] → Inv P b l tx sn M0 w0 ds (fun p => listed.getD (perm.getD p ops.size) false) s M a w → Q .normal a w := by
    intro listed s M a w hsz hr hI
    refine hQ M a w ?_
    have hall : ∀ p, p < l.length → listed.getD (perm.getD p ops.size) false = true := by
      intro p
      induction p using Nat.strongRecOn with
      | ind p ih =>
        intro hp
        cases hd : listed.getD (perm.getD p ops.size) false with
        | true => rfl
        | false =>
          obtain ⟨o, ho, hb, _⟩ := closed_back h.closed (p := p) (by rw [← h.len]; exact hp)
          have : perm.getD p ops.size ∈ Region.ready .any ops listed := (ready_mem hsz).2 ⟨o, ho, hd, fun e he hbi => by
            obtain ⟨q, q1, q2⟩ := hb e he hbi
            rw [← q2]
            exact ih q q1 (by omega)⟩
          rw [hr] at this
          cases this
    rw [← hI.last h hall]
    exact hI.post
  induction fuel with
  | zero =>
    intro listed s M a w hsz hcnt hD hI
    have hr : Region.ready .any ops listed = [] := by
      rw [List.eq_nil_iff_forall_not_mem]
      intro i hi
      obtain ⟨o, h1, h2, _⟩ := (ready_mem hsz).1 hi
      have hlt : i < listed.size := by rw [hsz]; exact (Array.getElem?_eq_some_iff.1 h1).1
      have : false ∈ listed.toList := by
        simp only [Array.getD, hlt, dite_true] at h2
        rw [← h2]
        exact Array.getElem_mem_toList hlt
      have := List.count_pos_iff.2 this
      omega
    exact ⟨hr, hdone listed s M a w hsz hr hI⟩
  | succ fuel ih =>
    intro listed s M a w hsz hcnt hD hI
    refine ⟨fun hr => hdone listed s M a w hsz hr hI, fun i hi => ?_⟩
    obtain ⟨o, h1, h2, h3⟩ := (ready_mem hsz).1 hi
    have hops := (Array.getElem?_eq_some_iff.1 h1).1
    have hlt : i < listed.size := by rw [hsz]; exact hops
    obtain ⟨k, hk, rfl⟩ := psurj i hops
    have hkl : k < l.length := by rw [h.len]; exact hk
    have e : ∀ p, p < l.length → (listed.setIfInBounds (perm.getD k ops.size) true).getD (perm.getD p ops.size) false = with' (fun p => listed.getD (perm.getD p ops.size) false) k p := by
      intro p hp
      unfold with'
      simp only [Array.getD_eq_getD_getElem?, Array.getElem?_setIfInBounds]
      by_cases hj : p = k
      · subst hj; rw [if_pos rfl, if_pos rfl, if_pos hlt]; rfl
      · rw [if_neg (fun x => hj (pinj k p hk (by omega) x).symm), if_neg hj]
    have hdown : ∀ i j, i < l.length → j < l.length → (fun p => listed.getD (perm.getD p ops.size) false) i = true → (b.getD i 0).testBit j = true → (fun p => listed.getD (perm.getD p ops.size) false) j = true := by
      intro i j hi hj hDi hb
      obtain ⟨oi, hoi, _, _⟩ := closed_back h.closed (p := i) (by omega)
      exact (closed_spec h.closed hD i oi (by omega) hoi (fun e he hbi => hD _ oi hDi hoi e he hbi) j (by omega) hb).1
    have hst : Stands b (fun p => listed.getD (perm.getD p ops.size) false) l.length k := by
      refine ⟨h2, fun i hi hord => ?_⟩
      unfold ordered at hord
      rw [Bool.or_eq_true] at hord
      rcases hord with g | g
      · obtain ⟨g1, g2⟩ := closed_spec h.closed hD k o hk h1 h3 i (by omega) g
        simp only [g1, g2]
      · have hlt := closed_lt h.closed (p := i) (i := k) (by omega) hk g
        cases hd : listed.getD (perm.getD i ops.size) false with
        | false =>
          show listed.getD (perm.getD i ops.size) false = true ↔ _
          rw [hd]
          simp
          omega
        | true =>
          have := hdown i k hi hkl hd g
          simp only at this
          rw [h2] at this
          cases this
    refine draw_step h hf0 hI hkl hst hdown fun s' M' a' w' hI' => ?_
    have hI2 : Inv P b l tx sn M0 w0 ds (fun p => (listed.setIfInBounds (perm.getD k ops.size) true).getD (perm.getD p ops.size) false) s' M' a' w' := by
      refine ⟨hI'.post, hI'.len, fun t => ?_, ?_, ?_⟩
      · rw [hI'.sl t]; exact fo_agree _ fun p hp _ => (e p hp).symm
      · rw [hI'.heap]; unfold HD fh; exact List.map_congr_left fun id _ => fo_agree _ fun p hp _ => (e p hp).symm
      · rw [hI'.loops]; exact fo_agree _ fun p hp _ => (e p hp).symm
    refine ih _ s' M' a' w' (by simpa using hsz) ?_ ?_ hI2
    · have hg : listed.toList[perm.getD k ops.size] = false := by
        simp only [Array.getD, hlt, dite_true] at h2
        simpa using h2
      rw [Array.toList_setIfInBounds, List.count_set (by simpa using hlt), hg]
      have : false ∈ listed.toList := by rw [← hg]; exact List.getElem_mem _
      have := List.count_pos_iff.2 this
      rw [if_pos (by rfl), if_neg (by decide)]
      omega
    · intro j oj hj hoj e2 he hb
      simp only [Array.getD_eq_getD_getElem?, Array.getElem?_setIfInBounds] at hj ⊢
      split
      · rfl
      · split at hj
        · rename_i hji
          rw [← hji, h1] at hoj
          cases hoj
          have := h3 e2 he hb
          rwa [Array.getD_eq_getD_getElem?] at this
        · have := hD j oj (by simp only [Array.getD_eq_getD_getElem?]; exact hj) hoj e2 he hb
          simpa only [Array.getD_eq_getD_getElem?] using this

end

theorem cOpersAt_get {P : Program} {ops : Array Oper} : ∀ {perm : List Nat} {l : List IOper}, cOpersAt P ops perm = some l → l.length = perm.length ∧ ∀ (p i : Nat), perm[p]? = some i → ∃ o io, ops[i]? = some o ∧ l[p]? = some io ∧ cOper P ops o = some io
  | [], l, h => by cases h; simp
  | i :: r, l, h => by
    unfold cOpersAt at h
    split at h
    · rename_i o ho
      split at h
      · rename_i a l' h1 h2
        cases h
        obtain ⟨g1, g2⟩ := cOpersAt_get h2
        refine ⟨by simp [g1], fun p j hp => ?_⟩
        cases p with
        | zero => simp at hp; subst hp; exact ⟨o, a, ho, rfl, h1⟩
        | succ p => simpa using g2 p j (by simpa using hp)
      · cases h
    · cases h

/-- **DRAWN REGIONS.** -/
theorem draw_sound {P : Program} : DrawOk P := by
  intro call hcall id ops dops hc s s' he ro N M a w hh hf hT Q hQ
  simp only [cCode] at hc
  split at hc
  · rename_i l hl
    split at hc
    · rename_i hcond
      simp only [Bool.and_eq_true] at hcond
      obtain ⟨⟨⟨⟨d1, d2⟩, d3⟩, d4⟩, d5⟩ := hcond
      simp only [Option.some.injEq, IR.draw.injEq] at hc
      subst hc
      generalize hperm : pickOrder ops ops.size [] = perm at *
      generalize hb : tableOf ops perm = b at *
      obtain ⟨q1, q2⟩ := cOpersAt_get hl
      obtain ⟨pl, _, _⟩ := permOk_spec d2
      have hlen : l.length = ops.size := by rw [q1, pl]
      obtain ⟨tx, sn, t0, t1, t2⟩ := draw_trace _ s s' [] he
      have hdl : (l.zipIdx.map fun (o, j) => dOper b l o j).length = l.length := by simp
      have h : Dr P call ops perm b l tx sn := by
        refine ⟨hcall, hlen, fun p hp => ?_, d2, d3, d4, d5, fun k io hio => ?_⟩
        · have hp' : p < perm.length := by omega
          obtain ⟨o, io, g1, g2, g3⟩ := q2 p perm[p] (by simp [hp'])
          exact ⟨o, io, by simpa [List.getD, hp'] using g1, g2, g3⟩
        · have := t2 k (dOper b l io k) (by simp [hio])
          simpa using this
      refine wpIn_region_any d1 ?_
      rw [← t0] at hh hf hT hQ
      have hpad := padded (w' := { w with drawn := w.drawn + 1 }) hh (G := HD b l tx sn fun _ => false) (HD_none h) (by rw [HD_length]; exact h.lenH _ (Nat.zero_le _) (Nat.le_refl _)) rfl rfl rfl
      have hD0 : ∀ i, (Array.replicate ops.size false).getD i false = false := by
        intro i
        simp only [Array.getD_eq_getD_getElem?, Array.getElem?_replicate]
        split <;> rfl
      refine any_sound (w0 := w) (ds := a.defers) h hf (fun M' a' w' hp => hQ M' a' w' ?_) ops.size _ ⟨(tx 0).T, HD b l tx sn fun _ => false, (tx 0).loops⟩ M a _ (by simp) ?_ ?_ ?_
      · rw [← t1, hdl]; exact hp
      · refine Nat.le_trans (List.count_le_length) (by simp)
      · intro i o hi
        have := (hD0 i).symm.trans hi
        cases this
      · simp only [hD0]
        refine ⟨⟨hT, hpad.1, hpad.2, .of_same rfl⟩, rfl, fun t => ?_, rfl, ?_⟩
        · exact (fo_none (D := fun _ => false) _ fun i _ hd => by cases hd).symm
        · exact (fo_none (D := fun _ => false) (f0 := fun _ => (tx 0).loops) (x := ()) _ fun i _ hd => by cases hd).symm
    · cases hc
  · cases hc

/-- **WHAT THE SMALL CODE ANSWERS THE MODEL DOES.** -/
theorem sound {P : Program} {Γ : Env} (hΓ : EnvOk P Γ) (n : Nat) : CallOk P (fun f args m => evF Γ n f args m) := (all_sound hΓ draw_sound n).2

end Go.Zz
