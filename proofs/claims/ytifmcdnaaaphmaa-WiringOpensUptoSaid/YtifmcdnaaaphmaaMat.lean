/-
  What Matrix of package wiring returns, walked: the owner of a port, a row of rows.
-/
import Derived.Test.YtifmcdnaaaphmaaInts
import Derived.Deep.AppendLies
namespace Go.Proofs.Ytifmcdnaaaphmaa
open Go.RowKit
attribute [local go_sem] ext_cell
theorem run_make_rowN {P : Program} (t e : TypeId) (i : TypeInfo) (z : Value) (ht : P.underlying t = some (.slice e)) (hi : P.info? e = some i) (hz : i.zero = some z)
    (kl kc : IntKind) (n c : Nat) (hnc : n ≤ c) (hbytes : i.bytes * c ≤ 281474976710656) (h63 : c ≤ 9223372036854775807) (w : World) :
    (Instr.makeSlice t (.int kl (n : Int)) (.int kc (c : Int))).run P w = .ok (.slice (some ⟨w.heap.size, 0, none⟩) n c) (w.alloc (.cells (madeCells z.cells (c * i.size)) e)) := by
  have hb : (i.bytes : Int) * (c : Int) ≤ 281474976710656 := by
    have h : ((i.bytes * c : Nat) : Int) ≤ 281474976710656 := by omega
    rwa [Int.natCast_mul] at h
  have hr := run_make (P := P) w t e i z ht hi hz kl kc n c (by omega) (by omega) hb (by omega)
  simp only [Int.toNat_natCast] at hr
  exact hr
structure OwSt (w W : World) (gk g b : Nat) (c : Cfg) (A1 A2 A3 A4 A5 : Option Addr) (c1 c2 c3 c4 c5 : Nat) : Prop where
  st : St w W c A1 A2 A3 A4 A5 c1 c2 c3 c4 c5
  kc : W.cell? ⟨gk, 0, none⟩ = some (.pointer (some ⟨g, 0, none⟩))
  chk : ChkAt W W.heap.size g b c A4 c4
theorem OwSt.up {w W V : World} {gk g b : Nat} {c : Cfg} {A1 A2 A3 A4 A5 : Option Addr} {c1 c2 c3 c4 c5 : Nat} (h : OwSt w W gk g b c A1 A2 A3 A4 A5 c1 c2 c3 c4 c5) (hb : Below W.heap.size W V) : OwSt w V gk g b c A1 A2 A3 A4 A5 c1 c2 c3 c4 c5 :=
  ⟨h.st.up hb, (hb.cell (p := ⟨gk, 0, none⟩) (cell_lt h.kc)).trans h.kc, h.chk.up hb⟩
def ownerOf (c : Cfg) (port : Int) : Int := idx (fun y => y.id == (thePort c port).part) c.parts
set_option maxRecDepth 100000 in
set_option maxHeartbeats 4000000 in
theorem owner_ok (w W : World) (gk g b : Nat) (c : Cfg) (A1 A2 A3 A4 A5 : Option Addr) (c1 c2 c3 c4 c5 : Nat) (h : OwSt w W gk g b c A1 A2 A3 A4 A5 c1 c2 c3 c4 c5) (hok : c.ok) (hbd : c.Bd) (port : Int) (hu : wU16 port) (hp : (portOf c port).isSome = true) (v : Int) (hv : Hid (ownerOf c port = v)) :
    Calls Try.prog 47 #[.int .u16 port, .pointer (some ⟨gk, 0, none⟩), .pointer (some ⟨w.heap.size, 0, none⟩)] W fun e w' => e = .returned (.int .i64 v) ∧ Below W.heap.size W w' := by
  obtain ⟨ks, hi, hps, _⟩ := port_idx hp
  have hpu : wU16 (thePort c port).part := (hok.ports _ (List.mem_of_getElem? hps)).part
  have hkl : ks < c.ports.length := (List.getElem?_eq_some_iff.1 hps).1
  obtain ⟨gi, k6, hI⟩ := h.chk.idx (Nat.le_refl _)
  have hgl := h.chk.lt
  have kc := h.kc
  have hkc := cell_lt kc
  have x4 := h.st.x4
  have hz := h.st.z
  obtain ⟨bp, op, rfl, hbp, p0, p1, p2, p3, p4, p5⟩ := prt_at h.st.R.ports hps
  have HI := Lib.hid hI
  have HX := Lib.hid hi
  have bt := hbd.t
  have m0 : (0 : Int) ≤ (ks : Int) := by omega
  have m1 : (ks : Int) < (c.ports.length : Int) := by omega
  clear h hok hbd hp hi hps hI
  go_enter Try.func47, Try.ntmps47
  go_wp2_with fail
  refine wp_region_ext (by kernel_rfl) (by kernel_rfl) ?_
  repeat (go_big_quiet_step ((first | (go_at_call 48; exact Calls.quiet_ext (iPort_val c gi port _ (HI.out.up (ext_below _ _)) hu ks HX)) | (go_at_call 45; exact Calls.quiet_ext (iPartition_val c gi _ _ (HI.out.up (ext_below _ _)) hpu v hv)))))
  refine wpQuiet_nil ?_
  intro xq
  go_wp2
  go_ret
  exact ⟨rfl, ext_below _ _⟩
/-- rows that grow: a block of slices, each with a block of its own -/
structure MRow (w : World) (go n : Nat) (rows : List (List Int)) (vs : List Value) : Prop where
  bk : Blk w go 50 vs.toArray
  vl : vs.length = n
  rl : rows.length = n
  own : ∀ (i : Nat) (l : List Int) (v : Value), rows[i]? = some l → vs[i]? = some v → w.ownsRow (go + 1) 3 1 v l.length (l.map (Value.int .i64))
  sep : ∀ (i j : Nat) (vi vj : Value) (g : Nat), i ≠ j → vs[i]? = some vi → vs[j]? = some vj → vi.ownBlock = some g → vj.ownBlock ≠ some g
theorem own_lt {w : World} {base : Nat} {e : TypeId} {size n : Nat} {v : Value} {xs : List Value} (h : w.ownsRow base e size v n xs) {g : Nat} (hg : v.ownBlock = some g) : base ≤ g ∧ g < w.heap.size := h.lt g hg
theorem MRow.up {w w' : World} {go n : Nat} {rows : List (List Int)} {vs : List Value} (h : MRow w go n rows vs) (hb : Below w.heap.size w w') : MRow w' go n rows vs :=
  ⟨h.bk.below hb h.bk.lt, h.vl, h.rl, fun i l v h1 h2 => own_below (h.own i l v h1 h2) hb, h.sep⟩
theorem own_row {w w' : World} {base : Nat} {e : TypeId} {size n : Nat} {v : Value} {xs : List Value} {row : Option Nat} (h : w.ownsRow base e size v n xs) (hg : w.grownBy w' row) (hne : ∀ g, v.ownBlock = some g → row ≠ some g) : w'.ownsRow base e size v n xs := by
  refine ⟨h.1, ?_⟩
  rcases h.2 with h2 | ⟨g, cap, cur, rfl, hb, hh, r⟩
  · exact .inl h2
  · exact .inr ⟨g, cap, cur, rfl, hb, (hg.block g (Array.getElem?_eq_some_iff.1 hh).1 (fun e => hne g rfl e.symm)).trans hh, r⟩
theorem MRow.put {w w1 : World} {go n i : Nat} {rows : List (List Int)} {vs : List Value} {l l' : List Int} {v v' : Value} (h : MRow w go n rows vs) (hl : rows[i]? = some l) (hv : vs[i]? = some v) (hg : w.grownBy w1 v.ownBlock)
    (ho : w1.ownsRow (go + 1) 3 1 v' l'.length (l'.map (Value.int .i64))) (hb : v'.ownBlock = v.ownBlock ∨ v'.ownBlock = some w.heap.size ∨ v'.ownBlock = none) : MRow (w1.setCell ⟨go, i, none⟩ v') go n (rows.set i l') (vs.set i v') := by
  have hgo : v.ownBlock ≠ some go := fun e => by have := (own_lt (h.own i l v hl hv) e).1; omega
  have hbk : Blk w1 go 50 vs.toArray := (hg.block go h.bk.lt (fun e => hgo e.symm)).trans h.bk
  have hi : i < n := by rw [← h.vl]; exact (List.getElem?_eq_some_iff.1 hv).1
  refine ⟨by have := hbk.set_ i v'; simpa using this, by simp [h.vl], by simp [h.rl], fun j lj vj h1 h2 => ?_, fun j k vj vk g hjk h1 h2 h3 h4 => ?_⟩
  · by_cases hji : i = j
    · subst hji
      rw [List.getElem?_set_self (by rw [h.rl]; exact hi)] at h1
      rw [List.getElem?_set_self (by rw [h.vl]; exact hi)] at h2
      injection h1 with h1; injection h2 with h2
      subst h1 h2
      exact own_set ho (by show go < go + 1; omega) _
    · rw [List.getElem?_set_ne hji] at h1 h2
      have := h.own j lj vj h1 h2
      exact own_set (own_row this hg fun g e1 e2 => h.sep i j v vj g hji hv h2 e2 e1) (by show go < go + 1; omega) _
  · by_cases hji : i = j
    · subst hji
      rw [List.getElem?_set_self (by rw [h.vl]; exact hi)] at h1
      injection h1 with h1
      subst h1
      rw [List.getElem?_set_ne hjk] at h2
      rcases hb with e | e | e
      · exact h.sep i k v vk g hjk hv h2 (e.symm.trans h3) h4
      · obtain ⟨lk, hlk⟩ : ∃ lk, rows[k]? = some lk := ⟨_, List.getElem?_eq_getElem (by rw [h.rl, ← h.vl]; exact (List.getElem?_eq_some_iff.1 h2).1)⟩
        have := (own_lt (h.own k lk vk hlk h2) h4).2
        rw [h3] at e; injection e with e
        omega
      · rw [h3] at e; cases e
    · rw [List.getElem?_set_ne hji] at h1
      by_cases hki : i = k
      · subst hki
        rw [List.getElem?_set_self (by rw [h.vl]; exact hi)] at h2
        injection h2 with h2
        subst h2
        rcases hb with e | e | e
        · exact h.sep j i vj v g hjk h1 hv h3 (e.symm.trans h4)
        · obtain ⟨lj, hlj⟩ : ∃ lj, rows[j]? = some lj := ⟨_, List.getElem?_eq_getElem (by rw [h.rl, ← h.vl]; exact (List.getElem?_eq_some_iff.1 h1).1)⟩
          have := (own_lt (h.own j lj vj hlj h1) h3).2
          rw [h4] at e; injection e with e
          omega
        · rw [h4] at e; cases e
      · rw [List.getElem?_set_ne hki] at h2
        exact h.sep j k vj vk g hjk h1 h2 h3 h4
theorem madeOne (z : Value) (n : Nat) : madeCells #[z] n = (List.replicate n z).toArray := by
  apply Array.ext
  · simp [size_madeCells]
  · intro i h1 h2
    simp [madeCells, Nat.mod_one]
theorem MRow.start (w : World) (n : Nat) : MRow (w.alloc (.cells (madeCells #[.slice none 0 0] n) 50)) w.heap.size n (List.replicate n []) (List.replicate n (.slice none 0 0)) := by
  refine ⟨?_, by simp, by simp, fun i l v h1 h2 => ?_, fun i j vi vj g _ h1 _ h3 => ?_⟩
  · rw [madeOne]; exact Blk.new _ _ _
  · rw [List.getElem?_replicate] at h1 h2
    split at h1
    · rw [if_pos (by assumption)] at h2
      injection h1 with h1; injection h2 with h2
      subst h1 h2
      exact World.ownsRow_nil _ _ _ _
    · cases h1
  · rw [List.getElem?_replicate] at h1
    split at h1
    · injection h1 with h1; subst h1; cases h3
    · cases h1
/-- the rows that a list of pairs gives -/
def rowsOf (E : List (Int × Int)) (n : Nat) : List (List Int) := (List.range n).map fun i : Nat => (E.filter (fun e => e.1 == (i : Int))).map (·.2)
theorem rowsOf_nil (n : Nat) : rowsOf [] n = List.replicate n [] := by
  unfold rowsOf
  apply List.ext_getElem
  · simp
  · intro i h1 h2; simp
theorem rowsOf_at {E : List (Int × Int)} {n i : Nat} (hi : i < n) : (rowsOf E n)[i]? = some ((E.filter (fun e => e.1 == (i : Int))).map (·.2)) := by
  unfold rowsOf
  rw [List.getElem?_map, List.getElem?_range hi]; rfl
theorem rowsOf_snoc {E : List (Int × Int)} {n i : Nat} {k : Int} {l : List Int} (hl : (rowsOf E n)[i]? = some l) : rowsOf (E ++ [((i : Int), k)]) n = (rowsOf E n).set i (l ++ [k]) := by
  have hi : i < n := by have := (List.getElem?_eq_some_iff.1 hl).1; simpa [rowsOf] using this
  rw [rowsOf_at hi] at hl
  injection hl with hl
  apply List.ext_getElem?
  intro j
  rw [List.getElem?_set]
  by_cases hij : i = j
  · subst hij
    rw [if_pos rfl, if_pos (by simpa [rowsOf] using hi), rowsOf_at hi, ← hl]
    simp [List.filter_append]
  · rw [if_neg hij]
    by_cases hj : j < n
    · rw [rowsOf_at hj, rowsOf_at hj, List.filter_append]
      have : ((i : Int) == (j : Int)) = false := by simp; omega
      simp [this]
    · rw [List.getElem?_eq_none (by simp [rowsOf]; omega), List.getElem?_eq_none (by simp [rowsOf]; omega)]
def edgesOf (c : Cfg) (x : Chn) (l : List Int) : List (Int × Int) := l.map fun d => (ownerOf c x.source, ownerOf c d)
def edgesTo (c : Cfg) (l : List Chn) : List (Int × Int) := l.flatMap fun x => edgesOf c x x.dests
theorem edgesTo_next {c : Cfg} {k : Nat} {x : Chn} (h : c.chans[k]? = some x) : edgesTo c (c.chans.take (k + 1)) = edgesTo c (c.chans.take k) ++ edgesOf c x x.dests := by
  rw [take_next h]; simp [edgesTo]
theorem edgesOf_next {c : Cfg} {x : Chn} {m : Nat} {d : Int} (h : x.dests[m]? = some d) : edgesOf c x (x.dests.take (m + 1)) = edgesOf c x (x.dests.take m) ++ [(ownerOf c x.source, ownerOf c d)] := by
  rw [take_next h]; simp [edgesOf]
theorem edges_len (c : Cfg) (l : List Chn) : (edgesTo c l).length = sumDests l := by
  unfold edgesTo sumDests
  induction l with
  | nil => rfl
  | cons x r ih => simp [edgesOf, ih]
theorem rows_len {E : List (Int × Int)} {n i : Nat} {l : List Int} (h : (rowsOf E n)[i]? = some l) : l.length ≤ E.length := by
  have hi : i < n := by have := (List.getElem?_eq_some_iff.1 h).1; simpa [rowsOf] using this
  rw [rowsOf_at hi] at h
  injection h with h
  rw [← h, List.length_map]
  exact List.length_filter_le _ _
end Go.Proofs.Ytifmcdnaaaphmaa
