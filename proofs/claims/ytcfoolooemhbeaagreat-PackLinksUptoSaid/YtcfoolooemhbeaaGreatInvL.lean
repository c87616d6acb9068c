/-
  A region that draws its order: reads that leave known values, one literal of one element, its append to a row of the call's own, the row's variable: one way, whatever order comes up. It speaks of no program.
-/
import Derived.Below
import Derived.Test.YtcfoolooemhbeaaGreatInvX
import Derived.Test.YtcfoolooemhbeaaGreatCore
namespace Go.Proofs.YtcfoolooemhbeaaGreat
open Go.RowKit
section
variable {P : Program} {ops : Array Oper} {Q : Exit → Act → World → Prop}
theorem rd_of_blk {w : World} {g : Nat} {t : TypeId} {cs : List Value} {sz : Nat} (h : Blk w g t cs.toArray) (hl : cs.length = sz) : Rd w w.heap.size sz (some ⟨g, 0, none⟩) 1 cs :=
  ⟨by rw [hl, Nat.one_mul], fun _ => ⟨g, 0, rfl, h.lt, fun j u hu => by rw [Nat.zero_add, h.cell]; simpa using hu⟩⟩
/-- what the operations of the region leave -/
def SL (w0 : World) (B : Nat) (E : TypeId) (sz m : Nat) (xs ys : List Value) (c : List Value) (n k1 k2 i : Nat) (v : Value) (U : World) : Prop :=
  if i = k1 then ∃ g, v = .slice (some ⟨g, 0, none⟩) 1 1 ∧ w0.heap.size ≤ g ∧ Blk U g E ys.toArray
  else if i = k2 ∨ i = n then U.ownsRow B E sz v (m + 1) (xs ++ ys) else v = c.getD i undef
theorem wp_region_L {id : Nat} {a : Act} {w0 : World} (D n k1 k2 ko r : Nat) (T : TypeId) (hn : ops.size = n + 1) (hk1 : k1 < n) (hk2 : k2 < n) (hko : ko < n) (hne : k1 ≠ k2) (hko1 : ko ≠ k1) (hko2 : ko ≠ k2) (hr : r < D)
    (hm : P.follows .mixedOrders = true) (hB : backS ops = true) (hG : plainB ops = true) (hD : dstB ops D n = true) (hsz : D + n ≤ a.tmps.size)
    (happ : ∀ o, ops[k2]? = some o → o.op = .call { callee := .builtin .append, args := #[.tmp (D + ko), .tmp (D + k1)], argTypes := #[T, T] } ∧ (∃ e ∈ o.after, e.on = k1 ∧ Region.binds .any e = true) ∧ ∃ e ∈ o.after, e.on = ko ∧ Region.binds .any e = true)
    (hlast : ∀ o, ops[n]? = some o → o.op = .assign (.tmp (D + k2)) ∧ o.dst = some r ∧ ∃ e ∈ o.after, e.on = k2 ∧ Region.binds .any e = true)
    (B : Nat) (E : TypeId) (i0 : TypeInfo) (z : Value) (sz bytes : Nat) (hT : P.underlying T = some (.slice E)) (hi : P.info? E = some i0) (hz0 : i0.zero = some z) (hz1 : i0.size = sz) (hz2 : i0.bytes = bytes) (hzs : z.cells.size = sz) (hs0 : 0 < sz)
    (v0 : Value) (m : Nat) (xs ys : List Value) (hown : w0.ownsRow B E sz v0 m xs) (hB0 : B ≤ w0.heap.size) (hys : ys.length = sz) (hy1 : ∀ u ∈ ys, u.oneCell' = true) (h63 : m + 1 ≤ maxLen) (hby : (m + 1) * bytes ≤ 140737488355328)
    (c : List Value) (hc : c.getD ko undef = v0)
    (hpure : ∀ (i : Nat) (o : Oper), ops[i]? = some o → i < n → i ≠ k1 → i ≠ k2 → ∀ U, Below B w0 U → w0.heap.size ≤ U.heap.size → ∀ ρ : Operand → Value, (∀ v, ρ (.const v) = v) → (∀ t, t < D → t ≠ r → ρ (.tmp t) = a.eval (.tmp t)) → (i = ko → ρ (.tmp r) = a.eval (.tmp r)) → (∀ e ∈ o.after, Region.binds .any e = true → e.on ≠ k1 → e.on ≠ k2 → ρ (.tmp (D + e.on)) = c.getD e.on undef) → (execOp ρ o).run P U = .ok (.value (c.getD i undef)) U)
    (hkoF : ∀ o, ops[n]? = some o → ∃ e ∈ o.after, e.on = ko ∧ Region.binds .any e = true)
    (hlit : ∀ (o : Oper), ops[k1]? = some o → ∀ (U : World) (ρ : Operand → Value), (∀ v, ρ (.const v) = v) → (∀ e ∈ o.after, Region.binds .any e = true → e.on ≠ k2 → ρ (.tmp (D + e.on)) = c.getD e.on undef) → (execOp ρ o).run P U = .ok (.value (.slice (some ⟨U.heap.size, 0, none⟩) 1 1)) (U.alloc (.cells ys.toArray E)))
    (hend : ∀ (u : Nat → Value) U, U.ownsRow B E sz (u n) (m + 1) (xs ++ ys) → Below B w0 U → Q .normal (mkL a D n r u) U) : (Code.region id ops true).wp P Q a w0 := by
  refine wp_region_any hm ?_
  have hself : ∃ u0, a = mkL a D n r u0 ∧ u0 n = a.eval (.tmp r) := by
    refine ⟨fun i => if i = n then a.tmps.getD r undef else a.tmps.getD (D + i) undef, ?_, by show (if n = n then a.tmps.getD r undef else a.tmps.getD (D + n) undef) = _; rw [if_pos rfl]; rfl⟩
    obtain ⟨u, hu⟩ := mkL_self a (r := r) hsz hr
    refine hu.trans (mkL_congr a _ _ fun i hi => ?_)
    by_cases h : i = n
    · subst h
      rw [if_pos rfl]
      have := mkL_res a (r := r) u hsz hr
      rw [← hu] at this
      rw [Array.getD_eq_getD_getElem?, this]; rfl
    · rw [if_neg h]
      have := mkL_eval_in a (r := r) u hsz hr (i := i) (by omega)
      rw [← hu] at this
      exact this.symm
  obtain ⟨u0, hu0, hu1⟩ := hself
  refine wpAny_invA (Inv := fun l a' U => ∃ u, a' = mkL a D n r u ∧ Below B w0 U ∧ w0.heap.size ≤ U.heap.size ∧ (l[k2]? = some false → U.ownsRow B E sz v0 m xs ∧ l[n]? = some false) ∧ (l[n]? = some false → u n = a.eval (.tmp r)) ∧ (l[ko]? = some false → l[n]? = some false) ∧ ∀ i, l[i]? = some true → SL w0 B E sz m xs ys c n k1 k2 i (u i) U) hB ?_ ?_ _ _ _ _ (by simp) ?_ ?_
  · rintro l a' U i o ⟨u, rfl, hbU, hzU, hnot, hrn, hkn, hS⟩ hl ho hf hp
    have hio := (Array.getElem?_eq_some_iff.1 ho).1
    have hg : o.guard = none := by
      have h1 := Array.all_eq_true_iff_forall_mem.1 hG o (Array.mem_of_getElem? ho)
      simpa using h1
    have hw : Region.wanted o (yielded ops (mkL a D n r u).tmps) = true := by simp [Region.wanted, hg]
    have hsT : ∀ k, (l.setIfInBounds i true)[k]? = some true → k ≠ i → l[k]? = some true := fun k hk hki => by
      rwa [Array.getElem?_setIfInBounds_ne (fun e => hki e.symm)] at hk
    have hsF : ∀ k, (l.setIfInBounds i true)[k]? = some false → k ≠ i ∧ l[k]? = some false := fun k hk => by
      by_cases hki : k = i
      · subst hki
        rw [Array.getElem?_setIfInBounds_self, if_pos (by omega)] at hk
        cases hk
      · rw [Array.getElem?_setIfInBounds_ne (fun e => hki e.symm)] at hk
        exact ⟨hki, hk⟩
    have hput : ∀ v, (mkL a D n r u).put o.dst v = mkL a D n r (upd u i v) := fun v => by
      by_cases hin : i < n
      · rw [dstB_spec hD ho hin]; exact mkL_put a u hsz hr hin v
      · obtain rfl : i = n := by omega
        rw [(hlast o ho).2.1]; exact mkL_last a u v
    have hop : ∀ e ∈ o.after, Region.binds .any e = true → (mkL a D n r u).eval (.tmp (D + e.on)) = u e.on ∧ SL w0 B E sz m xs ys c n k1 k2 e.on (u e.on) U := fun e he hb =>
      ⟨mkL_eval_in a u hsz hr (by have := backS_spec hB ho e he hb; omega), hS e.on (hp e he hb)⟩
    have hcst : ∀ e ∈ o.after, Region.binds .any e = true → e.on ≠ k1 → e.on ≠ k2 → (mkL a D n r u).eval (.tmp (D + e.on)) = c.getD e.on undef := fun e he hb h1 h2 => by
      obtain ⟨h3, h4⟩ := hop e he hb
      have hlt := backS_spec hB ho e he hb
      unfold SL at h4
      rw [if_neg h1, if_neg (by omega)] at h4
      rw [h3, h4]
    unfold wpOp
    rw [ho]
    simp only [hw, if_true]
    left
    by_cases h1 : i = k1
    · subst h1
      refine wp_val _ (hlit o ho U _ (fun _ => rfl) (fun e he hb h2 => hcst e he hb (by have := backS_spec hB ho e he hb; omega) h2)) ?_
      have hba := Below.alloc (Below.refl U.heap.size U) (Nat.le_refl _) (.cells ys.toArray E)
      refine ⟨_, hput _, hbU.trans (hba.mono (Nat.le_trans hB0 hzU)), Nat.le_trans hzU hba.size, fun h => ?_, fun h => ?_, fun h => ?_, fun k hk => ?_⟩
      · obtain ⟨h2, h3⟩ := hsF _ h
        obtain ⟨h4, h5⟩ := hnot h3
        exact ⟨own_below h4 hba, by rw [Array.getElem?_setIfInBounds_ne (by omega)]; exact h5⟩
      · obtain ⟨h2, h3⟩ := hsF _ h
        rw [upd_ne h2]; exact hrn h3
      · obtain ⟨h2, h3⟩ := hsF _ h
        rw [Array.getElem?_setIfInBounds_ne (by omega)]; exact hkn h3
      · by_cases hki : k = i
        · subst hki
          unfold SL
          rw [if_pos rfl, upd_self]
          exact ⟨_, rfl, hzU, Blk.new _ _ _⟩
        · have h2 := hS k (hsT k hk hki)
          rw [upd_ne hki]
          unfold SL at h2 ⊢
          rw [if_neg hki] at h2 ⊢
          by_cases hk3 : k = k2 ∨ k = n
          · rw [if_pos hk3] at h2 ⊢; exact own_below h2 hba
          · rw [if_neg hk3] at h2 ⊢; exact h2
    · by_cases h2 : i = k2
      · subst h2
        obtain ⟨hopx, ⟨e1, he1, hon1, hbn1⟩, e2, he2, hon2, hbn2⟩ := happ o ho
        obtain ⟨h3, h4⟩ := hop e1 he1 hbn1
        obtain ⟨h5, h6⟩ := hop e2 he2 hbn2
        rw [hon1] at h3 h4
        rw [hon2] at h5 h6
        unfold SL at h4 h6
        rw [if_pos rfl] at h4
        rw [if_neg hko1, if_neg (by omega), hc] at h6
        obtain ⟨g, hg1, hg2, hg3⟩ := h4
        rw [hg1] at h3
        rw [h6] at h5
        obtain ⟨hown2, hnf⟩ := hnot hf
        obtain ⟨v', V, hrun, hV, hgr⟩ := run_append_rd (P := P) U B T o.type E i0 z sz bytes hT hi hz0 hz1 hz2 hzs hs0 v0 m xs hown2 U.heap.size (some ⟨g, 0, none⟩) 1 1 ys (rd_of_blk hg3 hys) hy1 h63 hby (Nat.le_trans hB0 hzU)
        have hblk : ∀ k, v0.ownBlock = some k → B ≤ k ∧ k < w0.heap.size := fun k hk => hown.lt k hk
        refine wp_val v' (w' := V) ?_ ⟨_, hput _, ?_, Nat.le_trans hzU hgr.size, fun h => ?_, fun h => ?_, fun h => ?_, fun k hk => ?_⟩
        · unfold execOp
          simp only [hopx, resolve, invoke, builtin, Sem.run_bind, Sem.run_pure, Result.andThen_ok, List.map_toArray, List.map_cons, List.map_nil, h3, h5, hrun]
        · refine ⟨hgr.os.trans hbU.os, hgr.tape.trans hbU.tape, hgr.output.trans hbU.output, Nat.le_trans hbU.size hgr.size, fun b hb => ?_⟩
          exact (hgr.block b (by omega) (fun e => by have := (hblk b e.symm).1; omega)).trans (hbU.block b hb)
        · exact absurd rfl (hsF _ h).1
        · obtain ⟨q1, q2⟩ := hsF _ h
          rw [upd_ne q1]; exact hrn q2
        · obtain ⟨q1, q2⟩ := hsF _ h
          rw [Array.getElem?_setIfInBounds_ne (by omega)]; exact hkn q2
        · by_cases hki : k = i
          · subst hki
            unfold SL
            rw [if_neg h1, if_pos (.inl rfl), upd_self]
            exact hV
          · have q2 := hS k (hsT k hk hki)
            rw [upd_ne hki]
            unfold SL at q2 ⊢
            by_cases hk1' : k = k1
            · rw [if_pos hk1'] at q2 ⊢
              obtain ⟨g', q3, q4, q5⟩ := q2
              exact ⟨g', q3, q4, (hgr.block g' q5.lt (fun e => by have := (hblk g' e.symm).2; omega)).trans q5⟩
            · rw [if_neg hk1'] at q2 ⊢
              by_cases hk3 : k = n
              · exfalso
                rw [hk3] at hk
                have := hsT n hk (by omega)
                rw [hnf] at this
                cases this
              · rw [if_neg (by omega)] at q2 ⊢; exact q2
      · by_cases h3 : i = n
        · subst h3
          obtain ⟨hopx, _, e1, he1, hon1, hbn1⟩ := hlast o ho
          obtain ⟨e2, he2, hon2, hbn2⟩ := hkoF o ho
          have hkoT := hp e2 he2 hbn2
          rw [hon2] at hkoT
          have hk2T := hp e1 he1 hbn1
          rw [hon1] at hk2T
          obtain ⟨h4, h5⟩ := hop e1 he1 hbn1
          rw [hon1] at h4 h5
          unfold SL at h5
          rw [if_neg (by omega), if_pos (.inl rfl)] at h5
          refine wp_val (u k2) (w' := U) ?_ ⟨_, hput _, hbU, hzU, fun h => ?_, fun h => ?_, fun h => ?_, fun k hk => ?_⟩
          · unfold execOp
            simp only [hopx, Sem.run_pure, h4]
          · obtain ⟨q1, q2⟩ := hsF _ h
            rw [hk2T] at q2; cases q2
          · exact absurd rfl (hsF _ h).1
          · obtain ⟨q1, q2⟩ := hsF _ h
            rw [hkoT] at q2; cases q2
          · by_cases hki : k = i
            · subst hki
              unfold SL
              rw [if_neg (by omega), if_pos (.inr rfl), upd_self]
              exact h5
            · rw [upd_ne hki]; exact hS k (hsT k hk hki)
        · have hin : i < n := by omega
          refine wp_val _ (hpure i o ho hin h1 h2 U hbU hzU _ (fun _ => rfl) (fun t ht hne => mkL_eval a u hsz ht hne) (fun hi => ?_) hcst) ⟨_, hput _, hbU, hzU, fun h => ?_, fun h => ?_, fun h => ?_, fun k hk => ?_⟩
          · subst hi
            have hnF := hkn hf
            have h4 := mkL_res a (r := r) u hsz hr
            show (mkL a D n r u).tmps.getD r undef = _
            rw [Array.getD_eq_getD_getElem?, h4, hrn hnF]
            rfl
          · obtain ⟨q1, q2⟩ := hsF _ h
            obtain ⟨q3, q4⟩ := hnot q2
            exact ⟨q3, by rw [Array.getElem?_setIfInBounds_ne (by omega)]; exact q4⟩
          · obtain ⟨q1, q2⟩ := hsF _ h
            rw [upd_ne q1]; exact hrn q2
          · obtain ⟨q1, q2⟩ := hsF _ h
            rw [Array.getElem?_setIfInBounds_ne (by omega)]; exact hkn q2
          · by_cases hki : k = i
            · subst hki
              unfold SL
              rw [if_neg h1, if_neg (by omega), upd_self]
            · rw [upd_ne hki]; exact hS k (hsT k hk hki)
  · rintro l a' U ⟨u, rfl, hbU, _, _, _, _, hS⟩ hl hall
    have h := hS n (hall n (by omega))
    unfold SL at h
    rw [if_neg (by omega), if_pos (.inr rfl)] at h
    exact hend u U h hbU
  · have : (Array.replicate ops.size false).toList.count false = ops.size := by simp
    omega
  · refine ⟨u0, hu0, (Below.refl B w0).drew, Nat.le_refl _, fun _ => ⟨own_below hown (Below.refl _ w0).drew, by simp [hn]⟩, fun _ => hu1, fun _ => by simp [hn], fun i hi => ?_⟩
    have := (Array.getElem?_eq_some_iff.1 hi).2
    simp at this
end
end Go.Proofs.YtcfoolooemhbeaaGreat
