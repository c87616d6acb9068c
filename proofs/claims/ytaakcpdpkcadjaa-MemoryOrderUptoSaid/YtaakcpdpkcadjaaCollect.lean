/-
  The walks of uniq.collect, at the six instances that are called.
-/
import Derived.Test.YtaakcpdpkcadjaaUniq
namespace Go.Proofs.Ytaakcpdpkcadjaa
open Go.RowKit

set_option maxRecDepth 100000 in
set_option maxHeartbeats 1000000 in
theorem collectParU_ok (l : List Par) (A : Option Addr) (cp : Nat) (hl : l.length ≤ 1048576) (hu : ∀ x ∈ l, x.ok) (b : Nat) (w : World) (hP : Rd w w.heap.size 4 A l.length (l.flatMap Par.cells)) (hm : MapIs w Try.prog 41 kU vI b ([] : List (Int × Int))) :
    Calls Try.prog 35 #[.slice A l.length cp, .func (.func 36) #[] #[], .func (.func 37) #[.map (some b)] #[]] w fun e w' =>
      e = .returned (.int .i64 (firstFrom ([] : List (Int × Int)) 0 (-1) (l.map (·.id)))) ∧ MapIs w' Try.prog 41 kU vI b (places ([] : List (Int × Int)) 0 (l.map (·.id))) ∧ w.grownBy w' (some b) := by
  have hne : ∀ c o v, w.cell? ⟨c, o, none⟩ = some v → c ≠ b := fun c o v h => hm.ne h
  have HNE := Lib.hid hne
  clear hne
  go_enter Try.func35, Try.ntmps35
  go_wp2
  go_loopw [7, 12] (fun v i wr => ∃ (k : Nat) (es : List (Int × Int)) (f : Int), k ≤ l.length ∧ v = .int .i64 f ∧ i = .int .i64 k ∧ Hid (firstFrom ([] : List (Int × Int)) 0 (-1) (l.map (·.id)) = firstFrom es k f ((l.map (·.id)).drop k)) ∧ Hid (places ([] : List (Int × Int)) 0 (l.map (·.id)) = places es k ((l.map (·.id)).drop k)) ∧
    Hid ((es.map (·.1)).Nodup) ∧ MapIs wr Try.prog 41 kU vI b es ∧ w.grownBy wr (some b)) (fun _ i _ => l.length - (intOf i).toNat)
  case atStart => exact ⟨0, [], -1, Nat.zero_le _, rfl, rfl, Lib.hid rfl, Lib.hid rfl, Lib.hid (by simp), hm, World.grownBy.refl _ _⟩
  case round =>
    obtain ⟨k, es, f, hk, rfl, rfl, hf, hp, hn, hmr, hg⟩ := hrel
    by_cases hlt : k < l.length
    · obtain ⟨x, hx⟩ := get_lt hlt
      have hPr := hP.grown hg (Nat.le_refl _) HNE.out
      obtain ⟨c0, o, rfl, hb, g0, g1, g2, g3⟩ := par_at hPr hx
      have hxo : wU16 x.id := (hu x (List.mem_of_getElem? hx)).id
      have HX := Lib.hid (show (l.map (·.id))[k]? = some x.id by simp [hx])
      have HG := Lib.hid hg
      have hsz := hg.size
      have hb' : c0 < wr.heap.size := by omega
      have HU := Lib.hid hu
      clear hx hPr hP hm hg hu
      by_cases hnew : getv es x.id = none
      · have HN := Lib.hid hnew
        clear hnew
        go_wp2_with (first | (go_at_call 37; refine (addU_new b es x.id _ _ (by first | exact hmr | exact hmr.alloc _ | exact (hmr.alloc _).alloc _ | exact ((hmr.alloc _).alloc _).alloc _) hn.out hxo HN.out).mono ?_; rintro e w1 ⟨rfl, hm1, hg1⟩) | go_in)
        go_roundw
        case rel => exact ⟨k + 1, _, f, by omega, rfl, by go_num, Lib.hid (first_new hf.out HX.out HN.out), Lib.hid (by have := places_step hp.out HX.out; rwa [HN.out] at this), Lib.hid (nodup_put hn.out HN.out), hm1, (by first | exact HG.out.trans hg1 | exact (grown_alloc HG.out _).trans hg1 | exact (grown_alloc (grown_alloc HG.out _) _).trans hg1 | exact (grown_alloc (grown_alloc (grown_alloc HG.out _) _) _).trans hg1)⟩
        case measure => simp [intOf]; omega
      · have HN := Lib.hid hnew
        clear hnew
        have hpl := Lib.hid (places_step hp.out HX.out)
        have hfl := Lib.hid (first_old hf.out HX.out HN.out)
        by_cases h0 : f < 0
        · go_wp2_with (first | (go_at_call 37; refine (addU_old b es x.id _ _ (by first | exact hmr | exact hmr.alloc _ | exact (hmr.alloc _).alloc _ | exact ((hmr.alloc _).alloc _).alloc _) hn.out hxo HN.out).mono ?_; rintro e w1 ⟨rfl, hm1, hg1⟩) | go_in)
          go_roundw
          case rel => exact ⟨k + 1, es, k, by omega, rfl, by go_num, Lib.hid (by have := hfl.out; rwa [if_pos (by omega)] at this), Lib.hid (by have := hpl.out; rwa [if_neg (by simpa using HN.out)] at this), hn, hm1, (by first | exact HG.out.trans hg1 | exact (grown_alloc HG.out _).trans hg1 | exact (grown_alloc (grown_alloc HG.out _) _).trans hg1 | exact (grown_alloc (grown_alloc (grown_alloc HG.out _) _) _).trans hg1)⟩
          case measure => simp [intOf]; omega
        · go_wp2_with (first | (go_at_call 37; refine (addU_old b es x.id _ _ (by first | exact hmr | exact hmr.alloc _ | exact (hmr.alloc _).alloc _ | exact ((hmr.alloc _).alloc _).alloc _) hn.out hxo HN.out).mono ?_; rintro e w1 ⟨rfl, hm1, hg1⟩) | go_in)
          go_roundw
          case rel => exact ⟨k + 1, es, f, by omega, rfl, by go_num, Lib.hid (by have := hfl.out; rwa [if_neg (by omega)] at this), Lib.hid (by have := hpl.out; rwa [if_neg (by simpa using HN.out)] at this), hn, hm1, (by first | exact HG.out.trans hg1 | exact (grown_alloc HG.out _).trans hg1 | exact (grown_alloc (grown_alloc HG.out _) _).trans hg1 | exact (grown_alloc (grown_alloc (grown_alloc HG.out _) _) _).trans hg1)⟩
          case measure => simp [intOf]; omega
    · obtain rfl : k = l.length := by omega
      go_wp2
      go_ret
      have e1 := hf.out
      have e2 := hp.out
      rw [List.drop_of_length_le (by simp)] at e1 e2
      refine ⟨ret_int (by rw [e1, firstFrom]), by rw [e2, places]; exact hmr, hg⟩

end Go.Proofs.Ytaakcpdpkcadjaa
