/- The document's disk: Seen and Write. -/
import Derived.Test.YtlkmpjanchhahaaDoorRef1
namespace Go.Proofs.YtlkmpjanchhahaaDoor
open Go Go.RowKit
set_option linter.unusedSimpArgs false
set_option linter.unusedVariables false

/-- A row of one-cell elements, opened. -/
theorem row_open {w : World} {B : Nat} {e : TypeId} {n : Nat} {v : Value} {xs : List Value} (h : w.ownsRow B e 1 v n xs) :
    ∃ A c, v = .slice A n c ∧ ∀ i x, xs[i]? = some x → ∃ g, A = some ⟨g, 0, none⟩ ∧ w.cell? ⟨g, i, none⟩ = some x ∧ w.frozen? ⟨g, i, none⟩ = false := by
  obtain ⟨A, c, rfl⟩ := own_shape h
  refine ⟨A, c, rfl, fun i x hx => ?_⟩
  rcases h.2 with ⟨e, h0⟩ | ⟨g, cap, cur, e, _, hgg, _⟩
  · have := (List.getElem?_eq_some_iff.1 hx).1
    have h1 := h.1
    rw [h0] at h1
    omega
  · injection e with e1
    refine ⟨g, e1, ?_, ?_⟩
    · have := h.cells (g := g) (by rw [e1]; rfl) i x hx
      rwa [Addr.add_mid, Nat.zero_add] at this
    · simp [World.frozen?, hgg]
theorem places_get (l : List (Int × List UInt8)) (i : Nat) (h : i < l.length) : (places l)[i]? = some (.int .i64 l[i].1) := by simp [places, h]

def RM.seen (R : RM) (i : Nat) : List UInt8 := lastOf i R.pend (R.safe.getD i [])

set_option maxHeartbeats 1000000 in
theorem rseen_c (B : Nat) (O : Nat → Prop) (w : World) (b : Nat) (R : RM) (h : RefIn B O w b R) (i : Nat) (hi : i < R.safe.length) :
    Calls Tryd.prog 56 #[.pointer (some ⟨b, 0, none⟩), .int .i64 i] w fun r w' => ∃ v, r = .returned v ∧ SecAt O w v (R.seen i) ∧ w = w' := by
  obtain ⟨sv, av, bv, vs, us, h⟩ := h
  have h0 : w.cell? ⟨b, 0, none⟩ = some sv := h.blk.cell 0
  have h1 : w.cell? ⟨b, 1, none⟩ = some av := h.blk.cell 1
  have h2 : w.cell? ⟨b, 2, none⟩ = some bv := h.blk.cell 2
  have hsz := h.ok.size
  have hpn := h.ok.pend
  obtain ⟨v0, hv0, hs0⟩ := h.ss.get i hi
  have hs0' : SecAt O w v0 (lastOf i (R.pend.take 0) (R.safe.getD i [])) := by
    rw [List.take_zero]
    show SecAt O w v0 (R.safe.getD i [])
    simpa [List.getD, hi] using hs0
  obtain ⟨SA, sc, rfl, hsc⟩ := row_open h.rs
  obtain ⟨AA, ac, rfl, hac⟩ := row_open h.ra
  obtain ⟨BA, bc, rfl, hbc⟩ := row_open h.rb
  obtain ⟨sg, rfl, hcs, _⟩ := hsc i v0 hv0
  obtain ⟨n, hn⟩ : ∃ n, n = R.pend.length := ⟨_, rfl⟩
  obtain ⟨sn, hsn⟩ : ∃ sn, sn = R.safe.length := ⟨_, rfl⟩
  rw [← hn] at h1 h2 hpn
  rw [← hsn] at h0 hi hsz
  have HSB := Lib.hid h.sb
  have HAC := Lib.hid hac
  have HBC := Lib.hid hbc
  have HS0 := Lib.hid hs0'
  have HN := Lib.hid hn
  have hus : us.length = n := by rw [h.sb.1, hn]; simp [bodies]
  have HUS := Lib.hid hus
  clear h hs0 hs0' hsc hac hbc hv0 hn hsn hus
  go_enter Tryd.func56, Tryd.ntmps56
  go_wp2
  go_loop [5, 20] (fun v p => ∃ j : Nat, p = .int .i64 j ∧ j ≤ n ∧ SecAt O w v (lastOf i (R.pend.take j) (R.safe.getD i []))) (fun _ p => n - (intOf p).toNat)
  case atStart => exact ⟨0, rfl, Nat.zero_le _, HS0.out⟩
  case round =>
    obtain ⟨j, rfl, hj, hsec⟩ := hrel
    have HSEC := Lib.hid hsec
    clear hsec
    by_cases hlt : j < n
    · have hjl : j < R.pend.length := by rw [← HN.out]; exact hlt
      obtain ⟨ag, rfl, hca, _⟩ := HAC.out j _ (places_get R.pend j hjl)
      have hju : j < us.length := by rw [HUS.out]; exact hlt
      obtain ⟨bg, rfl, hcb, _⟩ := HBC.out j us[j] (List.getElem?_eq_getElem _)
      obtain ⟨p, hp⟩ : ∃ p, p = R.pend[j] := ⟨_, rfl⟩
      rw [← hp] at hca
      have htk : R.pend.take (j + 1) = R.pend.take j ++ [p] := by rw [hp, List.take_succ_eq_append_getElem hjl]
      have hnew : SecAt O w us[j] p.2 := HSB.out.2 j us[j] p.2 (List.getElem?_eq_getElem _) (by rw [hp]; simp [bodies, hjl])
      have HTK := Lib.hid htk
      have HNEW := Lib.hid hnew
      clear htk hnew hp hjl
      generalize us[j] = uj at hcb HNEW
      clear hju
      by_cases hpi : p.1 = (i : Int)
      · have e : (p.1 == (i : Int)) = true := by simpa using hpi
        have HPI := Lib.hid hpi
        clear hpi
        go_wp2
        go_round
        case rel => exact ⟨j + 1, by go_num, by omega, by rw [HTK.out, lastOf_snoc, if_pos HPI.out]; exact HNEW.out⟩
        case measure => simp [intOf]; omega
      · have e : (p.1 == (i : Int)) = false := by simpa using hpi
        have HPI := Lib.hid hpi
        clear hpi
        go_wp2
        go_round
        case rel => exact ⟨j + 1, by go_num, by omega, by rw [HTK.out, lastOf_snoc, if_neg HPI.out]; exact HSEC.out⟩
        case measure => simp [intOf]; omega
    · have hjn : j = n := by omega
      subst hjn
      go_wp2
      go_ret
      refine ⟨_, rfl, ?_, rfl⟩
      have := HSEC.out
      rw [HN.out, List.take_of_length_le (Nat.le_refl _)] at this
      exact this
end Go.Proofs.YtlkmpjanchhahaaDoor
