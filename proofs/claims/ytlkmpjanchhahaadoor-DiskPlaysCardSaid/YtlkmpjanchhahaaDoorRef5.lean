/- The document's disk: the contracts of Sync and Crash. -/
import Derived.Test.YtlkmpjanchhahaaDoorRef4
namespace Go.Proofs.YtlkmpjanchhahaaDoor
open Go Go.RowKit
set_option linter.unusedSimpArgs false
set_option linter.unusedVariables false

def putAll (l : List (Int × List UInt8)) (s : List (List UInt8)) : List (List UInt8) := l.foldl (fun s p => s.set p.1.toNat p.2) s
theorem putAll_length (l : List (Int × List UInt8)) : ∀ s, (putAll l s).length = s.length := by
  induction l with
  | nil => intro s; rfl
  | cons p l ih => intro s; show (putAll l (s.set p.1.toNat p.2)).length = _; rw [ih]; simp
theorem putAll_snoc (l : List (Int × List UInt8)) (p : Int × List UInt8) (s : List (List UInt8)) : putAll (l ++ [p]) s = (putAll l s).set p.1.toNat p.2 := by simp [putAll]

/-- An element of a row is stored. -/
theorem own_set {w : World} {B : Nat} {e : TypeId} {n g c : Nat} {xs : List Value} (h : w.ownsRow B e 1 (.slice (some ⟨g, 0, none⟩) n c) n xs) (i : Nat) (hi : i < n) (x : Value) :
    (w.setCell ⟨g, i, none⟩ x).ownsRow B e 1 (.slice (some ⟨g, 0, none⟩) n c) n (xs.set i x) := by
  refine ⟨by simpa using h.1, .inr ?_⟩
  rcases h.2 with ⟨e', _⟩ | ⟨g', cap, cur, e', hb, hgg, hrest⟩
  · cases e'
  · injection e' with e1 e2 e3
    injection e1 with e1
    injection e1 with e1 _ _
    subst e1
    subst e3
    obtain ⟨h1, h2, h3, h4⟩ := hrest
    refine ⟨g, c, cur.setIfInBounds i x, rfl, hb, (Blk.set (show Blk w g e cur from hgg) i x), h1, h2, by simpa using h3, ?_⟩
    rw [Array.toList_setIfInBounds, List.take_set, h4]
/-- A sector is stored into the row of the safe ones. -/
theorem RefRows.setSafe {B : Nat} {O : Nat → Prop} {w : World} {b g c : Nat} {R : RM} {av bv x : Value} {vs us : List Value} {l : List UInt8} (h : RefRows B O w b R (.slice (some ⟨g, 0, none⟩) R.safe.length c) av bv vs us) (i : Nat) (hi : i < R.safe.length) (hx : SecAt O w x l) :
    RefRows B O (w.setCell ⟨g, i, none⟩ x) b { R with safe := R.safe.set i l } (.slice (some ⟨g, 0, none⟩) R.safe.length c) av bv (vs.set i x) us ∧ Upd O w (w.setCell ⟨g, i, none⟩ x) := by
  have hu : Upd (fun k => k = g) w (w.setCell ⟨g, i, none⟩ x) := (Upd.refl (fun k => k = g) w).setCell (p := ⟨g, i, none⟩) (fun _ => rfl) _
  have h5 : ∀ k cs, Blk w k 5 cs → O k → ¬ k = g := fun k cs hk _ e => own_ne h.rs hk (by decide) (by rw [e]; rfl)
  have ez : (w.setCell ⟨g, i, none⟩ x).heap.size = w.heap.size := by simp [World.setCell]
  obtain ⟨o1, o2, o3, o4, o5, o6, o7⟩ := h.ok
  refine ⟨⟨h.ob, h.os, h.oa, h.obb, h.ge, fun k hk => by rw [ez]; exact h.lt k hk, ⟨o1, o2, o3, o4, o5, by show (R.safe.set i l).length ≤ _; simpa using o6, fun p hp => by show 0 ≤ p.1 ∧ p.1 < ((R.safe.set i l).length : Int); have := o7 p hp; simpa using this⟩,
    h.blk.upd hu (fun e => own_ne h.rs h.blk (by decide) (by rw [e]; rfl)), ?_, (h.ss.set hx i).upd hu h5, ownsRow_upd h.ra hu (fun k hk e => own_ne2 h.ra h.rs (by decide) k hk (by rw [e]; rfl)), ownsRow_upd h.rb hu (fun k hk e => h.ne g rfl (by rw [hk, e])), h.sb.upd hu h5, h.ne⟩, ?_⟩
  · show World.ownsRow _ B 33 1 _ (R.safe.set i l).length _
    rw [List.length_set]
    exact own_set h.rs i hi x
  · exact hu.mono (fun k _ e => by subst e; exact h.os _ rfl)

/-- Nothing is pending any more. -/
theorem RefRows.wipe {B : Nat} {O : Nat → Prop} {w w' : World} {b : Nat} {R R' : RM} {sv av bv : Value} {vs us : List Value} (h : RefRows B O w b R sv av bv vs us) (hu : Upd (fun k => k = b) w w') (ho : R'.ok) (hs : R'.safe = R.safe) (hp : R'.pend = [])
    (hb : Blk w' b 90 #[sv, .slice none 0 0, .slice none 0 0, .int .i64 R'.left, .bool R'.off, .int .i64 R'.deeds]) : RefRows B O w' b R' sv (.slice none 0 0) (.slice none 0 0) vs [] := by
  have hne : ∀ k c, Blk w k 5 c → O k → ¬ k = b := fun k c hk _ e => by subst e; exact absurd (hk.ne h.blk (by decide)) (by simp)
  refine ⟨h.ob, h.os, fun k hk => by simp [Value.ownBlock] at hk, fun k hk => by simp [Value.ownBlock] at hk, h.ge, fun k hk => Nat.lt_of_lt_of_le (h.lt k hk) hu.size, ho, hb, ?_, ?_, ?_, ?_, ?_, fun k _ => by simp [Value.ownBlock]⟩
  · rw [hs]; exact ownsRow_upd h.rs hu (fun k hk e => own_ne h.rs h.blk (by decide) (by rw [hk, e]))
  · rw [hs]; exact h.ss.upd hu hne
  · rw [hp]; exact World.ownsRow_nil _ _ _ _
  · rw [hp]; exact World.ownsRow_nil _ _ _ _
  · rw [hp]; exact ⟨rfl, fun i v l h => by simp at h⟩

def RM.sync (R : RM) : Int × RM :=
  if R.off then (16, R)
  else if R.left = 0 then (16, R.deed.2)
  else (0, { R.deed.2 with safe := putAll R.pend R.safe, pend := [] })

theorem rsync_err (B : Nat) (O : Nat → Prop) (w : World) (b : Nat) (R : RM) (h : RefIn B O w b R) (hd : R.deeds < 4611686018427387900) (he : R.off = true ∨ R.left = 0) :
    Calls Tryd.prog 25 #[.pointer (some ⟨b, 0, none⟩)] w fun r w' => r = .returned (.int .i64 (R.sync).1) ∧ RefIn B O w' b (R.sync).2 ∧ Upd O w w' := by
  obtain ⟨sv, av, bv, vs, us, h⟩ := h
  have h4 : w.cell? ⟨b, 4, none⟩ = some (.bool R.off) := h.blk.cell 4
  have hdeed := rdeed_c B O w b R sv av bv vs us h hd
  have H := Lib.hid h
  cases ho : R.off
  · have hz : R.left = 0 := by
      rcases he with h | h
      · rw [ho] at h; cases h
      · exact h
    have e : R.sync = (16, R.deed.2) := by unfold RM.sync; rw [ho, if_neg (by simp), if_pos hz]
    rw [e]
    have e2 : R.deed.1 = false := by unfold RM.deed; rw [if_pos hz]
    rw [e2] at hdeed
    rw [ho] at h4
    have HOB := Lib.hid h.ob
    clear e e2 h he hd ho hz
    go_enter Tryd.func25, Tryd.ntmps25
    go_wp2_with fail
    refine hdeed.mono ?_
    rintro r w1 ⟨rfl, hr, hu⟩
    have HR := Lib.hid hr
    have HU := Lib.hid hu
    clear hdeed hr hu
    go_wp2_with fail
    go_ret
    exact ⟨rfl, ⟨_, _, _, _, _, HR.out⟩, HU.out.mono (fun k _ e => by subst e; exact HOB.out)⟩
  · have e : R.sync = (16, R) := by unfold RM.sync; rw [ho]; rfl
    rw [e]
    rw [ho] at h4
    clear e h he hd hdeed ho
    go_enter Tryd.func25, Tryd.ntmps25
    go_wp2_with fail
    go_ret
    exact ⟨rfl, ⟨_, _, _, _, _, H.out⟩, Upd.refl _ _⟩

/-- What the loop over the pending ones keeps: the first j were stored. -/
def RPut (B : Nat) (O : Nat → Prop) (w : World) (b : Nat) (d : RM) (SA : Option Addr) (sc : Nat) (av bv : Value) (us : List Value) (ps : List (Int × List UInt8)) (wr : World) : Prop :=
  ∃ vs, RefRows B O wr b { d with safe := putAll ps d.safe } (.slice SA d.safe.length sc) av bv vs us ∧ Upd O w wr

set_option maxHeartbeats 2000000 in
theorem rsync_ok (B : Nat) (O : Nat → Prop) (w : World) (b : Nat) (R : RM) (h : RefIn B O w b R) (hd : R.deeds < 4611686018427387900) (ho : R.off = false) (hz : ¬ R.left = 0) :
    Calls Tryd.prog 25 #[.pointer (some ⟨b, 0, none⟩)] w fun r w' => r = .returned (.int .i64 0) ∧ RefIn B O w' b { R.deed.2 with safe := putAll R.pend R.safe, pend := [] } ∧ Upd O w w' := by
  obtain ⟨sv, av, bv, vs, us, h⟩ := h
  have h4 : w.cell? ⟨b, 4, none⟩ = some (.bool R.off) := h.blk.cell 4
  have hdeed := rdeed_c B O w b R sv av bv vs us h hd
  have HOB := Lib.hid h.ob
  have e2 : R.deed.1 = true := by unfold RM.deed; rw [if_neg hz]
  rw [e2] at hdeed
  rw [ho] at h4
  obtain ⟨d, hdd⟩ : ∃ d, d = R.deed.2 := ⟨_, rfl⟩
  have hs := R.deed_safe
  rw [← hdd] at hs hdeed ⊢
  have HS := Lib.hid hs
  clear e2 h hd ho hz hs hdd
  go_enter Tryd.func25, Tryd.ntmps25
  go_wp2_with fail
  refine hdeed.mono ?_
  rintro r w1 ⟨rfl, hr, hu⟩
  have HU := Lib.hid hu
  obtain ⟨SA, sc, rfl, hsc⟩ := row_open hr.rs
  obtain ⟨AA, ac, rfl, hac⟩ := row_open hr.ra
  obtain ⟨BA, bc, rfl, hbc⟩ := row_open hr.rb
  have c1 : w1.cell? ⟨b, 1, none⟩ = some (.slice AA d.pend.length ac) := hr.blk.cell 1
  obtain ⟨n, hn⟩ : ∃ n, n = d.pend.length := ⟨_, rfl⟩
  have hl0 : RPut B O w1 b d SA sc (.slice AA n ac) (.slice BA n bc) us (d.pend.take 0) w1 := by
    rw [hn, List.take_zero]
    exact ⟨_, hr, Upd.refl _ _⟩
  have hpn := hr.ok.pend
  rw [← hn] at c1 hpn
  have HL0 := Lib.hid hl0
  have HN := Lib.hid hn
  clear hdeed hr hu hl0 hn hsc hac hbc
  go_wp2_with fail
  clear c1
  go_loopg [19] n (fun k p wr => ∃ j : Nat, p = .int .i64 j ∧ j + k = n ∧ RPut B O w1 b d SA sc (.slice AA n ac) (.slice BA n bc) us (d.pend.take j) wr)
  case atStart => exact ⟨0, rfl, by omega, HL0.out⟩
  case round =>
    obtain ⟨j, rfl, hj, hl⟩ := hrel
    by_cases hlt : j < n
    · obtain ⟨vs', hr, hu⟩ := hl
      have hjl : j < d.pend.length := by rw [← HN.out]; exact hlt
      obtain ⟨p, hp⟩ : ∃ p, p = d.pend[j] := ⟨_, rfl⟩
      have hmem : p ∈ d.pend := by rw [hp]; exact List.getElem_mem hjl
      have hat := hr.ok.at_ p hmem
      rw [show ({ d with safe := putAll (d.pend.take j) d.safe } : RM).safe.length = d.safe.length from putAll_length _ _] at hat
      obtain ⟨k, hk⟩ : ∃ k : Nat, p.1 = k := ⟨p.1.toNat, by omega⟩
      have hkl : k < d.safe.length := by omega
      obtain ⟨s0, hs0⟩ : ∃ s0, s0 = d.safe.length := ⟨_, rfl⟩
      rw [← hs0] at hkl
      have hlen : (putAll (d.pend.take j) d.safe).length = d.safe.length := putAll_length _ _
      have hrs : wr.ownsRow B 33 1 (.slice SA d.safe.length sc) d.safe.length vs' := by have := hr.rs; rwa [show ({ d with safe := putAll (d.pend.take j) d.safe } : RM).safe.length = d.safe.length from hlen] at this
      obtain ⟨SA', sc', e1, hsc⟩ := row_open hrs
      injection e1 with e1 e2 e3
      clear e2
      subst e1; subst e3
      obtain ⟨AA', ac', e1, hac⟩ := row_open hr.ra
      injection e1 with e1 e2 e3
      clear e2
      subst e1; subst e3
      obtain ⟨BA', bc', e1, hbc⟩ := row_open hr.rb
      injection e1 with e1 e2 e3
      clear e2
      subst e1; subst e3
      have hvl : k < vs'.length := by have := hr.ss.1; rw [show ({ d with safe := putAll (d.pend.take j) d.safe } : RM).safe.length = d.safe.length from hlen] at this; omega
      have hul : j < us.length := by have := hr.sb.1; simp [bodies] at this; omega
      obtain ⟨sg, rfl, hcs, hfs⟩ := hsc k vs'[k] (List.getElem?_eq_getElem hvl)
      obtain ⟨ag, rfl, hca, _⟩ := hac j _ (places_get d.pend j hjl)
      obtain ⟨bg, rfl, hcb, _⟩ := hbc j us[j] (List.getElem?_eq_getElem hul)
      have hsec : SecAt O wr us[j] p.2 := hr.sb.2 j us[j] p.2 (List.getElem?_eq_getElem hul) (by rw [hp]; simp [bodies, hjl])
      have htk : d.pend.take (j + 1) = d.pend.take j ++ [p] := by rw [hp, List.take_succ_eq_append_getElem hjl]
      have hput : RPut B O w1 b d (some ⟨sg, 0, none⟩) sc (.slice (some ⟨ag, 0, none⟩) n ac) (.slice (some ⟨bg, 0, none⟩) n bc) us (d.pend.take (j + 1)) (wr.drew.setCell ⟨sg, k, none⟩ us[j]) := by
        rw [htk]
        have hrd := hr.upd (Upd.refl (fun _ => False) wr).drew (fun _ _ h => h)
        have e : ({ d with safe := putAll (d.pend.take j) d.safe } : RM).safe.length = d.safe.length := hlen
        have hrd' : RefRows B O wr.drew b { d with safe := putAll (d.pend.take j) d.safe } (.slice (some ⟨sg, 0, none⟩) ({ d with safe := putAll (d.pend.take j) d.safe } : RM).safe.length sc) (.slice (some ⟨ag, 0, none⟩) n ac) (.slice (some ⟨bg, 0, none⟩) n bc) vs' us := by rw [e]; exact hrd
        have hset := hrd'.setSafe k (by rw [e]; omega) (hsec.upd (Upd.refl (fun _ => False) wr).drew (fun _ _ _ h => h))
        refine ⟨vs'.set k us[j], ?_, hu.drew.then hset.2 (fun _ _ h => h)⟩
        have := hset.1
        rw [e] at this
        have e5 : (putAll (d.pend.take j) d.safe).set k p.2 = putAll (d.pend.take j ++ [p]) d.safe := by rw [putAll_snoc, hk, Int.toNat_natCast]
        rw [← e5]
        exact this
      have c0 : wr.cell? ⟨b, 0, none⟩ = some (.slice (some ⟨sg, 0, none⟩) s0 sc) := by rw [hs0]; exact hr.blk.cell 0
      have c2 : wr.cell? ⟨b, 2, none⟩ = some (.slice (some ⟨bg, 0, none⟩) n bc) := hr.blk.cell 2
      have hpu : plainV us[j] = true := by obtain ⟨g, _, e, _⟩ := hsec; rw [e]; rfl
      rw [← hp, hk] at hca
      have HPUT := Lib.hid hput
      generalize us[j] = uj at hcb hpu HPUT
      have HPU := Lib.hid hpu
      have HCS := Lib.hid hcs
      generalize vs'[k] = vk at HCS hcs
      have HFS := Lib.hid hfs
      have HS3 := Lib.hid (show wr.drew.cell? ⟨b, 0, none⟩ = some (.slice (some ⟨sg, 0, none⟩) s0 sc) ∧ wr.drew.cell? ⟨b, 2, none⟩ = some (.slice (some ⟨bg, 0, none⟩) n bc) ∧ wr.drew.cell? ⟨bg, j, none⟩ = some uj from ⟨c0, c2, hcb⟩)
      have HCS' := Lib.hid (show wr.drew.cell? ⟨sg, k, none⟩ = some vk from hcs)
      have HFS' := Lib.hid (show wr.drew.frozen? ⟨sg, k, none⟩ = false from hfs)
      clear hr hu hmem hat hk hlen hrs hsc hac hbc hvl hul hsec htk hput c0 c2 hcb hpu hcs hfs hp hs0 hjl
      go_wp2_with fail
      refine wp_region_pl (by kernel_rfl) (fun W => W.cell? ⟨b, 0, none⟩ = some (.slice (some ⟨sg, 0, none⟩) s0 sc) ∧ W.cell? ⟨b, 2, none⟩ = some (.slice (some ⟨bg, 0, none⟩) n bc) ∧ W.cell? ⟨bg, j, none⟩ = some uj) 13 [(0, 0), (1, 0), (2, 0), (3, 1), (4, 0), (5, 0), (6, 0), (7, 0), (8, 1), (9, 0), (10, 0), (11, 1), (12, 0), (13, 3)] (by kernel_rfl) (by kernel_rfl) (fun _ _ _ _ _ h => h) (HS3.out) ?_
      generalize hfr : (Act.mk _ _) = a0
      have hsz : a0.tmps.size = 44 := by rw [← hfr]; rfl
      have e0 : a0.eval (.tmp 0) = .pointer (some ⟨b, 0, none⟩) := by rw [← hfr]; rfl
      have e3 : a0.eval (.tmp 3) = .int .i64 j := by rw [← hfr]; rfl
      have e4 : a0.eval (.tmp 4) = .int .i64 k := by rw [← hfr]; rfl
      refine pl_pure (.pointer (some ⟨b, 0, none⟩)) rfl (wanted_none rfl) (fun W => exec_move (.tmp 0) rfl (by simp [ev_put, sz_put, hsz, e0])) ?_
      refine pl_pure (.pointer (some ⟨b, 0, none⟩)) rfl (wanted_none rfl) (fun W => exec_nil (.tmp 24) rfl (by simp [ev_put, sz_put, hsz])) ?_
      refine pl_pure (.pointer (some ⟨b, 0, none⟩)) rfl (wanted_none rfl) (fun W => exec_field 90 (.tmp 25) 0 0 64 rfl (by simp [ev_put, sz_put, hsz]) Tryd.underlying90 rfl (by kernel_rfl)) ?_
      refine pl_held (.slice (some ⟨sg, 0, none⟩) s0 sc) rfl (wanted_none rfl) (fun W hW => exec_load1 64 (.tmp 26) rfl (by simp [ev_put, sz_put, hsz]) Tryd.underlying64 rfl (hW.1)) ?_
      refine pl_pure (.int .i64 k) rfl (wanted_none rfl) (fun W => exec_move (.tmp 4) rfl (by simp [ev_put, sz_put, hsz, e4])) ?_
      refine pl_pure (.pointer (some ⟨b, 0, none⟩)) rfl (wanted_none rfl) (fun W => exec_move (.tmp 0) rfl (by simp [ev_put, sz_put, hsz, e0])) ?_
      refine pl_pure (.pointer (some ⟨b, 0, none⟩)) rfl (wanted_none rfl) (fun W => exec_nil (.tmp 29) rfl (by simp [ev_put, sz_put, hsz])) ?_
      refine pl_pure (.pointer (some ⟨b, 2, none⟩)) rfl (wanted_none rfl) (fun W => exec_field 90 (.tmp 30) 2 2 64 rfl (by simp [ev_put, sz_put, hsz]) Tryd.underlying90 rfl (by kernel_rfl)) ?_
      refine pl_held (.slice (some ⟨bg, 0, none⟩) n bc) rfl (wanted_none rfl) (fun W hW => exec_load1 64 (.tmp 31) rfl (by simp [ev_put, sz_put, hsz]) Tryd.underlying64 rfl (hW.2.1)) ?_
      refine pl_pure (.int .i64 j) rfl (wanted_none rfl) (fun W => exec_move (.tmp 3) rfl (by simp [ev_put, sz_put, hsz, e3])) ?_
      refine pl_pure (.pointer (some ⟨bg, j, none⟩)) rfl (wanted_none rfl) (fun W => exec_index0 64 (.tmp 32) (.tmp 33) rfl Tryd.underlying64 (n := n) (c := bc) (k := .i64) (j := j) (by simp [ev_put, sz_put, hsz]) (by simp [ev_put, sz_put, hsz]) (hlt) (by kernel_rfl)) ?_
      refine pl_held (uj) rfl (wanted_none rfl) (fun W hW => exec_load1 33 (.tmp 34) rfl (by simp [ev_put, sz_put, hsz]) Tryd.underlying33 rfl (hW.2.2)) ?_
      refine pl_pure (.pointer (some ⟨sg, k, none⟩)) rfl (wanted_none rfl) (fun W => exec_index0 64 (.tmp 27) (.tmp 28) rfl Tryd.underlying64 (n := s0) (c := sc) (k := .i64) (j := k) (by simp [ev_put, sz_put, hsz]) (by simp [ev_put, sz_put, hsz]) (hkl) (by kernel_rfl)) ?_
      refine pl_store rfl (wanted_none rfl) (exec_store1 33 (.tmp 36) (.tmp 35) rfl (by simp [ev_put, sz_put, hsz]) (by simp [ev_put, sz_put, hsz]) (by kernel_rfl) HPU.out HCS'.out HFS'.out) ?_
      refine pl_done ?_
      rw [← hfr]
      simp only [Act.put, List.setIfInBounds_toArray, List.set_cons_zero, List.set_cons_succ]
      clear hfr hsz e0 e3 e4
      go_wp2_with fail
      go_roundg (n - (j + 1))
      case measure => omega
      case rel => exact ⟨j + 1, by go_num, by omega, HPUT.out⟩
    · have hjn : j = n := by omega
      subst hjn
      obtain ⟨vs', hr, hu⟩ := hl
      have c1 : wr.cell? ⟨b, 1, none⟩ = some (.slice AA j ac) := hr.blk.cell 1
      have c2 : wr.cell? ⟨b, 2, none⟩ = some (.slice BA j bc) := hr.blk.cell 2
      have f1 := hr.blk.froz 1
      have f2 := hr.blk.froz 2
      have HR := Lib.hid hr
      have HUR := Lib.hid hu
      clear hr hu
      go_wp2_with fail
      go_ret
      have hr := HR.out
      have hu2 : Upd (fun k => k = b) wr ((wr.setCell ⟨b, 1, none⟩ (.slice none 0 0)).setCell ⟨b, 2, none⟩ (.slice none 0 0)) := ((Upd.refl (fun k => k = b) wr).setCell (p := ⟨b, 1, none⟩) (fun _ => rfl) _).setCell (p := ⟨b, 2, none⟩) (fun _ => rfl) _
      have eall : d.pend.take j = R.pend := by rw [HN.out, List.take_of_length_le (Nat.le_refl _), HS.out.2]
      rw [eall, HS.out.1] at hr
      obtain ⟨o1, o2, o3, o4, o5, o6, o7⟩ := hr.ok
      refine ⟨rfl, ⟨_, _, _, _, _, hr.wipe (R' := { d with safe := putAll R.pend R.safe, pend := [] }) hu2 ⟨o1, o2, o3, o4, by show (0 : Nat) < _; omega, o6, fun p hp => by cases hp⟩ rfl rfl ((hr.blk.set 1 _).set 2 _)⟩, ?_⟩
      exact ((HU.out.mono (fun k _ e => by subst e; exact HOB.out)).then HUR.out (fun _ _ h => h)).then hu2 (fun k _ e => by subst e; exact HOB.out)
theorem rsync_c (B : Nat) (O : Nat → Prop) (w : World) (b : Nat) (R : RM) (h : RefIn B O w b R) (hd : R.deeds < 4611686018427387900) :
    Calls Tryd.prog 25 #[.pointer (some ⟨b, 0, none⟩)] w fun r w' => r = .returned (.int .i64 (R.sync).1) ∧ RefIn B O w' b (R.sync).2 ∧ Upd O w w' := by
  by_cases he : R.off = true ∨ R.left = 0
  · exact rsync_err B O w b R h hd he
  · simp only [not_or] at he
    have e : R.sync = (0, { R.deed.2 with safe := putAll R.pend R.safe, pend := [] }) := by
      unfold RM.sync
      rw [if_neg he.1, if_neg he.2]
    rw [e]
    exact rsync_ok B O w b R h hd (by simpa using he.1) he.2
def RM.crash (R : RM) (keep : List Bool) : Nat × RM := ((keptOf keep R.pend 0).length, { R with safe := putAll (keptOf keep R.pend 0) R.safe, pend := [], left := -1, off := false })

set_option maxHeartbeats 2000000 in
theorem rcrash_c (B : Nat) (O : Nat → Prop) (w : World) (b : Nat) (R : RM) (h : RefIn B O w b R) (kv : Value) (keep : List Bool) (hk : BoolsR w kv keep) (hkO : 0 < keep.length → ∀ k, kv.ownBlock = some k → ¬ O k) :
    Calls Tryd.prog 27 #[.pointer (some ⟨b, 0, none⟩), kv] w fun r w' => r = .returned (.int .i64 (R.crash keep).1) ∧ RefIn B O w' b (R.crash keep).2 ∧ Upd O w w' := by
  obtain ⟨sv, av, bv, vs, us, hr⟩ := h
  have HOB := Lib.hid hr.ob
  obtain ⟨KA, kc, rfl, hkc⟩ := hk
  obtain ⟨SA, sc, rfl, hsc⟩ := row_open hr.rs
  obtain ⟨AA, ac, rfl, hac⟩ := row_open hr.ra
  obtain ⟨BA, bc, rfl, hbc⟩ := row_open hr.rb
  have c1 : w.cell? ⟨b, 1, none⟩ = some (.slice AA R.pend.length ac) := hr.blk.cell 1
  obtain ⟨n, hn⟩ : ∃ n, n = R.pend.length := ⟨_, rfl⟩
  have hl0 : RPut B O w b R SA sc (.slice AA n ac) (.slice BA n bc) us (keptOf keep (R.pend.take 0) 0) w := by
    rw [hn, List.take_zero]
    exact ⟨_, hr, Upd.refl _ _⟩
  have hpn := hr.ok.pend
  rw [← hn] at c1 hpn
  have HL0 := Lib.hid hl0
  have HN := Lib.hid hn
  have HKC := Lib.hid hkc
  have HKO := Lib.hid hkO
  obtain ⟨kn, hkn⟩ : ∃ kn, kn = keep.length := ⟨_, rfl⟩
  rw [← hkn]
  have HKN := Lib.hid hkn
  clear hr hl0 hn hsc hac hbc hkc hkO hkn
  go_enter Tryd.func27, Tryd.ntmps27
  go_wp2_with fail
  clear c1
  go_loopg [5, 13] n (fun q m p wr => ∃ j : Nat, p = .int .i64 j ∧ j + q = n ∧ m = .int .i64 (keptOf keep (R.pend.take j) 0).length ∧ (keptOf keep (R.pend.take j) 0).length ≤ j ∧ RPut B O w b R SA sc (.slice AA n ac) (.slice BA n bc) us (keptOf keep (R.pend.take j) 0) wr)
  case atStart => exact ⟨0, rfl, by omega, rfl, Nat.zero_le _, HL0.out⟩
  case round =>
    obtain ⟨j, rfl, hj, rfl, hmj, hl⟩ := hrel
    obtain ⟨m, hm⟩ : ∃ m, m = (keptOf keep (R.pend.take j) 0).length := ⟨_, rfl⟩
    rw [← hm] at hmj ⊢
    have HM := Lib.hid hm
    clear hm
    by_cases hlt : j < n
    · obtain ⟨vs', hr, hu⟩ := hl
      have hjl : j < R.pend.length := by rw [← HN.out]; exact hlt
      obtain ⟨p, hp⟩ : ∃ p, p = R.pend[j] := ⟨_, rfl⟩
      have hmem : p ∈ R.pend := by rw [hp]; exact List.getElem_mem hjl
      have hat := hr.ok.at_ p hmem
      have hlen : (putAll (keptOf keep (R.pend.take j) 0) R.safe).length = R.safe.length := putAll_length _ _
      rw [show ({ R with safe := putAll (keptOf keep (R.pend.take j) 0) R.safe } : RM).safe.length = R.safe.length from hlen] at hat
      obtain ⟨k, hk⟩ : ∃ k : Nat, p.1 = k := ⟨p.1.toNat, by omega⟩
      have hkl : k < R.safe.length := by omega
      obtain ⟨s0, hs0⟩ : ∃ s0, s0 = R.safe.length := ⟨_, rfl⟩
      rw [← hs0] at hkl
      have hrs : wr.ownsRow B 33 1 (.slice SA R.safe.length sc) R.safe.length vs' := by have := hr.rs; rwa [show ({ R with safe := putAll (keptOf keep (R.pend.take j) 0) R.safe } : RM).safe.length = R.safe.length from hlen] at this
      obtain ⟨SA', sc', e1, hsc⟩ := row_open hrs
      injection e1 with e1 e2 e3
      clear e2
      subst e1; subst e3
      obtain ⟨AA', ac', e1, hac⟩ := row_open hr.ra
      injection e1 with e1 e2 e3
      clear e2
      subst e1; subst e3
      obtain ⟨BA', bc', e1, hbc⟩ := row_open hr.rb
      injection e1 with e1 e2 e3
      clear e2
      subst e1; subst e3
      have hvl : k < vs'.length := by have := hr.ss.1; rw [show ({ R with safe := putAll (keptOf keep (R.pend.take j) 0) R.safe } : RM).safe.length = R.safe.length from hlen] at this; omega
      have hul : j < us.length := by have := hr.sb.1; simp [bodies] at this; omega
      obtain ⟨sg, rfl, hcs, hfs⟩ := hsc k vs'[k] (List.getElem?_eq_getElem hvl)
      obtain ⟨ag, rfl, hca, _⟩ := hac j _ (places_get R.pend j hjl)
      obtain ⟨bg, rfl, hcb, _⟩ := hbc j us[j] (List.getElem?_eq_getElem hul)
      have hsec : SecAt O wr us[j] p.2 := hr.sb.2 j us[j] p.2 (List.getElem?_eq_getElem hul) (by rw [hp]; simp [bodies, hjl])
      have htk : R.pend.take (j + 1) = R.pend.take j ++ [p] := by rw [hp, List.take_succ_eq_append_getElem hjl]
      have htl : (R.pend.take j).length = j := by rw [List.length_take]; omega
      have hkept : keptOf keep (R.pend.take (j + 1)) 0 = keptOf keep (R.pend.take j) 0 ++ (if keep.getD j false then [p] else []) := by
        rw [htk, keptOf_append, htl, Nat.zero_add]
      have hput : RPut B O w b R (some ⟨sg, 0, none⟩) sc (.slice (some ⟨ag, 0, none⟩) n ac) (.slice (some ⟨bg, 0, none⟩) n bc) us (keptOf keep (R.pend.take j) 0 ++ [p]) (wr.drew.setCell ⟨sg, k, none⟩ us[j]) := by
        have hrd := hr.upd (Upd.refl (fun _ => False) wr).drew (fun _ _ h => h)
        have e : ({ R with safe := putAll (keptOf keep (R.pend.take j) 0) R.safe } : RM).safe.length = R.safe.length := hlen
        have hrd' : RefRows B O wr.drew b { R with safe := putAll (keptOf keep (R.pend.take j) 0) R.safe } (.slice (some ⟨sg, 0, none⟩) ({ R with safe := putAll (keptOf keep (R.pend.take j) 0) R.safe } : RM).safe.length sc) (.slice (some ⟨ag, 0, none⟩) n ac) (.slice (some ⟨bg, 0, none⟩) n bc) vs' us := by rw [e]; exact hrd
        have hset := hrd'.setSafe k (by rw [e]; omega) (hsec.upd (Upd.refl (fun _ => False) wr).drew (fun _ _ _ h => h))
        refine ⟨vs'.set k us[j], ?_, hu.drew.then hset.2 (fun _ _ h => h)⟩
        have := hset.1
        rw [e] at this
        have e5 : (putAll (keptOf keep (R.pend.take j) 0) R.safe).set k p.2 = putAll (keptOf keep (R.pend.take j) 0 ++ [p]) R.safe := by rw [putAll_snoc, hk, Int.toNat_natCast]
        rw [← e5]
        exact this
      have hstay : RPut B O w b R (some ⟨sg, 0, none⟩) sc (.slice (some ⟨ag, 0, none⟩) n ac) (.slice (some ⟨bg, 0, none⟩) n bc) us (keptOf keep (R.pend.take j) 0) wr := ⟨vs', hr, hu⟩
      have c0 : wr.cell? ⟨b, 0, none⟩ = some (.slice (some ⟨sg, 0, none⟩) s0 sc) := by rw [hs0]; exact hr.blk.cell 0
      have c2 : wr.cell? ⟨b, 2, none⟩ = some (.slice (some ⟨bg, 0, none⟩) n bc) := hr.blk.cell 2
      have hpu : plainV us[j] = true := by obtain ⟨g, _, e, _⟩ := hsec; rw [e]; rfl
      rw [← hp, hk] at hca
      have HPUT := Lib.hid hput
      have HSTAY := Lib.hid hstay
      have HKEPT := Lib.hid hkept
      have HUR := Lib.hid hu
      generalize us[j] = uj at hcb hpu HPUT
      have HPU := Lib.hid hpu
      generalize vs'[k] = vk at hcs
      have HS3 := Lib.hid (show wr.drew.cell? ⟨b, 0, none⟩ = some (.slice (some ⟨sg, 0, none⟩) s0 sc) ∧ wr.drew.cell? ⟨b, 2, none⟩ = some (.slice (some ⟨bg, 0, none⟩) n bc) ∧ wr.drew.cell? ⟨bg, j, none⟩ = some uj from ⟨c0, c2, hcb⟩)
      have HCS' := Lib.hid (show wr.drew.cell? ⟨sg, k, none⟩ = some vk from hcs)
      have HFS' := Lib.hid (show wr.drew.frozen? ⟨sg, k, none⟩ = false from hfs)
      clear hr hu hmem hat hk hlen hrs hsc hac hbc hvl hul hsec htk htl hkept hput hstay c0 c2 hcb hpu hcs hfs hp hs0 hjl
      by_cases hkj : j < kn
      · have hkj' : j < keep.length := by rw [← HKN.out]; exact hkj
        obtain ⟨kb, ko, rfl, hcell⟩ := HKC.out (by omega)
        have hgd : keep.getD j false = keep[j] := by simp [List.getD, hkj']
        have hkcell : wr.cell? ⟨kb, ko + j, none⟩ = some (.bool keep[j]) := HUR.out.cell (hcell j hkj') (fun h => HKO.out (by omega) kb rfl h)
        have HGD := Lib.hid hgd
        clear hcell hgd
        generalize hkb : keep[j] = kbj at hkcell HGD
        clear hkb hkj'
        cases kbj
        · go_wp2_with fail
          go_roundg (n - (j + 1))
          case measure => omega
          case rel =>
            have e := HKEPT.out
            rw [HGD.out] at e
            simp only [Bool.false_eq_true, if_false, List.append_nil] at e
            exact ⟨j + 1, by go_num, by omega, by rw [e, HM.out], by rw [e]; have := HM.out; omega, by rw [e]; exact HSTAY.out⟩
        · go_wp2_with fail
          refine wp_region_pl (by kernel_rfl) (fun W => W.cell? ⟨b, 0, none⟩ = some (.slice (some ⟨sg, 0, none⟩) s0 sc) ∧ W.cell? ⟨b, 2, none⟩ = some (.slice (some ⟨bg, 0, none⟩) n bc) ∧ W.cell? ⟨bg, j, none⟩ = some uj) 13 [(0, 0), (1, 0), (2, 0), (3, 1), (4, 0), (5, 0), (6, 0), (7, 0), (8, 1), (9, 0), (10, 0), (11, 1), (12, 0), (13, 3)] (by kernel_rfl) (by kernel_rfl) (fun _ _ _ _ _ h => h) (HS3.out) ?_
          generalize hfr : (Act.mk _ _) = a0
          have hsz : a0.tmps.size = 57 := by rw [← hfr]; rfl
          have e0 : a0.eval (.tmp 0) = .pointer (some ⟨b, 0, none⟩) := by rw [← hfr]; rfl
          have e6 : a0.eval (.tmp 6) = .int .i64 j := by rw [← hfr]; rfl
          have e7 : a0.eval (.tmp 7) = .int .i64 k := by rw [← hfr]; rfl
          refine pl_pure (.pointer (some ⟨b, 0, none⟩)) rfl (wanted_none rfl) (fun W => exec_move (.tmp 0) rfl (by simp [ev_put, sz_put, hsz, e0])) ?_
          refine pl_pure (.pointer (some ⟨b, 0, none⟩)) rfl (wanted_none rfl) (fun W => exec_nil (.tmp 28) rfl (by simp [ev_put, sz_put, hsz])) ?_
          refine pl_pure (.pointer (some ⟨b, 0, none⟩)) rfl (wanted_none rfl) (fun W => exec_field 90 (.tmp 29) 0 0 64 rfl (by simp [ev_put, sz_put, hsz]) Tryd.underlying90 rfl (by kernel_rfl)) ?_
          refine pl_held (.slice (some ⟨sg, 0, none⟩) s0 sc) rfl (wanted_none rfl) (fun W hW => exec_load1 64 (.tmp 30) rfl (by simp [ev_put, sz_put, hsz]) Tryd.underlying64 rfl (hW.1)) ?_
          refine pl_pure (.int .i64 k) rfl (wanted_none rfl) (fun W => exec_move (.tmp 7) rfl (by simp [ev_put, sz_put, hsz, e7])) ?_
          refine pl_pure (.pointer (some ⟨b, 0, none⟩)) rfl (wanted_none rfl) (fun W => exec_move (.tmp 0) rfl (by simp [ev_put, sz_put, hsz, e0])) ?_
          refine pl_pure (.pointer (some ⟨b, 0, none⟩)) rfl (wanted_none rfl) (fun W => exec_nil (.tmp 33) rfl (by simp [ev_put, sz_put, hsz])) ?_
          refine pl_pure (.pointer (some ⟨b, 2, none⟩)) rfl (wanted_none rfl) (fun W => exec_field 90 (.tmp 34) 2 2 64 rfl (by simp [ev_put, sz_put, hsz]) Tryd.underlying90 rfl (by kernel_rfl)) ?_
          refine pl_held (.slice (some ⟨bg, 0, none⟩) n bc) rfl (wanted_none rfl) (fun W hW => exec_load1 64 (.tmp 35) rfl (by simp [ev_put, sz_put, hsz]) Tryd.underlying64 rfl (hW.2.1)) ?_
          refine pl_pure (.int .i64 j) rfl (wanted_none rfl) (fun W => exec_move (.tmp 6) rfl (by simp [ev_put, sz_put, hsz, e6])) ?_
          refine pl_pure (.pointer (some ⟨bg, j, none⟩)) rfl (wanted_none rfl) (fun W => exec_index0 64 (.tmp 36) (.tmp 37) rfl Tryd.underlying64 (n := n) (c := bc) (k := .i64) (j := j) (by simp [ev_put, sz_put, hsz]) (by simp [ev_put, sz_put, hsz]) (hlt) (by kernel_rfl)) ?_
          refine pl_held (uj) rfl (wanted_none rfl) (fun W hW => exec_load1 33 (.tmp 38) rfl (by simp [ev_put, sz_put, hsz]) Tryd.underlying33 rfl (hW.2.2)) ?_
          refine pl_pure (.pointer (some ⟨sg, k, none⟩)) rfl (wanted_none rfl) (fun W => exec_index0 64 (.tmp 31) (.tmp 32) rfl Tryd.underlying64 (n := s0) (c := sc) (k := .i64) (j := k) (by simp [ev_put, sz_put, hsz]) (by simp [ev_put, sz_put, hsz]) (hkl) (by kernel_rfl)) ?_
          refine pl_store rfl (wanted_none rfl) (exec_store1 33 (.tmp 40) (.tmp 39) rfl (by simp [ev_put, sz_put, hsz]) (by simp [ev_put, sz_put, hsz]) (by kernel_rfl) HPU.out HCS'.out HFS'.out) ?_
          refine pl_done ?_
          rw [← hfr]
          simp only [Act.put, List.setIfInBounds_toArray, List.set_cons_zero, List.set_cons_succ]
          clear hfr hsz e0 e6 e7
          go_wp2_with fail
          go_roundg (n - (j + 1))
          case measure => omega
          case rel =>
            have e := HKEPT.out
            rw [HGD.out] at e
            simp only [if_true] at e
            exact ⟨j + 1, by go_num, by omega, by rw [e, List.length_append, ← HM.out]; go_num, by rw [e, List.length_append, ← HM.out]; simp; omega, by rw [e]; exact HPUT.out⟩
      · have hgd : keep.getD j false = false := by have := HKN.out; simp [List.getD, show keep.length ≤ j by omega]
        have HGD := Lib.hid hgd
        clear hgd
        go_wp2_with fail
        go_roundg (n - (j + 1))
        case measure => omega
        case rel =>
          have e := HKEPT.out
          rw [HGD.out] at e
          simp only [Bool.false_eq_true, if_false, List.append_nil] at e
          exact ⟨j + 1, by go_num, by omega, by rw [e, HM.out], by rw [e]; have := HM.out; omega, by rw [e]; exact HSTAY.out⟩
    · have hjn : j = n := by omega
      subst hjn
      obtain ⟨vs', hr, hu⟩ := hl
      have c1 : wr.cell? ⟨b, 1, none⟩ = some (.slice AA j ac) := hr.blk.cell 1
      have c2 : wr.cell? ⟨b, 2, none⟩ = some (.slice BA j bc) := hr.blk.cell 2
      have c3 : wr.cell? ⟨b, 3, none⟩ = some (.int .i64 R.left) := hr.blk.cell 3
      have c4 : wr.cell? ⟨b, 4, none⟩ = some (.bool R.off) := hr.blk.cell 4
      have f1 := hr.blk.froz 1
      have f2 := hr.blk.froz 2
      have f3 := hr.blk.froz 3
      have f4 := hr.blk.froz 4
      have HR := Lib.hid hr
      have HUR := Lib.hid hu
      clear hr hu
      go_wp2_with fail
      go_ret
      have hr := HR.out
      have hu2 : Upd (fun k => k = b) wr ((((wr.setCell ⟨b, 1, none⟩ (.slice none 0 0)).setCell ⟨b, 2, none⟩ (.slice none 0 0)).setCell ⟨b, 3, none⟩ (.int .i64 (-1))).setCell ⟨b, 4, none⟩ (.bool false)) :=
        ((((Upd.refl (fun k => k = b) wr).setCell (p := ⟨b, 1, none⟩) (fun _ => rfl) _).setCell (p := ⟨b, 2, none⟩) (fun _ => rfl) _).setCell (p := ⟨b, 3, none⟩) (fun _ => rfl) _).setCell (p := ⟨b, 4, none⟩) (fun _ => rfl) _
      have eall : R.pend.take j = R.pend := by rw [HN.out, List.take_of_length_le (Nat.le_refl _)]
      have hmm := HM.out
      rw [eall] at hr hmm
      obtain ⟨o1, o2, o3, o4, o5, o6, o7⟩ := hr.ok
      refine ⟨by rw [hmm]; rfl, ⟨_, _, _, _, _, hr.wipe (R' := { R with safe := putAll (keptOf keep R.pend 0) R.safe, pend := [], left := -1, off := false }) hu2 ⟨o1, o2, by show (-1 : Int) ≤ -1; omega, by show (-1 : Int) ≤ _; omega, by show (0 : Nat) < _; omega, o6, fun p hp => by cases hp⟩ rfl rfl ((((hr.blk.set 1 _).set 2 _).set 3 _).set 4 _)⟩, ?_⟩
      exact HUR.out.then hu2 (fun k _ e => by subst e; exact HOB.out)
end Go.Proofs.YtlkmpjanchhahaaDoor
