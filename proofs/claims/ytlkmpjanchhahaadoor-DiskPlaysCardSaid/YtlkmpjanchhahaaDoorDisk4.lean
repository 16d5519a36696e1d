/- The contract of (*disk.Disk).Crash. -/
import Derived.Test.YtlkmpjanchhahaaDoorDisk3
namespace Go.Proofs.YtlkmpjanchhahaaDoor
open Go.RowKit
set_option linter.unusedSimpArgs false
set_option linter.unusedVariables false

/-- Those of the writes l that are kept: from place n on. -/
def keptOf (keep : List Bool) : List (Int × List UInt8) → Nat → List (Int × List UInt8)
  | [], _ => []
  | p :: l, n => if keep.getD n false then p :: keptOf keep l (n + 1) else keptOf keep l (n + 1)
theorem keptOf_append (keep : List Bool) (p : Int × List UInt8) : ∀ (l : List (Int × List UInt8)) (n : Nat), keptOf keep (l ++ [p]) n = keptOf keep l n ++ (if keep.getD (n + l.length) false then [p] else [])
  | [], n => by simp [keptOf]
  | q :: l, n => by
    have ih := keptOf_append keep p l (n + 1)
    have e : n + 1 + l.length = n + (q :: l).length := by simp; omega
    rw [e] at ih
    simp only [List.cons_append, keptOf, ih]
    split <;> rfl
theorem keptOf_mem (keep : List Bool) : ∀ (l : List (Int × List UInt8)) (n : Nat), ∀ p ∈ keptOf keep l n, p ∈ l
  | [], n, p, h => by simp [keptOf] at h
  | q :: l, n, p, h => by
    unfold keptOf at h
    split at h
    · rcases List.mem_cons.1 h with rfl | h
      · simp
      · exact List.mem_cons_of_mem _ (keptOf_mem keep l _ p h)
    · exact List.mem_cons_of_mem _ (keptOf_mem keep l _ p h)
theorem keptOf_length (keep : List Bool) : ∀ (l : List (Int × List UInt8)) (n : Nat), (keptOf keep l n).length ≤ l.length
  | [], n => by simp [keptOf]
  | q :: l, n => by
    have := keptOf_length keep l (n + 1)
    unfold keptOf
    split <;> simp <;> omega

set_option maxRecDepth 20000 in
set_option maxHeartbeats 2000000 in
theorem crash_on (b m : Nat) (pv : Value) (sf l : List (Int × List UInt8)) (B : Nat) (sz lf dd : Int) (off : Bool) (w : World) (kv : Value) (keep : List Bool)
    (h7 : Blk w b 79 #[.int .i64 sz, .map (some m), pv, .int .i64 lf, .bool off, .int .i64 dd]) (h8 : MapAt w m sf) (h9 : w.ownsRow B 85 33 pv l.length (wcells l)) (hl : ∀ p ∈ l, p.2.length = 32) (hn : l.length < 1000000)
    (hk : BoolsR w kv keep) (hkm : 0 < keep.length → kv.ownBlock ≠ some m) :
    Calls Tryd.prog 17 #[.pointer (some ⟨b, 0, none⟩), kv] w fun r w' => r = .returned (.int .i64 (keptOf keep l 0).length) ∧ MapAt w' m ((keptOf keep l 0).foldl keepIn sf) ∧ Upd (fun k => k = m ∨ k = b) w w' ∧
      Blk w' b 79 #[.int .i64 sz, .map (some m), .slice none 0 0, .int .i64 (-1), .bool false, .int .i64 dd] := by
  obtain ⟨A, c, rfl⟩ := own_shape h9
  obtain ⟨ka, kc, rfl, hkc⟩ := hk
  have hmb : m ≠ b := h8.ne h7
  have hrm := own_ne_map h9 h8
  have c2 : w.cell? ⟨b, 2, none⟩ = some (.slice A l.length c) := h7.cell 2
  obtain ⟨n, hnl⟩ : ∃ n, n = l.length := ⟨_, rfl⟩
  obtain ⟨kn, hkn⟩ : ∃ kn, kn = keep.length := ⟨_, rfl⟩
  have H9 := Lib.hid h9
  have H7 := Lib.hid h7
  have H8 := Lib.hid h8
  have HK := Lib.hid hkc
  have HKN := Lib.hid hkn
  rw [← hnl] at c2 hn
  rw [← hkn]
  have HN := Lib.hid hnl
  have HL := Lib.hid hl
  clear h9 hnl hl h7 h8 hkc hkn
  go_enter Tryd.func17, Tryd.ntmps17
  go_wp2_with fail
  go_loopg [13, 5] n (fun k p q wr => ∃ j : Nat, p = .int .i64 j ∧ q = .int .i64 (keptOf keep (l.take j) 0).length ∧ j + k = n ∧ MapAt wr m ((keptOf keep (l.take j) 0).foldl keepIn sf) ∧ Upd (fun k => k = m) w wr)
  case atStart => exact ⟨0, rfl, rfl, by omega, H8.out, Upd.refl _ _⟩
  case round =>
    obtain ⟨j, rfl, rfl, hj, hmap, hupd⟩ := hrel
    have HU := Lib.hid hupd
    have HMAP := Lib.hid hmap
    have hb7 : Blk wr b 79 #[.int .i64 sz, .map (some m), .slice A n c, .int .i64 lf, .bool off, .int .i64 dd] := by rw [HN.out]; exact H7.out.upd hupd (fun e => hmb e.symm)
    have HB7 := Lib.hid hb7
    have hlen0 := keptOf_length keep (l.take j) 0
    have hlen1 : (l.take j).length ≤ j := List.length_take_le _ _
    obtain ⟨many, hmany⟩ : ∃ q, q = (keptOf keep (l.take j) 0).length := ⟨_, rfl⟩
    have hmb2 : many ≤ j := by omega
    have HMN := Lib.hid hmany
    rw [← hmany]
    clear hlen0 hlen1 hmany
    by_cases hlt : j < n
    · have hjl : j < l.length := by rw [← HN.out]; exact hlt
      obtain ⟨g, hA⟩ : ∃ g, A = some ⟨g, 0, none⟩ := by
        rcases H9.out.2 with ⟨e, h0⟩ | ⟨g, cap, cur, e, _⟩
        · omega
        · injection e with e1; exact ⟨g, e1⟩
      subst hA
      have hrg : wr.rangeAt g (j * 33) (wcell l[j]) := row_range (ownsRow_upd H9.out hupd (fun k hk e => hrm (by rw [hk, e]))) HL.out j hjl
      have hp32 := HL.out l[j] (List.getElem_mem hjl)
      have htake : l.take (j + 1) = l.take j ++ [l[j]] := by rw [List.take_succ_eq_append_getElem hjl]
      have htl : (l.take j).length = j := by simp; omega
      obtain ⟨p, hxs⟩ : ∃ q, q = l[j] := ⟨_, rfl⟩
      rw [← hxs] at hrg hp32 htake
      have hkept : keptOf keep (l.take (j + 1)) 0 = keptOf keep (l.take j) 0 ++ (if keep.getD j false then [p] else []) := by rw [htake, keptOf_append]; simp [htl]
      have HT := Lib.hid hkept
      have HP := Lib.hid hp32
      have hwl : (wcell p).length = 33 := wcell_length hp32
      have HLW := Lib.hid hwl
      have hblk : Blk (wr.alloc (.cells (wcell p).toArray 85)) wr.heap.size 85 (wcell p).toArray := Blk.new _ _ _
      have hrg2 := blk_range0 hp32 hblk
      have hmap2 : MapAt (wr.alloc (.cells (wcell p).toArray 85)) m ((keptOf keep (l.take j) 0).foldl keepIn sf) := hmap.upd (S := fun _ => False) ((Upd.refl _ _).alloc _) (fun h => h)
      have hkr := keep_raw b m p hp32 _ (wr.alloc (.cells (wcell p).toArray 85)) ((hb7.alloc _).cell 1) hmap2
      have hua : Upd (fun k => k = m) w (wr.alloc (.cells (wcell p).toArray 85)) := hupd.alloc _
      have HUA := Lib.hid hua
      have HM2 := Lib.hid hmap2
      clear hxs htake hp32 hwl hblk hupd hmap hmap2 hb7 htl hkept
      by_cases hkj : j < kn
      · have hkj' : j < keep.length := by rw [← HKN.out]; exact hkj
        obtain ⟨kb, ko, rfl, hcell⟩ := HK.out (by omega)
        have hgd : keep.getD j false = keep[j] := by simp [List.getD, hkj']
        have hkcell : (wr.alloc (.cells (wcell p).toArray 85)).cell? ⟨kb, ko + j, none⟩ = some (.bool keep[j]) := HUA.out.cell (hcell j hkj') (fun e => hkm (by omega) (by rw [← e]; rfl))
        cases hbj : keep[j] with
        | true =>
          rw [hbj] at hkcell hgd
          rw [hgd] at HT
          have HG := Lib.hid hgd
          clear hcell hgd hbj hua HK
          go_wp2_with (first
            | (refine wpl_load rfl 85 _ rfl g (j * 33) rfl (wcell p) _ hrg Tryd.underlying85 rfl (by rw [HLW.out]; exact size85) ?_)
            | (refine wpl_load rfl 85 _ rfl wr.heap.size 0 rfl (wcell p) _ hrg2 Tryd.underlying85 rfl (by rw [HLW.out]; exact size85) ?_)
            | (refine wpl_alloc rfl 85 rfl _ (zero85 _) ?_)
            | (refine wpl_store_new rfl 85 _ _ rfl wr (wcell (0, zero32)) 85 rfl rfl (wcell p) rfl (by rw [HLW.out, wcell_length (by simp [zero32])]) (by rw [HLW.out]; exact size85) (wcell_one _) ?_)
            | (go_at_call 50; refine hkr.mono ?_; rintro r w' ⟨rfl, hm', hu'⟩))
          go_roundg (n - (j + 1))
          case measure => omega
          case rel =>
            refine ⟨j + 1, by go_num, ?_, by omega, ?_, HUA.out.trans hu'⟩
            · rw [HT.out, HMN.out]; simp
            · rw [HT.out]; simp only [if_true, List.foldl_append]; exact hm'
        | false =>
          rw [hbj] at hkcell hgd
          rw [hgd] at HT
          clear hcell hgd hbj hua HK hkr
          go_wp2_with (first
            | (refine wpl_load rfl 85 _ rfl g (j * 33) rfl (wcell p) _ hrg Tryd.underlying85 rfl (by rw [HLW.out]; exact size85) ?_)
            | (refine wpl_alloc rfl 85 rfl _ (zero85 _) ?_)
            | (refine wpl_store_new rfl 85 _ _ rfl wr (wcell (0, zero32)) 85 rfl rfl (wcell p) rfl (by rw [HLW.out, wcell_length (by simp [zero32])]) (by rw [HLW.out]; exact size85) (wcell_one _) ?_))
          go_roundg (n - (j + 1))
          case measure => omega
          case rel =>
            refine ⟨j + 1, by go_num, ?_, by omega, ?_, HUA.out⟩
            · rw [HT.out, HMN.out]; simp
            · rw [HT.out]; simp only [Bool.false_eq_true, if_false, List.append_nil]; exact HM2.out
      · have hkj' : ¬ j < keep.length := by rw [← HKN.out]; exact hkj
        have hgd : keep.getD j false = false := by simp [List.getD, List.getElem?_eq_none (show keep.length ≤ j by omega)]
        rw [hgd] at HT
        clear hgd hua HK hkr hkj'
        go_wp2_with (first
          | (refine wpl_load rfl 85 _ rfl g (j * 33) rfl (wcell p) _ hrg Tryd.underlying85 rfl (by rw [HLW.out]; exact size85) ?_)
          | (refine wpl_alloc rfl 85 rfl _ (zero85 _) ?_)
          | (refine wpl_store_new rfl 85 _ _ rfl wr (wcell (0, zero32)) 85 rfl rfl (wcell p) rfl (by rw [HLW.out, wcell_length (by simp [zero32])]) (by rw [HLW.out]; exact size85) (wcell_one _) ?_))
        go_roundg (n - (j + 1))
        case measure => omega
        case rel =>
          refine ⟨j + 1, by go_num, ?_, by omega, ?_, HUA.out⟩
          · rw [HT.out, HMN.out]; simp
          · rw [HT.out]; simp only [Bool.false_eq_true, if_false, List.append_nil]; exact HM2.out
    · have hjn : j = n := by omega
      subst hjn
      have htk : l.take j = l := List.take_of_length_le (by rw [← HN.out]; exact Nat.le_refl _)
      have HT := Lib.hid htk
      have c2' : wr.cell? ⟨b, 2, none⟩ = some (.slice A j c) := hb7.cell 2
      have f2' := hb7.froz 2
      have c3' : wr.cell? ⟨b, 3, none⟩ = some (.int .i64 lf) := hb7.cell 3
      have f3' := hb7.froz 3
      have c4' : wr.cell? ⟨b, 4, none⟩ = some (.bool off) := hb7.cell 4
      have f4' := hb7.froz 4
      clear htk hb7 hmap hupd
      go_wp2
      go_ret
      have u4 : Upd (fun k => k = b) wr (((wr.setCell ⟨b, 2, none⟩ (.slice none 0 0)).setCell ⟨b, 3, none⟩ (.int .i64 (-1))).setCell ⟨b, 4, none⟩ (.bool false)) :=
        (((Upd.refl (fun k => k = b) wr).setCell (p := ⟨b, 2, none⟩) (fun _ => rfl) _).setCell (p := ⟨b, 3, none⟩) (fun _ => rfl) _).setCell (p := ⟨b, 4, none⟩) (fun _ => rfl) _
      refine ⟨?_, ?_, ?_, ((HB7.out.set 2 _).set 3 _).set 4 _⟩
      · rw [HMN.out, HT.out]; rfl
      · rw [← HT.out]; exact HMAP.out.upd u4 hmb
      · exact (HU.out.mono (fun k _ e => .inl e)).trans (u4.mono (fun k _ e => .inr e))

def DM.crash (D : DM) (keep : List Bool) : Nat × DM := ((keptOf keep D.pend 0).length, { D with safe := (keptOf keep D.pend 0).foldl keepIn D.safe, pend := [], left := -1, off := false })

theorem crash_c (B : Nat) (O : Nat → Prop) (w : World) (b : Nat) (D : DM) (h : DiskIn B O w b D) (kv : Value) (keep : List Bool) (hk : BoolsR w kv keep) (hkO : 0 < keep.length → ∀ k, kv.ownBlock = some k → ¬ O k) :
    Calls Tryd.prog 17 #[.pointer (some ⟨b, 0, none⟩), kv] w fun r w' => r = .returned (.int .i64 (D.crash keep).1) ∧ DiskIn B O w' b (D.crash keep).2 ∧ Upd O w w' := by
  obtain ⟨m, pv, h1, h2, h3, h4, h5, h6, h7, h8, h9⟩ := h
  refine (crash_on b m pv D.safe D.pend B D.size D.left D.deeds D.off w kv keep h7 h8 h9 h6.full h6.pend hk (fun hp e => hkO hp m e h2)).mono ?_
  rintro r w' ⟨rfl, hm, hu, hb⟩
  refine ⟨rfl, ⟨m, .slice none 0 0, h1, h2, (fun k hk => by simp [Value.ownBlock] at hk), h4, (fun k hk => Nat.lt_of_lt_of_le (h5 k hk) hu.size), ?_, hb, hm, World.ownsRow_nil _ _ _ _⟩, ?_⟩
  · exact ⟨h6.deeds0, h6.deeds1, by show -1 ≤ (-1 : Int); omega, by show (-1 : Int) ≤ _; omega, by show ([] : List (Int × List UInt8)).length < _; simp, (by intro p hp; cases hp), foldl_keep_full _ _ h6.sfull (fun p hp => h6.full p (keptOf_mem _ _ _ p hp))⟩
  · refine hu.mono ?_
    rintro k _ (rfl | rfl)
    · exact h2
    · exact h1
end Go.Proofs.YtlkmpjanchhahaaDoor
