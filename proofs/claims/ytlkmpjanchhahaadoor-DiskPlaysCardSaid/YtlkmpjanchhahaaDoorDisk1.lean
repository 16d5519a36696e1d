/- The contracts of disk.New, Safe, Read, keep. -/
import Derived.Test.YtlkmpjanchhahaaDoorDisk0
import Derived.Deep.QuietTactic
import Derived.BigQuiet
import Derived.Deep.RegionHeld3
import Derived.Deep.LoopGhost
namespace Go.Proofs.YtlkmpjanchhahaaDoor
open Go.RowKit
set_option linter.unusedSimpArgs false
set_option linter.unusedVariables false

theorem zero82 (w : World) : (zeroValue 82).run Tryd.prog w = .ok (.agg (u8s zero32).toArray) w := by kernel_rfl
theorem zero85 (w : World) : (zeroValue 85).run Tryd.prog w = .ok (.agg (wcell (0, zero32)).toArray) w := by kernel_rfl
theorem build82 (w : World) : (Instr.build 82 #[]).run Tryd.prog w = .ok (.agg (u8s zero32).toArray) w := by kernel_rfl
theorem build85 (i : Int) (w : World) : (Instr.build 85 #[(0, .int .i64 i)]).run Tryd.prog w = .ok (.agg (wcell (i, zero32)).toArray) w := by kernel_rfl
theorem size82 : (Tryd.prog.info? 82).map (·.size) = some 32 := by kernel_rfl
theorem size85 : (Tryd.prog.info? 85).map (·.size) = some 33 := by kernel_rfl
theorem size5 : (Tryd.prog.info? 5).map (·.size) = some 1 := by kernel_rfl

theorem wcell_length {p : Int × List UInt8} (h : p.2.length = 32) : (wcell p).length = 33 := by simp [wcell, u8s_length, h]
theorem wcell_one (p : Int × List UInt8) : ∀ v ∈ wcell p, v.oneCell' = true := by
  intro v hv
  rcases List.mem_cons.1 hv with rfl | hv
  · rfl
  · exact u8s_one _ v hv
theorem mget_length {l : List (Int × List UInt8)} (h : ∀ p ∈ l, p.2.length = 32) (i : Int) : (mget l i).length = 32 := by
  unfold mget
  cases hf : mfind i l 0 with
  | none => simp [zero32_length]
  | some q =>
    obtain ⟨j, s⟩ := q
    obtain ⟨_, _, hl⟩ := findNow_lt i l 0 j s hf
    exact h (i, s) (List.mem_of_getElem? hl)

section
variable {ops : Array Oper} {rest : List Oper} {o : Oper} {a : Act} {w : World} {Q : Exit → Act → World → Prop}
theorem wpl_look (hg : o.guard = none) (x ix : Operand) (hop : o.op = .lookup 76 x ix false) (m : Nat) (l : List (Int × List UInt8)) (hm : MapAt w m l) (i : Int) (hx : a.eval x = .map (some m)) (hi : a.eval ix = .int .i64 i)
    (h : wpList Tryd.prog ops Q rest (a.put o.dst (.agg (u8s (mget l i)).toArray)) w) : wpList Tryd.prog ops Q (o :: rest) a w := by
  refine wpl_val hg (v := .agg (u8s (mget l i)).toArray) (w' := w) ?_ h
  simp only [execOp, hop, hx, hi]
  rw [Sem.run_bind, run_look hm Tryd.underlying76 Tryd.underlying3 (zero82 w) i]
  rfl
end

def DM.has (D : DM) (i : Int) : Bool := decide (0 ≤ i) && decide (i < D.size)
/-- A slice of just the bytes l, at the head of a block of its own. -/
def BytesAt (w : World) (v : Value) (l : List UInt8) : Prop := ∃ g t, v = .slice (some ⟨g, 0, none⟩) l.length l.length ∧ Blk w g t (u8s l).toArray

theorem safe_c (ea : Nat → Addr) (B : Nat) (O : Nat → Prop) (w : World) (b : Nat) (D : DM) (h : DiskIn B O w b D) (hE : Errs ea B w) (i : Int) :
    Calls Tryd.prog 18 #[.pointer (some ⟨b, 0, none⟩), .int .i64 i] w fun r w' => ∃ v, r = .returned (.tuple #[v, ev ea (if D.has i then none else some 0)]) ∧
      (if D.has i then BytesAt w' v (mget D.safe i) else v = .slice none 0 0) ∧ Upd (fun _ => False) w w' := by
  obtain ⟨m, pv, h1, h2, h3, h4, h5, h6, h7, h8, h9⟩ := h
  have := hE.big
  have v0 := hE.var 0 (by omega)
  have c0 : w.cell? ⟨b, 0, none⟩ = some (.int .i64 D.size) := h7.cell 0
  have c1 : w.cell? ⟨b, 1, none⟩ = some (.map (some m)) := h7.cell 1
  have hl := mget_length h6.sfull i
  have hhas := has_c b i D.size w c0
  cases hh : D.has i with
  | false =>
    unfold DM.has at hh
    rw [hh] at hhas
    suffices Calls Tryd.prog 18 #[.pointer (some ⟨b, 0, none⟩), .int .i64 i] w fun r w' => r = .returned (.tuple #[.slice none 0 0, .iface 116 (.pointer (some (ea 0)))]) ∧ Upd (fun _ => False) w w' from
      this.mono (by rintro r w' ⟨rfl, hu⟩; exact ⟨_, rfl, rfl, hu⟩)
    clear h1 h2 h3 h4 h5 h6 h7 h8 h9 hE hl hh
    go_enter Tryd.func18, Tryd.ntmps18
    go_wp2_with (go_at_call 51; refine hhas.mono ?_; rintro e w' ⟨rfl, rfl⟩)
    go_quiet (fail)
    go_wp2
    go_ret2
    exact ⟨rfl, (Upd.refl _ _).drewN _⟩
  | true =>
    unfold DM.has at hh
    rw [hh] at hhas
    suffices Calls Tryd.prog 18 #[.pointer (some ⟨b, 0, none⟩), .int .i64 i] w fun r w' => r = .returned (.tuple #[.slice (some ⟨w.heap.size, 0, none⟩) 32 32, .nilIface]) ∧ w' = w.alloc (.cells (u8s (mget D.safe i)).toArray 82) from
      this.mono (by rintro r w' ⟨rfl, rfl⟩; exact ⟨_, rfl, ⟨_, _, by rw [hl], Blk.new _ _ _⟩, (Upd.refl _ _).alloc _⟩)
    have hsz : (u8s (mget D.safe i)).length = 32 := by rw [u8s_length, hl]
    clear h1 h2 h3 h4 h5 h6 h7 h9 hE hl hh
    go_enter Tryd.func18, Tryd.ntmps18
    go_wp2_with (first
      | (go_at_call 51; refine hhas.mono ?_; rintro e w' ⟨rfl, rfl⟩)
      | (refine wpl_look rfl _ _ rfl m D.safe h8 i rfl rfl ?_)
      | (refine wpl_alloc rfl 82 rfl _ (zero82 _) ?_)
      | (refine wpl_store_new rfl 82 _ _ rfl w (u8s zero32) 82 rfl rfl (u8s (mget D.safe i)) rfl (by rw [hsz, u8s_length, zero32_length]) (by rw [hsz]; exact size82) (u8s_one _) ?_))
    go_ret2
    exact ⟨rfl, rfl⟩

/-- What of the writes l comes last at sector i, over s. -/
def lastOf (i : Int) (l : List (Int × List UInt8)) (s : List UInt8) : List UInt8 := l.foldl (fun s p => if p.1 = i then p.2 else s) s
theorem lastOf_snoc (i : Int) (l : List (Int × List UInt8)) (p : Int × List UInt8) (s : List UInt8) : lastOf i (l ++ [p]) s = if p.1 = i then p.2 else lastOf i l s := by simp [lastOf]
theorem lastOf_length (i : Int) (l : List (Int × List UInt8)) (s : List UInt8) (hl : ∀ p ∈ l, p.2.length = 32) (hs : s.length = 32) : (lastOf i l s).length = 32 := by
  unfold lastOf
  induction l generalizing s with
  | nil => exact hs
  | cons p l ih =>
    simp only [List.foldl_cons]
    refine ih _ (fun q hq => hl q (by simp [hq])) ?_
    split
    · exact hl p (by simp)
    · exact hs
def DM.seen (D : DM) (i : Int) : List UInt8 := lastOf i D.pend (mget D.safe i)

theorem wcells_length (l : List (Int × List UInt8)) (hl : ∀ p ∈ l, p.2.length = 32) : (wcells l).length = l.length * 33 := by
  induction l with
  | nil => rfl
  | cons p l ih =>
    have h1 := wcell_length (hl p (by simp))
    have h2 := ih (fun q hq => hl q (by simp [hq]))
    simp only [wcells, List.map_cons, List.flatten_cons, List.length_append, List.length_cons] at *
    rw [h1, h2]; omega
theorem wcells_snoc (l : List (Int × List UInt8)) (p : Int × List UInt8) : wcells (l ++ [p]) = wcells l ++ wcell p := by simp [wcells]
theorem wcells_at (l : List (Int × List UInt8)) (hl : ∀ p ∈ l, p.2.length = 32) (j : Nat) (hj : j < l.length) (k : Nat) (hk : k < 33) : (wcells l)[j * 33 + k]? = (wcell l[j])[k]? := by
  induction l generalizing j with
  | nil => simp at hj
  | cons p l ih =>
    have h1 := wcell_length (hl p (by simp))
    simp only [wcells, List.map_cons, List.flatten_cons] at *
    cases j with
    | zero =>
      rw [List.getElem?_append_left (by omega)]
      simp
    | succ j =>
      rw [List.getElem?_append_right (by omega), h1]
      have e : (j + 1) * 33 + k - 33 = j * 33 + k := by omega
      rw [e, ih (fun q hq => hl q (by simp [hq])) j (by simpa using hj)]
      simp
theorem row_range {w : World} {B n c g : Nat} {l : List (Int × List UInt8)} (h : w.ownsRow B 85 33 (.slice (some ⟨g, 0, none⟩) n c) n (wcells l)) (hl : ∀ p ∈ l, p.2.length = 32) (j : Nat) (hj : j < l.length) : w.rangeAt g (j * 33) (wcell l[j]) := by
  intro k v hk
  have hlen := wcell_length (hl l[j] (List.getElem_mem hj))
  have hk' : k < 33 := by have := (List.getElem?_eq_some_iff.1 hk).1; omega
  have := h.cells (g := g) rfl (j * 33 + k) v (by rw [wcells_at l hl j hj k hk']; exact hk)
  rw [Addr.add_mid] at this
  simpa using this

theorem read_on (B b : Nat) (pv : Value) (i : Int) (m : Nat) (sf l : List (Int × List UInt8)) (w : World)
    (c1 : w.cell? ⟨b, 1, none⟩ = some (.map (some m))) (c2 : w.cell? ⟨b, 2, none⟩ = some pv) (c4 : w.cell? ⟨b, 4, none⟩ = some (.bool false))
    (hhas : Calls Tryd.prog 51 #[.pointer (some ⟨b, 0, none⟩), .int .i64 i] w fun e w' => e = .returned (.bool true) ∧ w = w')
    (h8 : MapAt w m sf) (hs32 : (mget sf i).length = 32) (h9 : w.ownsRow B 85 33 pv l.length (wcells l)) (hl : ∀ p ∈ l, p.2.length = 32) (hn : l.length < 1000000) :
    Calls Tryd.prog 19 #[.pointer (some ⟨b, 0, none⟩), .int .i64 i] w fun r w' => r = .returned (.tuple #[.slice (some ⟨w.heap.size, 0, none⟩) 32 32, .nilIface]) ∧
      Blk w' w.heap.size 82 (u8s (lastOf i l (mget sf i))).toArray ∧ Upd (fun _ => False) w w' := by
  obtain ⟨A, c, rfl⟩ := own_shape h9
  have hsz : (u8s (mget sf i)).length = 32 := by rw [u8s_length, hs32]
  have c2a : ∀ o, (w.alloc o).cell? ⟨b, 2, none⟩ = some (.slice A l.length c) := fun o => (World.cell?_alloc_lt w o _ (World.block_lt_of_cell? w _ c2)).trans c2
  obtain ⟨n, hnl⟩ : ∃ n, n = l.length := ⟨_, rfl⟩
  have H9 := Lib.hid h9
  rw [← hnl] at c2 c2a hn
  have HN := Lib.hid hnl
  have HL := Lib.hid hl
  have HS := Lib.hid hs32
  clear h9 hnl hl hs32
  go_enter Tryd.func19, Tryd.ntmps19
  go_wp2_with (first
    | (go_at_call 51; refine hhas.mono ?_; rintro e w' ⟨rfl, rfl⟩)
    | (refine wpl_look rfl _ _ rfl m sf h8 i rfl rfl ?_)
    | (refine wpl_alloc rfl 82 rfl _ (zero82 _) ?_)
    | (refine wpl_store_new rfl 82 _ _ rfl w (u8s zero32) 82 rfl rfl (u8s (mget sf i)) rfl (by rw [hsz, u8s_length, zero32_length]) (by rw [hsz]; exact size82) (u8s_one _) ?_))
  go_loopg [32] n (fun k p wr => ∃ j : Nat, p = .int .i64 j ∧ j + k = n ∧ Blk wr w.heap.size 82 (u8s (lastOf i (l.take j) (mget sf i))).toArray ∧ Upd (fun _ => False) w wr)
  case atStart => exact ⟨0, rfl, by omega, Blk.new _ _ _, (Upd.refl _ _).alloc _⟩
  case round =>
    obtain ⟨j, rfl, hj, hblk, hupd⟩ := hrel
    by_cases hlt : j < n
    · have hjl : j < l.length := by rw [← HN.out]; exact hlt
      obtain ⟨g, hA⟩ : ∃ g, A = some ⟨g, 0, none⟩ := by
        rcases H9.out.2 with ⟨e, h0⟩ | ⟨g, cap, cur, e, _⟩
        · omega
        · injection e with e1; exact ⟨g, e1⟩
      subst hA
      have hrg : wr.rangeAt g (j * 33) (wcell l[j]) := row_range (ownsRow_upd H9.out hupd (fun _ _ h => h)) HL.out j hjl
      have hp32 := HL.out l[j] (List.getElem_mem hjl)
      have htake : l.take (j + 1) = l.take j ++ [l[j]] := by rw [List.take_succ_eq_append_getElem hjl]
      obtain ⟨⟨x, s⟩, hxs⟩ : ∃ q, q = l[j] := ⟨_, rfl⟩
      rw [← hxs] at hrg hp32 htake
      have HT := Lib.hid htake
      have hs : s.length = 32 := hp32
      have hwl : (wcell (x, s)).length = 33 := wcell_length hs
      have HP := Lib.hid hs
      have HLW := Lib.hid hwl
      have hold := lastOf_length i (l.take j) (mget sf i) (fun p hp => HL.out p (List.mem_of_mem_take hp)) HS.out
      have HO := Lib.hid hold
      have hw0 : (wcell (x, s))[0]? = some (.int .i64 x) := rfl
      have hblk1 : ∀ o, Blk (wr.alloc o) w.heap.size 82 (u8s (lastOf i (l.take j) (mget sf i))).toArray := fun o => hblk.alloc o
      have hrg2 : (wr.alloc (.cells (wcell (x, s)).toArray 85)).rangeAt wr.heap.size 1 (u8s s) := by
        have h1 := (Blk.new wr 85 (wcell (x, s)).toArray).range 1 32
        have h2 : ((wcell (x, s)).toArray.toList.drop 1).take 32 = u8s s := by simp [wcell]; rw [List.take_of_length_le (by rw [u8s_length, hs]; exact Nat.le_refl _)]
        rw [h2] at h1
        exact h1
      clear hxs htake hs hwl hold hp32 hblk
      have hB : (x == i) = true ∨ (x == i) = false := by cases (x == i) <;> simp
      rcases hB with hB | hB
      all_goals
        go_wp2_with (first
          | (refine wpl_load rfl 85 _ rfl g (j * 33) rfl (wcell (x, s)) _ hrg Tryd.underlying85 rfl (by rw [HLW.out]; exact size85) ?_)
          | (refine wpl_load rfl 82 _ rfl wr.heap.size 1 rfl (u8s s) _ hrg2 Tryd.underlying82 rfl (by rw [u8s_length, HP.out]; exact size82) ?_)
          | (refine wpl_alloc rfl 85 rfl _ (zero85 _) ?_)
          | (refine wpl_store_new rfl 85 _ _ rfl wr (wcell (0, zero32)) 85 rfl rfl (wcell (x, s)) rfl (by rw [HLW.out, wcell_length (by simp [zero32])]) (by rw [HLW.out]; exact size85) (wcell_one _) ?_)
          | (refine wpl_store_row rfl 82 _ _ rfl w.heap.size rfl (u8s s) rfl 82 _ (hblk1 _) (by rw [List.size_toArray, u8s_length, u8s_length, HO.out, HP.out]) (by rw [u8s_length, HP.out]; exact size82) (u8s_one _) ?_))
        go_roundg (n - (j + 1))
        case measure => omega
        case rel =>
          refine ⟨j + 1, by go_num, by omega, ?_, ?_⟩
          · rw [HT.out, lastOf_snoc]
            first
              | (rw [if_pos (by simpa using hB)]; exact (hblk1 _).setRow _)
              | (rw [if_neg (by simpa using hB)]; exact hblk1 _)
          · first
              | exact (hupd.alloc _).setRow (fun h => absurd h (Nat.lt_irrefl _)) _
              | exact hupd.alloc _
    · have hjn : j = n := by omega
      subst hjn
      have htk : l.take j = l := List.take_of_length_le (by rw [← HN.out]; exact Nat.le_refl _)
      have HT := Lib.hid htk
      clear htk
      go_wp2
      go_ret2
      exact ⟨rfl, by rw [← HT.out]; exact hblk, hupd⟩
end Go.Proofs.YtlkmpjanchhahaaDoor
