/- The document's disk: Write. -/
import Derived.Test.YtlkmpjanchhahaaDoorRef2
namespace Go.Proofs.YtlkmpjanchhahaaDoor
open Go Go.RowKit
set_option linter.unusedSimpArgs false
set_option linter.unusedVariables false

/-- The struct's parts, the rows of places and of bytes each of its own length. -/
structure RefG (B : Nat) (O : Nat → Prop) (w : World) (b : Nat) (sf : List (List UInt8)) (left : Int) (off : Bool) (deeds : Int) (sv av bv : Value) (vs ps us : List Value) (bs : List (List UInt8)) : Prop where
  ob : O b
  os : ∀ k, sv.ownBlock = some k → O k
  oa : ∀ k, av.ownBlock = some k → O k
  obb : ∀ k, bv.ownBlock = some k → O k
  ge : ∀ k, O k → B ≤ k
  lt : ∀ k, O k → k < w.heap.size
  blk : Blk w b 90 #[sv, av, bv, .int .i64 left, .bool off, .int .i64 deeds]
  rs : w.ownsRow B 33 1 sv sf.length vs
  ss : Secs O w vs sf
  ra : w.ownsRow B 3 1 av ps.length ps
  rb : w.ownsRow B 33 1 bv bs.length us
  sb : Secs O w us bs
  ne : ∀ k, sv.ownBlock = some k → bv.ownBlock ≠ some k
theorem RefRows.g {B : Nat} {O : Nat → Prop} {w : World} {b : Nat} {R : RM} {sv av bv : Value} {vs us : List Value} (h : RefRows B O w b R sv av bv vs us) : RefG B O w b R.safe R.left R.off R.deeds sv av bv vs (places R.pend) us (bodies R.pend) :=
  ⟨h.ob, h.os, h.oa, h.obb, h.ge, h.lt, h.blk, h.rs, h.ss, by have := h.ra; rwa [show (places R.pend).length = R.pend.length by simp [places]], by have := h.rb; rwa [show (bodies R.pend).length = R.pend.length by simp [bodies]], h.sb, h.ne⟩
theorem RefG.rows {B : Nat} {O : Nat → Prop} {w : World} {b : Nat} {R : RM} {sv av bv : Value} {vs us : List Value} (h : RefG B O w b R.safe R.left R.off R.deeds sv av bv vs (places R.pend) us (bodies R.pend)) (ho : R.ok) : RefRows B O w b R sv av bv vs us :=
  ⟨h.ob, h.os, h.oa, h.obb, h.ge, h.lt, ho, h.blk, h.rs, h.ss, by have := h.ra; rwa [show (places R.pend).length = R.pend.length by simp [places]] at this, by have := h.rb; rwa [show (bodies R.pend).length = R.pend.length by simp [bodies]] at this, h.sb, h.ne⟩
theorem RefG.upd {B : Nat} {O S : Nat → Prop} {w w' : World} {b : Nat} {sf : List (List UInt8)} {left : Int} {off : Bool} {deeds : Int} {sv av bv : Value} {vs ps us : List Value} {bs : List (List UInt8)} (h : RefG B O w b sf left off deeds sv av bv vs ps us bs) (hu : Upd S w w') (hS : ∀ k, O k → ¬ S k) : RefG B O w' b sf left off deeds sv av bv vs ps us bs :=
  ⟨h.ob, h.os, h.oa, h.obb, h.ge, fun k hk => Nat.lt_of_lt_of_le (h.lt k hk) hu.size, h.blk.upd hu (hS _ h.ob), ownsRow_upd h.rs hu (fun k hk => hS _ (h.os k hk)), h.ss.upd hu (fun k _ _ hk => hS k hk),
    ownsRow_upd h.ra hu (fun k hk => hS _ (h.oa k hk)), ownsRow_upd h.rb hu (fun k hk => hS _ (h.obb k hk)), h.sb.upd hu (fun k _ _ hk => hS k hk), h.ne⟩

theorem own_lt {w : World} {B : Nat} {e : TypeId} {size n : Nat} {v : Value} {xs : List Value} (h : w.ownsRow B e size v n xs) {k : Nat} (hk : v.ownBlock = some k) : k < w.heap.size := by
  rcases h.2 with ⟨rfl, _⟩ | ⟨g, cap, cur, rfl, _, hgg, _⟩
  · simp [Value.ownBlock] at hk
  · have : g = k := by simpa [Value.ownBlock] using hk
    subst this
    exact (Array.getElem?_eq_some_iff.1 hgg).1
/-- Two rows of different element types lie in different blocks. -/
theorem own_ne2 {w : World} {B B' : Nat} {e e' : TypeId} {size size' n n' : Nat} {v v' : Value} {xs xs' : List Value} (h : w.ownsRow B e size v n xs) (h' : w.ownsRow B' e' size' v' n' xs') (hne : e ≠ e') : ∀ k, v.ownBlock = some k → v'.ownBlock ≠ some k := by
  intro k hk hk'
  rcases h.2 with ⟨rfl, _⟩ | ⟨g, cap, cur, rfl, _, hgg, _⟩
  · simp [Value.ownBlock] at hk
  · rcases h'.2 with ⟨rfl, _⟩ | ⟨g', cap', cur', rfl, _, hgg', _⟩
    · simp [Value.ownBlock] at hk'
    · have e1 : g = k := by simpa [Value.ownBlock] using hk
      have e2 : g' = k := by simpa [Value.ownBlock] using hk'
      subst e1; subst e2
      rw [hgg] at hgg'
      injection hgg' with hgg'
      injection hgg' with _ h2 _
      exact hne h2

theorem RefG.mono {B : Nat} {O O' : Nat → Prop} {w : World} {b : Nat} {sf : List (List UInt8)} {left : Int} {off : Bool} {deeds : Int} {sv av bv : Value} {vs ps us : List Value} {bs : List (List UInt8)} (h : RefG B O w b sf left off deeds sv av bv vs ps us bs) (hO : ∀ k, O k → O' k) (hge : ∀ k, O' k → B ≤ k) (hlt : ∀ k, O' k → k < w.heap.size) : RefG B O' w b sf left off deeds sv av bv vs ps us bs :=
  ⟨hO _ h.ob, fun k hk => hO k (h.os k hk), fun k hk => hO k (h.oa k hk), fun k hk => hO k (h.obb k hk), hge, hlt, h.blk, h.rs, h.ss.mono hO, h.ra, h.rb, h.sb.mono hO, h.ne⟩
/-- One place more: d.At = append(d.At, i). -/
theorem RefG.pushAt {B : Nat} {O : Nat → Prop} {w w2 w3 : World} {b : Nat} {sf : List (List UInt8)} {left : Int} {off : Bool} {deeds : Int} {sv av bv av' x : Value} {vs ps us : List Value} {bs : List (List UInt8)} (h : RefG B O w b sf left off deeds sv av bv vs ps us bs)
    (hu : Upd (fun _ => False) w w2) (hown : w3.ownsRow B 3 1 av' (ps.length + 1) (ps ++ [x])) (hg : w2.grownBy w3 av.ownBlock) (hat : av'.ownBlock = av.ownBlock ∨ av'.ownBlock = some w2.heap.size) (hB : B ≤ w.heap.size) :
    Blk w3 b 90 #[sv, av, bv, .int .i64 left, .bool off, .int .i64 deeds] ∧ RefG B (fun k => O k ∨ w.heap.size ≤ k ∧ k < w3.heap.size) (w3.setCell ⟨b, 1, none⟩ av') b sf left off deeds sv av' bv vs (ps ++ [x]) us bs ∧ Upd O w w3 ∧ ∀ y l, SecAt O w y l → SecAt (fun k => O k ∨ w.heap.size ≤ k ∧ k < w3.heap.size) (w3.setCell ⟨b, 1, none⟩ av') y l := by
  have h2 := h.upd hu (fun _ _ h => h)
  have u3 : Upd (fun k => av.ownBlock = some k) w2 w3 := (Upd.refl _ _).grown hg (fun k e _ => e)
  have n1 : av.ownBlock ≠ some b := own_ne h2.ra h2.blk (by decide)
  have b3 := h2.blk.upd u3 n1
  have u4 : Upd (fun k => k = b) w3 (w3.setCell ⟨b, 1, none⟩ av') := (Upd.refl (fun k => k = b) w3).setCell (p := ⟨b, 1, none⟩) (fun _ => rfl) _
  have rs3 := ownsRow_upd h2.rs u3 (fun k hk e => own_ne2 h2.rs h2.ra (by decide) k hk e)
  have rb3 := ownsRow_upd h2.rb u3 (fun k hk e => own_ne2 h2.rb h2.ra (by decide) k hk e)
  have hs5 : ∀ k c, Blk w2 k 5 c → O k → ¬ av.ownBlock = some k := fun k c hk _ => own_ne h2.ra hk (by decide)
  have hs6 : ∀ k c, Blk w3 k 5 c → O k → ¬ k = b := fun k c hk _ e => by subst e; exact absurd (hk.ne b3 (by decide)) (by simp)
  have hsz := hu.size
  have hsz3 := u3.size
  have ez : (w3.setCell ⟨b, 1, none⟩ av').heap.size = w3.heap.size := by simp [World.setCell]
  refine ⟨b3, ⟨.inl h.ob, fun k hk => .inl (h.os k hk), ?_, fun k hk => .inl (h.obb k hk), ?_, ?_, b3.set 1 _, ?_, ?_, ?_, ?_, ?_, h.ne⟩, ?_, fun y l hy => (((hy.upd hu (fun _ _ _ h => h)).upd u3 (fun k hk => hs5 k _ hk)).upd u4 (fun k hk => hs6 k _ hk)).mono (fun k hk => .inl hk)⟩
  · intro k hk
    rcases hat with h' | h'
    · rw [h'] at hk; exact .inl (h.oa k hk)
    · have := own_lt hown hk
      rw [h'] at hk
      injection hk with hk
      exact .inr ⟨by omega, this⟩
  · intro k hk
    rcases hk with hk | hk
    · exact h.ge k hk
    · omega
  · intro k hk
    rw [ez]
    rcases hk with hk | hk
    · have := h.lt k hk; omega
    · exact hk.2
  · exact ownsRow_upd rs3 u4 (fun k hk e => own_ne rs3 b3 (by decide) (by rw [hk, e]))
  · exact (((h2.ss.upd u3 hs5).upd u4 hs6)).mono (fun k hk => .inl hk)
  · rw [List.length_append, List.length_singleton]
    exact ownsRow_upd hown u4 (fun k hk e => own_ne hown b3 (by decide) (by rw [hk, e]))
  · exact ownsRow_upd rb3 u4 (fun k hk e => own_ne rb3 b3 (by decide) (by rw [hk, e]))
  · exact (((h2.sb.upd u3 hs5).upd u4 hs6)).mono (fun k hk => .inl hk)
  · exact (hu.mono (fun _ _ h => h.elim)).then u3 (fun k _ hk => h.oa k hk)
/-- One sector's bytes more: d.Bytes = append(d.Bytes, s). -/
theorem RefG.pushBody {B : Nat} {O : Nat → Prop} {w w2 w3 : World} {b : Nat} {sf : List (List UInt8)} {left : Int} {off : Bool} {deeds : Int} {sv av bv bv' x : Value} {vs ps us : List Value} {bs : List (List UInt8)} {l : List UInt8} (h : RefG B O w b sf left off deeds sv av bv vs ps us bs)
    (hu : Upd (fun _ => False) w w2) (hx : SecAt O w x l) (hown : w3.ownsRow B 33 1 bv' (bs.length + 1) (us ++ [x])) (hg : w2.grownBy w3 bv.ownBlock) (hat : bv'.ownBlock = bv.ownBlock ∨ bv'.ownBlock = some w2.heap.size) (hB : B ≤ w.heap.size) :
    Blk w3 b 90 #[sv, av, bv, .int .i64 left, .bool off, .int .i64 deeds] ∧ RefG B (fun k => O k ∨ w.heap.size ≤ k ∧ k < w3.heap.size) (w3.setCell ⟨b, 2, none⟩ bv') b sf left off deeds sv av bv' vs ps (us ++ [x]) (bs ++ [l]) ∧ Upd O w w3 := by
  have h2 := h.upd hu (fun _ _ h => h)
  have hx2 := hx.upd hu (fun _ _ _ h => h)
  have u3 : Upd (fun k => bv.ownBlock = some k) w2 w3 := (Upd.refl _ _).grown hg (fun k e _ => e)
  have n1 : bv.ownBlock ≠ some b := own_ne h2.rb h2.blk (by decide)
  have b3 := h2.blk.upd u3 n1
  have u4 : Upd (fun k => k = b) w3 (w3.setCell ⟨b, 2, none⟩ bv') := (Upd.refl (fun k => k = b) w3).setCell (p := ⟨b, 2, none⟩) (fun _ => rfl) _
  have rs3 := ownsRow_upd h2.rs u3 (fun k hk e => h2.ne k hk e)
  have ra3 := ownsRow_upd h2.ra u3 (fun k hk e => own_ne2 h2.ra h2.rb (by decide) k hk e)
  have hs5 : ∀ k c, Blk w2 k 5 c → O k → ¬ bv.ownBlock = some k := fun k c hk _ => own_ne h2.rb hk (by decide)
  have hs6 : ∀ k c, Blk w3 k 5 c → O k → ¬ k = b := fun k c hk _ e => by subst e; exact absurd (hk.ne b3 (by decide)) (by simp)
  have hsz := hu.size
  have hsz3 := u3.size
  have ez : (w3.setCell ⟨b, 2, none⟩ bv').heap.size = w3.heap.size := by simp [World.setCell]
  have hbo : ∀ k, bv'.ownBlock = some k → O k ∨ w.heap.size ≤ k ∧ k < w3.heap.size := by
    intro k hk
    rcases hat with h' | h'
    · rw [h'] at hk; exact .inl (h.obb k hk)
    · have := own_lt hown hk
      rw [h'] at hk
      injection hk with hk
      exact .inr ⟨by omega, this⟩
  refine ⟨b3, ⟨.inl h.ob, fun k hk => .inl (h.os k hk), fun k hk => .inl (h.oa k hk), hbo, ?_, ?_, b3.set 2 _, ?_, ?_, ?_, ?_, ?_, ?_⟩, ?_⟩
  · intro k hk
    rcases hk with hk | hk
    · exact h.ge k hk
    · omega
  · intro k hk
    rw [ez]
    rcases hk with hk | hk
    · have := h.lt k hk; omega
    · exact hk.2
  · exact ownsRow_upd rs3 u4 (fun k hk e => own_ne rs3 b3 (by decide) (by rw [hk, e]))
  · exact (((h2.ss.upd u3 hs5).upd u4 hs6)).mono (fun k hk => .inl hk)
  · exact ownsRow_upd ra3 u4 (fun k hk e => own_ne ra3 b3 (by decide) (by rw [hk, e]))
  · rw [List.length_append, List.length_singleton]
    exact ownsRow_upd hown u4 (fun k hk e => own_ne hown b3 (by decide) (by rw [hk, e]))
  · exact ((((h2.sb.snoc hx2).upd u3 hs5).upd u4 hs6)).mono (fun k hk => .inl hk)
  · intro k hk e
    rcases hat with h' | h'
    · rw [h'] at e; exact h.ne k hk e
    · rw [h'] at e
      injection e with e
      have := h.lt k (h.os k hk)
      omega
  · exact (hu.mono (fun _ _ h => h.elim)).then u3 (fun k _ hk => h.obb k hk)
end Go.Proofs.YtlkmpjanchhahaaDoor
