/-
  append, copy, all effects. append, copy: elements behind others, over others. copy; a text over bytes that lie in a row. Operations that change what is there: all together. Functions without a body.
-/
import Derived.Test.YtidhmgganaoefaaGreatDoorEvMaps
import Derived.Laws.Append
import Derived.Lib.UnsafeStr
namespace Go.AM
section
variable {E : Env} {P : Program} {φ : Ph} {w₀ : Base} {w : World} {h : Heap} {nx : Pos}

theorem slice_obj (H : HR φ w₀ h nx w) {b : Pos} {o n c sz : Nat} {ex : Bool} {v : Value} {l : List AV} {ro sx one : Bool} {e : TypeId} (hv : VR φ (.slice b o n c sz ex) v) (hg : Tr.get b h = some (.cells l ro sx one e)) :
    ∃ k B S cap cs lo hi, φ b = some (k, B, S) ∧ v = .slice (some ⟨k, B + o, none⟩) n cap ∧ n ≤ c ∧ c ≤ cap ∧ (ex = true → cap = c) ∧ B + o + cap * sz ≤ S ∧ w.heap[k]? = some (.cells cs e (lo, hi)) ∧ cs.size = S ∧ B + l.length ≤ S ∧
      (∀ (i : Nat) (a : AV), l[i]? = some a → ∃ u, cs[B + i]? = some u ∧ VR φ a u) ∧ FZ ro sx B l.length S lo hi := by
  simp only [VR] at hv
  obtain ⟨k, B, S, cap, e1, e2, e3, e4, e5, e6⟩ := hv
  obtain ⟨x, g1, g2⟩ := H.obj _ _ _ _ _ hg e1
  simp only [OR_] at g2
  obtain ⟨cs, lo, hi, rfl, _, g3, g4, g5, g6⟩ := g2
  exact ⟨k, B, S, cap, cs, lo, hi, e1, e2, e3, e4, e5, e6, g1, g3, g4, g5, g6⟩

/-- A row's part, as values. -/
theorem cells_part {l : List AV} {cs : Array Value} {B : Nat} (hc : ∀ (i : Nat) (a : AV), l[i]? = some a → ∃ u, cs[B + i]? = some u ∧ VR φ a u) : ∃ us, VRL φ l us ∧ ∀ i u, us[i]? = some u → cs[B + i]? = some u := by
  obtain ⟨us, h1, h2⟩ := cells_exist (φ := φ) (l := l) (f := fun i => cs[B + i]?) hc
  exact ⟨us, h1, h2⟩

theorem elems_sound (H : HR φ w₀ h nx w) {sz k : Nat} {x : AV} {v : Value} {new : List AV} (hv : VR φ x v) (he : elemsA h sz x = some (new, k)) :
    ∃ us, VRL φ new us ∧ new.length = k * sz ∧ (∀ w', (Builtin.lenOf v).run P w' = .ok k w') ∧ ∀ w' : World, w'.heap = w.heap → ∀ m, m ≤ k → (Builtin.firstCells sz m v).run P w' = .ok (us.take (m * sz)).toArray w' := by
  unfold elemsA at he
  split at he
  · injection he with he
    injection he with h1 h2
    subst h1 h2
    simp only [VR] at hv
    subst hv
    refine ⟨[], by simp [VRL], by simp, fun w' => rfl, fun w' _ m hm => ?_⟩
    have : m = 0 := by omega
    subst this
    simp [Builtin.firstCells]
  · rename_i b o n c sz' ex
    split at he
    · cases he
    · rename_i hsz
      rw [Bool.not_eq_true, Bool.not_eq_false'] at hsz
      obtain rfl := Nat.eq_of_beq_eq_true hsz
      split at he
      · rename_i l ro sx one e hg
        split at he
        · rename_i r hr
          injection he with he
          injection he with h1 h2
          subst h1 h2
          obtain ⟨kk, B, S, cap, cs, lo, hi, e1, rfl, e3, e4, e5, e6, g1, g3, g4, g5, g6⟩ := slice_obj H hv hg
          have hrr : ∀ (i : Nat) (a : AV), r[i]? = some a → ∃ u, cs[B + o + i]? = some u ∧ VR φ a u := by
            intro i a ha
            have := takeL_get hr i a ha
            rw [dropL_eq, List.getElem?_drop] at this
            obtain ⟨u, u1, u2⟩ := g5 _ _ this
            exact ⟨u, by rw [show B + o + i = B + (o + i) by omega]; exact u1, u2⟩
          obtain ⟨us, u1, u2⟩ := cells_part hrr
          have hlen := takeL_len hr
          refine ⟨us, u1, hlen, fun w' => rfl, fun w' hw m hm => ?_⟩
          have hms : m * sz ≤ us.length := by rw [u1.length, hlen]; exact Nat.mul_le_mul_right _ hm
          refine run_firstCells_some w' sz m ⟨kk, B + o, none⟩ _ _ (us.take (m * sz)) (by simp; omega) fun j u hj => ?_
          rw [add_at]
          rw [List.getElem?_take] at hj
          split at hj
          · rw [cell_at (hw ▸ g1)]
            exact u2 j u hj
          · cases hj
        · cases he
      · cases he
  · rename_i s
    split at he
    · rename_i h1
      obtain rfl := Nat.eq_of_beq_eq_true h1
      injection he with he
      injection he with h1 h2
      subst h1 h2
      simp only [VR] at hv
      obtain ⟨rfl, hb⟩ := hv
      have hul : (u8s s).length = s.length := by
        have := (VRL_u8s (ψ := φ) s).length
        simpa using this.symm
      refine ⟨_, VRL_u8s s, by rw [hul, lenL_eq]; omega, fun w' => by simp [bytesVal_eq, Builtin.lenOf, bts_size, lenL_eq], fun w' _ m hm => ?_⟩
      rw [lenL_eq] at hm
      have hm' : m ≤ s.length := by omega
      simp only [bytesVal_eq, Builtin.firstCells, Sem.run_pure]
      congr 1
      apply Array.ext'
      have hx : ((bts s).extract 0 m).data.toList = (s.take m).map UInt8.ofNat := by
        have : (bts s).extract 0 m = bts (s.take m) := by
          have := bts_extract (s := s) (r := s.take m) (l := 0) (m := m) (by
            rw [dropL_eq]
            simp only [List.drop_zero, Nat.sub_zero]
            have : ∀ (l : List Nat) n, n ≤ l.length → takeL n l = some (l.take n) := by
              intro l
              induction l with
              | nil => intro n hn; cases n with | zero => rfl | succ n => simp at hn
              | cons x l ih =>
                intro n hn
                cases n with
                | zero => rfl
                | succ n => rw [takeL_succ, ih n (by simpa using hn)]; rfl
            exact this s m hm') (Nat.zero_le _)
          exact this
        rw [this]
        simp [bts]
      simp only [Array.toList_map, hx, List.map_map, Nat.mul_one, ← List.map_take]
      apply List.map_congr_left
      intro n hn
      have := hb n (List.mem_of_mem_take hn)
      simp [Nat.mod_eq_of_lt this]
    · cases he
  · cases he

theorem noInt_run (hE : EOK E P) {_t : TypeId} {ts : List TypeId} (hn : noInt E ts = true) : ts = [] ∨ ∃ u us d, ts = u :: us ∧ P.underlying u = some d ∧ ∀ k, d ≠ .int k := by
  cases ts with
  | nil => exact .inl rfl
  | cons u ts =>
    simp only [noInt] at hn
    split at hn
    · rename_i i hi
      obtain ⟨d, h1, h2⟩ := hE.desc hi
      refine .inr ⟨u, ts, d, rfl, h1, fun k hk => ?_⟩
      subst hk
      cases hd : i.desc <;> rw [hd] at h2 hn <;> simp [DR] at h2 hn
    · cases hn

theorem info_of (hE : EOK E P) {e : TypeId} {ei : TI} (he : E.ty e = some ei) : ∃ x z, P.info? e = some x ∧ x.size = ei.size ∧ x.bytes = ei.bytes ∧ x.zero = some z ∧ z.cells.size = ei.size := by
  obtain ⟨x, z, h1, h2, h3, h4, h5, _⟩ := (hE.ty _ _ he).info
  exact ⟨x, z, h1, h2, h3, h4, h5⟩

/-- append where there is room. -/
theorem append_room (hE : EOK E P) {t e : TypeId} {ts : List TypeId} {ei : TI} (ht : P.underlying t = some (.slice e)) (he : E.ty e = some ei) (hts : noInt E ts = true) {ty : TypeId} {base : Option Addr} {n k cap : Nat} {v : Value} {us : List Value}
    (h1 : ∀ w', (Builtin.lenOf v).run P w' = .ok k w') (h2 : (Builtin.firstCells ei.size k v).run P w = .ok us.toArray w) (hr : n + k ≤ cap) :
    (Builtin.append_ ⟨t :: ts⟩ ty #[.slice base n cap, v]).run P w = ((match base with | some a => storeCells (a.add (n * ei.size)) us | none => pure () : Sem Unit).run P w).andThen fun _ w' => .ok (.slice base (n + k) cap) w' := by
  obtain ⟨x, z, g1, g2, g3, g4, g5⟩ := info_of hE he
  have hz : (sizeOf e).run P w = .ok ei.size w := by simp [sizeOf, run_typeInfo_of g1, g2]
  rcases noInt_run hE (_t := t) hts with rfl | ⟨u, us', d, rfl, hu, hd⟩
  · cases base <;> simp [Builtin.append_, run_underlying_of ht, hz, h1, hr, h2]
  · have hm : (match d with | .int _ => true | _ => false) = false := by cases d <;> first | rfl | exact absurd rfl (hd _)
    cases base <;> simp [Builtin.append_, run_underlying_of ht, run_underlying_of hu, hz, h1, hr, h2]

/-- append where there is none. -/
theorem append_more (hE : EOK E P) {t e : TypeId} {ts : List TypeId} {ei : TI} (ht : P.underlying t = some (.slice e)) (he : E.ty e = some ei) (hts : noInt E ts = true) {ty : TypeId} {base : Option Addr} {n k cap : Nat} {v : Value} {us olds : List Value}
    (h1 : ∀ w', (Builtin.lenOf v).run P w' = .ok k w') (h2 : ∀ w' : World, w'.heap = w.heap → (Builtin.firstCells ei.size k v).run P w' = .ok us.toArray w') (h3 : ∀ w' : World, w'.heap = w.heap → (Builtin.firstCells ei.size n (.slice base n cap)).run P w' = .ok olds.toArray w') (hr : cap < n + k)
    (hb : (n + k) * (ei.bytes + 1) < 4294967296) (_hlo : olds.length = n * ei.size) (_hlu : us.length = k * ei.size) :
    ∃ c zs, n + k ≤ c ∧ zs.length = (c - (n + k)) * ei.size ∧ (Builtin.append_ ⟨t :: ts⟩ ty #[.slice base n cap, v]).run P w = .ok (.slice (some ⟨w.heap.size, 0, none⟩) (n + k) c) (w.drew.alloc (.cells (olds ++ us ++ zs).toArray e)) := by
  obtain ⟨x, z, g1, g2, g3, g4, g5⟩ := info_of hE he
  have hz : (sizeOf e).run P w = .ok ei.size w := by simp [sizeOf, run_typeInfo_of g1, g2]
  have hle : n + k < 4294967296 := by
    have : (n + k) * 1 ≤ (n + k) * (ei.bytes + 1) := Nat.mul_le_mul_left _ (by omega)
    omega
  have hfit : Builtin.nextslicecap (n + k) cap * x.bytes ≤ 281474976710656 := by
    refine growslice_fits hr ?_
    have : (n + k) * x.bytes ≤ (n + k) * (ei.bytes + 1) := Nat.mul_le_mul_left _ (by omega)
    omega
  have hn : ¬ (n + k ≤ cap) := by omega
  have h63 : ¬ (9223372036854775807 < ((n : Int) + (k : Int))) := by omega
  have h48 : ¬ (281474976710656 < Builtin.nextslicecap (n + k) cap * x.bytes) := by omega
  have hd1 := h2 w.drew rfl
  have hd2 := h3 w.drew rfl
  have hzz : (zeroValue e).run P w.drew = .ok z w.drew := by simp [zeroValue, run_typeInfo_of g1, g4]
  have hti : ∀ w', (typeInfo e).run P w' = .ok x w' := fun w' => run_typeInfo_of g1 w'
  refine ⟨Question.cut (.appendCap (n + k) cap e) (w.tape w.drawn (.appendCap (n + k) cap e)), (Builtin.zeroCells z.cells (Question.cut (.appendCap (n + k) cap e) (w.tape w.drawn (.appendCap (n + k) cap e)) - (n + k))).toList, by simp [Question.cut], ?_, ?_⟩
  · simp [Builtin.zeroCells, g5]
  · rcases noInt_run hE (_t := t) hts with rfl | ⟨u, us', d, rfl, hu, hd⟩
    · simp [Builtin.append_, run_underlying_of ht, hz, h1, hn, h63, h48, hti, Question.forced, hd1, hd2, hzz, newRow]
      congr 2
      apply Array.ext'
      simp
    · have hm : (match d with | .int _ => true | _ => false) = false := by cases d <;> first | rfl | exact absurd rfl (hd _)
      simp [Builtin.append_, run_underlying_of ht, run_underlying_of hu, hz, h1, hn, h63, h48, hti, Question.forced, hd1, hd2, hzz, newRow]
      congr 2
      apply Array.ext'
      simp

/-- A new row that begins with these. -/
theorem OR_cells_at {ψ : Ph} {l : List AV} {us zs : List Value} {e : TypeId} {ro sx : Bool} (hl : VRL ψ l us) : OR_ w₀ ψ (.cells l ro sx false e) (.cells (us ++ zs).toArray e) 0 (us.length + zs.length) := by
  refine ⟨_, 0, 0, rfl, (fun h => nomatch h), by simp, by rw [← hl.length]; omega, fun i v hi => ?_, ⟨fun j _ _ _ => by omega, fun _ => .inl rfl⟩⟩
  obtain ⟨u, h1, h2⟩ := hl.get hi
  refine ⟨u, ?_, h2⟩
  have := (List.getElem?_eq_some_iff.1 h1).1
  rw [Nat.zero_add]
  simp only [List.getElem?_toArray]
  rw [List.getElem?_append_left this]
  exact h1

theorem VR_new_slice {p : Pos} {k n cap sz S c : Nat} (hn : n ≤ c) (hc : c ≤ cap) (hS : cap * sz ≤ S) : VR (φ.upd p (k, 0, S)) (.slice p 0 n c sz false) (.slice (some ⟨k, 0, none⟩) n cap) := by
  simp only [VR]
  exact ⟨k, 0, S, cap, Ph.upd_same _ _ _, by simp, hn, hc, (fun h => nomatch h), by omega⟩

theorem EF.after {s : Sem Next} {outs : List VO} {h₁ : Heap} (K : Kept φ h nx φ h₁ nx) (q : EF P φ w₀ h₁ nx w s outs) : EF P φ w₀ h nx w s outs :=
  let ⟨w', n, v, φ', a, h', nx', q1, q2, q3, q4, q5, q6⟩ := q; ⟨w', n, v, φ', a, h', nx', q1, q2, q3, q4, q5, K.trans q6⟩

/-- Grown: a new row. -/
theorem grown_sound (H : HR φ w₀ h nx w) {s : Sem Value} {olds us zs : List Value} {e : TypeId} {n c sz : Nat} {l : List AV} {outs : List VO} (hrun : s.run P w = .ok (.slice (some ⟨w.heap.size, 0, none⟩) n c) (w.drew.alloc (.cells (olds ++ us ++ zs).toArray e)))
    (hl : VRL φ l (olds ++ us)) (hn : n ≤ c) (hlen : (olds ++ us).length = n * sz) (hz : zs.length = (c - n) * sz) {ro sx : Bool}
    (ho : newV h nx (.cells l ro sx false e) (fun b => .slice b 0 n n sz false) = some outs) : EF P φ w₀ h nx w (do pure (.value (← s))) outs := by
  have hS : c * sz ≤ (olds ++ us).length + zs.length := by
    rw [hlen, hz, ← Nat.add_mul]
    exact Nat.mul_le_mul_right _ (by omega)
  have hle := Ph.le_upd (φ := φ) (w.heap.size, 0, (olds ++ us).length + zs.length) (H.fresh nx (Nat.le_refl _))
  obtain ⟨h1, h2⟩ := H.drew.make (o := .cells l ro sx false e) (x := .cells ((olds ++ us) ++ zs).toArray e) (b := 0) (s := (olds ++ us).length + zs.length) rfl (OR_cells_at (hl.mono hle))
  injection ho with ho
  subst ho
  exact EF.value (a := .slice nx 0 n n sz false) (List.mem_singleton.2 rfl) hrun h1 (VR_new_slice (Nat.le_refl _) hn hS) h2

theorem append_sound (hE : EOK E P) (H : HR φ w₀ h nx w) {t : TypeId} {ts : List TypeId} {ty : TypeId} {a b : AV} {u v : Value} {outs : List VO} (hu : VR φ a u) (hv : VR φ b v) (hts : noInt E ts = true) (ho : appendO E h nx t a b = some outs) :
    EF P φ w₀ h nx w (do pure (.value (← Builtin.append_ ⟨t :: ts⟩ ty #[u, v]))) outs := by
  unfold appendO at ho
  split at ho
  · rename_i e _ _ hi
    obtain ⟨d, ht, h2⟩ := hE.desc hi
    simp only [DR] at h2
    subst h2
    split at ho
    · cases ho
    · rename_i ei he
      split at ho
      · cases ho
      · rename_i new k hel
        obtain ⟨us, u1, u2, u3, u4⟩ := elems_sound (P := P) H hv hel
        have hul : us.length = k * ei.size := u1.length.trans u2
        have full : ∀ w' : World, w'.heap = w.heap → (Builtin.firstCells ei.size k v).run P w' = .ok us.toArray w' := by
          intro w' hw
          have := u4 w' hw k (Nat.le_refl _)
          rwa [← hul, List.take_length] at this
        split at ho
        · cases ho
        · rename_i hkb
          rw [Bool.not_eq_true, Bool.not_eq_false', Nat.blt_eq] at hkb
          split at ho
          · cases ho
          rename_i hone
          rw [Bool.not_eq_true, Bool.not_eq_false'] at hone
          split at ho
          · -- onto none
            simp only [VR] at hu
            subst hu
            split at ho
            · rename_i hk
              have hk0 : k = 0 := Nat.eq_of_beq_eq_true hk
              subst hk0
              injection ho with ho
              subst ho
              refine EF.value (a := .nilslice) (v := .slice none 0 0) (List.mem_singleton.2 rfl) ?_ H (by simp only [VR]) (Kept.refl _ _ _)
              rw [append_room hE ht he hts u3 (full w rfl) (Nat.le_refl _)]
              rfl
            · rename_i hk
              have hk0 : 0 < k := by
                rcases Nat.eq_zero_or_pos k with h | h
                · subst h; simp at hk
                · exact h
              obtain ⟨c, zs, c1, c2, c3⟩ := append_more hE ht he hts (ty := ty) (base := none) (n := 0) (cap := 0) (olds := []) u3 full (fun w' _ => by simp [Builtin.firstCells]) (by omega) (by simpa using hkb) (by simp) hul
              rw [Nat.zero_add] at c1 c2 c3
              exact grown_sound H c3 (by simpa using u1) c1 (by simpa using hul) c2 ho
          · -- onto a row
            rename_i p o n c sz ex
            split at ho
            · cases ho
            · rename_i hsz
              rw [Bool.not_eq_true, Bool.not_eq_false'] at hsz
              obtain rfl := Nat.eq_of_beq_eq_true hsz
              split at ho
              · rename_i l ro sx one' e' hg
                obtain ⟨K, B, S, cap, cs, lo, hi', s1, rfl, s3, s4, s5, s6, s7, s8, s9, s10, s11⟩ := slice_obj H hu hg
                split at ho
                · rename_i hk
                  have hk0 : k = 0 := Nat.eq_of_beq_eq_true hk
                  subst hk0
                  injection ho with ho
                  subst ho
                  have hus : us = [] := List.eq_nil_of_length_eq_zero (by simpa using hul)
                  subst hus
                  refine EF.value (List.mem_singleton.2 rfl) (v := .slice (some ⟨K, B + o, none⟩) n cap) ?_ H hu (Kept.refl _ _ _)
                  rw [append_room hE ht he hts u3 (full w rfl) (by omega)]
                  rfl
                · split at ho
                  · cases ho
                  · rename_i hk hnk
                    rw [Bool.not_eq_true, Bool.not_eq_false', Nat.blt_eq] at hnk
                    have hnk' : (n + k) * (ei.bytes + 1) < 4294967296 := hnk
                    have hk0 : 0 < k := by
                      rcases Nat.eq_zero_or_pos k with h | h
                      · subst h; simp at hk
                      · exact h
                    -- what is there already
                    have olds_run : ∀ r : List AV, takeL (n * ei.size) (dropL o l) = some r → ∃ os, VRL φ r os ∧ os.length = n * ei.size ∧ ∀ w' : World, w'.heap = w.heap → (Builtin.firstCells ei.size n (.slice (some ⟨K, B + o, none⟩) n cap)).run P w' = .ok os.toArray w' := by
                      intro r hr
                      obtain ⟨os, o1, o2, _, o4⟩ := elems_sound (P := P) H (sz := ei.size) (k := n) (new := r) hu (by
                        unfold elemsA
                        simp only [hg, Nat.mul_eq] at hr ⊢
                        simp [hr])
                      have hol : os.length = n * ei.size := o1.length.trans o2
                      refine ⟨os, o1, hol, fun w' hw => ?_⟩
                      have := o4 w' hw n (Nat.le_refl _)
                      rwa [← hol, List.take_length] at this
                    have grow : ∀ (r : List AV) (h₁ : Heap) (ro' sx' : Bool), takeL (n * ei.size) (dropL o l) = some r → cap < n + k → HR φ w₀ h₁ nx w → newV h₁ nx (.cells (r ++ new) ro' sx' false e) (fun b' => .slice b' 0 (n + k) (n + k) ei.size false) = some outs →
                        EF P φ w₀ h₁ nx w (do pure (.value (← Builtin.append_ ⟨t :: ts⟩ ty #[.slice (some ⟨K, B + o, none⟩) n cap, v]))) outs := by
                      intro r h₁ ro' sx' hr hc H₁ hn
                      obtain ⟨os, o1, o2, o3⟩ := olds_run r hr
                      obtain ⟨c', zs, c1, c2, c3⟩ := append_more hE ht he hts (ty := ty) u3 full o3 hc hnk' o2 hul
                      refine grown_sound H₁ c3 (o1.append u1) c1 ?_ c2 hn
                      rw [List.length_append, o2, hul, ← Nat.add_mul]
                    have takeAll : o + n * ei.size = l.length → takeL (n * ei.size) (dropL o l) = some (l.drop o) := by
                      intro hl
                      rw [dropL_eq]
                      have : ∀ (l : List AV) n, n = l.length → takeL n l = some l := by
                        intro l
                        induction l with
                        | nil => intro n hn; subst hn; rfl
                        | cons x l ih => intro n hn; subst hn; show takeL (l.length + 1) (x :: l) = _; rw [takeL_succ, ih l.length rfl]
                      exact this _ _ (by simp; omega)
                    split at ho
                    · rename_i hend
                      have hend' : o + n * ei.size = l.length := by
                        have := Nat.eq_of_beq_eq_true hend
                        rw [lenL_eq] at this
                        simpa using this
                      rw [dropL_eq, appL_eq] at ho
                      -- in place
                      have place : ∀ (c' : Nat) (ex' : Bool), e = e' → n + k ≤ c' → c' ≤ cap → (ex' = true → cap = c') → n + k ≤ cap → newV (Tr.set none p h) nx (.cells (l.drop o ++ new) ro sx false e) (fun b' => .slice b' 0 (n + k) c' ei.size ex') = some outs →
                          EF P φ w₀ h nx w (do pure (.value (← Builtin.append_ ⟨t :: ts⟩ ty #[.slice (some ⟨K, B + o, none⟩) n cap, v]))) outs := by
                        intro c' ex' q0 q1 q2 q3 q4 hn
                        injection hn with hn
                        subst hn
                        have hrun := append_room hE ht he hts (ty := ty) (base := some ⟨K, B + o, none⟩) u3 (full w rfl) q4
                        have hcap : (n + k) * ei.size ≤ cap * ei.size := Nat.mul_le_mul_right _ q4
                        rw [Nat.add_mul] at hcap
                        have hst := storeCells_run (P := P) (k := K) (o := B + o + n * ei.size) (e := e') (lo := lo) (hi := hi') us 0 cs w s7 (by omega) (fun j _ h3 => s11.free (B + o + n * ei.size + j) (by omega) (by omega) (fun _ => by omega)) (allOne_sound hone u1)
                        simp only [Nat.add_zero] at hst
                        simp only [add_at, hst, Result.andThen_ok] at hrun
                        have hrow : OR_ w₀ (φ.upd nx (K, B + o, S)) (.cells (l.drop o ++ new) ro sx false e) (.cells (cs.toList.take (B + o + n * ei.size) ++ us ++ cs.toList.drop (B + o + n * ei.size + us.length)).toArray e' (lo, hi')) (B + o) S := by
                          have hle := Ph.le_upd (φ := φ) (K, B + o, S) (H.fresh nx (Nat.le_refl _))
                          have hnl : new.length = us.length := u1.length.symm
                          have hcs : cs.toList.length = S := by simpa using s8
                          refine ⟨_, lo, hi', by rw [q0], (fun h => nomatch h), by simp; omega, by simp; omega, fun i a ha => ?_, ⟨fun j h1 h2 h3 => ?_, fun h1 => ?_⟩⟩
                          · rw [List.getElem?_toArray, put_get _ _ _ (by omega)]
                            by_cases hi : i < (l.drop o).length
                            · rw [List.getElem?_append_left hi, List.getElem?_drop] at ha
                              obtain ⟨x, x1, x2⟩ := s10 _ _ ha
                              simp at hi
                              rw [if_neg (by omega)]
                              exact ⟨x, by rw [← x1, Array.getElem?_toList]; congr 1; omega, x2.mono hle⟩
                            · rw [List.getElem?_append_right (by omega)] at ha
                              obtain ⟨x, x1, x2⟩ := u1.get ha
                              have := (List.getElem?_eq_some_iff.1 x1).1
                              simp at hi this
                              rw [if_pos (by omega)]
                              refine ⟨x, ?_, x2.mono hle⟩
                              rw [← x1]
                              congr 1
                              simp
                              omega
                          · refine s11.free j (by omega) h2 fun h4 => ?_
                            have := h3 h4
                            simp at this
                            omega
                          · rcases s11.hull h1 with h2 | h2
                            · exact .inl h2
                            · right; simp; omega
                        have HN := H.rename (o' := .cells (l.drop o ++ new) ro sx false e) hg s1 rfl rfl hrow
                        refine EF.value (a := .slice nx 0 (n + k) c' ei.size ex') (List.mem_singleton.2 rfl) hrun HN ?_ ⟨Ph.le_upd _ (H.fresh nx (Nat.le_refl _)), fun q hq hl => ?_, by rw [Pos.val_succ]; omega⟩
                        · simp only [VR]
                          exact ⟨K, B + o, S, cap, Ph.upd_same _ _ _, by simp, q1, q2, q3, by omega⟩
                        · have hne : q ≠ nx := fun e => by subst e; omega
                          refine ⟨by rw [Ph.upd_ne _ _ hne]; exact hq, ?_⟩
                          rw [Tr.get_set_ne _ _ _ _ hne, Tr.get_set_ne _ _ _ _ fun e => by subst e; rw [s1] at hq; cases hq]
                      have struck : HR φ w₀ (Tr.set none p h) nx w := H.strike p
                      have K1 : Kept φ h nx φ (Tr.set none p h) nx := Kept.write s1 none
                      split at ho
                      · rename_i hex
                        simp only [Bool.and_eq_true, Nat.blt_eq, Nat.add_eq] at hex
                        have := s5 hex.1
                        exact grow (l.drop o) h false false (takeAll hend') (by omega) H ho
                      · rename_i hex
                        simp only [Bool.and_eq_true, Nat.blt_eq, Nat.add_eq, not_and, Nat.not_lt] at hex
                        split at ho
                        · cases ho
                        rename_i het
                        rw [Bool.not_eq_true, Bool.not_eq_false'] at het
                        have het' := Nat.eq_of_beq_eq_true het
                        split at ho
                        · rename_i hx
                          have h5 := s5 hx
                          have h6 := hex hx
                          exact place c true het' h6 s4 (fun _ => h5) (by omega) ho
                        · rcases Nat.lt_or_ge cap (n + k) with hc | hc
                          · exact EF.after K1 (grow (l.drop o) _ ro sx (takeAll hend') hc struck ho)
                          · exact place (n + k) false het' (Nat.le_refl _) hc (fun h => nomatch h) hc ho
                    · split at ho
                      · rename_i hex
                        simp only [Bool.and_eq_true, Nat.blt_eq] at hex
                        split at ho
                        · rename_i r hr
                          rw [appL_eq] at ho
                          refine grow r h false false hr ?_ H ho
                          have := s5 hex.1
                          have := hex.2
                          simp only [Nat.add_eq] at this
                          omega
                        · cases ho
                      · cases ho
              · cases ho
          · cases ho
  · cases ho
end
end Go.AM
namespace Go.AM
section
variable {E : Env} {P : Program} {φ : Ph} {w₀ : Base} {w : World} {h : Heap} {nx : Pos}

theorem elemSize_sound (hE : EOK E P) {t : TypeId} {z : Nat} (h : elemSize E t = some z) : ∃ e ei, P.underlying t = some (.slice e) ∧ E.ty e = some ei ∧ ei.size = z := by
  unfold elemSize at h
  split at h
  · rename_i e _ _ hi
    obtain ⟨d, h1, h2⟩ := hE.desc hi
    simp only [DR] at h2
    subst h2
    split at h
    · rename_i ei he
      injection h with h
      exact ⟨_, ei, h1, he, h⟩
    · cases h
  · cases h

theorem isU8_cells (hE : EOK E P) {e : TypeId} (h : isU8 E e = true) : P.cellsOf e = 1 := by
  have hd := isU8_desc hE h
  unfold isU8 at h
  cases hi : E.ty e with
  | none => rw [hi] at h; cases h
  | some i =>
    obtain ⟨x, z, h1, h2, _, _, _, _, _, _, h8⟩ := (hE.ty _ _ hi).info
    obtain ⟨d, g1, _, g3⟩ := (hE.ty _ _ hi).desc
    rw [hd] at g1
    injection g1 with g1
    subst g1
    simp [Program.cellsOf, h1, h2, (h8 g3).2]

theorem copy_sound (hE : EOK E P) (H : HR φ w₀ h nx w) {t : TypeId} {ts : List TypeId} {ty : TypeId} {l : List AV} {us : List Value} {outs : List VO} (hl : VRL φ l us) (ho : copyO E h nx t l = some outs) :
    EF P φ w₀ h nx w (do pure (.value (← Builtin.copy_ ⟨t :: ts⟩ ty us.toArray))) outs := by
  unfold copyO at ho
  split at ho
  · rename_i b o n c sz ex x
    obtain ⟨u, v, rfl, hu, hv⟩ := VRL_two hl
    cases hz : elemSize E t with
    | none => rw [hz] at ho; simp at ho
    | some z0 =>
      rw [hz] at ho
      simp only at ho
      split at ho
      case isFalse => cases ho
      rename_i hz0
      obtain rfl := Nat.eq_of_beq_eq_true hz0
      obtain ⟨e, ei, ht, he, rfl⟩ := elemSize_sound hE hz
      split at ho
      · rename_i new k hel
        obtain ⟨xs, u1, u2, u3, u4⟩ := elems_sound (P := P) H hv hel
        split at ho
        · rename_i l0 sx one' e' hg
          split at ho
          · rename_i r hr
            split at ho
            · rename_i l' hp
              split at hp
              · rename_i h1
                injection ho with ho
                subst ho
                obtain ⟨K, B, S, cap, cs, lo, hi, s1, rfl, s3, s4, s5, s6, s7, s8, s9, s10, s11⟩ := slice_obj H hu hg
                obtain ⟨x0, z, g1, g2, g3, g4, g5⟩ := info_of hE he
                have hz' : ∀ w', (sizeOf e).run P w' = .ok ei.size w' := fun w' => by simp [sizeOf, run_typeInfo_of g1, g2]
                have hmin : (if Nat.ble k n = true then k else n) = Nat.min k n := by
                  by_cases h : k ≤ n
                  · rw [if_pos (by simpa using h)]; exact (Nat.min_eq_left h).symm
                  · rw [if_neg (by simpa using h)]; exact (Nat.min_eq_right (by omega)).symm
                rw [hmin] at hr ⊢
                obtain ⟨hr1, rfl⟩ := takeL_eq _ _ _ hr
                have hrun := u4 w rfl (Nat.min k n) (Nat.min_le_left _ _)
                have hx : VRL φ (new.take (Nat.min k n * ei.size)) (xs.take (Nat.min k n * ei.size)) := u1.take _
                obtain ⟨w', p1, p2⟩ := put_sound (P := P) H hg s1 hx h1 hp
                refine EF.value (a := .int .i64 (.ofNat (Nat.min k n))) (v := goInt (Nat.min k n)) (List.mem_singleton.2 rfl) ?_ p2 (by simp only [VR]; rfl) (Kept.write s1 _)
                simp [Builtin.copy_, run_underlying_of ht, u3, hz', hrun, p1]
              · cases hp
            · cases ho
          · cases ho
        · cases ho
      · cases ho
  · cases ho

theorem liesAt_at {e : TypeId} (hc : P.cellsOf e = 1) {count off n : Nat} (hn : off + n ≤ count) : liesAt P P.depth e count off e n = true := by
  have hd : P.depth = (2 * (P.types.size + Made.depth) + 1) + 1 := rfl
  rw [hd]
  simp only [liesAt, Bool.or_eq_true]
  left
  rw [hd]
  simp [rowAt, hc, hn, sameLayout, Nat.mod_one]

theorem freeze_at {k a n : Nat} {cs : Array Value} {e : TypeId} {lo hi : Nat} (h0 : n ≠ 0) (hk : w.heap[k]? = some (.cells cs e (lo, hi))) :
    w.freeze ⟨k, a, none⟩ n = { w with heap := w.heap.setIfInBounds k (.cells cs e (if lo == hi then (a, a + n) else (min lo a, max hi (a + n)))) } := by
  unfold World.freeze
  rw [if_neg h0]
  rw [modify_at _ _ _ _ hk]

theorem unsStr_sound (hE : EOK E P) (H : HR φ w₀ h nx w) {t : TypeId} {ts : List TypeId} {ty : TypeId} {l : List AV} {us : List Value} {outs : List VO} (hl : VRL φ l us) (ho : unsStrO E h nx t l = some outs) :
    EF P φ w₀ h nx w (do pure (.value (← Builtin.unsafeString_ ⟨t :: ts⟩ ty us.toArray))) outs := by
  have hmax : IntKind.i64.max = 9223372036854775807 := rfl
  unfold unsStrO at ho
  split at ho
  · rename_i b o x
    obtain ⟨u, v, rfl, hu, hv⟩ := VRL_two hl
    split at ho
    · rename_i e0 n l0 ro one' e he0 hn hg
      split at ho
      · cases ho
      · rename_i hc
        simp only [Bool.or_eq_true, not_or, Bool.not_eq_true, Bool.not_eq_false', Nat.blt_eq] at hc
        obtain ⟨⟨hc1, hc2⟩, hc3⟩ := hc
        obtain rfl := Nat.eq_of_beq_eq_true hc2
        have hn0 : n ≠ 0 := by rintro rfl; simp at hc1
        split at ho
        · rename_i r hr
          split at ho
          · rename_i s hs
            injection ho with ho
            subst ho
            have hT : P.underlying t = some (.pointer e0) ∧ isU8 E e0 = true := by
              unfold ptrU8 at he0
              split at he0
              · rename_i e' _ _ hi
                split at he0
                · rename_i hu8
                  injection he0 with he0
                  obtain ⟨d, h1, h2⟩ := hE.desc hi
                  simp only [DR] at h2
                  subst h2
                  rw [← he0]
                  exact ⟨h1, hu8⟩
                · cases he0
              · cases he0
            obtain ⟨hT1, hT2⟩ := hT
            have hcell : P.cellsOf e0 = 1 := isU8_cells hE hT2
            simp only [VR] at hu
            obtain ⟨K, B, S, e1, rfl⟩ := hu
            obtain ⟨k', rfl⟩ := asInt_nat hn hv
            obtain ⟨y, g1, g2⟩ := H.obj _ _ _ _ _ hg e1
            simp only [OR_] at g2
            obtain ⟨cs, lo, hi, rfl, g3, g4, g5, g6, g7⟩ := g2
            obtain ⟨e10, e11⟩ := bytesOfL_eq hs
            have hlen : s.length = n := by have := takeL_len hr; rw [e10] at this; simpa using this
            obtain ⟨hr1, hr2⟩ := takeL_eq _ _ _ hr
            rw [dropL_eq] at hr1
            simp at hr1
            have hcells : ∀ j (b : UInt8), (s.map UInt8.ofNat)[j]? = some b → w.cell? ((⟨K, B + o, none⟩ : Addr).add j) = some (.int .u8 b.toNat) := by
              intro j b hj
              rw [List.getElem?_map] at hj
              cases hsj : s[j]? with
              | none => rw [hsj] at hj; cases hj
              | some m =>
                rw [hsj] at hj
                simp at hj
                subst hj
                have hr' : r[j]? = some (.int .u8 (.ofNat m)) := by rw [e10]; simp [hsj]
                have := takeL_get hr j _ hr'
                rw [dropL_eq, List.getElem?_drop] at this
                obtain ⟨u, u1, u2⟩ := g6 _ _ this
                simp only [VR] at u2
                subst u2
                rw [add_at, cell_at g1, show B + o + j = B + (o + j) by omega, u1]
                have := e11 m (List.mem_of_getElem? hsj)
                simp [Nat.mod_eq_of_lt this]
            have hlb := Lib.run_loadBytes (P := P) w (s.map UInt8.ofNat) ⟨K, B + o, none⟩ .empty hcells
            have hlies : liesAt P P.depth e0 (cs.size / P.cellsOf e0) (B + o) e0 n = true := liesAt_at hcell (by rw [hcell]; simp; omega)
            have hlm : (s.map UInt8.ofNat).length = n := by simpa using hlen
            rw [hlm] at hlb
            have hwr := H.write (o' := .cells l0 true false one' e0) hg e1 rfl rfl (x' := .cells cs e0 (if lo == hi then (B + o, B + o + n) else (min lo (B + o), max hi (B + o + n)))) (by
              refine ⟨cs, (if lo == hi then (B + o, B + o + n) else (min lo (B + o), max hi (B + o + n))).1, (if lo == hi then (B + o, B + o + n) else (min lo (B + o), max hi (B + o + n))).2, rfl, g3, g4, g5, g6, ⟨fun j h1 h2 h3 => ?_, fun _ => ?_⟩⟩
              · have h4 := h3 rfl
                split
                · simp; omega
                · rename_i hne
                  have hle : hi ≤ B + l0.length := by
                    rcases g7.hull rfl with h | h
                    · simp [h] at hne
                    · exact h
                  simp
                  omega
              · right
                split
                · simp; omega
                · rename_i hne
                  have hle : hi ≤ B + l0.length := by
                    rcases g7.hull rfl with h | h
                    · simp [h] at hne
                    · exact h
                  simp
                  omega)
            refine EF.value (a := .str s) (v := bytesVal s) (List.mem_singleton.2 rfl) ?_ hwr (by simp only [VR]; exact ⟨trivial, e11⟩) (Kept.write e1 _)
            have hneg : ¬ (Int.ofNat n < 0) := by simp
            have h63 : ¬ (9223372036854775807 < (n : Int)) := by omega
            have hdef : Builtin.unsafeString_ ⟨t :: ts⟩ ty (List.toArray [.pointer (some ⟨K, B + o, none⟩), .int k' (Int.ofNat n)]) =
                (do
                  let n ← asInt (.int k' (Int.ofNat n))
                  if n < 0 then runtimePanic (.error "unsafe.String: len out of range")
                  if n > IntKind.i64.max then unsupported (.unsafePointer "String: a length above the largest int")
                  if n = 0 then pure (.string .empty)
                  else if ← variablesAt ⟨K, B + o, none⟩ (← elemOf t) n.toNat then do
                    let s ← loadBytes ⟨K, B + o, none⟩ .empty n.toNat
                    freeze ⟨K, B + o, none⟩ n.toNat
                    pure (.string s)
                  else unsupported (.unsafePointer "String: not so many bytes at ptr")) := rfl
            rw [hdef]
            simp [asInt, asIntOf, hmax, h63, hn0, variablesAt, shape_at g1, elemOf, run_underlying_of hT1, hlies, hlb, freeze_at hn0 g1, bytesVal]
            intro h9
            omega
          · cases ho
        · cases ho
    · cases ho
  · rename_i x
    obtain ⟨u, v, rfl, hu, hv⟩ := VRL_two hl
    split at ho
    · rename_i hn
      injection ho with ho
      subst ho
      simp only [VR] at hu
      subst hu
      obtain ⟨k', rfl⟩ := asInt_nat hn hv
      refine EF.value (a := .str []) (v := .string .empty) (List.mem_singleton.2 rfl) ?_ H (by simp only [VR]; exact ⟨rfl, by simp⟩) (Kept.refl _ _ _)
      have hdef : Builtin.unsafeString_ ⟨t :: ts⟩ ty (List.toArray [.pointer none, .int k' (Int.ofNat 0)]) =
          (do
            let n ← asInt (.int k' (Int.ofNat 0))
            if n < 0 then runtimePanic (.error "unsafe.String: len out of range")
            if n > IntKind.i64.max then unsupported (.unsafePointer "String: a length above the largest int")
            if n = 0 then pure (.string .empty)
            else runtimePanic (.error "unsafe.String: ptr is nil and len is not zero")) := rfl
      rw [hdef]
      simp [asInt, asIntOf, hmax]
    · cases ho
  · cases ho
end
end Go.AM
namespace Go.AM
section
variable {E : Env} {P : Program} {φ : Ph} {w₀ : Base} {w : World} {h : Heap} {nx : Pos}

theorem ops_map {args : Array Operand} {vs : Array Value} : args.map (ev vs) = (args.toList.map (ev vs)).toArray := by apply Array.ext'; simp

theorem mapUpd_sound (hE : EOK E P) (H : HR φ w₀ h nx w) {t : TypeId} {a b c : AV} {m k x : Value} {outs : List VO} (hm : VR φ a m) (hk : VR φ b k) (hx : VR φ c x) (he : mapUpdO E h nx t a b c = some outs) :
    EF P φ w₀ h nx w (do Instr.mapUpdate t m k x; pure .skip) outs := by
  unfold mapUpdO at he
  split at he
  · rename_i hi
    split at he
    · cases he
    · rename_i hkey
      rw [Bool.not_eq_true, Bool.not_eq_false'] at hkey
      split at he
      · rename_i es hg
        split at he
        · rename_i es' hp
          injection he with he
          subst he
          obtain ⟨w', r1, r2, r3⟩ := mapUpdate_sound (P := P) hE H hi rfl hm hk hx hkey hg hp
          exact EF.unit (List.mem_singleton.2 rfl) r1 r2 r3
        · cases he
      · rename_i es hg
        split at he
        · rename_i s
          split at he
          · rename_i es' hp
            injection he with he
            subst he
            obtain ⟨w', r1, r2, r3⟩ := umapUpdate_sound (P := P) hE H hi rfl hm hk hx hkey hg hp
            exact EF.unit (List.mem_singleton.2 rfl) r1 r2 r3
          · cases he
        · cases he
      · cases he
  · cases he

theorem mapEnt_sound (hE : EOK E P) (H : HR φ w₀ h nx w) {t : TypeId} {a b : AV} {m k : Value} {outs : List VO} (hm : VR φ a m) (hk : VR φ b k) (he : mapEntO E h nx t a b = some outs) :
    EF P φ w₀ h nx w (do pure (.value (← Instr.mapEntry t m k))) outs := by
  unfold mapEntO at he
  split at he
  · rename_i hi
    split at he
    · cases he
    · rename_i hkey
      rw [Bool.not_eq_true, Bool.not_eq_false'] at hkey
      split at he
      · rename_i es i hg hei
        split at he
        · rename_i hz hf
          split at he
          · rename_i es' hp
            injection he with he
            subst he
            obtain ⟨w', r, r1, r2, r3, r4⟩ := mapEntry_new (P := P) hE H hi rfl hei hm hk hkey hg hz hf hp
            refine EF.value (List.mem_singleton.2 rfl) r1 r2 ?_ r4
            simpa [lenL_eq] using r3
          · cases he
        · rename_i hf hn
          injection he with he
          subst he
          obtain ⟨w', r, r1, r2, r3⟩ := mapEntry_old (P := P) hE H hi rfl hm hk hkey hg hf hn
          exact EF.value (List.mem_singleton.2 rfl) r1 r2 r3 (Kept.refl _ _ _)
        · cases he
      · cases he
  · cases he

theorem entSt_sound (H : HR φ w₀ h nx w) {t : TypeId} {a b c : AV} {m s x : Value} {outs : List VO} (hm : VR φ a m) (hs : VR φ b s) (hx : VR φ c x) (he : entStO h nx a b c = some outs) :
    EF P φ w₀ h nx w (do Instr.entryStore t m s x; pure .skip) outs := by
  unfold entStO at he
  split at he
  · rename_i p n hn
    split at he
    · rename_i es hg
      split at he
      · rename_i es' hp
        injection he with he
        subst he
        obtain ⟨w', r1, r2, r3⟩ := entryStore_sound (P := P) (t := t) H hm hs hn hx hg hp
        exact EF.unit (List.mem_singleton.2 rfl) r1 r2 r3
      · cases he
    · cases he
  · cases he

theorem eff_sound (hE : EOK E P) (H : HR φ w₀ h nx w) {o : Oper} {ρ : Rho} {vs : Array Value} {outs : List VO} (O : OpsR φ ρ vs o.op.operands.toList) (he : effA E ρ h nx o.op = some outs) : EF P φ w₀ h nx w (execOp (ev vs) o) outs := by
  unfold execOp
  have hty := o.type
  generalize o.op = op at O he
  cases op with
  | store t a x =>
    simp only [effA] at he
    split at he
    · rename_i p v hp hv
      unfold storeO at he
      split at he
      · rename_i h' hs
        injection he with he
        subst he
        obtain ⟨w', r1, r2, r3⟩ := store_sound (P := P) hE H hs (O a (by simp [Op.operands]) _ hp) (O x (by simp [Op.operands]) _ hv)
        exact EF.unit (List.mem_singleton.2 rfl) r1 r2 r3
      · cases he
    · cases he
  | mapUpdate t m k x =>
    simp only [effA] at he
    split at he
    · rename_i a b c hm hk hx
      exact mapUpd_sound hE H (O m (by simp [Op.operands]) _ hm) (O k (by simp [Op.operands]) _ hk) (O x (by simp [Op.operands]) _ hx) he
    · cases he
  | insert t m k x =>
    simp only [effA] at he
    split at he
    · rename_i a b c hm hk hx
      exact mapUpd_sound hE H (O m (by simp [Op.operands]) _ hm) (O k (by simp [Op.operands]) _ hk) (O x (by simp [Op.operands]) _ hx) he
    · cases he
  | mapEntry t m k =>
    simp only [effA] at he
    split at he
    · rename_i a b hm hk
      exact mapEnt_sound hE H (O m (by simp [Op.operands]) _ hm) (O k (by simp [Op.operands]) _ hk) he
    · cases he
  | entryStore t m s x =>
    simp only [effA] at he
    split at he
    · rename_i a b c hm hs hx
      exact entSt_sound H (O m (by simp [Op.operands]) _ hm) (O s (by simp [Op.operands]) _ hs) (O x (by simp [Op.operands]) _ hx) he
    · cases he
  | range t x =>
    simp only [effA] at he
    split at he
    · rename_i a hx
      exact range_sound hE H (O x (by simp [Op.operands]) _ hx) he
    · cases he
  | next it s =>
    simp only [effA] at he
    split at he
    · rename_i a hx
      exact next_sound H (O it (by simp [Op.operands]) _ hx) he
    · cases he
  | entry it =>
    simp only [effA] at he
    split at he
    · rename_i a hx
      exact entry_sound H (O it (by simp [Op.operands]) _ hx) he
    · cases he
  | call c =>
    obtain ⟨callee, args, ts⟩ := c
    cases callee with
    | builtin b =>
      have O' : OpsR φ ρ vs args.toList := fun x hx => O x (by simpa [Op.operands, Call.operands] using hx)
      show EF P φ w₀ h nx w (builtin b ts o.type _ (args.map (ev vs))) outs
      rw [ops_map]
      cases b <;> simp only [effA] at he <;> try (cases he; done)
      · split at he
        · rename_i t us a b hts hl
          have hts' : ts = ⟨t :: us⟩ := by rw [← hts]
          split at he
          · rename_i hn
            obtain ⟨u, v, e1, hu, hv⟩ := VRL_two (evalL_sound O' hl)
            rw [hts', e1]
            exact append_sound hE H hu hv hn he
          · cases he
        · cases he
      · split at he
        · rename_i t us l hts hl
          have hts' : ts = ⟨t :: us⟩ := by rw [← hts]
          rw [hts']
          exact copy_sound hE H (evalL_sound O' hl) he
        · cases he
      · split at he
        · rename_i t us l hts hl
          have hts' : ts = ⟨t :: us⟩ := by rw [← hts]
          rw [hts']
          exact unsStr_sound hE H (evalL_sound O' hl) he
        · cases he
    | _ => simp [effA] at he
  | _ => simp [effA] at he
end
end Go.AM
