/-
  The evaluator is sound: calls on a part of the heap; calls. The staged evaluator is sound: calls on a part of the heap: names anew, what can be reached. The staged evaluator is sound: calls on a part of the heap: what can be reached; values under other names. The staged evaluator is sound: calls on a part of the heap: the part as a heap of its own. The staged evaluator is sound: calls on a part of the heap: what has become of it is laid back. The staged evaluator is sound: calls on a part of the heap: back. The staged evaluator is sound: calls, to whatever depth.
-/
import Derived.Test.YtidhmgganaoefaaGreatDoorEvFun
namespace Go.AM

/-! ### One form -/
theorem forceN_eq {β : Type} (n : Nat) (k : Nat → β) : forceN n k = k n := by cases n <;> rfl
theorem forceB_eq {β : Type} (b : Bool) (k : Bool → β) : forceB b k = k b := by cases b <;> rfl
theorem forceI_eq {β : Type} (n : Int) (k : Int → β) : forceI n k = k n := by
  cases n
  · exact forceN_eq _ (fun n => k (.ofNat n))
  · exact forceN_eq _ (fun n => k (.negSucc n))
theorem forceK_eq {β : Type} (n : IntKind) (k : IntKind → β) : forceK n k = k n := by cases n <;> rfl
theorem forceNs_eq {β : Type} : ∀ (l : List Nat) (k : List Nat → β), forceNs l k = k l
  | [], k => rfl
  | x :: l, k => by
    show forceN x (fun x => forceNs l fun t => k (x :: t)) = _
    rw [forceN_eq, forceNs_eq l]
theorem forceP_eq {β : Type} : ∀ (p : Pos) (k : Pos → β), forceP p k = k p
  | .h, k => rfl
  | .o p, k => by
    show forceP p (fun p => k (.o p)) = _
    rw [forceP_eq p]
  | .i p, k => by
    show forceP p (fun p => k (.i p)) = _
    rw [forceP_eq p]
/-- The list's part of forceV. -/
noncomputable def forceL {β : Type} (l : List AV) : (List AV → β) → β :=
  AV.rec_1 (motive_1 := fun _ => (AV → β) → β) (motive_2 := fun _ => (List AV → β) → β)
    (fun b k => forceB b fun b => k (.bool b)) (fun q n k => forceK q fun q => forceI n fun n => k (.int q n)) (fun s k => forceNs s fun s => k (.str s)) (fun k => k .nilptr)
    (fun p o k => forceP p fun p => forceN o fun o => k (.ptr p o)) (fun g o k => forceN g fun g => forceN o fun o => k (.gptr g o)) (fun k => k .nilslice)
    (fun p o n c z e k => forceP p fun p => forceN o fun o => forceN n fun n => forceN c fun c => forceN z fun z => forceB e fun e => k (.slice p o n c z e)) (fun k => k .nilmap) (fun p k => forceP p fun p => k (.map p))
    (fun f _ ih k => forceN f fun f => ih fun c => k (.func f c)) (fun k => k .nilfunc) (fun p k => forceP p fun p => k (.yield p)) (fun t _ ih k => forceN t fun t => ih fun v => k (.iface t v)) (fun k => k .nilIface)
    (fun _ ih k => ih fun l => k (.agg l)) (fun _ ih k => ih fun l => k (.tuple l)) (fun k => k []) (fun _ _ ih ihl k => ih fun v => ihl fun l => k (v :: l)) l
mutual
theorem forceV_eq {β : Type} : ∀ (v : AV) (k : AV → β), forceV v k = k v
  | .bool b, k => forceB_eq b fun b => k (.bool b)
  | .int q n, k => by
    show forceK q (fun q => forceI n fun n => k (.int q n)) = _
    rw [forceK_eq, forceI_eq]
  | .str s, k => forceNs_eq s fun s => k (.str s)
  | .nilptr, k => rfl
  | .ptr p o, k => by
    show forceP p (fun p => forceN o fun o => k (.ptr p o)) = _
    rw [forceP_eq, forceN_eq]
  | .gptr g o, k => by
    show forceN g (fun g => forceN o fun o => k (.gptr g o)) = _
    rw [forceN_eq, forceN_eq]
  | .nilslice, k => rfl
  | .slice p o n c z e, k => by
    show forceP p (fun p => forceN o fun o => forceN n fun n => forceN c fun c => forceN z fun z => forceB e fun e => k (.slice p o n c z e)) = _
    rw [forceP_eq, forceN_eq, forceN_eq, forceN_eq, forceN_eq, forceB_eq]
  | .nilmap, k => rfl
  | .map p, k => forceP_eq p fun p => k (.map p)
  | .func f c, k => by
    show forceN f (fun f => forceL c fun c => k (.func f c)) = _
    rw [forceN_eq, forceL_eq c]
  | .nilfunc, k => rfl
  | .yield p, k => forceP_eq p fun p => k (.yield p)
  | .iface t v, k => by
    show forceN t (fun t => forceV v fun v => k (.iface t v)) = _
    rw [forceN_eq, forceV_eq v]
  | .nilIface, k => rfl
  | .agg l, k => forceL_eq l fun l => k (.agg l)
  | .tuple l, k => forceL_eq l fun l => k (.tuple l)
theorem forceL_eq {β : Type} : ∀ (l : List AV) (k : List AV → β), forceL l k = k l
  | [], k => rfl
  | v :: l, k => by
    show forceV v (fun v => forceL l fun l => k (v :: l)) = _
    rw [forceV_eq v, forceL_eq l]
end
theorem forceVs_eq {β : Type} : ∀ (l : List AV) (k : List AV → β), forceVs l k = k l
  | [], k => rfl
  | v :: l, k => by
    show forceV v (fun v => forceVs l fun l => k (v :: l)) = _
    rw [forceV_eq v, forceVs_eq l]
theorem forceEs_eq {β : Type} : ∀ (l : List (AV × AV)) (k : List (AV × AV) → β), forceEs l k = k l
  | [], k => rfl
  | (a, b) :: l, k => by
    show forceV a (fun a => forceV b fun b => forceEs l fun l => k ((a, b) :: l)) = _
    rw [forceV_eq a, forceV_eq b, forceEs_eq l]
theorem forceO_eq {β : Type} (o : Obj) (k : Obj → β) : forceO o k = k o := by
  cases o with
  | cells l a b c e =>
    show forceVs l (fun l => forceB a fun a => forceB b fun b => forceB c fun c => forceN e fun e => k (.cells l a b c e)) = _
    rw [forceVs_eq, forceB_eq, forceB_eq, forceB_eq, forceN_eq]
  | map es => exact forceEs_eq es fun es => k (.map es)
  | umap es => exact forceEs_eq es fun es => k (.umap es)
  | rmap es => exact forceEs_eq es fun es => k (.rmap es)
  | _ => rfl
theorem forceS_eq {β : Type} : ∀ (l : List (Pos × Obj)) (k : List (Pos × Obj) → β), forceS l k = k l
  | [], k => rfl
  | (p, o) :: l, k => by
    show forceP p (fun p => forceO o fun o => forceS l fun l => k ((p, o) :: l)) = _
    rw [forceP_eq, forceO_eq, forceS_eq l]

/-! ### The same to the sign -/
theorem eqB_eq {a b : Bool} (h : eqB a b = true) : a = b := by cases a <;> cases b <;> first | rfl | cases h
theorem eqVs_eq' : ∀ {l m : List AV}, eqVs l m = true → l = m
  | [], [], _ => rfl
  | [], _ :: _, h => by simp [eqVs] at h
  | _ :: _, [], h => by simp [eqVs] at h
  | x :: l, y :: m, h => by
    simp only [eqVs, Bool.and_eq_true] at h
    rw [eqV_eq h.1, eqVs_eq' h.2]
theorem eqEs_eq : ∀ {l m : List (AV × AV)}, eqEs l m = true → l = m
  | [], [], _ => rfl
  | [], _ :: _, h => by simp [eqEs] at h
  | _ :: _, [], h => by simp [eqEs] at h
  | (a, b) :: l, (c, d) :: m, h => by
    simp only [eqEs, Bool.and_eq_true] at h
    rw [eqV_eq h.1.1, eqV_eq h.1.2, eqEs_eq h.2]
theorem eqO_eq {o o' : Obj} (h : eqO o o' = true) : o = o' := by
  cases o <;> cases o' <;> simp only [eqO, Bool.and_eq_true, Bool.false_eq_true] at h
  · obtain ⟨⟨⟨⟨h1, h2⟩, h3⟩, h4⟩, h5⟩ := h
    rw [eqVs_eq' h1, eqB_eq h2, eqB_eq h3, eqB_eq h4, Nat.eq_of_beq_eq_true h5]
  · rw [eqEs_eq h]
  · rw [eqEs_eq h]
  · rw [eqEs_eq h]
theorem eqS_eq : ∀ {l m : List (Pos × Obj)}, eqS l m = true → l = m
  | [], [], _ => rfl
  | [], _ :: _, h => by simp [eqS] at h
  | _ :: _, [], h => by simp [eqS] at h
  | (p, o) :: l, (q, o') :: m, h => by
    simp only [eqS, Bool.and_eq_true] at h
    rw [Pos.beq_eq h.1.1, eqO_eq h.1.2, eqS_eq h.2]
theorem eqBk_eq : ∀ {l m : List (Pos × Option Obj)}, eqBk l m = true → l = m
  | [], [], _ => rfl
  | [], _ :: _, h => by simp [eqBk] at h
  | (_, none) :: _, [], h => by simp [eqBk] at h
  | (_, some _) :: _, [], h => by simp [eqBk] at h
  | (p, none) :: l, (q, none) :: m, h => by
    simp only [eqBk, Bool.and_eq_true] at h
    rw [Pos.beq_eq h.1, eqBk_eq h.2]
  | (p, some o) :: l, (q, some o') :: m, h => by
    simp only [eqBk, Bool.and_eq_true] at h
    rw [Pos.beq_eq h.1.1, eqO_eq h.1.2, eqBk_eq h.2]
  | (_, none) :: _, (_, some _) :: _, h => by simp [eqBk] at h
  | (_, some _) :: _, (_, none) :: _, h => by simp [eqBk] at h
theorem Trim.same {x y : Trim} (h1 : eqV x.v y.v = true) (h2 : eqBk x.b y.b = true) (h3 : eqS x.n y.n = true) : x = y := by
  cases x
  cases y
  simp only at h1 h2 h3
  rw [eqV_eq h1, eqBk_eq h2, eqS_eq h3]
theorem eqTrim_eq {x y : Trim} (h : eqTrim x y = true) : x = y := by
  simp only [eqTrim, Bool.and_eq_true] at h
  exact Trim.same h.1.1 h.1.2 h.2
end Go.AM
namespace Go.AM

/-! ### What can be reached -/
theorem hasP_iff {p : Pos} : ∀ {l : List (Pos × Obj)}, hasP p l = true ↔ p ∈ l.map (·.1)
  | [] => by simp [hasP]
  | (q, o) :: l => by
    simp only [hasP, List.map_cons, List.mem_cons]
    constructor
    · intro h
      split at h
      · rename_i e
        exact .inl (Pos.beq_eq e)
      · exact .inr (hasP_iff.1 h)
    · rintro (rfl | h)
      · have : ∀ p : Pos, Pos.beq p p = true := by
          intro p
          induction p with
          | h => rfl
          | o p ih => exact ih
          | i p ih => exact ih
        rw [if_pos (this p)]
      · split
        · rfl
        · exact hasP_iff.2 h

/-- A part of a heap: its things, each once. -/
structure Part (h : Heap) (S : List (Pos × Obj)) : Prop where
  get : ∀ p o, (p, o) ∈ S → Tr.get p h = some o
  nodup : (S.map (·.1)).Nodup
/-- .. with all that is named in it. -/
def Closed (S : List (Pos × Obj)) (ps : List Pos) : Prop := ∀ p o, (p, o) ∈ S → ∃ ns, namesO o = some ns ∧ ∀ q ∈ ns, q ∈ S.map (·.1) ∨ q ∈ ps

theorem reach_spec {h : Heap} : ∀ {n : Nat} {ps : List Pos} {S T : List (Pos × Obj)}, reach h n ps S = some T → Part h S → Closed S ps → Part h T ∧ Closed T [] ∧ (∀ p ∈ ps, p ∈ T.map (·.1)) ∧ ∀ p ∈ S.map (·.1), p ∈ T.map (·.1)
  | 0, _, _, _, h, _, _ => by simp [reach] at h
  | n + 1, [], S, T, hr, P, C => by
    simp only [reach] at hr
    injection hr with hr
    subst hr
    exact ⟨P, C, by simp, fun _ h => h⟩
  | n + 1, p :: ps, S, T, hr, P, C => by
    simp only [reach] at hr
    split at hr
    · rename_i hp
      have hp := hasP_iff.1 hp
      obtain ⟨h1, h2, h3, h4⟩ := reach_spec hr P (fun q o hq => by
        obtain ⟨ns, g1, g2⟩ := C q o hq
        refine ⟨ns, g1, fun r hr => ?_⟩
        rcases g2 r hr with g | g
        · exact .inl g
        · rcases List.mem_cons.1 g with rfl | g
          · exact .inl hp
          · exact .inr g)
      exact ⟨h1, h2, fun q hq => by
        rcases List.mem_cons.1 hq with rfl | hq
        · exact h4 _ hp
        · exact h3 q hq, h4⟩
    · rename_i hp
      have hp : p ∉ S.map (·.1) := fun e => hp (hasP_iff.2 e)
      split at hr
      · rename_i o ho
        split at hr
        · rename_i l hl
          rw [appL_eq] at hr
          obtain ⟨h1, h2, h3, h4⟩ := reach_spec hr ⟨fun q o' hq => by
            rcases List.mem_cons.1 hq with e | hq
            · injection e with e1 e2
              subst e1 e2
              exact ho
            · exact P.get q o' hq, by
            rw [List.map_cons, List.nodup_cons]
            exact ⟨hp, P.nodup⟩⟩ (fun q o' hq => by
            rcases List.mem_cons.1 hq with e | hq
            · injection e with e1 e2
              subst e1 e2
              exact ⟨l, hl, fun r hr => .inr (List.mem_append_left _ hr)⟩
            · obtain ⟨ns, g1, g2⟩ := C q o' hq
              refine ⟨ns, g1, fun r hr => ?_⟩
              rcases g2 r hr with g | g
              · exact .inl (List.mem_cons_of_mem _ g)
              · rcases List.mem_cons.1 g with rfl | g
                · exact .inl (List.mem_cons_self ..)
                · exact .inr (List.mem_append_right _ g))
          refine ⟨h1, h2, fun q hq => ?_, fun q hq => h4 q (List.mem_cons_of_mem _ hq)⟩
          rcases List.mem_cons.1 hq with rfl | hq
          · exact h4 _ (List.mem_cons_self ..)
          · exact h3 q (List.mem_append_right _ hq)
        · cases hr
      · cases hr

/-! ### Values under other names -/
mutual
def mapV (f : Pos → Pos) : AV → AV
  | .ptr b o => .ptr (f b) o
  | .slice b o n c z e => .slice (f b) o n c z e
  | .map b => .map (f b)
  | .yield b => .yield (f b)
  | .func g c => .func g (mapVs f c)
  | .iface t v => .iface t (mapV f v)
  | .agg l => .agg (mapVs f l)
  | .tuple l => .tuple (mapVs f l)
  | v => v
def mapVs (f : Pos → Pos) : List AV → List AV
  | [] => []
  | v :: l => mapV f v :: mapVs f l
end
def mapEs (f : Pos → Pos) (l : List (AV × AV)) : List (AV × AV) := l.map fun e => (mapV f e.1, mapV f e.2)
def mapO (f : Pos → Pos) : Obj → Obj
  | .cells l a b c e => .cells (mapVs f l) a b c e
  | .map es => .map (mapEs f es)
  | .umap es => .umap (mapEs f es)
  | .rmap es => .rmap (mapEs f es)
  | o => o

mutual
theorem renV_eq (m : List (Pos × Pos)) : ∀ v : AV, renV m v = mapV (renP m) v
  | .ptr _ _ | .slice _ _ _ _ _ _ | .map _ | .yield _ => by simp only [renV, mapV]
  | .func g c => by simp only [renV, mapV, renVs_eq m c]
  | .iface t v => by simp only [renV, mapV, renV_eq m v]
  | .agg l => by simp only [renV, mapV, renVs_eq m l]
  | .tuple l => by simp only [renV, mapV, renVs_eq m l]
  | .bool _ | .int _ _ | .str _ | .nilptr | .gptr _ _ | .nilslice | .nilmap | .nilfunc | .nilIface => by simp only [renV, mapV]
theorem renVs_eq (m : List (Pos × Pos)) : ∀ l : List AV, renVs m l = mapVs (renP m) l
  | [] => rfl
  | v :: l => by simp only [renVs, mapVs, renV_eq m v, renVs_eq m l]
end
theorem renEs_eq (m : List (Pos × Pos)) : ∀ l : List (AV × AV), renEs m l = mapEs (renP m) l
  | [] => rfl
  | (k, v) :: l => by simp only [renEs, mapEs, List.map_cons, renV_eq, renEs_eq m l]
theorem renO_eq (m : List (Pos × Pos)) (o : Obj) : renO m o = mapO (renP m) o := by
  cases o <;> simp only [renO, mapO, renVs_eq, renEs_eq]

mutual
theorem mapV_mapV (f g : Pos → Pos) : ∀ v : AV, mapV f (mapV g v) = mapV (fun p => f (g p)) v
  | .ptr _ _ | .slice _ _ _ _ _ _ | .map _ | .yield _ => by simp only [mapV]
  | .func _ c => by simp only [mapV, mapVs_mapVs f g c]
  | .iface t v => by simp only [mapV, mapV_mapV f g v]
  | .agg l => by simp only [mapV, mapVs_mapVs f g l]
  | .tuple l => by simp only [mapV, mapVs_mapVs f g l]
  | .bool _ | .int _ _ | .str _ | .nilptr | .gptr _ _ | .nilslice | .nilmap | .nilfunc | .nilIface => by simp only [mapV]
theorem mapVs_mapVs (f g : Pos → Pos) : ∀ l : List AV, mapVs f (mapVs g l) = mapVs (fun p => f (g p)) l
  | [] => rfl
  | v :: l => by simp only [mapVs, mapV_mapV f g v, mapVs_mapVs f g l]
end
theorem mapEs_mapEs (f g : Pos → Pos) (l : List (AV × AV)) : mapEs f (mapEs g l) = mapEs (fun p => f (g p)) l := by
  simp only [mapEs, List.map_map]
  congr 1
  funext e
  simp only [Function.comp, mapV_mapV]
theorem mapO_mapO (f g : Pos → Pos) (o : Obj) : mapO f (mapO g o) = mapO (fun p => f (g p)) o := by
  cases o <;> simp only [mapO, mapVs_mapVs, mapEs_mapEs]

theorem mapVs_length (f : Pos → Pos) : ∀ l : List AV, (mapVs f l).length = l.length
  | [] => rfl
  | v :: l => by simp [mapVs, mapVs_length f l]
theorem mapVs_get (f : Pos → Pos) : ∀ (l : List AV) (i : Nat), (mapVs f l)[i]? = (l[i]?).map (mapV f)
  | [], i => by simp [mapVs]
  | v :: l, 0 => by simp [mapVs]
  | v :: l, i + 1 => by simp [mapVs, mapVs_get f l i]

theorem mem_namesVs {p : Pos} : ∀ {l : List AV}, p ∈ namesVs l ↔ ∃ v ∈ l, p ∈ namesV v
  | [] => by simp [namesVs]
  | v :: l => by
    simp only [namesVs, appL_eq, List.mem_append, List.mem_cons]
    constructor
    · rintro (h | h)
      · exact ⟨v, .inl rfl, h⟩
      · obtain ⟨u, h1, h2⟩ := mem_namesVs.1 h
        exact ⟨u, .inr h1, h2⟩
    · rintro ⟨u, rfl | h1, h2⟩
      · exact .inl h2
      · exact .inr (mem_namesVs.2 ⟨u, h1, h2⟩)
theorem mem_namesEs {p : Pos} : ∀ {l : List (AV × AV)}, p ∈ namesEs l ↔ ∃ e ∈ l, p ∈ namesV e.1 ∨ p ∈ namesV e.2
  | [] => by simp [namesEs]
  | (k, v) :: l => by
    simp only [namesEs, appL_eq, List.mem_append, List.mem_cons]
    constructor
    · rintro (h | h | h)
      · exact ⟨(k, v), .inl rfl, .inl h⟩
      · exact ⟨(k, v), .inl rfl, .inr h⟩
      · obtain ⟨u, h1, h2⟩ := mem_namesEs.1 h
        exact ⟨u, .inr h1, h2⟩
    · rintro ⟨u, rfl | h1, h2⟩
      · rcases h2 with h2 | h2
        · exact .inl h2
        · exact .inr (.inl h2)
      · exact .inr (.inr (mem_namesEs.2 ⟨u, h1, h2⟩))

/-- The places of names go over. -/
def Over (φ ψ : Ph) (f : Pos → Pos) (ns : List Pos) : Prop := ∀ p ∈ ns, ∀ x, φ p = some x → ψ (f p) = some x
theorem Over.mono {φ ψ : Ph} {f : Pos → Pos} {ns ms : List Pos} (h : Over φ ψ f ns) (hs : ∀ p ∈ ms, p ∈ ns) : Over φ ψ f ms := fun p hp => h p (hs p hp)

mutual
theorem VR_map {φ ψ : Ph} {f : Pos → Pos} : ∀ {v : AV} {u : Value}, Over φ ψ f (namesV v) → VR φ v u → VR ψ (mapV f v) u
  | .bool _, _, _, e => by simpa [mapV, VR] using e
  | .int _ _, _, _, e => by simpa [mapV, VR] using e
  | .str _, _, _, e => by simpa [mapV, VR] using e
  | .nilptr, _, _, e => by simpa [mapV, VR] using e
  | .ptr p o, _, h, e => by
    simp only [mapV, VR] at e ⊢
    obtain ⟨k, b, s, e1, e2⟩ := e
    exact ⟨k, b, s, h p (by simp [namesV]) _ e1, e2⟩
  | .gptr _ _, _, _, e => by simpa [mapV, VR] using e
  | .nilslice, _, _, e => by simpa [mapV, VR] using e
  | .slice p o n c sz ex, _, h, e => by
    simp only [mapV, VR] at e ⊢
    obtain ⟨k, b, s, cap, e1, e2⟩ := e
    exact ⟨k, b, s, cap, h p (by simp [namesV]) _ e1, e2⟩
  | .nilmap, _, _, e => by simpa [mapV, VR] using e
  | .map p, _, h, e => by
    simp only [mapV, VR] at e ⊢
    obtain ⟨k, b, s, e1, e2⟩ := e
    exact ⟨k, b, s, h p (by simp [namesV]) _ e1, e2⟩
  | .func g c, _, h, e => by
    simp only [mapV, VR] at e ⊢
    obtain ⟨vs, e1, e2⟩ := e
    exact ⟨vs, e1, VRL_map (by simpa [namesV] using h) e2⟩
  | .nilfunc, _, _, e => by simpa [mapV, VR] using e
  | .yield p, _, h, e => by
    simp only [mapV, VR] at e ⊢
    obtain ⟨k, b, s, e1, e2⟩ := e
    exact ⟨k, b, s, h p (by simp [namesV]) _ e1, e2⟩
  | .iface t a, _, h, e => by
    simp only [mapV, VR] at e ⊢
    obtain ⟨u, e1, e2⟩ := e
    exact ⟨u, e1, VR_map (by simpa [namesV] using h) e2⟩
  | .nilIface, _, _, e => by simpa [mapV, VR] using e
  | .agg l, _, h, e => by
    simp only [mapV, VR] at e ⊢
    obtain ⟨vs, e1, e2⟩ := e
    exact ⟨vs, e1, VRL_map (by simpa [namesV] using h) e2⟩
  | .tuple l, _, h, e => by
    simp only [mapV, VR] at e ⊢
    obtain ⟨vs, e1, e2⟩ := e
    exact ⟨vs, e1, VRL_map (by simpa [namesV] using h) e2⟩
theorem VRL_map {φ ψ : Ph} {f : Pos → Pos} : ∀ {l : List AV} {us : List Value}, Over φ ψ f (namesVs l) → VRL φ l us → VRL ψ (mapVs f l) us
  | [], _, _, e => by simpa [mapVs, VRL] using e
  | a :: l, _, h, e => by
    simp only [mapVs, VRL] at e ⊢
    obtain ⟨v, r, e1, e2, e3⟩ := e
    simp only [namesVs, appL_eq] at h
    exact ⟨v, r, e1, VR_map (h.mono fun p hp => List.mem_append_left _ hp) e2, VRL_map (h.mono fun p hp => List.mem_append_right _ hp) e3⟩
end

mutual
/-- A name in a value has a place. -/
theorem VR_placed {φ : Ph} : ∀ {v : AV} {u : Value}, VR φ v u → ∀ p ∈ namesV v, φ p ≠ none
  | .bool _, _, _, p, hp => by simp [namesV] at hp
  | .int _ _, _, _, p, hp => by simp [namesV] at hp
  | .str _, _, _, p, hp => by simp [namesV] at hp
  | .nilptr, _, _, p, hp => by simp [namesV] at hp
  | .ptr q o, _, e, p, hp => by
    simp only [namesV, List.mem_singleton] at hp
    subst hp
    simp only [VR] at e
    obtain ⟨k, b, s, e1, _⟩ := e
    rw [e1]; simp
  | .gptr _ _, _, _, p, hp => by simp [namesV] at hp
  | .nilslice, _, _, p, hp => by simp [namesV] at hp
  | .slice q o n c sz ex, _, e, p, hp => by
    simp only [namesV, List.mem_singleton] at hp
    subst hp
    simp only [VR] at e
    obtain ⟨k, b, s, cap, e1, _⟩ := e
    rw [e1]; simp
  | .nilmap, _, _, p, hp => by simp [namesV] at hp
  | .map q, _, e, p, hp => by
    simp only [namesV, List.mem_singleton] at hp
    subst hp
    simp only [VR] at e
    obtain ⟨k, b, s, e1, _⟩ := e
    rw [e1]; simp
  | .func g c, _, e, p, hp => by
    simp only [VR] at e
    obtain ⟨vs, _, e2⟩ := e
    exact VRL_placed e2 p (by simpa [namesV] using hp)
  | .nilfunc, _, _, p, hp => by simp [namesV] at hp
  | .yield q, _, e, p, hp => by
    simp only [namesV, List.mem_singleton] at hp
    subst hp
    simp only [VR] at e
    obtain ⟨k, b, s, e1, _⟩ := e
    rw [e1]; simp
  | .iface t a, _, e, p, hp => by
    simp only [VR] at e
    obtain ⟨u, _, e2⟩ := e
    exact VR_placed e2 p (by simpa [namesV] using hp)
  | .nilIface, _, _, p, hp => by simp [namesV] at hp
  | .agg l, _, e, p, hp => by
    simp only [VR] at e
    obtain ⟨vs, _, e2⟩ := e
    exact VRL_placed e2 p (by simpa [namesV] using hp)
  | .tuple l, _, e, p, hp => by
    simp only [VR] at e
    obtain ⟨vs, _, e2⟩ := e
    exact VRL_placed e2 p (by simpa [namesV] using hp)
theorem VRL_placed {φ : Ph} : ∀ {l : List AV} {us : List Value}, VRL φ l us → ∀ p ∈ namesVs l, φ p ≠ none
  | [], _, _, p, hp => by simp [namesVs] at hp
  | a :: l, _, e, p, hp => by
    simp only [VRL] at e
    obtain ⟨v, r, _, e2, e3⟩ := e
    simp only [namesVs, appL_eq, List.mem_append] at hp
    rcases hp with hp | hp
    · exact VR_placed e2 p hp
    · exact VRL_placed e3 p hp
end

theorem ER_map {φ ψ : Ph} {f : Pos → Pos} {es : List (AV × AV)} {en : List MapEntry} (h : Over φ ψ f (namesEs es)) (e : ER φ es en) : ER ψ (mapEs f es) en := by
  refine ⟨by simp [mapEs, e.1], fun i k v hi => ?_⟩
  simp only [mapEs, List.getElem?_map, Option.map_eq_some_iff] at hi
  obtain ⟨⟨k0, v0⟩, h1, h2⟩ := hi
  simp only [Prod.mk.injEq] at h2
  obtain ⟨rfl, rfl⟩ := h2
  obtain ⟨x, g1, g2, g3, g4⟩ := e.2 i k0 v0 h1
  have hm := List.mem_of_getElem? h1
  exact ⟨x, g1, VR_map (h.mono fun p hp => mem_namesEs.2 ⟨_, hm, .inl hp⟩) g2, VR_map (h.mono fun p hp => mem_namesEs.2 ⟨_, hm, .inr hp⟩) g3, g4⟩
theorem UK_map {f : Pos → Pos} {es : List (AV × AV)} (h : UK es) : UK (mapEs f es) := by
  have key : (mapEs f es).map (·.1) = es.map (·.1) := by
    simp only [mapEs, List.map_map]
    refine List.map_congr_left fun e he => ?_
    obtain ⟨s, hs, _⟩ := h.1 e he
    simp [hs, mapV]
  refine ⟨fun e he => ?_, by rw [key]; exact h.2⟩
  have : e.1 ∈ (mapEs f es).map (·.1) := List.mem_map_of_mem he
  rw [key] at this
  obtain ⟨e', h1, h2⟩ := List.mem_map.1 this
  obtain ⟨s, h3, h4⟩ := h.1 e' h1
  exact ⟨s, by rw [← h2, h3], h4⟩
theorem UR_map {φ ψ : Ph} {f : Pos → Pos} {es : List (AV × AV)} {en : List MapEntry} (h : Over φ ψ f (namesEs es)) (e : UR φ es en) : UR ψ (mapEs f es) en := by
  obtain ⟨es', h1, h2, h3⟩ := e
  exact ⟨mapEs f es', h1.map _, ER_map (h.mono fun p hp => by
    obtain ⟨e, h4, h5⟩ := mem_namesEs.1 hp
    exact mem_namesEs.2 ⟨e, h1.mem_iff.1 h4, h5⟩) h2, UK_map h3⟩

theorem OR_map {B B' : Base} {φ ψ : Ph} {f : Pos → Pos} {o : Obj} {ns : List Pos} (hn : namesO o = some ns) (h : Over φ ψ f ns) {x : Go.Obj} {b s : Nat} (e : OR_ B φ o x b s) : OR_ B' ψ (mapO f o) x b s := by
  cases o with
  | cells l ro sx one t =>
    simp only [namesO] at hn
    injection hn with hn
    subst hn
    obtain ⟨c, lo, hi, h1, h0, h2, h3, h4, h5⟩ := e
    refine ⟨c, lo, hi, h1, ?_, h2, ?_, fun i v hv => ?_, ?_⟩
    · rw [mapVs_length]; exact h0
    · rw [mapVs_length]; exact h3
    · rw [mapVs_get, Option.map_eq_some_iff] at hv
      obtain ⟨v0, g1, rfl⟩ := hv
      obtain ⟨u, g2, g3⟩ := h4 i v0 g1
      exact ⟨u, g2, VR_map (h.mono fun p hp => mem_namesVs.2 ⟨_, List.mem_of_getElem? g1, hp⟩) g3⟩
    · rw [mapVs_length]; exact h5
  | map es =>
    simp only [namesO] at hn
    injection hn with hn
    subst hn
    obtain ⟨en, h1, h2⟩ := e
    exact ⟨en, by rw [h1]; simp [mapEs], ER_map h h2⟩
  | umap es =>
    simp only [namesO] at hn
    injection hn with hn
    subst hn
    obtain ⟨en, h1, h2⟩ := e
    exact ⟨en, by rw [h1]; simp [mapEs], UR_map h h2⟩
  | rmap es =>
    simp only [namesO] at hn
    injection hn with hn
    subst hn
    obtain ⟨en, h1, h2⟩ := e
    exact ⟨en, by rw [h1]; simp [mapEs], UR_map h h2⟩
  | _ => cases hn

theorem OR_placed {B : Base} {φ : Ph} {o : Obj} {ns : List Pos} (hn : namesO o = some ns) {x : Go.Obj} {b s : Nat} (e : OR_ B φ o x b s) : ∀ p ∈ ns, φ p ≠ none := by
  have ent : ∀ {es : List (AV × AV)} {en : List MapEntry}, ER φ es en → ∀ p ∈ namesEs es, φ p ≠ none := by
    intro es en e p hp
    obtain ⟨⟨k, v⟩, hm, hq⟩ := mem_namesEs.1 hp
    obtain ⟨i, hi⟩ := List.getElem?_of_mem hm
    obtain ⟨x, g1, g2, g3, g4⟩ := e.2 i k v hi
    rcases hq with hq | hq
    · exact VR_placed g2 p hq
    · exact VR_placed g3 p hq
  have uent : ∀ {es : List (AV × AV)} {en : List MapEntry}, UR φ es en → ∀ p ∈ namesEs es, φ p ≠ none := by
    rintro es en ⟨es', h1, h2, h3⟩ p hp
    obtain ⟨e, h4, h5⟩ := mem_namesEs.1 hp
    exact ent h2 p (mem_namesEs.2 ⟨e, h1.mem_iff.2 h4, h5⟩)
  cases o with
  | cells l ro sx one t =>
    simp only [namesO] at hn
    injection hn with hn
    subst hn
    obtain ⟨c, lo, hi, h1, h0, h2, h3, h4, h5⟩ := e
    intro p hp
    obtain ⟨v, hm, hq⟩ := mem_namesVs.1 hp
    obtain ⟨i, hi⟩ := List.getElem?_of_mem hm
    obtain ⟨u, g2, g3⟩ := h4 i v hi
    exact VR_placed g3 p hq
  | map es =>
    simp only [namesO] at hn
    injection hn with hn
    subst hn
    obtain ⟨en, h1, h2⟩ := e
    exact ent h2
  | umap es =>
    simp only [namesO] at hn
    injection hn with hn
    subst hn
    obtain ⟨en, h1, h2⟩ := e
    exact uent h2
  | rmap es =>
    simp only [namesO] at hn
    injection hn with hn
    subst hn
    obtain ⟨en, h1, h2⟩ := e
    exact uent h2
  | _ => cases hn
theorem OR_asRead {B : Base} {φ : Ph} {o : Obj} {x : Go.Obj} {b s : Nat} (e : OR_ B φ o x b s) : OR_ B φ (asRead o) x b s := by
  cases o <;> exact e
theorem namesO_asRead (o : Obj) : namesO (asRead o) = namesO o := by cases o <;> rfl
theorem mapO_asRead (f : Pos → Pos) (o : Obj) : mapO f (asRead o) = asRead (mapO f o) := by cases o <;> rfl
theorem ro_mapO (f : Pos → Pos) (o : Obj) : (mapO f o).ro = o.ro := by cases o <;> rfl
end Go.AM
namespace Go.AM

def addP (n : Pos) : Nat → Pos
  | 0 => n
  | i + 1 => addP (Pos.succ n) i
theorem addP_val : ∀ (i : Nat) (n : Pos), (addP n i).val = n.val + i
  | 0, n => rfl
  | i + 1, n => by simp only [addP, addP_val i, Pos.val_succ]; omega
theorem addP_inj {n : Pos} {i j : Nat} (h : addP n i = addP n j) : i = j := by
  have := congrArg Pos.val h
  rw [addP_val, addP_val] at this
  omega
theorem addP_of_val {n q : Pos} (h : n.val ≤ q.val) : q = addP n (q.val - n.val) := Pos.val_inj (by rw [addP_val]; omega)
theorem Pos.beq_self : ∀ p : Pos, Pos.beq p p = true := by
  intro p
  induction p with
  | h => rfl
  | o p ih => exact ih
  | i p ih => exact ih
theorem Pos.beq_ne {p q : Pos} (h : p ≠ q) : Pos.beq p q = false := by
  rw [Bool.eq_false_iff]
  exact fun e => h (Pos.beq_eq e)

theorem renP_mkRen : ∀ {L : List (Pos × Obj)} {n : Pos} {i : Nat} {p : Pos}, (L.map (·.1)).Nodup → (L.map (·.1))[i]? = some p → renP (mkRen L n) p = addP n i
  | [], _, i, p, _, h => by simp at h
  | (q, o) :: L, n, 0, p, _, h => by
    simp only [List.map_cons, List.getElem?_cons_zero, Option.some.injEq] at h
    subst h
    simp only [mkRen, renP, Pos.beq_self, if_true]
    rfl
  | (q, o) :: L, n, i + 1, p, hn, h => by
    simp only [List.map_cons, List.nodup_cons] at hn
    simp only [List.map_cons, List.getElem?_cons_succ] at h
    have hne : p ≠ q := fun e => by
      subst e
      exact hn.1 (List.mem_of_getElem? h)
    simp only [mkRen, renP, Pos.beq_ne hne, Bool.false_eq_true, if_false, addP]
    exact renP_mkRen hn.2 h
theorem renP_mkRen_not : ∀ {L : List (Pos × Obj)} {n p : Pos}, p ∉ L.map (·.1) → renP (mkRen L n) p = p
  | [], _, _, _ => rfl
  | (q, o) :: L, n, p, h => by
    simp only [List.map_cons, List.mem_cons, not_or] at h
    simp only [mkRen, renP, Pos.beq_ne h.1, Bool.false_eq_true, if_false]
    exact renP_mkRen_not h.2
theorem afterP_eq : ∀ (L : List (Pos × Obj)) (n : Pos), afterP L n = addP n L.length
  | [], _ => rfl
  | _ :: L, n => by
    simp only [afterP, List.length_cons, addP]
    exact afterP_eq L _
theorem renS_eq (m : List (Pos × Pos)) : ∀ L : List (Pos × Obj), renS m L = L.map fun e => (renP m e.1, mapO (renP m) e.2)
  | [] => rfl
  | (p, o) :: L => by simp only [renS, List.map_cons, renS_eq m L, renO_eq]
theorem readS_eq : ∀ L : List (Pos × Obj), readS L = L.map fun e => (e.1, asRead e.2)
  | [] => rfl
  | (p, o) :: L => by simp only [readS, List.map_cons, readS_eq L]
theorem namesS_eq : ∀ L : List (Pos × Obj), namesS L = L.map (·.1)
  | [] => rfl
  | (p, o) :: L => by simp only [namesS, List.map_cons, namesS_eq L]
theorem layS_get_not : ∀ {L : List (Pos × Obj)} {h : Heap} {q : Pos}, q ∉ L.map (·.1) → Tr.get q (layS L h) = Tr.get q h
  | [], _, _, _ => rfl
  | (p, o) :: L, h, q, hq => by
    simp only [List.map_cons, List.mem_cons, not_or] at hq
    simp only [layS]
    rw [Tr.get_set_ne _ _ _ _ hq.1, layS_get_not hq.2]
theorem layS_get : ∀ {L : List (Pos × Obj)} {h : Heap} {q : Pos} {o : Obj}, (L.map (·.1)).Nodup → (q, o) ∈ L → Tr.get q (layS L h) = some o
  | [], _, _, _, _, hm => by cases hm
  | (p, o') :: L, h, q, o, hn, hm => by
    simp only [List.map_cons, List.nodup_cons] at hn
    simp only [layS]
    rcases List.mem_cons.1 hm with e | hm'
    · injection e with e1 e2
      subst e1 e2
      rw [Tr.get_set_same]
    · have hne : q ≠ p := fun e => by
        subst e
        exact hn.1 (List.mem_map.2 ⟨(q, o), hm', rfl⟩)
      rw [Tr.get_set_ne _ _ _ _ hne, layS_get hn.2 hm']
theorem layS_some {L : List (Pos × Obj)} {q : Pos} {o : Obj} (hn : (L.map (·.1)).Nodup) (h : Tr.get q (layS L .leaf) = some o) : (q, o) ∈ L := by
  by_cases hq : q ∈ L.map (·.1)
  · obtain ⟨⟨q', o'⟩, h1, rfl⟩ := List.mem_map.1 hq
    rw [layS_get hn h1] at h
    injection h with h
    subst h
    exact h1
  · rw [layS_get_not hq, Tr.get_leaf] at h
    cases h

/-- The part under names of its own. -/
def own (S : List (Pos × Obj)) : List (Pos × Obj) := renS (mkRen S .h) (readS S)
/-- Where its things lie. -/
def ownφ (φ : Ph) (S : List (Pos × Obj)) : Ph := fun q => (S[q.val - 1]?).bind fun e => φ e.1
open Classical in
/-- All but what may be written stays as it is. -/
noncomputable def ownB (φ : Ph) (S : List (Pos × Obj)) (w : World) : Base where
  keep k := if ∃ p o b s, (p, o) ∈ S ∧ (asRead o).ro = false ∧ φ p = some (k, b, s) then none else w.heap[k]?
  w := w

section
variable {φ : Ph} {B : Base} {h : Heap} {nx : Pos} {w : World} {S : List (Pos × Obj)} {E : Env}

theorem own_eq (S : List (Pos × Obj)) : own S = S.map fun e => (renP (mkRen S .h) e.1, mapO (renP (mkRen S .h)) (asRead e.2)) := by
  rw [own, renS_eq, readS_eq, List.map_map]
  rfl
theorem own_length (S : List (Pos × Obj)) : (own S).length = S.length := by rw [own_eq]; simp
theorem own_get (hn : (S.map (·.1)).Nodup) {i : Nat} {p : Pos} {o : Obj} (h : S[i]? = some (p, o)) : (own S)[i]? = some (addP .h i, mapO (renP (mkRen S .h)) (asRead o)) := by
  rw [own_eq, List.getElem?_map, h]
  simp only [Option.map_some]
  rw [renP_mkRen hn (i := i) (by rw [List.getElem?_map, h]; rfl)]
theorem own_names (hn : (S.map (·.1)).Nodup) (i : Nat) : ((own S).map (·.1))[i]? = if i < S.length then some (addP .h i) else none := by
  rw [List.getElem?_map]
  split
  · rename_i hi
    have : S[i]? = some ((S[i]).1, (S[i]).2) := by simp [hi]
    rw [own_get hn this]
    rfl
  · rename_i hi
    rw [List.getElem?_eq_none (by rw [own_length]; omega)]
    rfl
theorem own_nodup (hn : (S.map (·.1)).Nodup) : ((own S).map (·.1)).Nodup := by
  refine List.nodup_iff_pairwise_ne.2 (List.pairwise_iff_getElem.2 fun i j hi hj hij e => ?_)
  simp only [List.length_map, own_length] at hi hj
  have h1 := own_names hn i
  have h2 := own_names hn j
  rw [if_pos hi, List.getElem?_eq_getElem (by simpa [own_length] using hi)] at h1
  rw [if_pos hj, List.getElem?_eq_getElem (by simpa [own_length] using hj)] at h2
  injection h1 with h1
  injection h2 with h2
  rw [h1, h2] at e
  have := addP_inj e
  omega
theorem own_mem {q : Pos} {o' : Obj} (hn : (S.map (·.1)).Nodup) (h : (q, o') ∈ own S) : ∃ i p o, S[i]? = some (p, o) ∧ q = addP .h i ∧ o' = mapO (renP (mkRen S .h)) (asRead o) := by
  obtain ⟨i, hi⟩ := List.getElem?_of_mem h
  have hl : i < S.length := by
    have := (List.getElem?_eq_some_iff.1 hi).1
    rwa [own_length] at this
  have : S[i]? = some ((S[i]).1, (S[i]).2) := by simp [hl]
  rw [own_get hn this] at hi
  injection hi with hi
  injection hi with h1 h2
  exact ⟨i, _, _, this, h1.symm, h2.symm⟩
theorem ownφ_add {i : Nat} {p : Pos} {o : Obj} (h : S[i]? = some (p, o)) : ownφ φ S (addP .h i) = φ p := by
  unfold ownφ
  rw [addP_val, show Pos.h.val + i - 1 = i by simp [Pos.val], h]
  rfl
theorem ownφ_ren (hn : (S.map (·.1)).Nodup) {p : Pos} (hp : p ∈ S.map (·.1)) : ownφ φ S (renP (mkRen S .h) p) = φ p := by
  obtain ⟨⟨p', o⟩, h1, rfl⟩ := List.mem_map.1 hp
  obtain ⟨i, hi⟩ := List.getElem?_of_mem h1
  rw [renP_mkRen hn (i := i) (by rw [List.getElem?_map, hi]; rfl)]
  exact ownφ_add hi
theorem ownφ_some {q : Pos} {x : Nat × Nat × Nat} (h : ownφ φ S q = some x) : ∃ i p o, S[i]? = some (p, o) ∧ q = addP .h i ∧ φ p = some x := by
  unfold ownφ at h
  rw [Option.bind_eq_some_iff] at h
  obtain ⟨⟨p, o⟩, h1, h2⟩ := h
  refine ⟨_, p, o, h1, ?_, h2⟩
  have hq := Pos.val_pos q
  exact addP_of_val (n := .h) (by simp [Pos.val]; omega)
theorem own_over (hn : (S.map (·.1)).Nodup) {ns : List Pos} (hs : ∀ p ∈ ns, p ∈ S.map (·.1)) : Over φ (ownφ φ S) (renP (mkRen S .h)) ns := by
  intro p hp x hx
  rw [ownφ_ren hn (hs p hp)]
  exact hx

theorem own_keep_none {p : Pos} {o : Obj} {k b s : Nat} (hm : (p, o) ∈ S) (hr : (asRead o).ro = false) (hp : φ p = some (k, b, s)) : (ownB φ S w).keep k = none := by
  unfold ownB
  exact if_pos ⟨p, o, b, s, hm, hr, hp⟩
theorem own_keep {k : Nat} (h : ∀ p o b s, (p, o) ∈ S → (asRead o).ro = false → φ p ≠ some (k, b, s)) : (ownB φ S w).keep k = w.heap[k]? := by
  unfold ownB
  exact if_neg fun ⟨p, o, b, s, h1, h2, h3⟩ => h p o b s h1 h2 h3

theorem own_HR (H : HR φ B h nx w) (P : Part h S) (C : Closed S []) : HR (ownφ φ S) (ownB φ S w) (layS (own S) .leaf) (afterP (own S) .h) w := by
  have hn := P.nodup
  have hn' := own_nodup hn
  have hmem : ∀ {i : Nat} {p : Pos} {o : Obj}, S[i]? = some (p, o) → (p, o) ∈ S := fun h => List.mem_of_getElem? h
  have hfresh : ∀ p : Pos, (afterP (own S) .h).val ≤ p.val → S[p.val - 1]? = none := by
    intro p hp
    rw [afterP_eq, addP_val, own_length] at hp
    simp [Pos.val] at hp
    rw [List.getElem?_eq_none_iff]
    omega
  refine ⟨fun p hp => ?_, fun p hp => ?_, fun q k b s hq => ?_, fun q r k b s b' s' hq hr h1 h2 => ?_, fun q o' k b s hg hq => ?_, fun q o' k b s hg hq => ?_, fun i x hi => ?_, rfl, rfl, rfl⟩
  · unfold ownφ
    rw [hfresh p hp]
    rfl
  · rw [layS_get_not fun hm => ?_, Tr.get_leaf]
    obtain ⟨⟨q, o'⟩, g1, rfl⟩ := List.mem_map.1 hm
    obtain ⟨i, p', o, g2, g3, _⟩ := own_mem hn g1
    have := hfresh _ hp
    rw [g3, addP_val, show Pos.h.val + i - 1 = i by simp [Pos.val], g2] at this
    cases this
  · obtain ⟨i, p, o, g1, g2, g3⟩ := ownφ_some hq
    exact H.blk p k b s g3
  · obtain ⟨i, p, o, g1, g2, g3⟩ := ownφ_some hq
    obtain ⟨j, p', o', e1, e2, e3⟩ := ownφ_some hr
    have : p = p' := H.inj p p' k b s b' s' g3 e3 (by rw [P.get p o (hmem g1)]; simp) (by rw [P.get p' o' (hmem e1)]; simp)
    subst this
    have : i = j := by
      have hi : (S.map (·.1))[i]? = some p := by rw [List.getElem?_map, g1]; rfl
      have hj : (S.map (·.1))[j]? = some p := by rw [List.getElem?_map, e1]; rfl
      exact (List.getElem?_inj (by simpa using (List.getElem?_eq_some_iff.1 g1).1) hn).1 (hi.trans hj.symm)
    rw [g2, e2, this]
  · obtain ⟨i, p, o, g1, g2, g3⟩ := own_mem hn (layS_some hn' hg)
    subst g2 g3
    rw [ownφ_add g1] at hq
    obtain ⟨x, e1, e2⟩ := H.obj p o k b s (P.get _ _ (hmem g1)) hq
    obtain ⟨ns, c1, c2⟩ := C _ _ (hmem g1)
    exact ⟨x, e1, OR_map (by rw [namesO_asRead]; exact c1) (own_over hn fun p hp => (c2 p hp).resolve_right (by simp)) (OR_asRead e2)⟩
  · obtain ⟨i, p, o, g1, g2, g3⟩ := own_mem hn (layS_some hn' hg)
    subst g2 g3
    rw [ownφ_add g1] at hq
    rw [ro_mapO]
    cases hro : (asRead o).ro with
    | false => exact own_keep_none (hmem g1) hro hq
    | true =>
      refine own_keep fun p' o' b' s' g4 g5 g6 => ?_
      have : p' = p := H.inj p' p k b' s' b s g6 hq (by rw [P.get _ _ g4]; simp) (by rw [P.get _ _ (hmem g1)]; simp)
      subst this
      have e1 := P.get _ _ g4
      rw [P.get _ _ (hmem g1)] at e1
      injection e1 with e1
      subst e1
      rw [hro] at g5
      cases g5
  · unfold ownB at hi
    simp only at hi
    split at hi
    · cases hi
    · exact hi

theorem asRead_ro {o : Obj} (h : (asRead o).ro = false) : o.ro = false := by
  cases o <;> first | rfl | exact h
theorem own_GB (G : GB E B) (H : HR φ B h nx w) (P : Part h S) : GB E (ownB φ S w) := by
  intro g l hl
  obtain ⟨c, e, fz, h1, h2⟩ := G g l hl
  refine ⟨c, e, fz, ?_, h2⟩
  rw [own_keep fun p o b s hm hr hp => ?_]
  · exact H.old _ _ h1
  · have := H.hold p o g b s (P.get _ _ hm) hp
    rw [asRead_ro hr, h1] at this
    cases this
theorem own_args {l : List AV} {us : List Value} (P : Part h S) (hs : ∀ p ∈ namesVs l, p ∈ S.map (·.1)) (hl : VRL φ l us) : VRL (ownφ φ S) (renVs (mkRen S .h) l) us := by
  rw [renVs_eq]
  exact VRL_map (own_over P.nodup hs) hl
end
end Go.AM
namespace Go.AM

theorem reach_all {h : Heap} {Q : Pos → Prop} (step : ∀ p o ns, Q p → Tr.get p h = some o → namesO o = some ns → ∀ q ∈ ns, Q q) : ∀ {n : Nat} {ps : List Pos} {S T : List (Pos × Obj)}, reach h n ps S = some T → (∀ p ∈ ps, Q p) → (∀ p ∈ S.map (·.1), Q p) → ∀ p ∈ T.map (·.1), Q p
  | 0, _, _, _, h, _, _ => by simp [reach] at h
  | n + 1, [], S, T, hr, hp, hS => by
    simp only [reach] at hr
    injection hr with hr
    subst hr
    exact hS
  | n + 1, p :: ps, S, T, hr, hp, hS => by
    simp only [reach] at hr
    split at hr
    · exact reach_all step hr (fun q hq => hp q (List.mem_cons_of_mem _ hq)) hS
    · split at hr
      · rename_i o ho
        split at hr
        · rename_i l hl
          rw [appL_eq] at hr
          have hQ := hp p (List.mem_cons_self ..)
          refine reach_all step hr (fun q hq => ?_) (fun q hq => ?_)
          · rcases List.mem_append.1 hq with hq | hq
            · exact step p o l hQ ho hl q hq
            · exact hp q (List.mem_cons_of_mem _ hq)
          · rw [List.map_cons, List.mem_cons] at hq
            rcases hq with rfl | hq
            · exact hQ
            · exact hS q hq
        · cases hr
      · cases hr

theorem renP_mkBack : ∀ {S S' : List (Pos × Obj)} {r : List (Pos × Pos)} {i : Nat} {p q : Pos}, (S'.map (·.1)).Nodup → (S.map (·.1))[i]? = some p → (S'.map (·.1))[i]? = some q → renP (mkBack S S' r) q = p
  | [], _, _, i, p, q, _, h, _ => by simp at h
  | _ :: _, [], _, i, p, q, _, _, h => by simp at h
  | (a, _) :: S, (b, _) :: S', r, 0, p, q, _, h1, h2 => by
    simp only [List.map_cons, List.getElem?_cons_zero, Option.some.injEq] at h1 h2
    subst h1 h2
    simp only [mkBack, renP, Pos.beq_self, if_true]
  | (a, _) :: S, (b, _) :: S', r, i + 1, p, q, hn, h1, h2 => by
    simp only [List.map_cons, List.nodup_cons] at hn
    simp only [List.map_cons, List.getElem?_cons_succ] at h1 h2
    have hne : q ≠ b := fun e => by
      subst e
      exact hn.1 (List.mem_of_getElem? h2)
    simp only [mkBack, renP, Pos.beq_ne hne, Bool.false_eq_true, if_false]
    exact renP_mkBack hn.2 h1 h2
theorem renP_mkBack_not : ∀ {S S' : List (Pos × Obj)} {r : List (Pos × Pos)} {q : Pos}, q ∉ S'.map (·.1) → renP (mkBack S S' r) q = renP r q
  | [], _, _, _, _ => by simp only [mkBack]
  | _ :: _, [], _, _, _ => by simp only [mkBack]
  | (a, _) :: S, (b, _) :: S', r, q, h => by
    simp only [List.map_cons, List.mem_cons, not_or] at h
    simp only [mkBack, renP, Pos.beq_ne h.1, Bool.false_eq_true, if_false]
    exact renP_mkBack_not h.2

theorem newS_mem {S : List (Pos × Obj)} {p : Pos} {o : Obj} : ∀ {T : List (Pos × Obj)}, (p, o) ∈ newS S T ↔ (p, o) ∈ T ∧ p ∉ S.map (·.1)
  | [] => by simp [newS]
  | (q, o') :: T => by
    simp only [newS]
    split
    · rename_i hq
      have hq := hasP_iff.1 hq
      rw [newS_mem (T := T), List.mem_cons]
      constructor
      · exact fun h => ⟨.inr h.1, h.2⟩
      · rintro ⟨e | h, h2⟩
        · injection e with e1 e2
          subst e1
          exact absurd hq h2
        · exact ⟨h, h2⟩
    · rename_i hq
      have hq : q ∉ S.map (·.1) := fun e => hq (hasP_iff.2 e)
      rw [List.mem_cons, List.mem_cons, newS_mem (T := T)]
      constructor
      · rintro (e | h)
        · injection e with e1 e2
          subst e1 e2
          exact ⟨.inl rfl, hq⟩
        · exact ⟨.inr h.1, h.2⟩
      · rintro ⟨e | h, h2⟩
        · exact .inl e
        · exact .inr ⟨h, h2⟩
theorem newS_sub {S : List (Pos × Obj)} : ∀ {T : List (Pos × Obj)}, ((newS S T).map (·.1)).Sublist (T.map (·.1))
  | [] => by simp [newS]
  | (q, o) :: T => by
    simp only [newS]
    split
    · exact (newS_sub (T := T)).trans (List.sublist_cons_self ..)
    · exact (newS_sub (T := T)).cons_cons _

def isU : Obj → Bool
  | .umap _ => true
  | _ => false
theorem layO_get_not {m : List (Pos × Pos)} : ∀ {S : List (Pos × Obj)} {bs : List (Pos × Option Obj)} {h : Heap} {q : Pos}, q ∉ S.map (·.1) → Tr.get q (layO m S bs h) = Tr.get q h
  | [], _, _, _, _ => by simp only [layO]
  | _ :: _, [], _, _, _ => by simp only [layO]
  | (p, o) :: S, (r, b) :: bs, h, q, hq => by
    simp only [List.map_cons, List.mem_cons, not_or] at hq
    simp only [layO]
    split
    · exact layO_get_not hq.2
    · rw [Tr.get_set_ne _ _ _ _ hq.1]
      exact layO_get_not hq.2
theorem layO_get {m : List (Pos × Pos)} : ∀ {S : List (Pos × Obj)} {bs : List (Pos × Option Obj)} {h : Heap} {i : Nat} {p r : Pos} {o : Obj} {b : Option Obj}, (S.map (·.1)).Nodup → S[i]? = some (p, o) → bs[i]? = some (r, b) →
    Tr.get p (layO m S bs h) = if isU o = true then Tr.get p h else b.map (renO m)
  | [], _, _, i, p, r, o, b, _, h, _ => by simp at h
  | _ :: _, [], _, i, p, r, o, b, _, _, h => by simp at h
  | (p', o') :: S, (r', b') :: bs, h, 0, p, r, o, b, hn, h1, h2 => by
    simp only [List.getElem?_cons_zero, Option.some.injEq, Prod.mk.injEq] at h1 h2
    obtain ⟨rfl, rfl⟩ := h1
    obtain ⟨rfl, rfl⟩ := h2
    simp only [List.map_cons, List.nodup_cons] at hn
    simp only [layO]
    cases o' with
    | umap es =>
      rw [layO_get_not hn.1]
      rfl
    | _ =>
      rw [Tr.get_set_same]
      simp only [isU, Bool.false_eq_true, if_false]
      cases b' <;> rfl
  | (p', o') :: S, (r', b') :: bs, h, i + 1, p, r, o, b, hn, h1, h2 => by
    simp only [List.map_cons, List.nodup_cons] at hn
    simp only [List.getElem?_cons_succ] at h1 h2
    have hne : p ≠ p' := fun e => by
      subst e
      exact hn.1 (List.mem_map.2 ⟨(p, o), List.mem_of_getElem? h1, rfl⟩)
    simp only [layO]
    split
    · exact layO_get hn.2 h1 h2
    · rw [Tr.get_set_ne _ _ _ _ hne]
      exact layO_get hn.2 h1 h2

theorem backS_get {m : List (Pos × Pos)} {h : Heap} : ∀ {S : List (Pos × Obj)} {i : Nat} {q : Pos}, (S.map (·.1))[i]? = some q → (backS m h S)[i]? = some (q, (Tr.get q h).map (renO m))
  | [], i, q, hq => by simp at hq
  | (p, o) :: S, 0, q, hq => by
    simp only [List.map_cons, List.getElem?_cons_zero, Option.some.injEq] at hq
    subst hq
    simp only [backS, List.getElem?_cons_zero]
    cases Tr.get p h <;> rfl
  | (p, o) :: S, i + 1, q, hq => by
    simp only [List.map_cons, List.getElem?_cons_succ] at hq
    simp only [backS, List.getElem?_cons_succ]
    exact backS_get hq
theorem noR_spec : ∀ {L : List (Pos × Obj)}, noR L = true → ∀ e ∈ L, e.2.ro = false
  | [], _, e, he => by cases he
  | (p, o) :: L, h, e, he => by
    have : o.ro = false ∧ noR L = true := by
      cases o <;> first | exact ⟨rfl, h⟩ | cases h
    rcases List.mem_cons.1 he with rfl | he
    · exact this.1
    · exact noR_spec this.2 e he
end Go.AM
namespace Go.AM
section
variable {φ φ2 : Ph} {B : Base} {h h2 : Heap} {nx nx2 : Pos} {w w2 : World} {S : List (Pos × Obj)} {E : Env}

theorem ro_of {o : Obj} (h : o.ro = false) (hu : isU o = false) : (asRead o).ro = false := by
  cases o with
  | umap es => cases hu
  | _ => exact h

/-- Where things lie: the old ones where they lay, the new ones behind. -/
def backφ (φ φ2 : Ph) (nx : Pos) (N : List (Pos × Obj)) : Ph := fun q => if q.val < nx.val then φ q else (N[q.val - nx.val]?).bind fun e => φ2 e.1
theorem backφ_old {N : List (Pos × Obj)} {q : Pos} (h : q.val < nx.val) : backφ φ φ2 nx N q = φ q := if_pos h
theorem backφ_new {N : List (Pos × Obj)} {j : Nat} {e : Pos} {o : Obj} (h : N[j]? = some (e, o)) : backφ φ φ2 nx N (addP nx j) = φ2 e := by
  unfold backφ
  rw [if_neg (by rw [addP_val]; omega), addP_val, show nx.val + j - nx.val = j by omega, h]
  rfl
theorem backφ_some {N : List (Pos × Obj)} {q : Pos} {x : Nat × Nat × Nat} (h : backφ φ φ2 nx N q = some x) : (q.val < nx.val ∧ φ q = some x) ∨ ∃ j e o, N[j]? = some (e, o) ∧ q = addP nx j ∧ φ2 e = some x := by
  unfold backφ at h
  split at h
  · rename_i hq
    exact .inl ⟨hq, h⟩
  · rename_i hq
    rw [Option.bind_eq_some_iff] at h
    obtain ⟨⟨e, o⟩, h1, h2⟩ := h
    exact .inr ⟨_, e, o, h1, addP_of_val (by omega), h2⟩

theorem back_HR (H : HR φ B h nx w) (P : Part h S) (_C : Closed S []) (SP : ∀ p ∈ S.map (·.1), φ p ≠ none) (H2 : HR φ2 (ownB φ S w) h2 nx2 w2) (K2 : Kept (ownφ φ S) (layS (own S) .leaf) (afterP (own S) .h) φ2 h2 nx2)
    {v2 : AV} {u : Value} (hv : VR φ2 v2 u) {t : Trim} (ht : trim (own S) (.ret v2 h2 nx2) = some t) (hr : noR t.n = true) :
    ∃ φ3, HR φ3 B (layS (renS (mkBack S (own S) (mkRen t.n nx)) t.n) (layO (mkBack S (own S) (mkRen t.n nx)) S t.b h)) (afterP t.n nx) w2 ∧ VR φ3 (renV (mkBack S (own S) (mkRen t.n nx)) t.v) u ∧
      Kept φ h nx φ3 (layS (renS (mkBack S (own S) (mkRen t.n nx)) t.n) (layO (mkBack S (own S) (mkRen t.n nx)) S t.b h)) (afterP t.n nx) := by
  have hn := P.nodup
  have hn' := own_nodup hn
  unfold trim at ht
  split at ht
  · rename_i v0 h0 nx0 T' he
    injection he with e1 e2 e3
    subst e1 e2 e3
    split at ht
    · rename_i T hT
      injection ht with ht
      subst ht
      simp only at hr ⊢
      obtain ⟨PT, CT, hTv, _⟩ := reach_spec hT ⟨fun _ _ h => (nomatch h), by simp⟩ (fun _ _ h => (nomatch h))
      generalize hN : newS (own S) T = N at hr ⊢
      generalize hm2 : mkRen N (afterP (own S) .h) = m2 at hr ⊢
      have hNn : (N.map (·.1)).Nodup := by rw [← hN]; exact PT.nodup.sublist newS_sub
      have hNm : ∀ {p o}, (p, o) ∈ N ↔ (p, o) ∈ T ∧ p ∉ (own S).map (·.1) := by rw [← hN]; exact newS_mem
      have hSi : ∀ {i p o}, S[i]? = some (p, o) → (p, o) ∈ S := fun h => List.mem_of_getElem? h
      have hNi : ∀ {i p o}, N[i]? = some (p, o) → (p, o) ∈ N := fun h => List.mem_of_getElem? h
      have hlen : (own S).length = S.length := own_length S
      -- names of the part
      have hown : ∀ {i p o}, S[i]? = some (p, o) → ((own S).map (·.1))[i]? = some (addP .h i) := by
        intro i p o hi
        rw [own_names hn, if_pos (List.getElem?_eq_some_iff.1 hi).1]
      have hownval : ∀ {q : Pos}, q ∈ (own S).map (·.1) → q.val < (afterP (own S) .h).val := by
        intro q hq
        obtain ⟨i, hi⟩ := List.getElem?_of_mem hq
        rw [own_names hn] at hi
        split at hi
        · injection hi with hi
          rw [← hi, afterP_eq, addP_val, addP_val, hlen]
          omega
        · cases hi
      -- the names of t.n
      have htn : ∀ {j e o}, N[j]? = some (e, o) → renP m2 e = addP (afterP (own S) .h) j := by
        intro j e o hj
        rw [← hm2]
        exact renP_mkRen hNn (by rw [List.getElem?_map, hj]; rfl)
      have htnl : (renS m2 N).length = N.length := by rw [renS_eq]; simp
      have htnn : ∀ j, ((renS m2 N).map (·.1))[j]? = if j < N.length then some (addP (afterP (own S) .h) j) else none := by
        intro j
        rw [renS_eq, List.map_map, List.getElem?_map]
        split
        · rename_i hj
          have : N[j]? = some ((N[j]).1, (N[j]).2) := by simp [hj]
          rw [this]
          simp only [Option.map_some, Function.comp]
          rw [htn this]
        · rename_i hj
          rw [List.getElem?_eq_none (by omega)]
          rfl
      have htnd : ((renS m2 N).map (·.1)).Nodup := by
        refine List.nodup_iff_pairwise_ne.2 (List.pairwise_iff_getElem.2 fun i j hi hj hij e => ?_)
        simp only [List.length_map, htnl] at hi hj
        have h1 := htnn i
        have h2 := htnn j
        rw [if_pos hi, List.getElem?_eq_getElem (by simpa [htnl] using hi)] at h1
        rw [if_pos hj, List.getElem?_eq_getElem (by simpa [htnl] using hj)] at h2
        injection h1 with h1
        injection h2 with h2
        rw [h1, h2] at e
        have := addP_inj e
        omega
      generalize hmb : mkBack S (own S) (mkRen (renS m2 N) nx) = mb
      have fS : ∀ {i p o}, S[i]? = some (p, o) → renP mb (renP m2 (addP .h i)) = p := by
        intro i p o hi
        have h1 : renP m2 (addP .h i) = addP .h i := by
          rw [← hm2]
          refine renP_mkRen_not fun hm => ?_
          obtain ⟨⟨q, o'⟩, g1, g2⟩ := List.mem_map.1 hm
          simp only at g2
          subst g2
          exact (hNm.1 g1).2 (List.mem_of_getElem? (hown hi))
        rw [h1, ← hmb]
        exact renP_mkBack hn' (by rw [List.getElem?_map, hi]; rfl) (hown hi)
      have fN : ∀ {j e o}, N[j]? = some (e, o) → renP mb (renP m2 e) = addP nx j := by
        intro j e o hj
        rw [htn hj, ← hmb, renP_mkBack_not]
        · refine renP_mkRen htnd ?_
          rw [htnn, if_pos (List.getElem?_eq_some_iff.1 hj).1]
        · intro hm
          have := hownval hm
          rw [addP_val] at this
          omega
      -- what is placed
      have hlt : ∀ {p}, φ p ≠ none → p.val < nx.val := by
        intro p hp
        rcases Nat.lt_or_ge p.val nx.val with g | g
        · exact g
        · exact absurd (H.fresh p g) hp
      have hS2 : ∀ {i p o x}, S[i]? = some (p, o) → φ p = some x → φ2 (addP .h i) = some x := by
        intro i p o x hi hx
        exact K2.le _ _ (by rw [ownφ_add hi]; exact hx)
      have hSx : ∀ {i p o}, S[i]? = some (p, o) → ∃ x, φ p = some x ∧ φ2 (addP .h i) = some x := by
        intro i p o hi
        cases hp : φ p with
        | none => exact absurd hp (SP p (List.mem_map.2 ⟨_, hSi hi, rfl⟩))
        | some x => exact ⟨x, rfl, hS2 hi hp⟩
      have hTs : ∀ {i p o}, S[i]? = some (p, o) → ∃ o2, Tr.get (addP .h i) h2 = some o2 ∧ (addP .h i, o2) ∈ T := by
        intro i p o hi
        have hm : addP .h i ∈ T.map (·.1) := hTv _ (by
          rw [appL_eq, namesS_eq]
          exact List.mem_append_right _ (List.mem_of_getElem? (hown hi)))
        obtain ⟨⟨q, o2⟩, g1, g2⟩ := List.mem_map.1 hm
        simp only at g2
        subst g2
        exact ⟨o2, PT.get _ _ g1, g1⟩
      have over : ∀ ns : List Pos, (∀ p ∈ ns, p ∈ T.map (·.1)) → Over φ2 (backφ φ φ2 nx N) (fun p => renP mb (renP m2 p)) ns := by
        intro ns hs p hp x hx
        obtain ⟨⟨p', o⟩, g1, g2⟩ := List.mem_map.1 (hs p hp)
        simp only at g2
        subst g2
        by_cases hps : p' ∈ (own S).map (·.1)
        · obtain ⟨i, hi⟩ := List.getElem?_of_mem hps
          rw [own_names hn] at hi
          split at hi
          · rename_i hil
            injection hi with hi
            subst hi
            have hS : S[i]? = some ((S[i]).1, (S[i]).2) := by simp [hil]
            obtain ⟨y, e1, e2⟩ := hSx hS
            rw [e2] at hx
            show backφ φ φ2 nx N (renP mb (renP m2 (addP .h i))) = some x
            rw [fS hS, backφ_old (hlt (by rw [e1]; simp)), e1, hx]
          · cases hi
        · obtain ⟨j, hj⟩ := List.getElem?_of_mem (hNm.2 ⟨g1, hps⟩)
          show backφ φ φ2 nx N (renP mb (renP m2 p')) = some x
          rw [fN hj, backφ_new hj, hx]
      have clT : ∀ {p o}, (p, o) ∈ T → ∃ ns, namesO o = some ns ∧ ∀ q ∈ ns, q ∈ T.map (·.1) := by
        intro p o hm
        obtain ⟨ns, g1, g2⟩ := CT p o hm
        exact ⟨ns, g1, fun q hq => (g2 q hq).resolve_right (by simp)⟩
      -- the new heap
      have hnb : renS mb (renS m2 N) = N.map fun e => (renP mb (renP m2 e.1), mapO (fun p => renP mb (renP m2 p)) e.2) := by
        rw [renS_eq, renS_eq, List.map_map]
        refine List.map_congr_left fun e _ => ?_
        simp only [Function.comp, mapO_mapO]
      have hnbi : ∀ {j e o}, N[j]? = some (e, o) → (renS mb (renS m2 N))[j]? = some (addP nx j, mapO (fun p => renP mb (renP m2 p)) o) := by
        intro j e o hj
        rw [hnb, List.getElem?_map, hj]
        simp only [Option.map_some]
        rw [fN hj]
      have hnbm : ∀ {q o'}, (q, o') ∈ renS mb (renS m2 N) → ∃ j e o, N[j]? = some (e, o) ∧ q = addP nx j ∧ o' = mapO (fun p => renP mb (renP m2 p)) o := by
        intro q o' hm
        obtain ⟨j, hj⟩ := List.getElem?_of_mem hm
        have hjl : j < N.length := by
          have := (List.getElem?_eq_some_iff.1 hj).1
          rw [hnb, List.length_map] at this
          exact this
        have hNj : N[j]? = some ((N[j]).1, (N[j]).2) := by simp [hjl]
        rw [hnbi hNj] at hj
        injection hj with hj
        injection hj with g1 g2
        exact ⟨j, _, _, hNj, g1.symm, g2.symm⟩
      have hnbd : ((renS mb (renS m2 N)).map (·.1)).Nodup := by
        refine List.nodup_iff_pairwise_ne.2 (List.pairwise_iff_getElem.2 fun i j hi hj hij e => ?_)
        have hl : (renS mb (renS m2 N)).length = N.length := by rw [hnb]; simp
        simp only [List.length_map, hl] at hi hj
        have key : ∀ {i : Nat} (hi : i < N.length) (hi' : i < ((renS mb (renS m2 N)).map (·.1)).length), ((renS mb (renS m2 N)).map (·.1))[i] = addP nx i := by
          intro i hi hi'
          have hNi' : N[i]? = some ((N[i]).1, (N[i]).2) := by simp [hi]
          have := hnbi hNi'
          have h3 : ((renS mb (renS m2 N)).map (·.1))[i]? = some (addP nx i) := by rw [List.getElem?_map, this]; rfl
          rw [List.getElem?_eq_getElem hi'] at h3
          injection h3
        rw [key hi, key hj] at e
        have := addP_inj e
        omega
      have hnbv : ∀ {q}, q ∈ (renS mb (renS m2 N)).map (·.1) → nx.val ≤ q.val := by
        intro q hq
        obtain ⟨⟨q', o'⟩, g1, g2⟩ := List.mem_map.1 hq
        simp only at g2
        subst g2
        obtain ⟨j, e, o, _, g3, _⟩ := hnbm g1
        rw [g3, addP_val]
        omega
      generalize hHN : layS (renS mb (renS m2 N)) (layO mb S (backS m2 h2 (own S)) h) = hN'
      have getN : ∀ {j e o}, N[j]? = some (e, o) → Tr.get (addP nx j) hN' = some (mapO (fun p => renP mb (renP m2 p)) o) := by
        intro j e o hj
        rw [← hHN]
        exact layS_get hnbd (List.mem_of_getElem? (hnbi hj))
      have getO : ∀ {q : Pos}, q.val < nx.val → Tr.get q hN' = Tr.get q (layO mb S (backS m2 h2 (own S)) h) := by
        intro q hq
        rw [← hHN]
        exact layS_get_not fun hm => by have := hnbv hm; omega
      have getS : ∀ {i p o}, S[i]? = some (p, o) → Tr.get p hN' = if isU o = true then Tr.get p h else (Tr.get (addP .h i) h2).map (mapO fun p => renP mb (renP m2 p)) := by
        intro i p o hi
        obtain ⟨x, e1, e2⟩ := hSx hi
        rw [getO (hlt (by rw [e1]; simp)), layO_get hn hi (backS_get (hown hi))]
        congr 1
        rw [Option.map_map]
        congr 1
        funext o
        simp only [Function.comp, renO_eq, mapO_mapO]
      have live : ∀ {q o'}, Tr.get q hN' = some o' →
          (∃ j e o, N[j]? = some (e, o) ∧ q = addP nx j ∧ o' = mapO (fun p => renP mb (renP m2 p)) o) ∨
          (∃ i o, S[i]? = some (q, o) ∧ ((isU o = true ∧ o' = o) ∨ (isU o = false ∧ ∃ o2, Tr.get (addP .h i) h2 = some o2 ∧ (addP .h i, o2) ∈ T ∧ o' = mapO (fun p => renP mb (renP m2 p)) o2))) ∨
          (q ∉ S.map (·.1) ∧ q.val < nx.val ∧ Tr.get q h = some o') := by
        intro q o' hg
        by_cases hq : q ∈ (renS mb (renS m2 N)).map (·.1)
        · obtain ⟨⟨q', o1⟩, g1, g2⟩ := List.mem_map.1 hq
          simp only at g2
          subst g2
          rw [← hHN, layS_get hnbd g1] at hg
          injection hg with hg
          subst hg
          obtain ⟨j, e, o, g3, g4, g5⟩ := hnbm g1
          exact .inl ⟨j, e, o, g3, g4, g5⟩
        · by_cases hqs : q ∈ S.map (·.1)
          · obtain ⟨⟨q', o⟩, g1, g2⟩ := List.mem_map.1 hqs
            simp only at g2
            subst g2
            obtain ⟨i, hi⟩ := List.getElem?_of_mem g1
            rw [getS hi] at hg
            refine .inr (.inl ⟨i, o, hi, ?_⟩)
            split at hg
            · rename_i hu
              rw [P.get _ _ g1] at hg
              injection hg with hg
              exact .inl ⟨hu, hg.symm⟩
            · rename_i hu
              obtain ⟨o2, g3, g4⟩ := hTs hi
              rw [g3] at hg
              injection hg with hg
              exact .inr ⟨by simpa using hu, o2, g3, g4, hg.symm⟩
          · rw [← hHN, layS_get_not hq, layO_get_not hqs] at hg
            refine .inr (.inr ⟨hqs, ?_, hg⟩)
            rcases Nat.lt_or_ge q.val nx.val with g | g
            · exact g
            · rw [H.clean q g] at hg
              cases hg
      have liveO : ∀ {q o'}, Tr.get q hN' = some o' → (∃ j e o, N[j]? = some (e, o) ∧ q = addP nx j) ∨ (q.val < nx.val ∧ Tr.get q h ≠ none) := by
        intro q o' hg
        rcases live hg with ⟨j, e, o, g1, g2, _⟩ | ⟨i, o, g1, _⟩ | ⟨_, g2, g3⟩
        · exact .inl ⟨j, e, o, g1, g2⟩
        · obtain ⟨x, e1, _⟩ := hSx g1
          exact .inr ⟨hlt (by rw [e1]; simp), by rw [P.get _ _ (hSi g1)]; simp⟩
        · exact .inr ⟨g2, by rw [g3]; simp⟩
      have nro : ∀ {j : Nat} {e : Pos} {o : Obj}, N[j]? = some (e, o) → o.ro = false := by
        intro j e o hj
        have := noR_spec hr (renP m2 e, mapO (renP m2) o) (by
          rw [renS_eq]
          exact List.mem_map.2 ⟨(e, o), hNi hj, rfl⟩)
        rwa [ro_mapO] at this
      -- blocks
      have same : ∀ {k}, (ownB φ S w).keep k = w.heap[k]? → k < w.heap.size → w2.heap[k]? = w.heap[k]? := by
        intro k h1 h2
        rw [Array.getElem?_eq_getElem h2] at h1 ⊢
        exact H2.old _ _ h1
      have keepO : ∀ {q : Pos} {o : Obj} {k b s : Nat}, q ∉ S.map (·.1) → Tr.get q h = some o → φ q = some (k, b, s) → (ownB φ S w).keep k = w.heap[k]? := by
        intro q o k b s h1 h2 h3
        refine own_keep fun p o' b' s' g1 g2 g3 => h1 ?_
        have := H.inj p q k b' s' b s g3 h3 (by rw [P.get _ _ g1]; simp) (by rw [h2]; simp)
        subst this
        exact List.mem_map.2 ⟨_, g1, rfl⟩
      have keepR : ∀ {q : Pos} {o : Obj} {k b s : Nat}, (q, o) ∈ S → (asRead o).ro = true → φ q = some (k, b, s) → (ownB φ S w).keep k = w.heap[k]? := by
        intro q o k b s h1 h2 h3
        refine own_keep fun p o' b' s' g1 g2 g3 => ?_
        have := H.inj p q k b' s' b s g3 h3 (by rw [P.get _ _ g1]; simp) (by rw [P.get _ _ h1]; simp)
        subst this
        have e1 := P.get _ _ g1
        rw [P.get _ _ h1] at e1
        injection e1 with e1
        subst e1
        rw [h2] at g2
        cases g2
      have apart : ∀ {j : Nat} {e : Pos} {o : Obj} {q : Pos} {k b s b' s' : Nat}, N[j]? = some (e, o) → φ2 e = some (k, b, s) → Tr.get q h ≠ none → φ q = some (k, b', s') → False := by
        intro j e o q k b s b' s' hj he hq hp
        have heT := (hNm.1 (hNi hj))
        by_cases hqs : q ∈ S.map (·.1)
        · obtain ⟨⟨q', o'⟩, g1, g2⟩ := List.mem_map.1 hqs
          simp only at g2
          subst g2
          obtain ⟨i, hi⟩ := List.getElem?_of_mem g1
          obtain ⟨o2, g3, _⟩ := hTs hi
          have := H2.inj e (addP .h i) k b s b' s' he (hS2 hi hp) (by rw [PT.get _ _ heT.1]; simp) (by rw [g3]; simp)
          subst this
          exact heT.2 (List.mem_of_getElem? (hown hi))
        · cases ho : Tr.get q h with
          | none => exact hq ho
          | some o' =>
            have h1 := keepO hqs ho hp
            have h2 := H2.hold e o k b s (PT.get _ _ heT.1) he
            rw [nro hj] at h2
            rw [h1, Array.getElem?_eq_getElem (H.blk _ _ _ _ hp)] at h2
            cases h2
      refine ⟨backφ φ φ2 nx N, ⟨fun p hp => ?_, fun p hp => ?_, fun q k b s hq => ?_, fun q r k b s b' s' hq hr' h1 h2 => ?_, fun q o' k b s hg hq => ?_, fun q o' k b s hg hq => ?_, fun i x hi => ?_, ?_, ?_, ?_⟩, ?_, ?_⟩
      · -- fresh
        rw [afterP_eq, addP_val, htnl] at hp
        unfold backφ
        rw [if_neg (by omega), List.getElem?_eq_none (by omega)]
        rfl
      · -- clean
        rw [afterP_eq, addP_val, htnl] at hp
        cases hg : Tr.get p hN' with
        | none => rfl
        | some o' =>
          rcases liveO hg with ⟨j, e, o, g1, g2⟩ | ⟨g, _⟩
          · have := (List.getElem?_eq_some_iff.1 g1).1
            rw [g2, addP_val] at hp
            omega
          · omega
      · -- blk
        rcases backφ_some hq with ⟨g1, g2⟩ | ⟨j, e, o, g1, g2, g3⟩
        · by_cases hx : ∃ p o b s, (p, o) ∈ S ∧ (asRead o).ro = false ∧ φ p = some (k, b, s)
          · obtain ⟨p, o, b1, s1, e1, _, e2⟩ := hx
            obtain ⟨i, hi⟩ := List.getElem?_of_mem e1
            exact H2.blk _ _ _ _ (hS2 hi e2)
          · have h1 := own_keep (w := w) (φ := φ) (S := S) (k := k) fun p o b s e1 e2 e3 => hx ⟨p, o, b, s, e1, e2, e3⟩
            have hk := H.blk _ _ _ _ g2
            have := same h1 hk
            rw [Array.getElem?_eq_getElem hk] at this
            exact (Array.getElem?_eq_some_iff.1 this).1
        · exact H2.blk _ _ _ _ g3
      · -- inj
        cases hgq : Tr.get q hN' with
        | none => exact absurd hgq h1
        | some oq =>
        cases hgr : Tr.get r hN' with
        | none => exact absurd hgr h2
        | some orr =>
        rcases liveO hgq with ⟨j, e, o, g1, rfl⟩ | ⟨g1, g2⟩
        · rw [backφ_new g1] at hq
          rcases liveO hgr with ⟨j', e', o', e1, rfl⟩ | ⟨e1, e2⟩
          · rw [backφ_new e1] at hr'
            have := H2.inj e e' k b s b' s' hq hr' (by rw [PT.get _ _ (hNm.1 (hNi g1)).1]; simp) (by rw [PT.get _ _ (hNm.1 (hNi e1)).1]; simp)
            subst this
            have hj : (N.map (·.1))[j]? = some e := by rw [List.getElem?_map, g1]; rfl
            have hj' : (N.map (·.1))[j']? = some e := by rw [List.getElem?_map, e1]; rfl
            have : j = j' := (List.getElem?_inj (by simpa using (List.getElem?_eq_some_iff.1 g1).1) hNn).1 (hj.trans hj'.symm)
            rw [this]
          · rw [backφ_old e1] at hr'
            exact (apart g1 hq e2 hr').elim
        · rw [backφ_old g1] at hq
          rcases liveO hgr with ⟨j', e', o', e1, rfl⟩ | ⟨e1, e2⟩
          · rw [backφ_new e1] at hr'
            exact (apart e1 hr' g2 hq).elim
          · rw [backφ_old e1] at hr'
            exact H.inj q r k b s b' s' hq hr' g2 e2
      · -- obj
        rcases live hg with ⟨j, e, o, g1, rfl, rfl⟩ | ⟨i, o, g1, g2⟩ | ⟨g1, g2, g3⟩
        · rw [backφ_new g1] at hq
          have hm := (hNm.1 (hNi g1)).1
          obtain ⟨x, e1, e2⟩ := H2.obj e o k b s (PT.get _ _ hm) hq
          obtain ⟨ns, c1, c2⟩ := clT hm
          exact ⟨x, e1, OR_map c1 (over ns c2) e2⟩
        · obtain ⟨y, e1, e2⟩ := hSx g1
          rw [backφ_old (hlt (by rw [e1]; simp))] at hq
          rcases g2 with ⟨hu, rfl⟩ | ⟨hu, o2, g4, g5, rfl⟩
          · obtain ⟨x, e3, e4⟩ := H.obj q _ k b s (P.get _ _ (hSi g1)) hq
            have hk := keepR (hSi g1) (by cases o' <;> first | rfl | cases hu) hq
            exact ⟨x, by rw [same hk (H.blk _ _ _ _ hq)]; exact e3, e4.mono fun p x hp => by rw [backφ_old (hlt (by rw [hp]; simp))]; exact hp⟩
          · obtain ⟨x, e3, e4⟩ := H2.obj _ o2 k b s g4 (hS2 g1 hq)
            obtain ⟨ns, c1, c2⟩ := clT g5
            exact ⟨x, e3, OR_map c1 (over ns c2) e4⟩
        · rw [backφ_old g2] at hq
          obtain ⟨x, e3, e4⟩ := H.obj q _ k b s g3 hq
          exact ⟨x, by rw [same (keepO g1 g3 hq) (H.blk _ _ _ _ hq)]; exact e3, e4.mono fun p x hp => by rw [backφ_old (hlt (by rw [hp]; simp))]; exact hp⟩
      · -- hold
        rcases live hg with ⟨j, e, o, g1, rfl, rfl⟩ | ⟨i, o, g1, g2⟩ | ⟨g1, g2, g3⟩
        · rw [backφ_new g1] at hq
          have hm := (hNm.1 (hNi g1)).1
          have h1 := H2.hold e o k b s (PT.get _ _ hm) hq
          rw [nro g1] at h1
          rw [ro_mapO, nro g1]
          cases hk : B.keep k with
          | none => rfl
          | some x =>
            have h2 := H.old _ _ hk
            by_cases hx : ∃ p o b s, (p, o) ∈ S ∧ (asRead o).ro = false ∧ φ p = some (k, b, s)
            · obtain ⟨p, o, b1, s1, e1, e2, e3⟩ := hx
              have := H.hold p o k b1 s1 (P.get _ _ e1) e3
              rw [asRead_ro e2, hk] at this
              cases this
            · rw [own_keep fun p o b s e1 e2 e3 => hx ⟨p, o, b, s, e1, e2, e3⟩, h2] at h1
              cases h1
        · obtain ⟨y, e1, e2⟩ := hSx g1
          rw [backφ_old (hlt (by rw [e1]; simp))] at hq
          have h1 := H.hold q o k b s (P.get _ _ (hSi g1)) hq
          rcases g2 with ⟨hu, rfl⟩ | ⟨hu, o2, g4, g5, rfl⟩
          · have hor : o'.ro = false := by cases o' <;> first | rfl | cases hu
            rw [hor] at h1 ⊢
            exact h1
          · rw [ro_mapO]
            have h2 := H2.hold _ o2 k b s g4 (hS2 g1 hq)
            cases hor : o.ro with
            | false =>
              rw [hor] at h1
              have har : (asRead o).ro = false := ro_of hor hu
              rw [own_keep_none (hSi g1) har hq] at h2
              cases ho2 : o2.ro with
              | false => exact h1
              | true =>
                rw [ho2] at h2
                have hk := H2.blk _ _ _ _ (hS2 g1 hq)
                rw [if_pos rfl, Array.getElem?_eq_getElem hk] at h2
                cases h2
            | true =>
              rw [hor] at h1
              have hk := keepR (hSi g1) (by cases o <;> first | rfl | cases hor) hq
              have hb := H.blk _ _ _ _ hq
              rw [hk] at h2
              cases ho2 : o2.ro with
              | false =>
                rw [ho2, Array.getElem?_eq_getElem hb] at h2
                cases h2
              | true =>
                rw [h1, if_pos rfl, if_pos rfl]
                exact (same hk hb).symm
        · rw [backφ_old g2] at hq
          rw [H.hold q o' k b s g3 hq, same (keepO g1 g3 hq) (H.blk _ _ _ _ hq)]
      · -- old
        have h1 := H.old _ _ hi
        refine H2.old _ _ ?_
        rw [own_keep fun p o b s e1 e2 e3 => ?_]
        · exact h1
        · have := H.hold p o i b s (P.get _ _ e1) e3
          rw [asRead_ro e2, hi] at this
          cases this
      · exact H2.os.trans H.os
      · exact H2.tape.trans H.tape
      · exact H2.output.trans H.output
      · rw [renV_eq, renV_eq, mapV_mapV]
        refine VR_map (over _ fun p hp => hTv p ?_) hv
        rw [appL_eq]
        exact List.mem_append_left _ hp
      · refine ⟨fun p x hp => by rw [backφ_old (hlt (by rw [hp]; simp))]; exact hp, fun p hp hl => ⟨by rw [backφ_old hl]; exact hp, ?_⟩, by rw [afterP_eq, addP_val]; omega⟩
        rw [getO hl]
        exact layO_get_not fun hm => SP p hm hp
    · cases ht
  · cases ht
end
end Go.AM
namespace Go.AM

/-- What holds of the tables. -/
structure Bd (P : Program) (E : Env) : Prop where
  mixed : P.follows .mixedOrders = true
  e : EOK E P
  X : ExtOK E P
  N : NamesOK E
/-- A function of the evaluator's is sound for a function of the program's. -/
def CallOK (E : Env) (P : Program) (f : FuncId) (F : List AV → Heap → Pos → R) : Prop :=
  ∀ l h nx rs, F l h nx = some rs → ∀ B φ w us, GB E B → HR φ B h nx w → VRL φ l us → CallsIn Fence.wide 0 P f us.toArray w (RetR B φ h nx rs)
/-- A fact is so. -/
def FactSem (E : Env) (P : Program) (x : Fact) : Prop :=
  ∃ rs, trimR x.s rs = some x.t ∧ ∀ B φ w us, GB E B → HR φ B (layS x.s .leaf) (afterP x.s .h) w → VRL φ x.l us → CallsIn Fence.wide 0 P x.f us.toArray w (RetR B φ (layS x.s .leaf) (afterP x.s .h) rs)
def FactsOK (E : Env) (P : Program) (F : List Fact) : Prop := ∀ x ∈ F, FactSem E P x

theorem allSame_spec {x : Trim} {S : List (Pos × Obj)} : ∀ {l : List CR}, allSame x S l = true → ∀ r ∈ l, trim S r = some x
  | [], _, r, hr => by cases hr
  | a :: l, h, r, hr => by
    simp only [allSame, Bool.and_eq_true] at h
    rcases List.mem_cons.1 hr with rfl | hr
    · cases ht : trim S r with
      | none => rw [ht] at h; exact absurd h.1 (by simp)
      | some y =>
        rw [ht] at h
        have := h.1
        simp only [Bool.and_eq_true] at this
        rw [Trim.same this.1.1 this.1.2 this.2]
    · exact allSame_spec h.2 r hr
theorem trimR_spec {S : List (Pos × Obj)} {rs : List CR} {t : Trim} (h : trimR S rs = some t) : ∀ r ∈ rs, trim S r = some t := by
  unfold trimR at h
  split at h
  · cases h
  · rename_i r l
    split at h
    · rename_i x hx
      obtain ⟨h1, h2⟩ := bb_some_none h
      injection h2 with h2
      subst h2
      intro r' hr
      rcases List.mem_cons.1 hr with rfl | hr
      · exact hx
      · exact allSame_spec h1 r' hr
    · cases h
theorem findF_spec {f : Nat} {l : List AV} {S : List (Pos × Obj)} {t : Trim} : ∀ {F : List Fact}, findF f l S F = some t → ∃ x ∈ F, x.f = f ∧ x.l = l ∧ x.s = S ∧ x.t = t
  | [], h => by cases h
  | x :: F, h => by
    simp only [findF] at h
    rcases bb_some h with ⟨h1, h2⟩ | ⟨_, h2⟩
    · injection h2 with h2
      cases e1 : Nat.beq x.f f with
      | false => rw [e1] at h1; cases h1
      | true =>
        rw [e1] at h1
        cases e2 : eqVs x.l l with
        | false => rw [e2] at h1; cases h1
        | true =>
          rw [e2] at h1
          exact ⟨x, List.mem_cons_self .., Nat.eq_of_beq_eq_true e1, eqVs_eq' e2, eqS_eq h1, h2⟩
    · obtain ⟨y, g1, g2⟩ := findF_spec h2
      exact ⟨y, List.mem_cons_of_mem _ g1, g2⟩

section
variable {P : Program} {E : Env} {F : List Fact}

theorem isoB_sound (hF : FactsOK E P F) {f : FuncId} {call : List AV → Heap → Pos → R} (hc : CallOK E P f call) : CallOK E P f (isoB F f call) := by
  intro l h nx rs hr B φ w us G H hl
  unfold isoB at hr
  split at hr
  · rename_i S hS
    rw [forceVs_eq, forceS_eq] at hr
    obtain ⟨t, ht, hr⟩ := ob_some hr
    obtain ⟨PS, CS, hSl, _⟩ := reach_spec hS ⟨fun _ _ h => (nomatch h), by simp⟩ (fun _ _ h => (nomatch h))
    have SP : ∀ p ∈ S.map (·.1), φ p ≠ none := by
      refine reach_all (Q := fun p => φ p ≠ none) (fun p o ns hp ho hns => ?_) hS (VRL_placed hl) (by simp)
      cases hq : φ p with
      | none => exact absurd hq hp
      | some x =>
        obtain ⟨k, b, s⟩ := x
        obtain ⟨x, _, e⟩ := H.obj p o k b s ho hq
        exact OR_placed hns e
    have H1 := own_HR H PS CS
    have G1 := own_GB G H PS
    have A1 := own_args PS hSl hl
    have key : ∃ rs0, (∀ r ∈ rs0, trim (own S) r = some t) ∧ CallsIn Fence.wide 0 P f us.toArray w (RetR (ownB φ S w) (ownφ φ S) (layS (own S) .leaf) (afterP (own S) .h) rs0) := by
      unfold isoI at ht
      split at ht
      · rename_i t' hf
        injection ht with ht
        subst ht
        obtain ⟨x, g1, g2, g3, g4, g5⟩ := findF_spec hf
        obtain ⟨rs0, e1, e2⟩ := hF x g1
        rw [g4, g5] at e1
        rw [g2, g3, g4] at e2
        exact ⟨rs0, trimR_spec e1, e2 _ _ _ _ G1 H1 A1⟩
      · obtain ⟨rs0, e1, e2⟩ := ob_some ht
        exact ⟨rs0, trimR_spec e2, hc _ _ _ _ e1 _ _ _ _ G1 H1 A1⟩
    obtain ⟨rs0, h1, h2⟩ := key
    unfold isoR at hr
    obtain ⟨hno, hr⟩ := bb_some_none hr
    injection hr with hr
    subst hr
    refine CallsIn.mono h2 fun e w2 q => ?_
    cases e with
    | outgrown => exact q.elim
    | panicked ch =>
      obtain ⟨φ2, v2, u, h2, nx2, hm, _⟩ := q
      have := h1 _ hm
      cases this
    | returned u =>
      obtain ⟨φ2, v2, h2, nx2, hm, H2, hv, K2⟩ := q
      obtain ⟨φ3, H3, hv3, K3⟩ := back_HR H PS CS SP H2 K2 hv (h1 _ hm) hno
      exact ⟨φ3, _, _, _, List.mem_singleton.2 rfl, H3, hv3, K3⟩
  · cases hr

theorem funB_call (O : Bd P E) {fc : FC} (hc : FcOK E P fc) (hn : FcFn P fc) {f : FuncId} {g : FC → List AV → Heap → Pos → R} (hf : funB E f = some ⟨g⟩) : CallOK E P f (g fc) :=
  fun _l _h _nx _rs hr _B _φ _w _us G H hl => (funB_sound ⟨O.mixed, O.e, O.X, O.N, hc, hn⟩ G hf hr H hl).2
theorem funB_enter (O : Bd P E) {f : FuncId} {g : FC → List AV → Heap → Pos → R} (hf : funB E f = some ⟨g⟩) : ∀ args w, (callFunc f args).run P w = .ok (.enter f args) w := by
  unfold funB at hf
  split at hf
  · cases hf
  · rename_i fn hfn
    have hfP := O.e.fn _ _ hfn
    split at hf
    · cases hf
    · rename_i c hc
      exact fun args w => callFunc_body hfP hc (O.N _ _ hfn) args w

theorem execS_succ (E : Env) (F : List Fact) (lo : FC → FC) (n : Nat) (v : AV) (l : List AV) (h : Heap) (nx : Pos) : execS E F lo (n + 1) v l h nx =
    funC v
      (fun f cap => match funB E f with
        | some ⟨g⟩ => bb (memN f E.iso) (isoB F f (fun l h nx => g (lo (execS E F lo n)) l h nx) (appL l cap) h nx) (g (execS E F lo n) (appL l cap) h nx)
        | none => none)
      (fun b => match Tr.get b h with
        | some (.loop _ _ W nt tm ps a bd) => (match roundB E W nt a bd, setPs nt ps l tm with
          | some ⟨g⟩, some tm' => g (execS E F lo n) b tm' h nx
          | _, _ => none)
        | _ => none)
      none := rfl

theorem execS_ok (O : Bd P E) (hF : FactsOK E P F) {lo : FC → FC} (hlo : ∀ fc, FcOK E P fc ∧ FcFn P fc → FcOK E P (lo fc) ∧ FcFn P (lo fc)) : ∀ n, FcOK E P (execS E F lo n) ∧ FcFn P (execS E F lo n)
  | 0 => ⟨fun _ _ _ _ _ h => (nomatch h), fun _ _ _ _ _ _ h => (nomatch h)⟩
  | n + 1 => by
    have ih := execS_ok O hF hlo n
    refine ⟨fun v l h nx rs hr B φ w u us G H hv hl => ?_, fun f cap l h nx rs hr => ?_⟩
    · rw [execS_succ] at hr
      rcases funC_some hr with ⟨f, cap, rfl, hr'⟩ | ⟨b, rfl, hr'⟩ <;> clear hr <;> have hr := hr' <;> clear hr'
      · split at hr
        · rename_i g hg
          simp only [VR] at hv
          obtain ⟨cs, rfl, hcap⟩ := hv
          have hrun : (callV (.func (.func f) #[] cs.toArray) us.toArray).run P w = .ok (.enter f (us ++ cs).toArray) w := by
            unfold callV
            simp only [Deferred.ofValue, Sem.run_bind, Sem.run_pure, Result.andThen_ok, invoke, Array.empty_append]
            rw [funB_enter O hg]
            simp
          rw [hrun]
          rw [appL_eq] at hr
          have hl' := hl.append hcap
          rcases bb_some hr with ⟨_, hr⟩ | ⟨_, hr⟩
          · exact isoB_sound hF (funB_call O (hlo _ ih).1 (hlo _ ih).2 hg) _ _ _ _ hr _ _ _ _ G H hl'
          · exact funB_call O ih.1 ih.2 hg _ _ _ _ hr _ _ _ _ G H hl'
        · cases hr
      · split at hr
        · rename_i st p W nt tm ps a bd hget
          split at hr
          · rename_i g tm' hg hs
            exact yield_sound ⟨O.mixed, O.e, O.X, O.N, ih.1, ih.2⟩ G hget hg hs hr H hv hl
          · cases hr
        · cases hr
    · rw [execS_succ] at hr
      have hr' : (match funB E f with
        | some ⟨g⟩ => bb (memN f E.iso) (isoB F f (fun l h nx => g (lo (execS E F lo n)) l h nx) (appL l cap) h nx) (g (execS E F lo n) (appL l cap) h nx)
        | none => none) = some rs := hr
      split at hr'
      · rename_i g hg
        exact funB_enter O hg
      · cases hr'

theorem exec0_ok (O : Bd P E) (hF : FactsOK E P F) : FcOK E P (exec0 E F) ∧ FcFn P (exec0 E F) := execS_ok O hF (fun _ h => h) 60
theorem exec_ok (O : Bd P E) (hF : FactsOK E P F) (n : Nat) : FcOK E P (exec E F n) ∧ FcFn P (exec E F n) := execS_ok O hF (fun _ _ => exec0_ok O hF) n

/-- A fact that the kernel has seen. -/
theorem factOk_sound (O : Bd P E) (hF : FactsOK E P F) {x : Fact} (h : factOk E F x = true) : FactSem E P x := by
  unfold factOk at h
  split at h
  · rename_i t ht
    have hx := eqTrim_eq h
    subst hx
    unfold factB at ht
    split at ht
    · rename_i g hg
      obtain ⟨rs, h1, h2⟩ := ob_some ht
      refine ⟨rs, h2, fun B φ w us G H hl => ?_⟩
      exact funB_call O (exec0_ok O hF).1 (exec0_ok O hF).2 hg _ _ _ _ h1 _ _ _ _ G H hl
    · cases ht
  · cases h
theorem factsOK_nil : FactsOK E P [] := fun _ h => (nomatch h)
theorem factsOK_cons {x : Fact} (h : FactSem E P x) (hF : FactsOK E P F) : FactsOK E P (x :: F) := fun y hy => by
  rcases List.mem_cons.1 hy with rfl | hy
  · exact h
  · exact hF y hy
end
end Go.AM
