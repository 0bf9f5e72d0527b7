/- Layer 6 (table): the table of events. -/
import Derived.Test.YtnogalajfccioaaDoorTable
namespace Go.Proofs.YtnogalajfccioaaDoor
open Go.RowKit Go.Proofs.YtnogalajfccioaaDoorW.PrintWords
/-- A pointer to a block. -/
def kPtr : Kd Nat := Kd.scalar (fun b : Nat => .pointer (some ⟨b, 0, none⟩)) (fun _ => rfl)
theorem get_Ptr {w : World} {A : Option Addr} {n : Nat} {xs : List Nat} (h : Kd.C kPtr w A n xs) (i : Nat) (h1 : i < xs.length) : ∃ ad x, A = some ad ∧ Aside0 (xs[i]? = some x) ∧ w.cell? (ad.add i) = some (.pointer (some ⟨x, 0, none⟩)) := by
  obtain ⟨ad, c, e, _, hK, hc0⟩ := Kd.C_get h 0 i (by omega) (by have := h.1; omega)
  have e1 : xs.getD (i : Int).toNat 0 = xs[i] := by simp [h1]
  rw [e1] at hK
  obtain rfl := hK
  have hc : ∀ j u, [Value.pointer (some ⟨xs[i], 0, none⟩)][j]? = some u → w.cell? (ad.add (i * 1 + j)) = some u := hc0
  exact ⟨ad, xs[i], e, ⟨List.getElem?_eq_getElem h1⟩, by have := hc 0 _ rfl; rwa [Nat.mul_one, Nat.add_zero] at this⟩
theorem Tryd.info_Ptr : (Tryd.prog.info? 78).map (fun i => (i.zero, i.size, i.bytes)) = some (some (.pointer none), 1, 8) := by kernel_rfl
theorem Tryd.info_Txn : (Tryd.prog.info? 34).map (fun i => (i.zero, i.size, i.bytes)) = some (some (.agg #[.int .i64 0, .int .i64 0, .int .i64 0, .int .i64 0, .slice none 0 0]), 5, 56) := by kernel_rfl
/-- Keepers in memory. -/
structure Keeps (w0 w : World) (ks : List Keep) (bs : List Nat) (vs : List Value) : Prop where
  lenb : bs.length = ks.length
  lenv : vs.length = ks.length
  at_ : ∀ (j : Nat) k b v, ks[j]? = some k → bs[j]? = some b → vs[j]? = some v → KeepAt w0 w b v k
  bdis : ∀ (i j : Nat) b, bs[i]? = some b → bs[j]? = some b → i = j
  vdis : ∀ (i j : Nat) vi vj c, vs[i]? = some vi → vs[j]? = some vj → vi.ownBlock = some c → vj.ownBlock = some c → i = j
theorem KeepAt.only {w0 w w1 : World} {b : Nat} {v : Value} {k : Keep} {S : Nat → Prop} (h : KeepAt w0 w b v k) (ho : Only S w w1) (hb : ¬ S b) (hv : ∀ c, v.ownBlock = some c → ¬ S c) : KeepAt w0 w1 b v k := by
  refine ⟨(ho.block b (blk_lt h.blk) hb).trans h.blk, ?_, h.low⟩
  have h1 : Kd.R kOp 122 w w0.heap.size (fun c => v.ownBlock = some c) v k.t.ops := ⟨fun c hc => hc, h.ops.2.imp_ (fun _ _ hp => hp)⟩
  exact Kd.R_mono (Kd.R_step h1 (fun c hc hlt => ho.block c hlt (hv c hc))) (fun _ _ => trivial)
theorem Keeps.only {w0 w w1 : World} {ks : List Keep} {bs : List Nat} {vs : List Value} {S : Nat → Prop} (h : Keeps w0 w ks bs vs) (ho : Only S w w1) (hb : ∀ b, b ∈ bs → ¬ S b) (hv : ∀ v c, v ∈ vs → v.ownBlock = some c → ¬ S c) : Keeps w0 w1 ks bs vs :=
  ⟨h.lenb, h.lenv, fun j k b v h1 h2 h3 => (h.at_ j k b v h1 h2 h3).only ho (hb b (List.mem_of_getElem? h2)) (fun c hc => hv v c (List.mem_of_getElem? h3) hc), h.bdis, h.vdis⟩
theorem Keeps.below {w0 w w1 : World} {ks : List Keep} {bs : List Nat} {vs : List Value} (h : Keeps w0 w ks bs vs) (hb : Below w.heap.size w w1) : Keeps w0 w1 ks bs vs :=
  h.only (Only.of_below (S := fun _ => False) hb) (fun _ _ h => h) (fun _ _ _ _ h => h)
theorem Keeps.nil (w0 w : World) : Keeps w0 w [] [] [] := ⟨rfl, rfl, fun j k b v h => by simp at h, fun i j b h => by simp at h, fun i j vi vj c h => by simp at h⟩
/-- Another keeper, new. -/
theorem Keeps.push {w0 w : World} {ks : List Keep} {bs : List Nat} {vs : List Value} (h : Keeps w0 w ks bs vs) {b : Nat} {k : Keep} (hk : KeepAt w0 w b (.slice none 0 0) k) (hb : ∀ c, c ∈ bs → c ≠ b) : Keeps w0 w (ks ++ [k]) (bs ++ [b]) (vs ++ [.slice none 0 0]) := by
  have e1 := h.lenb
  have e2 := h.lenv
  refine ⟨by simp [e1], by simp [e2], fun j k' b' v' h1 h2 h3 => ?_, fun i j c h1 h2 => ?_, fun i j vi vj c h1 h2 hi hj => ?_⟩
  · rcases Nat.lt_or_ge j ks.length with hj | hj
    · rw [List.getElem?_append_left hj] at h1
      rw [List.getElem?_append_left (by omega)] at h2 h3
      exact h.at_ j _ _ _ h1 h2 h3
    · have hl := (List.getElem?_eq_some_iff.1 h1).1
      simp at hl
      obtain rfl : j = ks.length := by omega
      rw [List.getElem?_append_right (by omega)] at h1 h2 h3
      rw [e1, Nat.sub_self] at h2
      rw [e2, Nat.sub_self] at h3
      simp at h1 h2 h3
      subst h1 h2 h3
      exact hk
  · rcases Nat.lt_or_ge i bs.length with hi | hi <;> rcases Nat.lt_or_ge j bs.length with hj | hj
    · rw [List.getElem?_append_left hi] at h1
      rw [List.getElem?_append_left hj] at h2
      exact h.bdis i j c h1 h2
    · rw [List.getElem?_append_left hi] at h1
      rw [List.getElem?_append_right hj] at h2
      have : c = b := by have := List.mem_of_getElem? h2; simpa using this
      exact absurd this (hb c (List.mem_of_getElem? h1))
    · rw [List.getElem?_append_left hj] at h2
      rw [List.getElem?_append_right hi] at h1
      have : c = b := by have := List.mem_of_getElem? h1; simpa using this
      exact absurd this (hb c (List.mem_of_getElem? h2))
    · have l1 := (List.getElem?_eq_some_iff.1 h1).1
      have l2 := (List.getElem?_eq_some_iff.1 h2).1
      simp at l1 l2
      omega
  · rcases Nat.lt_or_ge i vs.length with hi' | hi'
    · rcases Nat.lt_or_ge j vs.length with hj' | hj'
      · rw [List.getElem?_append_left hi'] at h1
        rw [List.getElem?_append_left hj'] at h2
        exact h.vdis i j vi vj c h1 h2 hi hj
      · rw [List.getElem?_append_right hj'] at h2
        have : vj = .slice none 0 0 := by have := List.mem_of_getElem? h2; simpa using this
        subst this
        simp [Value.ownBlock] at hj
    · rw [List.getElem?_append_right hi'] at h1
      have : vi = .slice none 0 0 := by have := List.mem_of_getElem? h1; simpa using this
      subst this
      simp [Value.ownBlock] at hi
/-- One keeper has taken an event. -/
theorem Keeps.took {w0 w w1 : World} {ks : List Keep} {bs : List Nat} {vs : List Value} (h : Keeps w0 w ks bs vs) {j b : Nat} {v : Value} {f : Keep → Keep} (hb : bs[j]? = some b) (hv : vs[j]? = some v) {k : Keep} (hk : ks[j]? = some k)
    {v1 : Value} (h1 : KeepAt w0 w1 b v1 (f k)) (hat : v1.ownBlock = v.ownBlock ∨ ∃ c, v1.ownBlock = some c ∧ w.heap.size ≤ c) (ho : Only (fun c => c = b ∨ some c = v.ownBlock) w w1) : Keeps w0 w1 (ks.modify j f) bs (vs.set j v1) := by
  have e1 := h.lenb
  have e2 := h.lenv
  have hlv := (List.getElem?_eq_some_iff.1 hv).1
  have hlt : ∀ (i : Nat) vi c, vs[i]? = some vi → vi.ownBlock = some c → c < w.heap.size := fun i vi c hi hc => by
    have hil := (List.getElem?_eq_some_iff.1 hi).1
    obtain ⟨ki, hki⟩ : ∃ k, ks[i]? = some k := ⟨_, List.getElem?_eq_getElem (by omega)⟩
    obtain ⟨bi, hbi⟩ : ∃ b, bs[i]? = some b := ⟨_, List.getElem?_eq_getElem (by omega)⟩
    exact Kd.R_lt (h.at_ i _ _ _ hki hbi hi).ops c hc
  refine ⟨by simp [e1], by simp [e2], fun i k' b' v' g1 g2 g3 => ?_, h.bdis, fun i i' vi vj c g1 g2 hi hj => ?_⟩
  · by_cases hij : i = j
    · subst hij
      rw [hb] at g2
      cases g2
      rw [List.getElem?_set_self hlv] at g3
      cases g3
      rw [List.getElem?_modify_eq, hk] at g1
      cases g1
      exact h1
    · rw [List.getElem?_set_ne (Ne.symm hij)] at g3
      simp only [List.getElem?_modify, if_neg (Ne.symm hij), Option.map_eq_map, Option.map_id'] at g1
      refine (h.at_ i _ _ _ g1 g2 g3).only ho ?_ ?_
      · rintro (e | e)
        · subst e; exact hij (h.bdis _ _ _ g2 hb)
        · obtain ⟨ki, hki⟩ : ∃ k, ks[j]? = some k := ⟨_, hk⟩
          exact Kd.R_ne (h.at_ j _ _ _ hk hb hv).ops (h.at_ i _ _ _ g1 g2 g3).blk (by decide) e
      · rintro c hc (e | e)
        · subst e
          exact Kd.R_ne (h.at_ i _ _ _ g1 g2 g3).ops (h.at_ j _ _ _ hk hb hv).blk (by decide) hc.symm
        · exact hij (h.vdis _ _ _ _ c g3 hv hc e.symm)
  · have key : ∀ (i i' : Nat) vi, i ≠ j → vs[i]? = some vi → vi.ownBlock = some c → v1.ownBlock = some c → False := by
      intro i i' vi hij g hc hc1
      rcases hat with hat | ⟨d, hd, hl⟩
      · exact hij (h.vdis _ _ _ _ c g hv hc (hat ▸ hc1))
      · rw [hd] at hc1
        cases hc1
        have := hlt i vi c g hc
        omega
    by_cases a1 : i = j <;> by_cases a2 : i' = j
    · omega
    · subst a1
      rw [List.getElem?_set_self hlv] at g1
      cases g1
      rw [List.getElem?_set_ne (Ne.symm a2)] at g2
      exact (key i' i vj a2 g2 hj hi).elim
    · subst a2
      rw [List.getElem?_set_self hlv] at g2
      cases g2
      rw [List.getElem?_set_ne (Ne.symm a1)] at g1
      exact (key i i' vi a1 g1 hi hj).elim
    · rw [List.getElem?_set_ne (Ne.symm a1)] at g1
      rw [List.getElem?_set_ne (Ne.symm a2)] at g2
      exact h.vdis i i' vi vj c g1 g2 hi hj
def ptrOf (ns : List Int) (bs : List Nat) (t : Int) : Option Value := (ns.findIdx? (· == t)).bind fun i => (bs[i]?).map fun b => .pointer (some ⟨b, 0, none⟩)
def namesOf (ks : List Keep) : List Int := ks.map (·.t.name)
/-- All that the table's first loop holds. -/
structure Tab (w0 w : World) (m : Nat) (o : Value) (ks : List Keep) (bs : List Nat) (vs : List Value) : Prop where
  keeps : Keeps w0 w ks bs vs
  map : MapF (Value.int .i64) w m (ptrOf (namesOf ks) bs)
  ord : Own kPtr 78 w0 w o bs
  low : w0.heap.size ≤ m
theorem Tab.below {w0 w w1 : World} {m : Nat} {o : Value} {ks : List Keep} {bs : List Nat} {vs : List Value} (h : Tab w0 w m o ks bs vs) (hb : Below w.heap.size w w1) : Tab w0 w1 m o ks bs vs :=
  ⟨h.keeps.below hb, h.map.below hb, h.ord.below hb, h.low⟩
theorem map_ne {κ : Type} [DecidableEq κ] {enc : κ → Value} {w : World} {r g : Nat} {f : κ → Option Value} (h : MapF enc w r f) {cs : Array Value} {t : TypeId} {fr : Nat × Nat} (hg : w.heap[g]? = some (.cells cs t fr)) : r ≠ g := by
  rintro rfl
  obtain ⟨_, _, _, h, _⟩ := h
  rw [h] at hg
  cases hg
theorem Tab.took {w0 w w1 : World} {m : Nat} {o : Value} {ks : List Keep} {bs : List Nat} {vs : List Value} (h : Tab w0 w m o ks bs vs) {j b : Nat} {v : Value} {k : Keep} (hk : ks[j]? = some k) (hb : bs[j]? = some b) (hv : vs[j]? = some v)
    {i : Int} {e : Ev} (ht : TookP w0 w b v (k.take i e) w1) : ∃ vs', Tab w0 w1 m o (ks.modify j (fun k => k.take i e)) bs vs' := by
  obtain ⟨v1, h1, hat, ho⟩ := ht
  have hka := h.keeps.at_ j k b v hk hb hv
  have hn : namesOf (ks.modify j (fun k => k.take i e)) = namesOf ks := by
    unfold namesOf
    apply List.ext_getElem?
    intro n
    simp only [List.getElem?_map, List.getElem?_modify]
    by_cases hn : j = n
    · subst hn; simp [hk, Keep.take]
    · simp [hn]
  refine ⟨vs.set j v1, h.keeps.took hb hv hk h1 hat ho, ?_, h.ord.only ho ?_, h.low⟩
  · rw [hn]
    refine h.map.move (ho.block m h.map.lt ?_)
    rintro (e | e)
    · exact map_ne h.map hka.blk e
    · obtain ⟨inner, hi⟩ := Kd.R_own hka.ops
      obtain ⟨cells, hc⟩ := own_typed hi m e.symm
      exact map_ne h.map hc rfl
  · rintro c (e | e)
    · subst e; exact ⟨_, _, _, hka.blk, by decide⟩
    · obtain ⟨inner, hi⟩ := Kd.R_own hka.ops
      obtain ⟨cells, hc⟩ := own_typed hi c e.symm
      exact ⟨_, _, _, hc, by decide⟩
theorem Tab.new {w0 w X w1 : World} {m : Nat} {o v1 : Value} {ks : List Keep} {bs : List Nat} {vs : List Value} (h : Tab w0 w m o ks bs vs) {k : Keep} (hn : ptrOf (namesOf ks) bs k.t.name = none) (hX : Below w.heap.size w X) {b : Nat} (hb : w.heap.size ≤ b)
    (hblk : X.heap[b]? = some (.cells (keepCells k (.slice none 0 0)) 80 (0, 0))) (hops : k.t.ops = []) (hg : X.drew.grownBy w1 o.ownBlock) (hO : Own kPtr 78 w0 w1 v1 (bs ++ [b])) {ob : Obj}
    (hm : MapF (Value.int .i64) (w1.putObj m ob) m (putF (ptrOf (namesOf ks) bs) k.t.name (.pointer (some ⟨b, 0, none⟩)))) (hsz : w0.heap.size ≤ w.heap.size) : Tab w0 (w1.putObj m ob) m v1 (ks ++ [k]) (bs ++ [b]) (vs ++ [.slice none 0 0]) := by
  have hmlt := h.map.lt
  have hput : Only (Is m) w1 (w1.putObj m ob) := ⟨rfl, rfl, rfl, by simp, fun c _ hc => World.putObj_heap_other hc⟩
  have hob : ∀ c, o.ownBlock = some c → c < w.heap.size := Kd.R_lt h.ord
  have ho : Only (fun c => some c = o.ownBlock ∨ c = m) w (w1.putObj m ob) :=
    (((Only.of_below (S := fun c => some c = o.ownBlock ∨ c = m) hX).drew).trans ((Only.of_grown hg).mono (fun _ _ hk => .inl hk))).trans (hput.mono (fun _ _ hk => .inr hk))
  have hob2 : ∀ c, some c = o.ownBlock → ∃ cells, w.heap[c]? = some (.cells cells 78 (0, 0)) := fun c hc => by
    obtain ⟨inner, hi⟩ := Kd.R_own h.ord
    exact own_typed hi c hc.symm
  have hbb : ∀ c, c ∈ bs → c < w.heap.size ∧ ∃ k', ∃ v', KeepAt w0 w c v' k' := fun c hc => by
    obtain ⟨i, hi⟩ := List.mem_iff_getElem?.1 hc
    have hl := (List.getElem?_eq_some_iff.1 hi).1
    have e1 := h.keeps.lenb
    have e2 := h.keeps.lenv
    have := h.keeps.at_ i _ c _ (List.getElem?_eq_getElem (by omega)) hi (List.getElem?_eq_getElem (by omega))
    exact ⟨blk_lt this.blk, _, _, this⟩
  have hne : b ≠ m := by omega
  have hk1 : KeepAt w0 (w1.putObj m ob) b (.slice none 0 0) k := by
    refine ⟨(World.putObj_heap_other hne).trans (blk_grown (blk_drew hblk) hg (fun e => ?_)), by rw [hops]; exact Own.nil _ _ _ _, by omega⟩
    have := hob b e.symm
    omega
  refine ⟨(h.keeps.only ho ?_ ?_).push hk1 (fun c hc => by have := (hbb c hc).1; omega), ?_, hO.only2 hput (fun c hc cells q hq hcell => ?_), h.low⟩
  · rintro c hc (e | e)
    · obtain ⟨_, k', v', hka⟩ := hbb c hc
      obtain ⟨cells, hcell⟩ := hob2 c e
      rw [hka.blk] at hcell
      injection hcell with hcell
      injection hcell with _ hcell
      exact absurd hcell (by decide)
    · obtain ⟨_, k', v', hka⟩ := hbb c hc
      exact map_ne h.map hka.blk e.symm
  · rintro v c hv hc (e | e)
    · obtain ⟨i, hi⟩ := List.mem_iff_getElem?.1 hv
      have hl := (List.getElem?_eq_some_iff.1 hi).1
      have e1 := h.keeps.lenb
      have e2 := h.keeps.lenv
      have hka := h.keeps.at_ i _ _ v (List.getElem?_eq_getElem (by omega)) (List.getElem?_eq_getElem (by omega)) hi
      obtain ⟨inner, hi2⟩ := Kd.R_own hka.ops
      obtain ⟨cells, hcell⟩ := own_typed hi2 c hc
      obtain ⟨cells2, hcell2⟩ := hob2 c e
      rw [hcell] at hcell2
      injection hcell2 with hcell2
      injection hcell2 with _ hcell2
      exact absurd hcell2 (by decide)
    · obtain ⟨i, hi⟩ := List.mem_iff_getElem?.1 hv
      have hl := (List.getElem?_eq_some_iff.1 hi).1
      have e1 := h.keeps.lenb
      have e2 := h.keeps.lenv
      have hka := h.keeps.at_ i _ _ v (List.getElem?_eq_getElem (by omega)) (List.getElem?_eq_getElem (by omega)) hi
      obtain ⟨inner, hi2⟩ := Kd.R_own hka.ops
      obtain ⟨cells, hcell⟩ := own_typed hi2 c hc
      exact map_ne h.map hcell e.symm
  · have : ptrOf (namesOf (ks ++ [k])) (bs ++ [b]) = putF (ptrOf (namesOf ks) bs) k.t.name (.pointer (some ⟨b, 0, none⟩)) := by
      funext t
      have e1 := h.keeps.lenb
      have hnone : (namesOf ks).findIdx? (· == k.t.name) = none := by
        cases hf : (namesOf ks).findIdx? (· == k.t.name) with
        | none => rfl
        | some i =>
          have hi := (List.findIdx?_eq_some_iff_getElem.1 hf).1
          simp [namesOf] at hi
          simp [ptrOf, hf, List.getElem?_eq_getElem (show i < bs.length by omega)] at hn
      unfold ptrOf putF
      rw [show namesOf (ks ++ [k]) = namesOf ks ++ [k.t.name] by simp [namesOf], List.findIdx?_append]
      by_cases ht : t = k.t.name
      · subst ht
        rw [hnone, if_pos rfl]
        simp [namesOf, e1, List.findIdx?_cons]
      · rw [if_neg ht]
        have h2 : [k.t.name].findIdx? (· == t) = none := by simp [List.findIdx?_cons, Ne.symm ht]
        rw [h2]
        cases hf : (namesOf ks).findIdx? (· == t) with
        | none => simp [hf]
        | some i =>
          have hi := (List.findIdx?_eq_some_iff_getElem.1 hf).1
          simp [namesOf] at hi
          simp [hf, List.getElem?_append_left (show i < bs.length by omega)]
    rw [this]
    exact hm
  · cases hc
    obtain ⟨es, c, l, hmm, _⟩ := h.map
    have : w1.heap[m]? = some (.map es c) := by
      rw [hg.block m (by have := hX.size; simp; omega) (fun e => ?_)]
      · exact (hX.block m hmlt).trans hmm
      · obtain ⟨cells2, hcell2⟩ := hob2 m e
        rw [hmm] at hcell2
        cases hcell2
    rw [this] at hcell
    cases hcell
end Go.Proofs.YtnogalajfccioaaDoor
