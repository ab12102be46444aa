/- Bags of writes that all say the same: joins in plain words. No program is in sight here. -/
import Derived.Test.YtflgfiieaoeknaaP0
namespace Go.Proofs.YtflgfiieaoeknaaA
open Go
set_option linter.unusedSimpArgs false
set_option linter.unusedVariables false

/-- What a write says. -/
def dataV (a c : Int) : List UInt8 := [120]
/-- A bag that came of writes. -/
structure BagOk (k : Nat → Int) (l : List Val) : Prop where
  may : bagMay k l = true
  data : ∀ v ∈ l, v.data = dataV v.node v.n
theorem BagOk.asc {k : Nat → Int} {l : List Val} (h : BagOk k l) : Asc l := may_asc h.may
theorem BagOk.len {k : Nat → Int} {l : List Val} (h : BagOk k l) : l.length ≤ 32 := may_len h.may
theorem BagOk.has {k : Nat → Int} {l : List Val} (h : BagOk k l) {v : Val} (hv : v ∈ l) : has k v.node v.n = true := (valMay_iff.1 ((bagMay_iff.1 h.may).2.2.1 v hv)).1
theorem val_ext {u v : Val} (h1 : u.node = v.node) (h2 : u.n = v.n) (h3 : u.data = dataV u.node u.n) (h4 : v.data = dataV v.node v.n) : u = v := by
  obtain ⟨a, b, c⟩ := u
  obtain ⟨a', b', c'⟩ := v
  simp only at h1 h2 h3 h4
  subst h1 h2
  rw [h3, h4]
theorem isAt_mem {k : Nat → Int} {l : List Val} (h : BagOk k l) {v : Val} (hv : v.data = dataV v.node v.n) : isAt l v.node v.n = true ↔ v ∈ l := by
  rw [isAt_iff]
  constructor
  · rintro ⟨u, hu, h1, h2⟩
    rw [← val_ext h1 h2 (h.data u hu) hv]
    exact hu
  · exact fun q => ⟨v, q, rfl, rfl⟩
theorem dlt_irrefl {u : Val} : ¬ dlt u u = true := by rw [dlt_iff]; omega
theorem asc_ext : ∀ {l r : List Val}, Asc l → Asc r → (∀ v, v ∈ l ↔ v ∈ r) → l = r
  | [], [], _, _, _ => rfl
  | [], b :: r, _, _, h => absurd ((h b).2 (.head _)) (by simp)
  | a :: l, [], _, _, h => absurd ((h a).1 (.head _)) (by simp)
  | a :: l, b :: r, h1, h2, h => by
    unfold Asc at h1 h2
    rw [List.pairwise_cons] at h1 h2
    have e : a = b := by
      rcases List.mem_cons.1 ((h a).1 (.head _)) with q | q
      · exact q
      · rcases List.mem_cons.1 ((h b).2 (.head _)) with p | p
        · exact p.symm
        · exact absurd (dlt_trans (h1.1 b p) (h2.1 a q)) dlt_irrefl
    subst e
    rw [asc_ext h1.2 h2.2 fun v => ?_]
    constructor
    · intro hv
      rcases List.mem_cons.1 ((h v).1 (.tail _ hv)) with q | q
      · subst q; exact absurd (h1.1 v hv) dlt_irrefl
      · exact q
    · intro hv
      rcases List.mem_cons.1 ((h v).2 (.tail _ hv)) with q | q
      · subst q; exact absurd (h2.1 v hv) dlt_irrefl
      · exact q
theorem fold_mem : ∀ {s l : List Val} {v : Val}, v ∈ s.foldl putIn l → v ∈ l ∨ v ∈ s
  | [], l, v, h => .inl h
  | u :: s, l, v, h => by
    rcases fold_mem (s := s) h with q | q
    · unfold putIn at q
      split at q
      · exact .inl q
      · rcases mem_insV.1 q with rfl | q
        · exact .inr (.head _)
        · exact .inl q
    · exact .inr (.tail _ q)
theorem mem_putIn {l : List Val} {u v : Val} (h : v ∈ l) : v ∈ putIn l u := by
  unfold putIn
  split
  · exact h
  · exact mem_insV.2 (.inr h)
theorem mem_fold : ∀ {s l : List Val} {v : Val}, v ∈ l → v ∈ s.foldl putIn l
  | [], l, v, h => h
  | u :: s, l, v, h => mem_fold (s := s) (mem_putIn h)
theorem mem_fold2 : ∀ {s l : List Val} {v : Val}, (∀ u ∈ l, u.data = dataV u.node u.n) → (∀ u ∈ s, u.data = dataV u.node u.n) → v ∈ s → v ∈ s.foldl putIn l
  | u :: s, l, v, h1, h2, h => by
    have hl : ∀ x ∈ putIn l u, x.data = dataV x.node x.n := fun x hx => by
      unfold putIn at hx
      split at hx
      · exact h1 x hx
      · rcases mem_insV.1 hx with rfl | hx
        · exact h2 x (.head _)
        · exact h1 x hx
    rcases List.mem_cons.1 h with rfl | h
    · refine mem_fold (s := s) ?_
      unfold putIn
      split
      · rename_i q
        obtain ⟨x, hx, e1, e2⟩ := isAt_iff.1 q
        rw [← val_ext e1 e2 (h1 x hx) (h2 v (.head _))]
        exact hx
      · exact mem_insV.2 (.inl rfl)
    · exact mem_fold2 (s := s) hl (fun x hx => h2 x (.tail _ hx)) h
theorem mem_stays {k : Nat → Int} {l r : List Val} (hr : BagOk k r) {v : Val} (hv : v.data = dataV v.node v.n) : v ∈ staysL l k r ↔ v ∈ l ∧ (v ∈ r ∨ has k v.node v.n = false) := by
  unfold staysL keeps
  rw [List.mem_filter, Bool.or_eq_true, isAt_mem hr hv, Bool.not_eq_true']
/-- What a join holds. -/
theorem mem_join {ka kb : Nat → Int} {la lb : List Val} (ha : BagOk ka la) (hb : BagOk kb lb) {v : Val} : v ∈ joinL ka la kb lb ↔ (v ∈ la ∨ v ∈ lb) ∧ (v ∈ la ∨ has ka v.node v.n = false) ∧ (v ∈ lb ∨ has kb v.node v.n = false) := by
  have da : ∀ u ∈ staysL la kb lb, u.data = dataV u.node u.n := fun u hu => ha.data u (List.mem_filter.1 hu).1
  have db : ∀ u ∈ staysL lb ka la, u.data = dataV u.node u.n := fun u hu => hb.data u (List.mem_filter.1 hu).1
  unfold joinL
  constructor
  · intro h
    rcases fold_mem h with q | q
    · have := (mem_stays hb (da v q)).1 q
      exact ⟨.inl this.1, .inl this.1, this.2⟩
    · have := (mem_stays ha (db v q)).1 q
      exact ⟨.inr this.1, this.2, .inl this.1⟩
  · rintro ⟨h1, h2, h3⟩
    rcases h1 with q | q
    · exact mem_fold ((mem_stays hb (ha.data v q)).2 ⟨q, h3⟩)
    · exact mem_fold2 da db ((mem_stays ha (hb.data v q)).2 ⟨q, h2⟩)
theorem join_asc {ka kb : Nat → Int} {la lb : List Val} (ha : BagOk ka la) : Asc (joinL ka la kb lb) := fold_asc (stays_asc ha.asc)
theorem joinE_cases {ka kb : Nat → Int} {la lb : List Val} (ha : BagOk ka la) (hb : BagOk kb lb) : (joinE ka la kb lb = 5 ∧ 32 < (joinL ka la kb lb).length) ∨ (joinE ka la kb lb = 0 ∧ (joinL ka la kb lb).length ≤ 32 ∧ joinK ka la kb lb = joinV ka kb ∧ joinR ka la kb lb = joinL ka la kb lb) := by
  unfold joinK joinR joinE
  simp only [ha.may, hb.may, Bool.and_self, if_true]
  by_cases h : 32 < (joinL ka la kb lb).length
  · simp [h]
  · simp [h]; omega
theorem has_join {ka kb : Nat → Int} {a c : Int} : has (joinV ka kb) a c = true ↔ has ka a c = true ∨ has kb a c = true := by
  simp only [has_iff, joinV]
  constructor
  · rintro ⟨h1, h2, h3, h4⟩
    rcases Int.le_total (ka a.toNat) (kb a.toNat) with q | q
    · exact .inr ⟨h1, h2, h3, by omega⟩
    · exact .inl ⟨h1, h2, h3, by omega⟩
  · rintro (⟨h1, h2, h3, h4⟩ | ⟨h1, h2, h3, h4⟩) <;> exact ⟨h1, h2, h3, by omega⟩
theorem has_join_f {ka kb : Nat → Int} {a c : Int} : has (joinV ka kb) a c = false ↔ has ka a c = false ∧ has kb a c = false := by
  rw [Bool.eq_false_iff, Bool.eq_false_iff, Bool.eq_false_iff, Ne, has_join, not_or]
theorem join_ok {ka kb : Nat → Int} {la lb : List Val} (ha : BagOk ka la) (hb : BagOk kb lb) (h : (joinL ka la kb lb).length ≤ 32) : BagOk (joinV ka kb) (joinL ka la kb lb) where
  may := by
    rw [bagMay_iff]
    obtain ⟨a1, a2, a3, a4⟩ := bagMay_iff.1 ha.may
    obtain ⟨b1, b2, b3, b4⟩ := bagMay_iff.1 hb.may
    refine ⟨joinV_may a1 b1, h, fun v hv => ?_, join_asc ha⟩
    rw [valMay_iff, has_join]
    rcases ((mem_join ha hb).1 hv).1 with q | q
    · obtain ⟨p1, p2⟩ := valMay_iff.1 (a3 v q)
      exact ⟨.inl p1, p2⟩
    · obtain ⟨p1, p2⟩ := valMay_iff.1 (b3 v q)
      exact ⟨.inr p1, p2⟩
  data := fun v hv => by
    rcases ((mem_join ha hb).1 hv).1 with q | q
    · exact ha.data v q
    · exact hb.data v q
/-- One bag is made of another. -/
structure Upon (ka : Nat → Int) (la : List Val) (kb : Nat → Int) (lb : List Val) : Prop where
  know : ∀ i, i < 8 → ka i ≤ kb i
  old : ∀ v ∈ lb, has ka v.node v.n = true → v ∈ la
theorem Upon.refl {k : Nat → Int} {l : List Val} : Upon k l k l := ⟨fun _ _ => Int.le_refl _, fun v h _ => h⟩
theorem Upon.trans {ka kb kc : Nat → Int} {la lb lc : List Val} (h : Upon ka la kb lb) (k : Upon kb lb kc lc) : Upon ka la kc lc :=
  ⟨fun i hi => Int.le_trans (h.know i hi) (k.know i hi), fun v hv q => h.old v (k.old v hv (has_mono h.know q)) q⟩
theorem upon_join {ka kb : Nat → Int} {la lb : List Val} (ha : BagOk ka la) (hb : BagOk kb lb) : Upon ka la (joinV ka kb) (joinL ka la kb lb) :=
  ⟨fun i _ => joinV_le.1, fun v hv q => by
    rcases ((mem_join ha hb).1 hv).2.1 with p | p
    · exact p
    · rw [q] at p; cases p⟩
theorem upon_join2 {ka kb : Nat → Int} {la lb : List Val} (ha : BagOk ka la) (hb : BagOk kb lb) : Upon kb lb (joinV ka kb) (joinL ka la kb lb) :=
  ⟨fun i _ => joinV_le.2, fun v hv q => by
    rcases ((mem_join ha hb).1 hv).2.2 with p | p
    · exact p
    · rw [q] at p; cases p⟩
theorem joinV_upon {ka kb : Nat → Int} (h : ∀ i, i < 8 → ka i ≤ kb i) : vecEq (joinV ka kb) kb = true ∧ vecEq (joinV kb ka) kb = true := by
  rw [vecEq_iff, vecEq_iff]
  constructor
  · intro i hi; have := h i hi; simp only [joinV]; omega
  · intro i hi; have := h i hi; simp only [joinV]; omega
/-- Joined with what it is made of it is itself. -/
theorem join_upon {ka kb : Nat → Int} {la lb : List Val} (ha : BagOk ka la) (hb : BagOk kb lb) (h : Upon ka la kb lb) : joinL ka la kb lb = lb ∧ joinL kb lb ka la = lb := by
  have key : ∀ v, v ∈ lb → v ∈ la ∨ has ka v.node v.n = false := fun v hv => by
    cases q : has ka v.node v.n
    · exact .inr rfl
    · exact .inl (h.old v hv q)
  have kb' : ∀ v, v ∈ la → has kb v.node v.n = true := fun v hv => has_mono h.know (ha.has hv)
  constructor
  · refine asc_ext (join_asc ha) hb.asc fun v => ?_
    rw [mem_join ha hb]
    constructor
    · rintro ⟨h1, h2, h3⟩
      rcases h3 with q | q
      · exact q
      · rcases h1 with p | p
        · rw [kb' v p] at q; cases q
        · exact p
    · exact fun hv => ⟨.inr hv, key v hv, .inl hv⟩
  · refine asc_ext (join_asc hb) hb.asc fun v => ?_
    rw [mem_join hb ha]
    constructor
    · rintro ⟨h1, h2, h3⟩
      rcases h2 with q | q
      · exact q
      · rcases h1 with p | p
        · exact p
        · rw [kb' v p] at q; cases q
    · exact fun hv => ⟨.inl hv, .inl hv, key v hv⟩
theorem joinE_upon {ka kb : Nat → Int} {la lb : List Val} (ha : BagOk ka la) (hb : BagOk kb lb) (h : Upon ka la kb lb) : joinE ka la kb lb = 0 ∧ joinE kb lb ka la = 0 := by
  obtain ⟨e1, e2⟩ := join_upon ha hb h
  have := hb.len
  constructor
  · rcases joinE_cases ha hb with ⟨_, q⟩ | ⟨q, _⟩
    · rw [e1] at q; omega
    · exact q
  · rcases joinE_cases hb ha with ⟨_, q⟩ | ⟨q, _⟩
    · rw [e2] at q; omega
    · exact q
theorem below_upon {ka kb : Nat → Int} {la lb : List Val} (ha : BagOk ka la) (hb : BagOk kb lb) (h : Upon ka la kb lb) : belowB ka la kb lb = true := by
  obtain ⟨e1, e2⟩ := joinE_upon ha hb h
  have e3 : joinK ka la kb lb = joinV ka kb := by simp [joinK, e1]
  have e4 : joinR ka la kb lb = joinL ka la kb lb := by simp [joinR, e1]
  simp [belowB, e1, e3, e4, bagSame, (join_upon ha hb h).1, (joinV_upon h.know).1]
theorem put_okB {k known : Nat → Int} {l : List Val} {a c : Int} {data : List UInt8} (h : BagOk k l) (hE : putE k l known a c data = 0) (hd : data = dataV a c) : BagOk (putK k l known a c data) (putR k l known a c data) ∧ Upon k l (putK k l known a c data) (putR k l known a c data) := by
  obtain ⟨h1, h2, h3, h4⟩ := put_ok hE
  have hno := (putMay_iff.1 h1).2.2.2.1
  constructor
  · refine ⟨h4, fun v hv => ?_⟩
    rw [h3] at hv
    rcases mem_insV.1 hv with rfl | q
    · exact hd
    · exact h.data v (mem_kept.1 q).1
  · rw [h2, h3]
    refine ⟨fun i hi => Int.le_trans joinV_le.1 withV_le, fun v hv q => ?_⟩
    rcases mem_insV.1 hv with rfl | p
    · rw [hno] at q; cases q
    · exact (mem_kept.1 p).1
theorem zero_ok : BagOk zeroV [] := ⟨by decide, by simp⟩
end Go.Proofs.YtflgfiieaoeknaaA
