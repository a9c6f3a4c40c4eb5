/- A queue restored. -/
import Derived.Test.YtfjgiaimlmnepaaQ6
set_option linter.unusedVariables false
set_option linter.unusedSimpArgs false
namespace Go.Proofs.Ytfjgiaimlmnepaa
open Go Go.V Go.B

theorem u66 : Try.prog.underlying 66 = some (.map 3 3) := by kernel_rfl
theorem kI : KeyT Try.prog 3 (Value.int .i64) := keyInt (by kernel_rfl)
theorem zI : ∀ w, (zeroValue 3).run Try.prog w = .ok (.int .i64 0) w := fun w => by
  have h : (Try.prog.info? 3).map (fun i => i.zero) = some (some (.int .i64 0)) := by kernel_rfl
  cases hq : Try.prog.info? 3 with
  | none => rw [hq] at h; cases h
  | some i =>
    rw [hq] at h
    simp only [Option.map_some, Option.some.injEq] at h
    simp [zeroValue, typeInfo, hq, h]
/-- A round's state. -/
structure RS (w w' : World) (p r rs : Nat) (next : Int) (xs : List Wt) (a : Nat) : Prop where
  ext : Ext [] w w'
  hdr : BlkT w' p [.slice none 0 0, .map (some r), .int .i64 next] 62
  mm : ∃ m, MapAt w' r Value.string Wt.val m ∧ ∀ k x, mget m k = some x ↔ x ∈ xs.take a ∧ x.name = k
  ms : ∃ s, MapAt w' rs (Value.int .i64) (Value.int .i64) s ∧ ∀ k v, mget s k = some v ↔ v = 1 ∧ ∃ x ∈ xs.take a, x.seq = k
  hp : w.heap.size ≤ p
  hr : w.heap.size ≤ r
  hrs : w.heap.size ≤ rs
  pr : p ≠ r
  prs : p ≠ rs
  rrs : r ≠ rs
  ok : OkL (xs.take a) next
theorem RS.ext0 {w w' w'' : World} {p r rs : Nat} {next : Int} {xs : List Wt} {a : Nat} (h : RS w w' p r rs next xs a) (e : Ext [] w' w'') : RS w w'' p r rs next xs a :=
  ⟨h.ext.trans e, h.hdr.ext e (by simp), let ⟨m, h1, h2⟩ := h.mm; ⟨m, h1.ext0 e, h2⟩, let ⟨m, h1, h2⟩ := h.ms; ⟨m, h1.ext0 e, h2⟩, h.hp, h.hr, h.hrs, h.pr, h.prs, h.rrs, h.ok⟩
theorem mget_none_iff {κ β : Type} [DecidableEq κ] {m : List (κ × β)} {k : κ} {P : β → Prop} (h : ∀ v, mget m k = some v ↔ P v) : mget m k = none ↔ ∀ v, ¬ P v := by
  constructor
  · intro hn v hv
    have := (h v).2 hv
    rw [hn] at this; cases this
  · intro hn
    cases hg : mget m k with
    | none => rfl
    | some v => exact absurd ((h v).1 hg) (hn v)
theorem New_m {w : World} {R : Ending → World → Prop} (k : ∀ p r w', Ext [] w w' → BlkT w' p [.slice none 0 0, .map (some r), .int .i64 0] 62 → MapAt w' r Value.string Wt.val [] → w.heap.size ≤ p → w.heap.size ≤ r → p ≠ r → R (.returned (.pointer (some ⟨p, 0, none⟩))) w') : Calls Try.prog 13 #[] w R := by
  apply queue_New_nf
  intro w1 h1 w2 h2
  have m1 : MapAt w1 w.heap.size Value.string Wt.val [] := by rw [h1]; exact MapAt.new _ _ _
  have x1 : Ext [] w w1 := by rw [h1]; exact (Ext.refl _ _).alloc _
  have z1 : w1.heap.size = w.heap.size + 1 := by rw [h1]; exact World.size_alloc _ _
  obtain ⟨b2, x2, z2⟩ := box_new (cs := [.slice none 0 0, .map (some w.heap.size), .int .i64 0]) h2
  exact k _ _ w2 (x1.trans x2) b2 (m1.ext0 x2) (by omega) (Nat.le_refl _) (by omega)
set_option maxRecDepth 2000 in
theorem Restore_c {w : World} {A : Option Addr} {n c : Nat} {xs : List Wt} (hc : Cells w A (flatW xs)) (hxl : xs.length = n) (next : Int) {R : Ending → World → Prop}
    (k1 : ¬ ValidQ xs next → ∀ w', Ext [] w w' → R (.returned (.tuple #[.pointer none, .int .i64 255])) w')
    (k2 : ValidQ xs next → ∀ w' p f, Ext [] w w' → QAt w' w.heap.size p f xs next.toNat → (∀ b ∈ f, w.heap.size ≤ b) → R (.returned (.tuple #[.pointer (some ⟨p, 0, none⟩), .int .i64 0])) w') :
    Calls Try.prog 27 #[.slice A n c, .int .i64 next] w R := by
  apply queue_Restore_nf
  refine sel_dec (fun h => k1 (fun v => by have := v.1; omega) w (Ext.refl _ _)) (fun h0 => sel_dec (fun h => k1 (fun v => by have := v.2.1; omega) w (Ext.refl _ _)) (fun h1 => sel_dec (fun h => k1 (fun v => by have := v.2.2.1; omega) w (Ext.refl _ _)) (fun h2 => ?_)))
  refine New_m fun p r w1 e1 hdr1 mp1 hpf hrf hpr => ⟨_, rfl, ptr_in ?_⟩
  obtain ⟨w2, hr2, hdr2, e2⟩ := store1a (P := Try.prog) (t := 3) (v := .int .i64 next) i3s hdr1 (i := 2) (by simp) rfl rfl
  refine ⟨_, hr2, ?_⟩
  intro w3 h3
  obtain ⟨rs, hrs⟩ : ∃ rs, rs = w2.heap.size := ⟨_, rfl⟩
  have ms3 : MapAt (κ := Int) (β := Int) w3 rs (Value.int .i64) (Value.int .i64) [] := by rw [h3, hrs]; exact MapAt.new _ _ _
  have x3 : Ext [] w2 w3 := by rw [h3]; exact (Ext.refl _ _).alloc _
  have pl : p < w1.heap.size := hdr1.lt
  have rl : r < w1.heap.size := mp1.lt
  have e12 : Ext [] w w2 := e1.trans' e2 (fun b hb => .inr (by simp at hb; omega))
  have s3 : RS w w3 p r rs next xs 0 := ⟨e12.trans x3, hdr2.ext x3 (by simp), ⟨[], (mp1.ext e2 (by simp; exact fun e => hpr e.symm)).ext0 x3, by simp [mget]⟩, ⟨[], ms3, by simp [mget]⟩, hpf, hrf, by have := e12.size; omega, hpr, by have := e2.size; omega, by have := e2.size; omega, ⟨List.Pairwise.nil, by simp, by simp, by simp⟩⟩
  rw [← hrs]
  clear h3 ms3 x3 hdr2 hr2 mp1 hdr1
  refine ⟨fun t w' => ∃ a : Nat, t = a ∧ a ≤ n ∧ RS w w' p r rs next xs a, fun t _ => n - t.toNat, ⟨0, rfl, by omega, s3⟩, ?_⟩
  rintro _ _ w13 ⟨a, rfl, ha, s13⟩
  refine sel_dec (fun hlt => ?_) (fun hge => ?_)
  · obtain ⟨x, hx⟩ : ∃ y, xs[a]? = some y := ⟨xs[a]'(by omega), List.getElem?_eq_getElem (by omega)⟩
    have rd : ∀ {w' : World}, Ext [] w w' → ∀ {i : Nat} {x : Wt}, xs[i]? = some x → ∃ ad, A = some ad ∧ cellsC (fun a v => w'.cell? a = some v) (ad.add (i * 6)) x.cells := fun e i x hx => WL.read (hc.ext0 e) hx
    obtain ⟨ad, rfl, rdx⟩ := rd s13.ext hx
    have rdx : cellsC (fun a v => w13.cell? a = some v) (ad.add (Int.toNat (a : Int) * 6)) x.cells := by rw [Int.toNat_natCast]; exact rdx
    refine when_dec ⟨by omega, by omega⟩ (ptr_in ⟨_, _, _, _, _, _, rdx, ?_⟩)
    intro w21 h21
    obtain ⟨b21, x21, z21⟩ := box_new (cs := Wt.zero.cells) h21
    obtain ⟨w22, hr22, b22, e22⟩ := storeW (P := Try.prog) (t := 34) (n := 6) (vs := x.cells) i34s b21 rfl rfl (WL.one x)
    have e1322 : Ext [] w13 w22 := x21.trans' e22 (fun b hb => .inr (by simp at hb; omega))
    have s22 := s13.ext0 e1322
    obtain ⟨bx, hbx⟩ : ∃ bx, bx = w13.heap.size := ⟨_, rfl⟩
    rw [← hbx] at b22 hr22 ⊢
    have hbx0 : w.heap.size ≤ bx := by have := s13.ext.size; omega
    have hbr : rs < bx := by obtain ⟨_, h, _⟩ := s13.ms; have := h.lt; omega
    clear h21 b21 x21 z21 e22
    refine ⟨_, hr22, ?_⟩
    obtain ⟨m, hm, hmp⟩ := s22.mm
    obtain ⟨v, b, hrun, hb⟩ : ∃ (v : Wt) (b : Bool), (∀ w', Ext [] w22 w' → (Instr.lookup 60 (.map (some r)) (.string x.name) true).run Try.prog w' = .ok (.tuple #[Wt.val v, .bool b]) w') ∧ (b = true ↔ ∃ y ∈ xs.take a, y.name = x.name) := by
      cases hg : mget m x.name with
      | some y =>
        have := (hmp _ _).1 hg
        exact ⟨y, true, fun w' e => (look_yes (P := Try.prog) kS u60 zW (hm.ext0 e) hg).2, ⟨fun _ => ⟨y, this⟩, fun _ => rfl⟩⟩
      | none => exact ⟨Wt.zero, false, fun w' e => (look_no (P := Try.prog) kS u60 zW (hm.ext0 e) hg).2, ⟨fun h => (by cases h), fun ⟨y, hy⟩ => by have := (hmp _ _).2 hy; rw [hg] at this; cases this⟩⟩
    refine ⟨fun tw w' => Ext [] w22 w' ∧ (tw = true ↔ ∃ y ∈ xs.take a, y.name = x.name), ⟨fun w' => Ext [] w22 w', (Ext.refl _ _).drew, ptr_in ⟨_, fun w' hS => cadd (s22.ext0 hS).hdr rfl, _, fun w' hS => cadd (b22.ext hS (by simp)) rfl, ?_, ?_, trivial⟩⟩, ?_⟩
    · refine ⟨_, _, _, _, _, _, _, _, hrun _ (Ext.refl _ _).drew, (Ext.refl _ _).drew, ?_⟩
      intro w37 h37
      obtain ⟨b37, x37, z37⟩ := box_new (cs := Wt.zero.cells) h37
      have e37 : Ext [] w22 w37 := (Ext.refl _ _).drew.trans x37
      obtain ⟨w38, hr38, b38, e38⟩ := storeW (P := Try.prog) (t := 34) (n := 6) (vs := v.cells) i34s b37 rfl rfl (WL.one v)
      have e238 : Ext [] w22 w38 := e37.trans' e38 (fun b hb => .inr (by simp at hb; rw [hb]; exact Nat.le_refl _))
      exact ⟨e37, _, hr38, e238, e238, hb⟩
    · intro w39 h39
      obtain ⟨b39, x39, z39⟩ := box_new (cs := Wt.zero.cells) h39
      have e39 : Ext [] w22 w39 := (Ext.refl _ _).drew.trans x39
      obtain ⟨w48, hr48, b48, e48⟩ := storeW (P := Try.prog) (t := 34) (n := 6) (vs := v.cells) i34s b39 rfl rfl (WL.one v)
      have e248 : Ext [] w22 w48 := e39.trans' e48 (fun b hb => .inr (by simp at hb; rw [hb]; exact Nat.le_refl _))
      exact ⟨e39, _, _, _, _, _, _, _, _, hrun _ e39, e39, _, hr48, e248, e248, hb⟩
    rintro tw _ w51 ⟨e51, htw⟩
    refine ⟨fun w' => Ext [] w51 w', (Ext.refl _ _).drew, sel_intro (fun ht => ?_) (fun hf => ?_)⟩
    · refine k1 (fun v => ?_) _ ((s22.ext.trans e51).drew)
      obtain ⟨y, hy, hyn⟩ := htw.1 ht
      exact ((OkL.snoc hx).1 (v.2.2.2.take (a + 1))).2.2.1 y hy hyn
    have hnm : ∀ y ∈ xs.take a, y.name ≠ x.name := fun y hy e => by have := htw.2 ⟨y, hy, e⟩; rw [hf] at this; cases this
    refine ⟨_, _, _, _, _, _, cellsC_S fun w' hS => cadd0 ((b22.ext e51 (by simp)).ext hS (by simp)), sound_c x next fun w62 e62' => ⟨_, rfl, (Ext.refl _ _).drew.trans e62', ?_⟩⟩
    have e62 : Ext [] w22 w62 := (e51.drew).trans e62'
    refine sel_intro (fun hs => ?_) (fun hs => ?_)
    · refine k1 (fun v => ?_) _ (s22.ext.trans e62)
      have := ((OkL.snoc hx).1 (v.2.2.2.take (a + 1))).2.1
      simp [this] at hs
    have hsd : soundV x next := by simpa using hs
    refine sel_dec (fun hpos => ?_) (fun hz => ?_)
    · have hpos : 0 < a := by omega
      have ei : IntKind.wrap .i64 ((a : Int) - 1) = ((a - 1 : Nat) : Int) := by rw [w64 (by omega) (by omega)]; omega
      rw [ei]
      obtain ⟨y, hy⟩ : ∃ y, xs[a - 1]? = some y := ⟨xs[a - 1]'(by omega), List.getElem?_eq_getElem (by omega)⟩
      have rdS : ∀ w', Ext [] w51 w' → cellsC (fun a v => w'.cell? a = some v) (ad.add (Int.toNat ((a - 1 : Nat) : Int) * 6)) y.cells := fun w' hS => by
        obtain ⟨ad', e, h⟩ := rd ((s22.ext.trans e51).trans hS) hy
        cases e
        rw [Int.toNat_natCast]; exact h
      refine when_dec ⟨by omega, by omega⟩ (ptr_in ⟨_, _, _, _, _, _, cellsC_S rdS, _, _, _, _, _, _, cellsC_S fun w' hS => cadd0 ((b22.ext e51 (by simp)).ext hS (by simp)), compare_c _ y x fun w78 e78 => ⟨_, rfl, ((Ext.refl _ _).drew.trans e62').trans e78, ?_⟩⟩)
      refine sel_dec (fun hc => ?_) (fun hc => ?_)
      · refine k1 (fun v => ?_) _ ((s22.ext.trans e62).trans e78)
        have := (cmpV_neg y x).2 (((OkL.snoc hx).1 (v.2.2.2.take (a + 1))).2.2.2.2 y hpos hy)
        omega
      have hah : ∀ y, 0 < a → xs[a - 1]? = some y → ahead y x = true := fun z _ hz => by
        rw [hy] at hz; cases hz
        exact (cmpV_neg _ _).1 (by omega)
      replace e62 := e62.trans e78
      have s62 := s22.ext0 e62
      have b62 := b22.ext e62 (by simp)
      obtain ⟨sm, hsm, hsp⟩ := s62.ms
      refine ⟨_, cadd b62 rfl, ?_⟩
      cases hg : mget sm x.seq with
      | some v =>
        obtain ⟨rfl, y, hy, hys⟩ := (hsp x.seq v).1 hg
        obtain ⟨w63, hr63, ms63, e63⟩ := store_map (P := Try.prog) kI u66 hsm x.seq (IntKind.wrap .i64 (1 + 1))
        have e13' : Ext [] w w63 := (s62.ext.trans' e63 (fun b hb => .inr (by simp at hb; have := s62.hrs; omega)))
        have b63 := b62.ext e63 (by simp; omega)
        have hg2 : mget (mput sm x.seq (IntKind.wrap .i64 (1 + 1))) x.seq = some (IntKind.wrap .i64 (1 + 1)) := by rw [mget_mput, if_pos rfl]
        refine ⟨_, _, (look_yes (P := Try.prog) kI u66 zI hsm hg).1, _, hr63, _, cadd b63 rfl, _, _, (look_yes (P := Try.prog) kI u66 zI ms63 hg2).1, sel_true (by rw [w64 (x := 1 + 1) (by omega) (by omega)]; rfl) (k1 (fun v => ?_) _ e13')⟩
        exact ((OkL.snoc hx).1 (v.2.2.2.take (a + 1))).2.2.2.1 y hy hys
      | none =>
        have hno : ∀ y ∈ xs.take a, y.seq ≠ x.seq := fun y hy e => by
          have := (mget_none_iff (hsp x.seq)).1 hg 1
          exact this ⟨rfl, y, hy, e⟩
        obtain ⟨w63, hr63, ms63, e63⟩ := store_map (P := Try.prog) kI u66 hsm x.seq (1 : Int)
        have b63 := b62.ext e63 (by simp; omega)
        have hg2 : mget (mput sm x.seq (1 : Int)) x.seq = some 1 := by rw [mget_mput, if_pos rfl]
        have hdr63 := s62.hdr.ext e63 (by simp; exact s62.prs)
        obtain ⟨m, hm, hmp⟩ := s62.mm
        have hm63 := hm.ext e63 (by simp; exact s62.rrs)
        obtain ⟨w64', hr64, mm64, e64⟩ := store_map (P := Try.prog) (w := w63.drew) kS u60 hm63.drew x.name x
        refine ⟨_, _, (look_no (P := Try.prog) kI u66 zI hsm hg).1, _, hr63, _, cadd b63 rfl, _, _, (look_yes (P := Try.prog) kI u66 zI ms63 hg2).1, sel_false rfl (ptr_in ⟨_, cadd hdr63 rfl, _, cadd b63 rfl, _, _, _, _, _, _, cadd0 b63, _, hr64, ?_, by rw [up64 a (by omega)]; simp only [Int.toNat_natCast]; omega⟩)⟩
        rw [up64 a (by omega)]
        refine ⟨a + 1, rfl, by omega, ⟨?_, ?_, ⟨_, mm64, ?_⟩, ⟨_, ms63.drew.ext e64 (by simp; exact fun e => s62.rrs e.symm), ?_⟩, s62.hp, s62.hr, s62.hrs, s62.pr, s62.prs, s62.rrs, (OkL.snoc hx).2 ⟨s62.ok, hsd, hnm, hno, hah⟩⟩⟩
        · exact ((s62.ext.trans' e63 (fun b hb => .inr (by simp at hb; have := s62.hrs; omega))).drew).trans' e64 (fun b hb => .inr (by simp at hb; have := s62.hr; omega))
        · exact (hdr63.ext (Ext.refl [] w63).drew (by simp)).ext e64 (by simp; exact s62.pr)
        · intro k z
          rw [mget_mput, take_snoc hx]
          by_cases e : x.name = k
          · rw [if_pos e]
            constructor
            · intro h; cases h; exact ⟨by simp, e⟩
            · rintro ⟨h1, h2⟩
              rcases List.mem_append.1 h1 with h1 | h1
              · exact absurd (h2.trans e.symm) (hnm z h1)
              · simp at h1; rw [h1]
          · rw [if_neg e, hmp]
            constructor
            · rintro ⟨h1, h2⟩; exact ⟨by simp [h1], h2⟩
            · rintro ⟨h1, h2⟩
              rcases List.mem_append.1 h1 with h1 | h1
              · exact ⟨h1, h2⟩
              · simp at h1; subst h1; exact absurd h2 e
        · intro k v
          rw [mget_mput, take_snoc hx]
          by_cases e : x.seq = k
          · rw [if_pos e]
            constructor
            · intro h; cases h; exact ⟨rfl, x, by simp, e⟩
            · rintro ⟨rfl, _⟩; rfl
          · rw [if_neg e, hsp]
            constructor
            · rintro ⟨h1, z, h2, h3⟩; exact ⟨h1, z, by simp [h2], h3⟩
            · rintro ⟨h1, z, h2, h3⟩
              rcases List.mem_append.1 h2 with h2 | h2
              · exact ⟨h1, z, h2, h3⟩
              · simp at h2; subst h2; exact absurd h3 e
    · have hah : ∀ y, 0 < a → xs[a - 1]? = some y → ahead y x = true := fun z h _ => by omega
      have s62 := s22.ext0 e62
      have b62 := b22.ext e62 (by simp)
      obtain ⟨sm, hsm, hsp⟩ := s62.ms
      refine ⟨_, cadd b62 rfl, ?_⟩
      cases hg : mget sm x.seq with
      | some v =>
        obtain ⟨rfl, y, hy, hys⟩ := (hsp x.seq v).1 hg
        obtain ⟨w63, hr63, ms63, e63⟩ := store_map (P := Try.prog) kI u66 hsm x.seq (IntKind.wrap .i64 (1 + 1))
        have e13' : Ext [] w w63 := (s62.ext.trans' e63 (fun b hb => .inr (by simp at hb; have := s62.hrs; omega)))
        have b63 := b62.ext e63 (by simp; omega)
        have hg2 : mget (mput sm x.seq (IntKind.wrap .i64 (1 + 1))) x.seq = some (IntKind.wrap .i64 (1 + 1)) := by rw [mget_mput, if_pos rfl]
        refine ⟨_, _, (look_yes (P := Try.prog) kI u66 zI hsm hg).1, _, hr63, _, cadd b63 rfl, _, _, (look_yes (P := Try.prog) kI u66 zI ms63 hg2).1, sel_true (by rw [w64 (x := 1 + 1) (by omega) (by omega)]; rfl) (k1 (fun v => ?_) _ e13')⟩
        exact ((OkL.snoc hx).1 (v.2.2.2.take (a + 1))).2.2.2.1 y hy hys
      | none =>
        have hno : ∀ y ∈ xs.take a, y.seq ≠ x.seq := fun y hy e => by
          have := (mget_none_iff (hsp x.seq)).1 hg 1
          exact this ⟨rfl, y, hy, e⟩
        obtain ⟨w63, hr63, ms63, e63⟩ := store_map (P := Try.prog) kI u66 hsm x.seq (1 : Int)
        have b63 := b62.ext e63 (by simp; omega)
        have hg2 : mget (mput sm x.seq (1 : Int)) x.seq = some 1 := by rw [mget_mput, if_pos rfl]
        have hdr63 := s62.hdr.ext e63 (by simp; exact s62.prs)
        obtain ⟨m, hm, hmp⟩ := s62.mm
        have hm63 := hm.ext e63 (by simp; exact s62.rrs)
        obtain ⟨w64', hr64, mm64, e64⟩ := store_map (P := Try.prog) (w := w63.drew) kS u60 hm63.drew x.name x
        refine ⟨_, _, (look_no (P := Try.prog) kI u66 zI hsm hg).1, _, hr63, _, cadd b63 rfl, _, _, (look_yes (P := Try.prog) kI u66 zI ms63 hg2).1, sel_false rfl (ptr_in ⟨_, cadd hdr63 rfl, _, cadd b63 rfl, _, _, _, _, _, _, cadd0 b63, _, hr64, ?_, by rw [up64 a (by omega)]; simp only [Int.toNat_natCast]; omega⟩)⟩
        rw [up64 a (by omega)]
        refine ⟨a + 1, rfl, by omega, ⟨?_, ?_, ⟨_, mm64, ?_⟩, ⟨_, ms63.drew.ext e64 (by simp; exact fun e => s62.rrs e.symm), ?_⟩, s62.hp, s62.hr, s62.hrs, s62.pr, s62.prs, s62.rrs, (OkL.snoc hx).2 ⟨s62.ok, hsd, hnm, hno, hah⟩⟩⟩
        · exact ((s62.ext.trans' e63 (fun b hb => .inr (by simp at hb; have := s62.hrs; omega))).drew).trans' e64 (fun b hb => .inr (by simp at hb; have := s62.hr; omega))
        · exact (hdr63.ext (Ext.refl [] w63).drew (by simp)).ext e64 (by simp; exact s62.pr)
        · intro k z
          rw [mget_mput, take_snoc hx]
          by_cases e : x.name = k
          · rw [if_pos e]
            constructor
            · intro h; cases h; exact ⟨by simp, e⟩
            · rintro ⟨h1, h2⟩
              rcases List.mem_append.1 h1 with h1 | h1
              · exact absurd (h2.trans e.symm) (hnm z h1)
              · simp at h1; rw [h1]
          · rw [if_neg e, hmp]
            constructor
            · rintro ⟨h1, h2⟩; exact ⟨by simp [h1], h2⟩
            · rintro ⟨h1, h2⟩
              rcases List.mem_append.1 h1 with h1 | h1
              · exact ⟨h1, h2⟩
              · simp at h1; subst h1; exact absurd h2 e
        · intro k v
          rw [mget_mput, take_snoc hx]
          by_cases e : x.seq = k
          · rw [if_pos e]
            constructor
            · intro h; cases h; exact ⟨rfl, x, by simp, e⟩
            · rintro ⟨rfl, _⟩; rfl
          · rw [if_neg e, hsp]
            constructor
            · rintro ⟨h1, z, h2, h3⟩; exact ⟨h1, z, by simp [h2], h3⟩
            · rintro ⟨h1, z, h2, h3⟩
              rcases List.mem_append.1 h2 with h2 | h2
              · exact ⟨h1, z, h2, h3⟩
              · simp at h2; subst h2; exact absurd h3 e
  · have : a = n := by omega
    subst this
    intro w113 h113
    obtain ⟨b113, x113, z113⟩ := box_new (cs := []) h113
    have s14 := s13.ext0 x113
    have szw := s13.ext.size
    have o1 : w113.ownsRow w.heap.size 34 6 (.slice (some ⟨w13.heap.size, 0, none⟩) 0 0) 0 [] := own_of b113 szw (Nat.le_refl _) (by simp only [maxLen]; omega) rfl rfl
    obtain ⟨A', c', w15, hr15, ho, he, hat⟩ := appR (P := Try.prog) (ty := 29) (m := a) (cy := c) (Y := A) u29 i34 z34s (by omega) (by omega) o1 (ys := flatW xs) (by rw [flatW_len, hxl]) (hc.ext0 s14.ext) (WL.flat_one _) (by omega) (by omega)
    rw [Nat.zero_add] at hr15 ho
    rw [List.nil_append] at ho
    have e15 : Ext [] w113 w15 ∨ True := .inr trivial
    have pl13 : p < w13.heap.size := s13.hdr.lt
    have hdr15 := s14.hdr.ext he (by simp [ownF]; omega)
    obtain ⟨w17, hr17, hdr17, e17⟩ := store1a (P := Try.prog) (v := .slice A' a c') i29s hdr15 (i := 0) (by simp) rfl rfl
    refine ⟨_, _, _, _, hr15, ptr_in ⟨_, hr17, ?_⟩⟩
    obtain ⟨m, hm, hmp⟩ := s14.mm
    have rl13 : r < w13.heap.size := by obtain ⟨_, h, _⟩ := s13.mm; exact h.lt
    have hFA : ∀ b ∈ ownF A', w13.heap.size ≤ b := fun b hb => by
      rcases hat with e | e
      · rw [e] at hb; simp [ownF] at hb; omega
      · rw [e] at hb; simp at hb; rw [hb]; omega
    have hok := s13.ok
    rw [← hxl, List.take_length] at hok hmp
    have hv : ValidQ xs next := ⟨by omega, by omega, by omega, hok⟩
    have hpn : p ∉ ownF A' := fun h => by have := hFA _ h; omega
    have hrn : r ∉ ownF A' := fun h => by have := hFA _ h; omega
    refine k2 hv w17 p (p :: r :: ownF A') ?_ ⟨r, A', a, c', m, ⟨?_, ?_, ?_, hpn, by simp only [List.mem_cons, not_or]; exact ⟨fun e => s13.pr e.symm, hrn⟩, ?_⟩, ?_, rfl⟩ ?_
    · exact ((s14.ext.trans' he (fun b hb => .inr (by simp [ownF] at hb; omega)))).trans' e17 (fun b hb => .inr (by simp at hb; have := s13.hp; omega))
    · have : ((next.toNat : Nat) : Int) = next := by omega
      rw [this]; exact hdr17
    · exact own_ext ho e17 (fun b hb => by simp; exact fun e => hpn (e ▸ hb))
    · exact (hm.ext he (by simp [ownF]; omega)).ext e17 (by simp; exact fun e => s13.pr e.symm)
    · have := x113.size; have := he.size; have := e17.size; omega
    · exact ⟨hok.sorted, by omega, by omega, fun y hy => by have := hok.sound y hy; unfold soundV at this; omega, fun y hy => by have := hok.sound y hy; unfold soundV at this; omega, fun y hy => by have := hok.sound y hy; unfold soundV at this; omega, hok.names, hok.seqs, hmp⟩
    · intro b hb
      simp only [List.mem_cons] at hb
      rcases hb with rfl | rfl | hb
      · exact s13.hp
      · exact s13.hr
      · have := hFA b hb; omega
end Go.Proofs.Ytfjgiaimlmnepaa
