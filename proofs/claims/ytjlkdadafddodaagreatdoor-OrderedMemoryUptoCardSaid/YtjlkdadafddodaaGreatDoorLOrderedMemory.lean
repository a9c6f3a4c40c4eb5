/- Whatever script and numbers of bulk at most 1048576 come in, where the library's tables stand, berthlaw08.OrderedMemory returns true and leaves what came in as it was. -/
import Derived.Test.YtjlkdadafddodaaGreatDoorEB
import Derived.Test.YtjlkdadafddodaaGreatDoorOgV
import Derived.Test.YtjlkdadafddodaaGreatDoorL2L
import Derived.Test.YtjlkdadafddodaaGreatDoorTie
import Derived.Test.YtjlkdadafddodaaGreatDoorCards
import Derived.Test.YtjlkdadafddodaaGreatDoorRows
import Derived.ProofKit
import Derived.LaidMore
import Derived.OpenShut
import Derived.Stop.Joined
import Derived.SevenTiedAt
import Derived.LaidHandle
set_option linter.unusedVariables false
set_option linter.unusedSimpArgs false
namespace Go.Proofs.YtjlkdadafddodaaGreatDoor
open Go Go.V Go.B
open Go.ChangeShapes Go.WideShapes Go.ChangeAt Go.RowKit

theorem IL_sz : IL.sz = 1 := rfl
def none_ : ByteArray := ⟨#[110, 111, 110, 101]⟩
set_option maxRecDepth 8000 in
set_option maxHeartbeats 4000000 in
theorem orderedMemory_c {W : World} {A : Option Addr} {n c : Nat} {ops : List Op} (ho : OpsAt W A n ops) (hn : n ≤ 1048576) (hol : ∀ o ∈ ops, o.l ≤ 1048576) {A2 : Option Addr} {l c2 : Nat} {ns : List Int} (hns : Ints W .i64 A2 l ns) (hl : l ≤ 1048576) (hrg : ∀ z ∈ ns, -9223372036854775808 ≤ z ∧ z ≤ 9223372036854775807) (hp : Pow W) {R : Ending → World → Prop} (k : ∀ w', Ext [] W w' → R (.returned (.bool true)) w') :
    Calls Tryz.prog 3 #[.slice A n c, .slice A2 l c2] W R := by
  apply berthlaw08_OrderedMemory_nf
  refine fixed_c fun w5 e5 => ⟨_, rfl, sel_false rfl ?_⟩
  refine Begin_c fun g es0 w9 e9 W9 _ _ => ⟨_, _, rfl, sel_false rfl ?_⟩
  have ho5 := ho.ext0 e5
  have hnl := hns.len
  refine ⟨fun t w' => ∃ (a : Nat) (es : Nat → En), t = a ∧ a ≤ n ∧ Ext [] w5 w' ∧ WAt w' w5.heap.size g a es, fun t _ => n - t.toNat, ⟨0, es0, rfl, by omega, e9, W9⟩, ?_⟩
  rintro _ _ w14 ⟨a, es, rfl, ha, E14, W14⟩
  refine sel_dec (fun hlt => ?_) (fun hge => ?_)
  · have hlt : a < n := by omega
    obtain ⟨o, ad, hoa, hA, rd⟩ := (ho5.ext0 E14).read hlt
    have hom := List.mem_of_getElem? hoa
    have hin := (ho5.ext0 E14).in_ o hom
    refine when_dec ⟨by omega, by omega⟩ ?_
    rw [hA]
    refine ptr_in ⟨_, _, _, _, _, _, _, _, _, _, rd, fun w24 h24 => ?_⟩
    obtain ⟨w25, hr25, b25, x25⟩ := op_box (o := o) h24
    have hup : IntKind.wrap .i64 ((a : Int) + 1) = ((a + 1 : Nat) : Int) := up64 a (by omega)
    refine ⟨w25, hr25, _, cadd b25 rfl, sel_dec (fun hle => ⟨_, _, _, _, _, _, _, _, _, _, cadd0 b25, ?_⟩) (fun hgt => ?_)⟩
    · refine Step_c (E14.trans x25) (W14.ext0 x25) (by omega) (hin.ext0 x25) (hol o hom) fun es' w37 E37 W37 => ⟨_, rfl, sel_false rfl ?_⟩
      rw [hup]
      exact ⟨⟨a + 1, es', rfl, by omega, E37, W37⟩, by simp only [Int.toNat_natCast]; omega⟩
    · rw [hup]
      exact ⟨⟨a + 1, es, rfl, by omega, E14.trans x25, (W14.ext0 x25).more (by omega)⟩, by simp only [Int.toNat_natCast]; omega⟩
  have han : a ≤ 1100000 := by omega
  have EW14 := e5.trans E14
  -- the numbers' list, with something behind it
  have e8 : IntKind.wrap .i64 (((l : Nat) : Int) + 8) = ((l + 8 : Nat) : Int) := by rw [w64 (by omega) (by omega)]; omega
  rw [e8]
  refine V.when_intro ?_ ?_
  · rw [decide_eq_true_iff]
    refine ⟨?_, ?_, ?_, ?_⟩ <;> omega
  intro w38 h38
  rw [Int.toNat_natCast] at h38 ⊢
  obtain ⟨b38, x38, z38⟩ := box_new (cs := V.rep (l + 8) [.int .i64 0]) h38
  have own38 : w38.ownsRow w14.heap.size 3 IL.sz (.slice (some ⟨w14.heap.size, 0, none⟩) 0 (l + 8)) 0 [] := own_of b38 (Nat.le_refl _) (by omega) (by simp only [maxLen]; omega) (by show (List.replicate (l + 8) (Value.int .i64 0)).length = (l + 8) * 1; simp) (by simp)
  obtain ⟨A39, c39, w40, hr40, own40, x40, at40⟩ := appR (P := Tryz.prog) (ty := 23) (t := 23) (e := 3) (m := l) (cy := c2) (Y := A2) u37 i3 rfl (by decide) (by omega) own38 (ys := IL.flat ns) (by rw [IL.flat_len, hnl]; rfl) (ints_cells ((hns.ext0 EW14).ext0 x38)) (IL.flat_one _) (by omega) (by omega)
  have own40 : OwnL IL w40 w14.heap.size 3 A39 (0 + l) c39 ns := by unfold OwnL; rw [IL_sz]; simpa using own40
  have E40 : Ext [] w14 w40 := x38.trans' x40 (fun b hb => .inr (by simp [ownF] at hb; omega))
  rw [Nat.zero_add] at own40 hr40
  refine ⟨A39, l, c39, w40, hr40, fun w41 h41 => ?_⟩
  obtain ⟨b41, x41, z41⟩ := box_new (cs := [.int .i64 7, .int .i64 77, .int .i64 777, .int .i64 7777]) h41
  have gb40 := own40.base
  have z40 := E40.size
  obtain ⟨A42, c42, w43, hr43, own43, x43, at43⟩ := appR (P := Tryz.prog) (ty := 23) (t := 23) (e := 3) (m := 4) (cy := 4) (Y := some ⟨w40.heap.size, 0, none⟩) u37 i3 rfl (by decide) (by omega) (own40.ext0 x41) (ys := IL.flat [7, 77, 777, 7777]) (by rw [IL.flat_len]; rfl) (Cells.of_blk b41.blk) (IL.flat_one _) (by omega) (by omega)
  have own43 : OwnL IL w43 w14.heap.size 3 A42 (l + 4) c42 (ns ++ [7, 77, 777, 7777]) := by
    unfold OwnL
    rw [IL.flat_app]; exact own43
  have E43 : Ext [] w14 w43 := (E40.trans x41).trans' x43 (fun b hb => .inr (gb40 b hb).1)
  have gb := own43.base
  have hcap := own43.cap
  have z43 := E43.size
  refine ⟨A42, l + 4, c42, w43, hr43, when_dec ⟨by omega, by omega⟩ ?_⟩
  -- each index
  refine ⟨fun t w' => ∃ i : Nat, t = i ∧ i ≤ 4 ∧ Ext [] w14 w' ∧ OwnL IL w' w14.heap.size 3 A42 (l + 4) c42 (ns ++ [7, 77, 777, 7777]), fun t _ => 4 - t.toNat, ⟨0, rfl, by omega, E43, own43⟩, ?_⟩
  rintro _ _ w48 ⟨i, rfl, hi, E48, own48⟩
  refine sel_dec (fun hlt => ?_) (fun hge => ?_)
  · have hi4 : i < 4 := by omega
    have W48 := W14.ext0 E48
    have hen := W48.en i hi4
    have ii : (0 : Int) ≤ (i : Int) ∧ (i : Int) < 4 := by omega
    refine ptr_in (when_dec ii ⟨_, _, _, _, w_doc W48.blk hi4, ?_⟩)
    refine DocKeys_c hen.doc (by have := hen.dl; omega) fun B m cB ks w54 e54 ownK hsK hmK => ⟨_, _, _, rfl, fun w55 h55 => ?_⟩
    have hkf := keys_few hen.doc hsK hmK
    have hkd := hen.dl
    have hkl := ownK.len
    obtain ⟨b55, x55, z55⟩ := box_new (cs := SL.enc none_) h55
    have z54 := e54.size
    have gbK := ownK.base
    obtain ⟨A56, c56, w57, hr57, own57, x57, at57⟩ := (ownK.ext0 x55).more (P := Tryz.prog) (ty := 33) (x := none_) u43 i9 rfl (by omega) b55 (by omega) (by omega)
    have e57 : Ext [] w48 w57 := (e54.trans x55).trans' x57 (fun b hb => .inr (gbK b hb).1)
    have own57l := own48.ext0 e57
    have gb57 := own57.base
    have z57 := e57.size
    have gb48 := own48.base
    refine ⟨A56, m + 1, c56, w57, hr57, ?_⟩
    refine ⟨fun t w' => ∃ b : Nat, t = b ∧ b ≤ m + 1 ∧ Ext (ownF A42) w57 w' ∧ OwnL IL w' w14.heap.size 3 A42 (l + 4) c42 (ns ++ [7, 77, 777, 7777]), fun t _ => m + 1 - t.toNat, ⟨0, rfl, by omega, Ext.refl _ _, own57l⟩, ?_⟩
    rintro _ _ w62 ⟨b, rfl, hb, e62, own62⟩
    have toE : ∀ w', Ext (ownF A42) w57 w' → Ext [] w14 w' := fun w' e => (E48.trans e57).trans' e (fun b hb => .inr (gb48 b hb).1)
    have E62 := toE w62 e62
    refine sel_dec (fun hlt2 => ?_) (fun hge2 => ?_)
    · have hlt2 : b < m + 1 := by omega
      obtain ⟨key, hkey⟩ : ∃ key, (ks ++ [none_])[b]? = some key := ⟨(ks ++ [none_])[b]'(by simp; omega), List.getElem?_eq_getElem (by simp; omega)⟩
      have cK : Cells w62 A56 (SL.flat (ks ++ [none_])) := own57.cells.ext e62 (fun b hb hm => by have := (gb57 b hb).1; have := (gb48 b hm).2; omega)
      obtain ⟨ad, hA56, hcK⟩ := sl_cell cK hkey
      rw [hA56]
      have lst : ∀ {w' : World} {xs : List Int}, OwnL IL w' w14.heap.size 3 A42 (l + 4) c42 xs → Ints w' .i64 A42 l (xs.take l) := fun o => il_ints (o.take (n := l) (by omega) (by omega)).cells (by have := o.len; simp; omega)
      have lstA : ∀ {w' : World} {xs : List Int}, OwnL IL w' w14.heap.size 3 A42 (l + 4) c42 xs → ∀ ad, A42 = some ad → ad.block < w'.heap.size := fun o ad ea => (o.base ad.block (by rw [ea]; simp [ownF])).2
      refine when_dec ⟨by omega, by omega⟩ (ptr_in ⟨_, hcK, ?_⟩)
      rw [cut0]
      refine owns_c (W14.ext0 E62) han hi4 key (lst own62) (lstA own62) (by show l - 0 ≤ _; omega) fun w67 e67 => ⟨_, rfl, sel_false rfl ?_⟩
      have own67 := own62.ext0 e67
      have e62' := e62.then e67
      refine flip_c own67 (by omega) fun w72 x72 own72 => ?_
      have X72 : Ext (ownF A42) w57 w72 := e62'.trans x72
      have E72 := toE w72 X72
      have W72 := W14.ext0 E72
      have hen72 := W72.en i hi4
      have B72 := hen72.b (by omega)
      have d72 : Ext [] w72 w72.drew := (Ext.refl _ _).drew
      have hdl := hen72.dl
      have hmul : (es i).d.l * l ≤ 4000000000000 := Nat.le_trans (Nat.mul_le_mul (show (es i).d.l ≤ 1100000 by omega) hl) (by omega)
      obtain ⟨zs, hzs⟩ : ∃ zs, (flN l (ns ++ [7, 77, 777, 7777])).take l = zs := ⟨_, rfl⟩
      have i72 : Ints w72 .i64 A42 l zs := by rw [← hzs]; exact lst own72
      have a72 := lstA own72
      have fin : ∀ {w' w'' : World} {p bw : Nat} {S : SetV} {B : Option Addr} {mm cc : Nat} {ys : List Int}, Ext [] w72 w' → Ext [] w' w'' → Holds w' p bw (es i).x.N S (amongP (es i).x key zs) → Ints w'' .i64 B mm ys → RiseL ys → (∀ z, z ∈ ys ↔ ∃ r ∈ (es i).d.rows, (r.key = key ∧ r.n ∈ zs) ∧ r.slot = z) → ∀ {R' : Ending → World → Prop}, (∀ w3, Ext [] w'' w3 → R' (.returned (.bool true)) w3) →
          Calls Tryz.prog 9 #[.pointer (some ⟨g, 0, none⟩), .int .i64 (i : Int), .pointer (some ⟨p, 0, none⟩), .slice B mm cc] w'' R' := fun e1 e2 hS hI hr hm R' k' =>
        set_c (W72.ext0 (e1.trans e2)) hi4 (hS.set.ext0 e2) hS.size (hen72.rel.mi hen72.ok (Q := fun a => a ∈ zs) hS.set.ok hS.mem (fun j => Iff.rfl) hr hm) hI k'
      refine ⟨fun t w' => t = false ∧ Ext [] w72 w', ⟨fun w' => Ext [] w72 w', d72, ptr_in (when_dec ii ⟨_, fun w' e => w_ptr (W72.ext0 e).blk hi4, ptr_in (when_dec ii ⟨_, _, _, _, cellsC_S (fun w' e => w_doc (W72.ext0 e).blk hi4), ?_, ?_, trivial⟩)⟩)⟩, ?_⟩
      · refine Among_c' (B72.ext0 d72).g key (l := l - 0) (i72.ext0 d72) a72 (by omega) fun p bw w87 S e87 hp' hb' hS => ⟨_, rfl, e87.undrew, fun w88 h88 => ?_⟩
        have e87 : Ext [] w72 w87 := e87.undrew
        obtain ⟨A89, c89, w90, hr90, own90, e90⟩ := copyL (L := IL) (P := Tryz.prog) (ty := 23) (t := 23) (e := 3) (w := w87) (m := l - 0) u37 i3 rfl (by omega) (ints_cells (i72.ext0 e87)) i72.len h88 (by omega) (c42 - 0)
        have x88 : Ext [] w87 w88 := by subst h88; exact (Ext.refl _ _).alloc _
        refine ⟨e87.trans x88, A89, l - 0, c89, w90, hr90, e87.trans e90, DocAmong_c (hen72.doc.ext0 (e87.trans e90)) (il_ints own90.cells own90.len) hmul (by omega) (by omega) key fun B2 m2 cc ys w93 e93 own93 hr93 hm93 => ⟨_, _, _, rfl, (e87.trans e90).trans e93, ?_⟩⟩
        exact fin e87 (e90.trans e93) hS (il_ints own93.cells own93.len) hr93 hm93 fun w96 e96 => ⟨_, rfl, ((e87.trans e90).trans e93).trans e96, rfl, ((e87.trans e90).trans e93).trans e96⟩
      · intro w97 h97
        obtain ⟨b97, x97, z97⟩ := box_new (cs := []) h97
        have x97' : Ext [] w72 w97 := x97.undrew
        have own97 : w97.ownsRow (World.drew w72).heap.size 3 IL.sz (.slice (some ⟨(World.drew w72).heap.size, 0, none⟩) 0 0) 0 [] := own_of b97 (Nat.le_refl _) (Nat.le_refl _) (by simp only [maxLen]; omega) (by simp) (by simp)
        refine ⟨x97', Among_c' (B72.ext0 x97').g key (l := l - 0) (i72.ext0 x97') (fun ad ea => by have := a72 ad ea; have := x97'.size; omega) (by omega) fun p bw w100 S e100 hp' hb' hS => ⟨_, rfl, x97'.trans e100, ?_⟩⟩
        have e100' := x97'.trans e100
        have z100 := e100.size
        obtain ⟨A101, c101, w102, hr102, own102, x102, at102⟩ := appR (P := Tryz.prog) (ty := 23) (t := 23) (e := 3) (m := l - 0) (cy := c42 - 0) (Y := A42) u37 i3 rfl (by decide) (by omega) (own_ext own97 e100 (by simp)) (ys := IL.flat zs) (by rw [IL.flat_len, i72.len]; rfl) (ints_cells (i72.ext0 e100')) (IL.flat_one _) (by omega) (by omega)
        have own102 : OwnL IL w102 (World.drew w72).heap.size 3 A101 (0 + (l - 0)) c101 zs := by unfold OwnL; rw [IL_sz]; simpa using own102
        have hs72 : (World.drew w72).heap.size = w72.heap.size := rfl
        have e102 : Ext [] w72 w102 := e100'.trans' x102 (fun b hb => .inr (by simp [ownF] at hb; omega))
        have e102b : Ext [] w100 w102 ∨ True := .inr trivial
        have S102 : Holds w102 p bw (es i).x.N S (amongP (es i).x key zs) := hS.ext x102 (by simp [ownF]; omega) (by simp [ownF]; omega)
        refine ⟨A101, 0 + (l - 0), c101, w102, hr102, e102, DocAmong_c (hen72.doc.ext0 e102) (il_ints own102.cells own102.len) (by rw [Nat.zero_add]; exact hmul) (by omega) (by omega) key fun B2 m2 cc ys w105 e105 own105 hr105 hm105 => ⟨_, _, _, rfl, e102.trans e105, ?_⟩⟩
        exact fin e102 e105 S102 (il_ints own105.cells own105.len) hr105 hm105 fun w108 e108 => ⟨_, rfl, (e102.trans e105).trans e108, rfl, (e102.trans e105).trans e108⟩
      rintro t _ w111 ⟨rfl, e111⟩
      refine sel_false rfl (flip_c (own72.ext0 e111) (by omega) fun w116 x116 own116 => ?_)
      have hback := flN_back (ys := [7, 77, 777, 7777]) hrg
      rw [hnl] at hback
      rw [hback] at own116
      rw [up64 b (by omega)]
      exact ⟨⟨b + 1, rfl, by omega, (X72.then e111).trans x116, own116⟩, by simp only [Int.toNat_natCast]; omega⟩
    · refine keysOwn_c (W14.ext0 E62) han (hp.ext0 (EW14.trans E62)) hi4 fun w123 e123 => ⟨_, rfl, sel_false rfl ?_⟩
      refine seen_c (W14.ext0 (E62.trans e123)) (by omega) hi4 fun w126 e126 => ⟨_, rfl, sel_false rfl ?_⟩
      rw [up64 i (by omega)]
      exact ⟨⟨i + 1, rfl, by omega, (E62.trans e123).trans e126, own62.ext0 (e123.trans e126)⟩, by simp only [Int.toNat_natCast]; omega⟩
  -- all stands as it was
  refine ⟨fun t w' => ∃ j : Nat, t = j ∧ j ≤ l ∧ Ext [] w48 w', fun t _ => l - t.toNat, ⟨0, rfl, by omega, Ext.refl _ _⟩, ?_⟩
  rintro _ _ w131 ⟨j, rfl, hj, e131⟩
  have c131 := (own48.ext0 e131).cells
  have E131 := EW14.trans (E48.trans e131)
  have rd : ∀ (q : Nat) (z : Int), (ns ++ [7, 77, 777, 7777])[q]? = some z → ∃ ad, A42 = some ad ∧ w131.cell? (Addr.add ad (Int.toNat (q : Int) * 1)) = some (.int .i64 z) := fun q z hz => il_cell c131 hz
  refine sel_dec (fun hlt => ?_) (fun hge => ?_)
  · have hlt : j < l := by omega
    obtain ⟨z, hz⟩ : ∃ z, ns[j]? = some z := ⟨ns[j]'(by omega), List.getElem?_eq_getElem (by omega)⟩
    obtain ⟨ad, hA42, hc⟩ := rd j z (by rw [List.getElem?_append_left (by omega)]; exact hz)
    obtain ⟨ad2, hA2, hc2⟩ := (hns.ext0 E131).cells j hlt
    rw [List.getD_eq_getElem?_getD, hz] at hc2
    rw [hA42, hA2]
    refine when_dec ⟨by omega, by omega⟩ (ptr_in ⟨_, hc, when_dec ⟨by omega, by omega⟩ (ptr_in ⟨_, by rw [Int.toNat_natCast, Nat.mul_one]; exact hc2, sel_false (by simp) ?_⟩)⟩)
    rw [up64 j (by omega)]
    exact ⟨⟨j + 1, rfl, by omega, e131.drew⟩, by simp only [Int.toNat_natCast]; omega⟩
  have app : ∀ q : Nat, (ns ++ [7, 77, 777, 7777])[l + q]? = ([7, 77, 777, 7777] : List Int)[q]? := fun q => by
    rw [List.getElem?_append_right (by omega)]
    congr 1; omega
  have u1 : IntKind.wrap .i64 (((l : Nat) : Int) + 1) = ((l + 1 : Nat) : Int) := by rw [w64 (by omega) (by omega)]; omega
  have u2 : IntKind.wrap .i64 (((l : Nat) : Int) + 2) = ((l + 2 : Nat) : Int) := by rw [w64 (by omega) (by omega)]; omega
  have u3 : IntKind.wrap .i64 (((l : Nat) : Int) + 3) = ((l + 3 : Nat) : Int) := by rw [w64 (by omega) (by omega)]; omega
  rw [u1, u2, u3]
  obtain ⟨ad, hA42, hc0⟩ := rd l 7 (app 0)
  obtain ⟨ad1, hA1, hc1⟩ := rd (l + 1) 77 (app 1)
  obtain ⟨ad2, hA2, hc2'⟩ := rd (l + 2) 777 (app 2)
  obtain ⟨ad3, hA3, hc3⟩ := rd (l + 3) 7777 (app 3)
  rw [hA42] at hA1 hA2 hA3
  cases hA1; cases hA2; cases hA3
  rw [hA42]
  rw [Int.toNat_natCast] at hc0
  refine when_dec ⟨by omega, by omega⟩ (ptr_in ⟨_, hc0, sel_true rfl (when_dec ⟨by omega, by omega⟩ (ptr_in ⟨_, hc1, sel_true rfl (when_dec ⟨by omega, by omega⟩ (ptr_in ⟨_, hc2', sel_true rfl (when_dec ⟨by omega, by omega⟩ (ptr_in ⟨_, hc3, ?_⟩))⟩))⟩))⟩)
  exact k w131 E131
section
theorem bulk_pos {H : Type} (d : DataW H) : 1 ≤ Rows.uptoBulk d := by
  unfold Rows.uptoBulk
  split <;> omega
theorem bulk_all {H : Type} : ∀ (ds : List (DataW H)), ds.length ≤ Rows.uptoBulkAll ds
  | [] => by simp
  | d :: r => by
    unfold Rows.uptoBulkAll
    have := bulk_pos d
    have := bulk_all r
    simp only [List.length_cons]; omega
theorem bulk_len {H : Type} (d : DataW H) : Go.Joins.sliceLen d ≤ Rows.uptoBulk d := by
  cases d with
  | slice el sp =>
    have := bulk_all el
    show el.length ≤ Rows.uptoBulk (.slice el sp)
    unfold Rows.uptoBulk
    omega
  | _ => exact Nat.zero_le _
theorem bulk_mem {H : Type} : ∀ {ds : List (DataW H)} {d : DataW H}, d ∈ ds → Rows.uptoBulk d ≤ Rows.uptoBulkAll ds
  | x :: r, d, h => by
    unfold Rows.uptoBulkAll
    rcases List.mem_cons.1 h with rfl | h
    · omega
    · have := bulk_mem h
      omega
theorem bulk_part {H : Type} {x d : DataW H} {ps : List (DataW H)} (e : x = .agg ps) (h : d ∈ ps) : Rows.uptoBulk d ≤ Rows.uptoBulk x := by
  subst e
  have := bulk_mem h
  show _ ≤ Rows.uptoBulk (.agg ps)
  rw [Rows.uptoBulk]
  omega
theorem bulk_elem {H : Type} {x d : DataW H} {els sp : List (DataW H)} (e : x = .slice els sp) (h : d ∈ els) : Rows.uptoBulk d ≤ Rows.uptoBulk x := by
  subst e
  have := bulk_mem h
  show _ ≤ Rows.uptoBulk (.slice els sp)
  rw [Rows.uptoBulk]
  omega
set_option maxRecDepth 8000 in
theorem open_op1B {H : Type} {enc : TypeId × Value → H} {w : World} {n : Nat} {cs : List Value} {z : DataW H × List MemPlace} (h : DataW.trod enc Tryz.prog w 0 (fun _ => true) true n 29 cs = some z) (hw : ∀ k ∈ z.1.weights Tryz.prog 29, k ≤ reachBytes) (hb : Rows.uptoBulk z.1 ≤ 1048576) :
    ∃ o : Op, cs = OL.enc o ∧ o.In w ∧ o.l ≤ 1048576 := by
  obtain ⟨o, rfl, hin⟩ := open_op1 h hw
  obtain ⟨m, y, ps, ht, he, hy⟩ := trod_part Tryz.underlying29 (by kernel_rfl) (by kernel_rfl) h (i := 7) rfl (v := .slice o.A o.l o.c) rfl
  have hl := Go.Joins.sliceLen_Trod Tryz.underlying23 (d := y.1) (ps := y.2) ⟨m, by simpa [Value.cells] using ht⟩
  have h1 := bulk_len y.1
  have h2 := bulk_part he hy
  exact ⟨o, rfl, hin, by omega⟩
set_option maxRecDepth 8000 in
theorem open_opsB {H : Type} {enc : TypeId × Value → H} {w : World} {base : Nat} {v : Value} {d : DataW H} {p : List MemPlace} (hok : Value.okWide Tryz.prog w .any base 22 v) (h : DataW.Trod enc Tryz.prog w 0 (fun _ => true) true 22 v d p)
    (hw : ∀ n ∈ d.weights Tryz.prog 22, n ≤ reachBytes) (hb : Rows.uptoBulk d ≤ 1048576) : ∃ A n c ops, v = .slice A n c ∧ OpsAt w A n ops ∧ n ≤ 1048576 ∧ ∀ o ∈ ops, o.l ≤ 1048576 := by
  obtain ⟨a, l, c, rfl⟩ := Go.WideShapes.okWide_slice Tryz.underlying22 hok
  have hsl := Go.Joins.sliceLen_Trod Tryz.underlying22 h
  have hbl := bulk_len d
  obtain ⟨fuel, hf⟩ := h
  have hf' : DataW.trod enc Tryz.prog w 0 (fun _ => true) true fuel 22 [.slice a l c] = some (d, p) := hf
  obtain ⟨A, n, c', ops, hv, hc, hlen, hin, hb2⟩ := open_flatM OL (P := Tryz.prog) (t := 22) (e := 29) (Q := fun o => o.In w ∧ o.l ≤ 1048576) (M := fun d => Rows.uptoBulk d ≤ 1048576) Tryz.underlying22 (by kernel_rfl) (by decide) (fun _ _ _ h hw hM => open_op1B h hw hM) hf' hw (fun els sp e d' hd' => Nat.le_trans (bulk_elem e hd') hb)
  have eb : Tryz.prog.bytesOf 29 = 88 := by kernel_rfl
  rw [eb] at hb2
  simp only [Value.slice.injEq] at hv
  obtain ⟨rfl, rfl, rfl⟩ := hv
  exact ⟨a, l, c, ops, rfl, ⟨hc, hlen, fun o ho => (hin o ho).1, hb2⟩, by omega, fun o ho => (hin o ho).2⟩
end
end Go.Proofs.YtjlkdadafddodaaGreatDoor
namespace Go.B
open Go.V
open Go.ChangeShapes Go.WideShapes Go.ChangeAt Go.RowKit Go.Joins Go.Deep
/-- The lift with two arguments and a condition of the row's own. -/
theorem lift2LU {C : Checked} {f : FuncId} {fn : Func} {s : OpenSpec} {k : (H : Type) → List (DataW H) → Bool} (hk : s.cond = some k) {conds : List PathCond} {T U tb : TypeId} {laid : List (String × DataW Unit)}
    (own : ownKnob C.prog.godebug = none) (noInit : C.prog.inits.idxOf? f = none) (hfn : C.prog.funcs[f]? = some fn) (hp : fn.params = #[T, U]) (hr : fn.resultTypes = #[tb]) (hb : C.prog.underlying tb = some .bool)
    (hv : s.vars = []) (hs : ∀ (F : Stop.Interp) (H : Type) (d d' : DataW H), s.fn F H [d, d'] = { results := [.lit (.bool true)], args := [d, d'] }) (lo : laidOutB C.prog = true) (hread : C.prog.readableRec T = true) (hrow : T < C.prog.types.size) (hread2 : C.prog.readableRec U = true) (hrow2 : U < C.prog.types.size)
    (os : Os) (started : os.Started) (H : Type) (enc : TypeId × Value → H) (F : Stop.Interp)
    (walk : ∀ (W : World) (base : Nat) (v v' : Value) (d d' : DataW H) (p p' : List MemPlace), Value.okWide C.prog W .any base T v → DataW.Trod enc C.prog W 0 (fun _ => true) true T v d p → (∀ n ∈ d.weights C.prog T, n ≤ reachBytes) →
      Value.okWide C.prog W .any base U v' → DataW.Trod enc C.prog W 0 (fun _ => true) true U v' d' p' → (∀ n ∈ d'.weights C.prog U, n ≤ reachBytes) → k H [d, d'] = true → laidMetH C.prog laid W →
      Calls C.prog f #[v, v'] W fun e W' => e = .returned (.bool true) ∧ Below W.heap.size W W')
    (witness : ∃ (w : World) (tape : Tape) (i : Input), w.os = os ∧ (w.forCall tape i).Shaped C.prog ∧ i.vars = [] ∧ Input.okWide C.prog (w.forCall tape i) .any w.heap.size f i ∧
      s.preRow enc C.prog fn conds false laid (w.forCall tape i).memory i.args ∧ ({} : Assume).holds C.prog (lone (Frame.enter C.prog f i.args .normal) [] (w.forCall tape i))) :
    ReturnsInHanded {} C os f .any (s.preRow enc C.prog fn conds false laid) ((s.at F).post enc C.prog fn false true false false) := by
  refine returnsInHanded_of_row own started noInit hfn witness ?_
  intro W base args ds gs before hval hW hcnd hkk hsz hL _ _
  have hW' := hW
  obtain ⟨p, q, hA, hV, rfl, hfz, hnd⟩ := hW
  rw [hv] at hV
  obtain ⟨rfl, rfl⟩ := trodVars_none hV
  rw [hp] at hA
  obtain ⟨args⟩ := args
  obtain ⟨v0, v1, d0, d1, p0, p1, rfl, rfl, h0, h1, rfl⟩ := trodAll_two hA
  have hlt : ∀ x ∈ p0 ++ (p1 ++ []), x.block < W.heap.size := fun x hx => by
    have := hW'.lt x (by simpa using hx)
    simpa using this
  have hw0 : ∀ n ∈ d0.weights C.prog T, n ≤ reachBytes := fun n hn => by
    have := List.all_eq_true.1 hsz n (DataW.weights_mem_each (j := 0) (t := T) (d := d0) (by rw [hp]; rfl) rfl n hn)
    simpa using this
  have hw1 : ∀ n ∈ d1.weights C.prog U, n ≤ reachBytes := fun n hn => by
    have := List.all_eq_true.1 hsz n (DataW.weights_mem_each (j := 1) (t := U) (d := d1) (by rw [hp]; rfl) rfl n hn)
    simpa using this
  refine (walk W base v0 v1 d0 d1 p0 p1 (hval 0 T v0 (by rw [hp]; rfl) rfl) h0 hw0 (hval 1 U v1 (by rw [hp]; rfl) rfl) h1 hw1 (hkk k hk) hL).mono fun e W' ⟨he, bel⟩ => ?_
  subst he
  refine ⟨_, rfl, _, _, _, [], p0 ++ (p1 ++ []), [], hW', ?_, ?_, ?_, bel.frame _, fun h => by cases h⟩
  · rw [hr, List.append_nil]
    show DataW.TrodAll _ _ _ _ _ _ _ _ (s.fn F H [d0, d1]).results _
    rw [hs]
    exact trodAll_mk1 (shut_bool hb _)
  · rw [hp, List.append_nil]
    show DataW.TrodAll _ _ _ _ _ _ _ _ (s.fn F H [d0, d1]).args _
    rw [hs]
    exact ⟨p0, p1 ++ [], Below.trod lo hread hrow h0 bel (fun x hx => hlt x (by simp [hx])), ⟨p1, [], Below.trod lo hread2 hrow2 h1 bel (fun x hx => hlt x (by simp [hx])), rfl, rfl⟩, rfl⟩
  · show DataW.TrodVars _ _ _ _ s.vars (s.fn F H [d0, d1]).vars _
    rw [hv, hs]; rfl
/-- A witness where the row lists variables with their content and has a condition of its own. -/
theorem witnessUL {H : Type} {enc : TypeId × Value → H} {C : Checked} {os : Os} {f : FuncId} {fn : Func} {s : OpenSpec} {k : (H : Type) → List (DataW H) → Bool} (hk : s.cond = some k) {conds : List PathCond} {apart : Bool} {laid : List (String × DataW Unit)} (modest : Bool) (w0 : World) (args : Array Value) (fuel : Nat) (hos : w0.os = os)
    (hsh : (w0.forCall (fun _ _ => 0) ⟨#[], args, []⟩).Shaped C.prog)
    (hok : Input.okWideB C.prog (w0.forCall (fun _ _ => 0) ⟨#[], args, []⟩) f ⟨#[], args, []⟩ = true)
    {x : List (DataW H) × List (DataW H) × List MemPlace} (hx : DataW.whole enc C.prog (w0.forCall (fun _ _ => 0) ⟨#[], args, []⟩).memory fn.params.toList s.vars apart args.toList fuel = some x)
    (hconds : conds.all (PathCond.test C.prog ⟨fn.params.toList, x.1, s.bare.plain.varTypes C.prog, x.2.1⟩) = true) (hkk : k H (x.1 ++ x.2.1) = true)
    (hsz : s.bare.sizedB enc C.prog fn apart (w0.forCall (fun _ _ => 0) ⟨#[], args, []⟩).memory args fuel = true) (hl : laidMetH C.prog laid (w0.forCall (fun _ _ => 0) ⟨#[], args, []⟩).memory) :
    ∃ (w : World) (tape : Tape) (i : Input), w.os = os ∧ (w.forCall tape i).Shaped C.prog ∧ i.vars = [] ∧ Input.okWide C.prog (w.forCall tape i) .any w.heap.size f i ∧
      s.preRow enc C.prog fn conds apart laid (w.forCall tape i).memory i.args ∧ ({ modest := modest } : Assume).holds C.prog (lone (Frame.enter C.prog f i.args .normal) [] (w.forCall tape i)) :=
  ⟨w0, fun _ _ => 0, ⟨#[], args, []⟩, hos, hsh, (Input.okWide_of_okWideB (base := 0) hok).1, (Input.okWide_of_okWideB hok).2, ⟨⟨(OpenSpec.pre_some hk conds apart _ _).2 ⟨x.1, x.2.1, x.2.2, DataW.Whole_of_whole hx, hconds, hkk⟩, hl⟩, sizedMet_of_sizedB hsz⟩, by
    simp only [Assume.holds]
    exact ⟨by simp, by simp, fun _ => Modest.zero, by simp, by simp⟩⟩
/-- A list of whole numbers that came in, and how great they may be. -/
theorem open_listR {H : Type} {enc : TypeId × Value → H} {w : World} {fuel : Nat} {v : Value} {y : DataW H × List MemPlace} {P : Program} {t e : TypeId} (ht : P.underlying t = some (.slice e)) (he : P.underlying e = some (.int .i64)) (hc : P.cellsOf e = 1)
    (h : DataW.trod enc P w 0 (fun _ => true) true fuel t [v] = some y) :
    ∃ A l c xs, v = .slice A l c ∧ Ints w .i64 A l xs ∧ ∀ z ∈ xs, -9223372036854775808 ≤ z ∧ z ≤ 9223372036854775807 := by
  rcases open_ints ht he hc h with ⟨hcs, hx⟩ | ⟨a, len, cap, zs, hcs, _, hl, hm, hz, hx, hcell, hwz⟩
  · injection hcs with hv _
    exact ⟨none, 0, 0, [], hv, Ints.nil _ _ _, by simp⟩
  · injection hcs with hv _
    simp only [if_true] at hz
    refine ⟨some a, len, cap, zs.take len, hv, ⟨by simp; omega, fun j hj => ⟨a, rfl, ?_⟩⟩, fun z hz' => ?_⟩
    · rw [hcell j (by omega)]
      simp [List.getD_eq_getElem?_getD, List.getElem?_take, hj]
    · have wa := hwz z (List.mem_of_mem_take hz')
      have wb : IntKind.min .i64 ≤ z ∧ z ≤ IntKind.max .i64 := by simpa [Lit.wf] using wa
      have q1 : IntKind.min .i64 = -9223372036854775808 := by decide
      have q2 : IntKind.max .i64 = 9223372036854775807 := by decide
      rw [q1, q2] at wb
      exact wb
end Go.B
namespace Go.Proofs.YtjlkdadafddodaaGreatDoor
open Go Go.V Go.B
open Go.ChangeShapes Go.WideShapes Go.ChangeAt Go.RowKit
/-! ### the library's tables, and the tied card -/
theorem pow_data : (Rows.laid_internal_strconv_uint64pow10 : DataW Unit) = Go.Lib.tabData .u64 Go.Lib.pow10Tab := by kernel_rfl
theorem laid_pow {W : World} (h : laidMetH Tryz.prog Rows.orderedMemoryUptoRow.laid W) : Pow W := by
  rw [MakeChecks.laidMetH_plain _ _ _ (by kernel_rfl)] at h
  have h1 := Go.Lib.laidMet.reads h (n := "internal/strconv.uint64pow10") (d := Rows.laid_internal_strconv_uint64pow10) (.tail _ (.tail _ (.head _)))
  rw [pow_data] at h1
  obtain ⟨g, hg⟩ := pow_at
  exact tab_of_reads (g := 0) (t := 156) (e := 111) (n := 20) (by kernel_rfl) (by kernel_rfl) (by kernel_rfl) (by kernel_rfl) (by kernel_rfl) (by kernel_rfl) h1
theorem door_met (os : Os) (args : Array Value) : laidMetH Tryz.prog Rows.orderedMemoryUptoRow.laid ((World.doorLaid Tryz.prog 4000 os).forCall (fun _ _ => 0) ⟨#[], args, []⟩).memory :=
  laidMetH_of_parts3 (fuel := 8) (laidMet_of_run' 8 (by kernel_rfl) (by kernel_rfl)) (by kernel_rfl) (by kernel_rfl)
set_option maxRecDepth 100000 in
theorem orderedMemory_lifted (os : Os) (started : os.Started) (H : Type) (enc : TypeId × Value → H) (F : Stop.Interp) :
    ReturnsInHanded {} Tryz.checked os 3 .any ((Rows.OpenSpec.upto Rows.orderedMemorySpec).preRow enc Tryz.prog Tryz.f3 Rows.orderedMemoryUptoRow.domain false Rows.orderedMemoryUptoRow.laid) (((Rows.OpenSpec.upto Rows.orderedMemorySpec).at F).post enc Tryz.prog Tryz.f3 false true false false) :=
  lift2LU (C := Tryz.checked) (T := 22) (U := 23) (tb := 4) (k := Rows.uptoSmall) rfl own (by kernel_rfl) Tryz.func3 (by kernel_rfl) (by kernel_rfl) Tryz.underlying4 rfl (fun _ _ _ _ => rfl) laidOut (by kernel_rfl) (of_decide_eq_true (by kernel_rfl)) (by kernel_rfl) (of_decide_eq_true (by kernel_rfl)) os started H enc F
    (fun W base v v' d d' p p' hok h hw hok' h' hw' hk hL => by
      have hk' : Rows.uptoBulkAll [d, d'] ≤ 1048576 := of_decide_eq_true hk
      simp only [Rows.uptoBulkAll] at hk'
      obtain ⟨A, n, c, ops, rfl, ho, hn, hol⟩ := open_opsB hok h hw (by omega)
      obtain ⟨a2, l2, c2, rfl⟩ := Go.WideShapes.okWide_slice Tryz.underlying23 hok'
      have hsl := Go.Joins.sliceLen_Trod Tryz.underlying23 h'
      have hbl := bulk_len d'
      obtain ⟨fuel, hf⟩ := h'
      have hf' : DataW.trod enc Tryz.prog W 0 (fun _ => true) true fuel 23 [.slice a2 l2 c2] = some (d', p') := hf
      obtain ⟨A2, l, c3, ns, hv, hns, hrg⟩ := open_listR Tryz.underlying23 Tryz.underlying3 (by kernel_rfl) hf'
      simp only [Value.slice.injEq] at hv
      obtain ⟨rfl, rfl, rfl⟩ := hv
      exact orderedMemory_c ho hn hol hns (by omega) hrg (laid_pow hL) fun w' e => ⟨rfl, e.below⟩)
    (witnessUL (enc := enc) (C := Tryz.checked) (os := os) (s := Rows.OpenSpec.upto Rows.orderedMemorySpec) (k := Rows.uptoSmall) rfl false (World.doorLaid Tryz.prog 4000 os) #[.slice none 0 0, .slice none 0 0] 8 rfl (World.shaped_of_RefB (by kernel_rfl) (by kernel_rfl)) (by kernel_rfl) (x := ([.nil, .nil], [], [])) (by kernel_rfl) (by kernel_rfl) (by kernel_rfl) (by kernel_rfl) (door_met os _))
theorem orderedMemory_holds : Rows.OrderedMemoryUptoSaid :=
  OpenClaim.holds_of_cond 3 Tryz.f3 rfl rfl rfl rfl rfl rfl rfl ⟨rfl, rfl, rfl, rfl, rfl⟩ rfl rfl rfl rfl rfl (by kernel_rfl) Tryz.func3 (by kernel_rfl)
    (of_decide_eq_true (by kernel_rfl)) (by unfold Func.isWrapper; first | (rw [if_pos (by decide +kernel)]; kernel_rfl) | (rw [if_neg (by decide +kernel)]; exact ⟨rfl, rfl⟩))
    (fun os started H enc _ F0 => by rw [OpenClaim.pre_eq_preRow]; exact orderedMemory_lifted os started H enc F0)
theorem orderedMemory_card_holds : Rows.OrderedMemoryUptoCardSaid :=
  Claim7.holds_tied_plain_at .later [] [.data, .data, .data] true (true, Rows.orderedMemoryUptoCard.stood.harness.2) false
    orderedMemory_holds (fun _ h => by cases h) (by kernel_rfl) (fun _ h => by cases h) orderedMemoryUpto_row_tie rfl ⟨rfl, rfl⟩ (by kernel_rfl) rfl
    (fun f fn hf hfn => by
      obtain rfl : f = 3 := Option.some.inj ((show Tryz.prog.funcNamed "berth/berthlaw08.OrderedMemory" = some 3 by kernel_rfl).symm.trans hf) |>.symm
      obtain rfl : fn = Tryz.f3 := (Option.some.inj (Tryz.func3.symm.trans hfn)).symm
      exact ⟨by kernel_rfl, fun j t ht => by
        rw [Tryz.params3] at ht
        have hm : t ∈ [22, 23] := by simpa using Array.mem_of_getElem? ht
        have hall : ([22, 23].all fun u => !Tryz.prog.wantsStandIn u) = true := by kernel_rfl
        exact (show Tryz.prog.wantsStandIn t = false by simpa using List.all_eq_true.1 hall t hm)⟩)
    (by kernel_rfl)
end Go.Proofs.YtjlkdadafddodaaGreatDoor
