/- Contracts that were walked by hand, told by values. No program stands here. -/
import Derived.Test.YtonllhjmoenckaaVsO
import Derived.Test.YtonllhjmoenckaaWords
import Derived.OpenShut
namespace Go.Proofs.Ytonllhjmoenckaa
section
open Go Go.RowKit
set_option linter.unusedVariables false
set_option linter.unusedSimpArgs false
variable {F : Fr} {P : Program} {K : Nat → Obj → Prop}

theorem bs_app (l m : List UInt8) : bs l ++ bs m = bs (l ++ m) := by simp [bs]
theorem bs_take (l : List UInt8) (n : Nat) : (bs l).take n = bs (l.take n) := by simp [bs]
theorem bs_drop (l : List UInt8) (n : Nat) : (bs l).drop n = bs (l.drop n) := by simp [bs]
/-- So many bytes 0. -/
def zb (n : Nat) : List UInt8 := List.replicate n 0
theorem zeros_u8 (n : Nat) : zeros n [D.sc (.int .u8 0)] = bs (zb n) := by simp [zeros, bs, zb]
theorem zb_len (n : Nat) : (zb n).length = n := by simp [zb]
theorem bs_nil : bs [] = [] := rfl

theorem cells_int (k : IntKind) (n : Int) : (Value.int k n).cells = #[Value.int k n] := rfl
theorem cells_bool (b : Bool) : (Value.bool b).cells = #[Value.bool b] := rfl
theorem cells_string (s : ByteArray) : (Value.string s).cells = #[Value.string s] := rfl
theorem cells_slice (a : Option Addr) (n c : Nat) : (Value.slice a n c).cells = #[Value.slice a n c] := rfl
theorem cells_agg (xs : Array Value) : (Value.agg xs).cells = xs := rfl
theorem all_lit (l : List Value) (n : Nat) (h : n = l.length) : l.toArray.all flat 0 n = l.all flat := by
  subst h
  exact List.all_toArray ..

theorem io_below {B : Nat} {w w' : World} (h : Below B w w') : Still w w' := ⟨h.os, h.tape, h.output⟩

theorem Sp.ofV {f : FuncId} {vs : List V} {h : List Ho} {r : Value} {v : V} (hv : ∀ (F : Fr) (φ : List Pl) (w : World), Den F φ w r v)
    (hc : ∀ (F : Fr) (φ : List Pl) (w : World) (args : Array Value), DenL F φ w args.toList vs → Calls P f args w (RetV w r)) : Sp P K f vs h fun u hh => u = v ∧ hh = h := by
  intro F φ w args hK hi hd
  refine (hc F φ w args hd).mono ?_
  rintro e w' ⟨rfl, bel⟩
  exact ⟨r, φ, v, h, rfl, .more bel.size (fun b hb => bel.block b hb) (io_below bel), hi.more bel.size (fun b hb => bel.block b hb) (io_below bel), hv F φ w', rfl, rfl⟩

/-- Bytes that a slice's list tells, in the words of the walks by hand. -/
theorem DenD.sb {φ : List Pl} {w : World} {r : Value} {l : List UInt8} (h : DenD F φ w r (.sl 1 (bs l))) : Sb w r l := by
  rcases h.slInv with ⟨a0, rfl, e⟩ | ⟨cap, b, off, c, rfl, hcap, hk, hc, hd⟩
  · have : l = [] := by cases l with
      | nil => rfl
      | cons a l => simp [bs] at e
    subst this
    exact ⟨a0, 0, rfl, Nat.le_refl _, Nat.zero_le _, rfl, fun h => absurd h (Nat.lt_irrefl _)⟩
  · rw [bs_len] at hcap ⊢
    refine ⟨some ⟨b, off, none⟩, cap, rfl, hcap.1, hcap.2, by simp, fun h0 => ⟨_, rfl, ?_, fun j u hu => ?_⟩⟩
    · have := (hc 0 0 (by rw [bs_len]; exact h0) (by omega)).1
      exact this.1
    · obtain ⟨y, hy, rfl⟩ : ∃ y, l[j]? = some y ∧ bv y = u := by simpa using hu
      have hlt := get_lt hy
      have h1 := (hc j 0 (by rw [bs_len]; exact hlt) (by omega)).2
      have h2 := hd j [.sc (.int .u8 y.toNat)] 0 _ (by rw [bs_get, hy]; rfl) rfl
      generalize c j 0 = q at h1 h2
      have h3 : q = .int .u8 y.toNat := by
        cases h2; rfl
      subst h3
      have e : ((⟨b, off, none⟩ : Addr).add j) = ⟨b, off + j, none⟩ := by
        unfold Addr.add; split
        · rename_i e; subst e; rfl
        · rfl
      rw [e]
      simpa [bv, B] using h1

theorem Den.ofOwn {φ : List Pl} {w w' : World} {h : List Ho} (hi : Inv F φ w h) (hs : w.heap.size ≤ w'.heap.size) {e : TypeId} {u : Value} {l : List UInt8} (ho : w'.ownsRow w.heap.size e 1 u l.length (l.map bv)) : DenD F φ w' u (.sl 1 (bs l)) := by
  obtain ⟨h1, h2⟩ := ho
  rcases h2 with ⟨rfl, h0⟩ | ⟨g, cap, cur, rfl, hb, hg, hcap, hmx, hsz, htk⟩
  · have : l = [] := List.eq_nil_of_length_eq_zero h0
    subst this
    exact .nil
  · have hcur : ∀ (j : Nat) (y : UInt8), l[j]? = some y → cur[j]? = some (Value.int .u8 y.toNat) := fun j y hy => by
      have h3 : (cur.toList.take (l.length * 1))[j]? = some (bv y) := by rw [htk, List.getElem?_map, hy]; rfl
      rw [List.getElem?_take] at h3
      split at h3
      · rw [Array.getElem?_toList] at h3; rw [h3]; simp [bv, B]
      · cases h3
    refine .sl (fun i _ => .int .u8 ((l[i]?).getD 0).toNat) (bs_len l) ⟨hcap, hmx⟩ (fun i e he => ?_) (fun i j hlt hj => ?_) (fun i e j x he hx => ?_)
    · rw [bs_get] at he
      obtain ⟨y, _, rfl⟩ := Option.map_eq_some_iff.1 he
      rfl
    · obtain rfl : j = 0 := by omega
      have hy : l[i]? = some l[i] := List.getElem?_eq_getElem hlt
      have h3 := hcur i _ hy
      refine ⟨⟨heap_lt hg, fun i hi' => ?_, fun i e' hi' => ?_, fun hF => ?_⟩, ?_⟩
      · have := hi.lt hi' rfl; omega
      · have := hi.lt hi' rfl; omega
      · have := hi.frB _ _ hF; omega
      · rw [cell_of]
        refine ⟨cur, e, (0, 0), hg, ?_⟩
        simpa [hy] using h3
    · rw [bs_get] at he
      obtain ⟨y, hy, rfl⟩ := Option.map_eq_some_iff.1 he
      cases j with
      | zero => simp at hx; subst hx; simp only [hy, Option.getD_some]; exact .sc rfl
      | succ j => simp at hx

theorem Sp.ofBE {f : FuncId} {vs : List V} {h : List Ho} {l : List UInt8} {n : Int}
    (hc : ∀ (F : Fr) (φ : List Pl) (w : World) (args : Array Value), DenL F φ w args.toList vs → Calls P f args w (RetBE w l n)) : Sp P K f vs h fun u hh => u = .tup [.sl 1 (bs l), .sc (.int .i64 n)] ∧ hh = h := by
  intro F φ w args hK hi hd
  refine (hc F φ w args hd).mono ?_
  rintro e w' ⟨u, rfl, ho, bel⟩
  refine ⟨_, φ, _, h, rfl, .more bel.size (fun b hb => bel.block b hb) (io_below bel), hi.more bel.size (fun b hb => bel.block b hb) (io_below bel), ?_, rfl, rfl⟩
  refine .tup rfl fun i r v hr hv => ?_
  match i, hr, hv with
  | 0, hr, hv => simp at hr hv; subst hr hv; exact .d (Den.ofOwn hi bel.size ho)
  | 1, hr, hv => simp at hr hv; subst hr hv; exact .d (.sc rfl)

/-- What a closed contract says of memory. -/
theorem Ext.below {w w' : World} {φ' : List Pl} (h : Ext [] w φ' w') : Below w.heap.size w w' :=
  ⟨h.io.1, h.io.2.1, h.io.2.2, h.size, fun k hk => h.keep k hk fun i p hp => by simp at hp⟩
theorem Inv.none {w : World} : Inv (⟨fun _ _ => False, fun _ _ => False⟩ : Fr) [] w [] :=
  ⟨rfl, fun i p o hp => by simp at hp, fun i j p q b hp => by simp at hp, fun b o h => h.elim, fun i p b o hp => by simp at hp, fun b x h => h.elim⟩
theorem Sp.run {f : FuncId} {vs : List V} {R : V → List Ho → Prop} (hs : Sp P (fun _ _ => False) f vs [] R) {w : World} {args : Array Value} (hd : DenL ⟨fun _ _ => False, fun _ _ => False⟩ [] w args.toList vs) :
    Calls P f args w fun e w' => ∃ u v h', e = .returned u ∧ Below w.heap.size w w' ∧ (∃ F φ, Den F φ w' u v) ∧ R v h' := by
  refine (hs _ _ w args rfl Inv.none hd).mono ?_
  rintro e w' ⟨u, φ', v, h', rfl, he, hi, hd, hr⟩
  exact ⟨u, v, h', rfl, he.below, ⟨_, _, hd⟩, hr⟩
/-- A slice of bytes that came in, told by its list. -/
theorem den_row {w : World} {a : Option Addr} {len cap : Nat} {zs : List Int}
    (h : (a = none ∧ len = 0 ∧ cap = 0 ∧ zs = []) ∨ ∃ x, a = some x ∧ len ≤ cap ∧ cap ≤ maxLen ∧ zs.length = cap ∧ (∀ i, i < zs.length → w.cell? (x.add i) = some (.int .u8 (zs.getD i 0))) ∧ ∀ n ∈ zs, (Lit.int .u8 n).wf = true) :
    ∃ l : List UInt8, l.length = len ∧ DenD ⟨fun _ _ => False, fun _ _ => False⟩ [] w (.slice a len cap) (.sl 1 (bs l)) := by
  rcases h with ⟨rfl, rfl, rfl, rfl⟩ | ⟨x, rfl, h1, h2, h3, h4, h5⟩
  · exact ⟨[], rfl, .nil⟩
  · by_cases hc : cap = 0
    · subst hc
      obtain rfl : len = 0 := by omega
      exact ⟨[], rfl, .nil⟩
    · have hlen : ((zs.take len).map fun n : Int => UInt8.ofNat n.toNat).length = len := by
        rw [List.length_map, List.length_take]; omega
      have h0 := h4 0 (by omega)
      obtain ⟨b, off, sp⟩ := x
      have hsp : sp = none := by
        cases sp with
        | none => rfl
        | some q =>
          simp only [Addr.add, if_true, World.cell?] at h0
          split at h0
          · simp at h0
          · cases h0
      subst hsp
      have hcell : ∀ i, i < cap → w.cell? ⟨b, off + i, none⟩ = some (.int .u8 (zs.getD i 0)) := fun i hi => by
        have := h4 i (by omega)
        have e : ((⟨b, off, none⟩ : Addr).add i) = ⟨b, off + i, none⟩ := by
          unfold Addr.add; split
          · rename_i e; subst e; rfl
          · rfl
        rw [e] at this; exact this
      have hblk : b < w.heap.size := World.block_lt_of_cell? w _ (hcell 0 (by omega))
      refine ⟨(zs.take len).map fun n => UInt8.ofNat n.toNat, hlen, ?_⟩
      have hget : ∀ i, i < len → ((zs.take len).map fun n : Int => UInt8.ofNat n.toNat)[i]? = some (UInt8.ofNat (zs.getD i 0).toNat) := fun i hi => by
        rw [List.getElem?_map, List.getElem?_take, if_pos hi, List.getElem?_eq_getElem (by omega)]
        simp [List.getD_eq_getElem?_getD, List.getElem?_eq_getElem (show i < zs.length by omega)]
      refine .sl (fun i _ => .int .u8 (zs.getD i 0)) (by rw [bs_len, hlen]) ⟨h1, by unfold maxLen at h2; omega⟩ (fun i e he => ?_) (fun i j hi hj => ?_) (fun i e j y he hy => ?_)
      · rw [bs_get] at he
        obtain ⟨y, _, rfl⟩ := Option.map_eq_some_iff.1 he
        rfl
      · obtain rfl : j = 0 := by omega
        refine ⟨⟨hblk, fun i hi' => by simp at hi', fun i e hi' => by simp at hi', fun hF => hF⟩, ?_⟩
        have := hcell i (by omega)
        simpa using this
      · rw [bs_get] at he
        obtain ⟨y', hy', rfl⟩ := Option.map_eq_some_iff.1 he
        have hlt := get_lt hy'
        rw [hlen] at hlt
        rw [hget i hlt] at hy'
        cases hy'
        cases j with
        | succ j => simp at hy
        | zero =>
          rw [List.getElem?_cons_zero] at hy; cases hy
          have hm : zs.getD i 0 ∈ zs := by
            rw [List.getD_eq_getElem?_getD, List.getElem?_eq_getElem (show i < zs.length by omega)]
            exact List.getElem_mem _
          have hb := bounds_u8 (h5 _ hm)
          generalize zs.getD i 0 = z at *
          have e : (((UInt8.ofNat z.toNat).toNat : Nat) : Int) = z := by
            rw [UInt8.toNat_ofNat']
            omega
          rw [e]
          exact .sc rfl
end

section
open Go Go.RowKit
set_option linter.unusedVariables false
set_option linter.unusedSimpArgs false
variable {F : Fr} {P : Program} {K : Nat → Obj → Prop}

theorem Wk.tup {vs vs' : List V} (h : Wk vs vs') : Wk [.tup vs] [.tup vs'] := fun F φ w rs hd => by
  cases hd with
  | cons h1 h2 =>
    cases h2
    obtain ⟨us, rfl, hs, hg⟩ := h1.tupInv
    have := h F φ w us.toList (.of_get (by simpa using hs) fun i r v hr hv => hg i r v (by simpa using hr) hv)
    exact .cons (.tup (by simpa using this.length) fun i r v hr hv => this.get i r v (by simpa using hr) hv) .nil
theorem Wk.one {v v' : V} (h : Wk [v] [v']) {F : Fr} {φ : List Pl} {w : World} {r : Value} (hd : Den F φ w r v) : Den F φ w r v' := by
  cases h F φ w [r] (.cons hd .nil) with
  | cons h1 _ => exact h1

/-- What a function of data makes is forgotten. -/
theorem Sp.data {f : FuncId} {vs : List V} {R : V → List Ho → Prop} {v' : V} (hs : Sp P K f vs [] R) (h1 : ∀ g, renV g v' = v') (hR : ∀ v h, R v h → Wk [v] [v']) : Sp P K f vs [] fun u hh => u = v' ∧ hh = [] := by
  intro F φ w args hK hi hd
  have e : φ = [] := List.eq_nil_of_length_eq_zero (by have := hi.len; simpa using this)
  subst e
  refine (hs F [] w args hK hi hd).mono ?_
  rintro e w' ⟨u, φ', v, h', rfl, he, hi', hd', hr⟩
  refine ⟨u, [], v', [], rfl, ⟨he.size, Nat.le_refl _, fun i hx => .inl rfl, he.keep, fun i b e hb => by simp at hb, fun i b hb => by simp at hb, fun i b e hb => by simp at hb, he.io⟩, ?_, ?_, rfl, rfl⟩
  · exact ⟨rfl, fun i p o hp => by simp at hp, fun i j p q b hp => by simp at hp, hi'.frB, fun i p b o hp => by simp at hp, fun b x hx => ⟨(hi'.frK b x hx).1, fun i p hp => by simp at hp⟩⟩
  · exact ((hR v h' hr).one hd').down (g := fun _ => φ'.length) (fun b o ⟨a1, a2, a3, a4⟩ => ⟨a1, fun i hi' => by simp at hi', fun i e hi' => by simp at hi', a4⟩) (fun i ⟨p, hp, _⟩ => absurd (get_lt hp) (Nat.lt_irrefl _)) v' (h1 _).symm

/-- It serves wherever. -/
theorem Sp.lift {f : FuncId} {vs : List V} {v : V} (hs : Sp P K f vs [] fun u hh => u = v ∧ hh = []) (h1 : ∀ g, vs.map (renV g) = vs) (h2 : ∀ g, renV g v = v) (h : List Ho) : Sp P K f vs h fun u hh => u = v ∧ hh = h :=
  hs.frame [] (by simp) rfl (fun i j o hi => by simp at hi) (by simp) (fun F φ w rs hd => by rw [h1]; exact hd) fun u hh ⟨e1, e2⟩ => by
    rw [e1, e2, h2]; exact ⟨rfl, by simp [mergeH, setAll]⟩
theorem Sp.pure_ {f : FuncId} {vs : List V} {R : V → List Ho → Prop} {v' : V} (hs : Sp P K f vs [] R) (h1 : ∀ g, vs.map (renV g) = vs) (h2 : ∀ g, renV g v' = v') (hR : ∀ v h, R v h → Wk [v] [v']) (h : List Ho) : Sp P K f vs h fun u hh => u = v' ∧ hh = h :=
  (hs.data h2 hR).lift h1 h2 h

theorem Sp.ofB {f : FuncId} {vs : List V} {h : List Ho} {l : List UInt8}
    (hc : ∀ (F : Fr) (φ : List Pl) (w : World) (args : Array Value), DenL F φ w args.toList vs → Calls P f args w (RetB w l)) : Sp P K f vs h fun u hh => u = .sl 1 (bs l) ∧ hh = h := by
  intro F φ w args hK hi hd
  refine (hc F φ w args hd).mono ?_
  rintro e w' ⟨u, rfl, ho, bel⟩
  exact ⟨_, φ, _, h, rfl, .more bel.size (fun b hb => bel.block b hb) (io_below bel), hi.more bel.size (fun b hb => bel.block b hb) (io_below bel), .d (Den.ofOwn hi bel.size ho), rfl, rfl⟩
end
end Go.Proofs.Ytonllhjmoenckaa
