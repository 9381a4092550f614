/- awake, of the laws of dictionaries: carried out by the kernel. -/
import Derived.Test.YtonllhjmoenckaaDictY
import Derived.Test.YtonllhjmoenckaaVsX
namespace Go.Proofs.Ytonllhjmoenckaa
open Go Go.RowKit
set_option linter.unusedVariables false
set_option linter.unusedSimpArgs false
variable {K : Nat → Obj → Prop}

theorem dput_e {d d' : Di} {k : ByteArray} {r : List UInt8 × Int} (h : d.put k = (r, d')) (ok : d.Ok) : Sp Try.prog K 35 [.ptr 0 0, .sc (.string k)] d.inn fun u hh => u = dpV r ∧ hh = d'.out := by
  have := dput_s (K := K) d k ok.sta ok.len ok.e8 (ok.at8 k)
  rwa [h] at this
theorem dtake_e {d d' : Di} {b : List UInt8} {r : Tk} (h : d.take b = (r, d')) (ok : d.Ok) (hl : b.length ≤ 1000000) : Sp Try.prog K 38 [.ptr 0 0, .sl 1 (bs b)] d.inn fun u hh => u = dtV r ∧ hh = d'.out := by
  have := dtake_s (K := K) d b hl ok.sta ok.len ok.e8
  rwa [h] at this
theorem Di.Ok.pe {d d' : Di} {k : ByteArray} {r : List UInt8 × Int} (ok : d.Ok) (h : d.put k = (r, d')) : d'.Ok := by
  have := ok.put k
  rwa [h] at this
theorem Di.Ok.te {d d' : Di} {b : List UInt8} {r : Tk} (ok : d.Ok) (h : d.take b = (r, d')) : d'.Ok := by
  have := ok.take b
  rwa [h] at this

theorem mclone_g (m : GM) : Sp Try.prog K 88 [.mp 0] [.map m] fun u hh => u = .mp 1 ∧ hh = [.map m, .map m] := by
  intro F φ w args hK hi hd
  obtain ⟨r, rfl, hr⟩ := args1 hd
  obtain ⟨b, z, ents, rfl, hp, hblk, hsz, hent⟩ := map_obj hi hr rfl
  refine (mclone_c b ents _ w hblk).mono ?_
  rintro e w' ⟨rfl, rfl⟩
  obtain ⟨a1, a2⟩ := more_alloc w (.map ents m.c)
  have i1 := hi.reserve
  have hl : φ.length = 1 := by have := hi.len; simpa using this
  have hrn : (φ ++ [Pl.yet])[1]? = some .yet := by rw [List.getElem?_append_right (by omega), hl]; rfl
  have hpp : ∀ b, (Pl.obj w.heap.size 0).blk = some b → w.heap.size ≤ b := fun b hb => by cases hb; exact Nat.le_refl _
  have he := Ext.fill (φ := φ ++ [.yet]) (.obj w.heap.size 0) hrn a1 a2 hpp
  have hat : ((φ ++ [Pl.yet]).set 1 (.obj w.heap.size 0))[1]? = some (.obj w.heap.size 0) := List.getElem?_set_self (get_lt hrn)
  have hinv := i1.fill (.obj w.heap.size 0) (.map m) hrn a1 a2 hpp ⟨ents, _, heap_alloc_new w _, ⟨rfl, hsz⟩, fun j m e hm he' => ⟨(hent j m e hm he').1, ((hent j m e hm he').2.ext (.reserve φ w)).ext he⟩⟩
  exact ⟨_, _, _, _, rfl, (Ext.reserve φ w).trans hi he, hinv, .mp ⟨_, hat, by simp⟩ fun b' hb' => by rw [hat] at hb'; cases hb'; rfl, rfl, rfl⟩

/-- maps.Clone, of maps whose values bear no number of an object. -/
def cloneX : Runner := fun f vs h => if f = 88 then match vs with
  | [.mp o] => match h[o]? with
    | some (.map m) => if refsO (fun _ => false) (.map m) = true then some (.mp h.length, h ++ [.map m]) else none
    | _ => none
  | _ => none else none
theorem cloneX_ok : Right Try.prog K cloneX := fun f vs h v h' hx => by
  unfold cloneX at hx
  split at hx
  · rename_i hf
    subst hf
    split at hx
    · rename_i o
      split at hx
      · rename_i m hm
        split at hx
        · rename_i hr
          cases hx
          have hren : ∀ g, renO g (.map m) = .map m := fun g => by
            obtain ⟨c, es⟩ := m
            simp only [refsO, List.all_eq_true] at hr
            simp only [renO, GM.mapV, Ho.map.injEq, GM.mk.injEq, true_and]
            refine (List.map_congr_left (g := id) fun e he => ?_).trans (List.map_id es)
            simp only [id]
            have := renV_back (g := g) (k := id) (p := fun _ => false) (fun i hi => by cases hi) e.val (hr e he)
            rw [renV_id] at this
            rw [this]
          have hs := Sp.fr (vs := [.mp o]) (h := h) [o] (mclone_g (K := K) m) (by simp) (by simp [pickH, hm, hren]) (by simp [renV, gOf]; exact Wk.refl)
          refine ⟨Try.call88, hs.mono ?_⟩
          rintro u hh ⟨rfl, rfl⟩
          refine ⟨by simp [renV, gOf], ?_⟩
          have ho : o < h.length := get_lt hm
          have hset : h.set o (.map m) = h := by
            apply List.ext_getElem?
            intro i
            rw [List.getElem?_set]
            split
            · rename_i e; subst e; exact hm.symm
            · rfl
          simp only [mergeH, List.map_cons, List.map_nil, hren, List.length_cons, List.length_nil, List.take_succ_cons, List.take_zero, List.drop_succ_cons, List.drop_zero, setAll, hset]
        · cases hx
      · cases hx
    · cases hx
  · cases hx
theorem awake05_s : Sp Try.prog K 32 [] [] fun u hh => u = .sc (.bool true) ∧ hh = [] :=
  Sp.xTrue_ (M := inM [58, 59]) 30 cloneX_ok noGo (by kernel_rfl) []
end Go.Proofs.Ytonllhjmoenckaa
