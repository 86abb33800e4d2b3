/- Contracts of functions of the program, and what they lean on. Conditions: those of each theorem. -/
import Derived.Test.YthkdpdpgmhmgoaaGreatPE
import Derived.Sort.Grow
import Derived.Shelf.Small.Bits
import Derived.Shelf.Small.Wraps
import Derived.Shelf.Strconv.Itoa0
import Derived.Shelf.Sort.Plain
import Derived.Ground.Names2Prog
import Derived.Shelf.Slices.Clone
import Derived.Shelf.Slices.CompactI
import Derived.Shelf.Slices.SearchI
import Derived.Shelf.Slices.Delete
import Derived.Shelf.Slices.Cells
import Derived.Shelf.Slices.In.SortNone
import Derived.Shelf.Slices.Empties
import Derived.Ground.SlgnProg
import Derived.Shelf.SlicesE.Clone
import Derived.Shelf.SlSortCmp.NoneTotal
import Derived.Ground.SlsfProg
import Derived.Test.YthkdpdpgmhmgoaaGreatProg
import Derived.Test.YthkdpdpgmhmgoaaGreatPC
import Derived.Test.YthkdpdpgmhmgoaaGreatPD
import Derived.Test.YthkdpdpgmhmgoaaGreatRows

set_option linter.unusedVariables false
set_option linter.unusedSimpArgs false

section
namespace Go.Vm
open Go.Sort (Holds putRow grow putCells mapBlock)
def b3P (l : List Int) : List (List IV) := l.map fun i => [.v (.int .i64 i)]
def b4P (l : List Int) : List Int := l.mergeSort fun x y => decide (x ≤ y)
theorem b5P {l : List Int} {i j : Nat} {c : IV} (h : at2 (b3P l) i j = some c) : j = 0 ∧ ∃ n, l[i]? = some n ∧ c = .v (.int .i64 n) := by
 unfold at2 b3P at h
 rw [List.getElem?_map] at h
 cases hl : l[i]? with
 | none => rw [hl] at h; simp at h
 | some n =>
   rw [hl] at h
   simp only [Option.map_some, Option.bind_some] at h
   cases j with
   | zero => simp at h; exact ⟨rfl, n, rfl, h.symm⟩
   | succ j => simp at h
theorem b6P {l : List Int} {i : Nat} {n : Int} (h : l[i]? = some n) : at2 (b3P l) i 0 = some (.v (.int .i64 n)) := by
 unfold at2 b3P; rw [List.getElem?_map, h]; rfl
theorem b7P {A : Nat → Prop} {w : World} {n : Int} {v : Value} (h : RIV A w (.v (.int .i64 n)) v) : v = .int .i64 n := by cases h; rfl
theorem b8P {P : Program} {f : FuncId} (F : List Int → List Int) (hF : ∀ l, (F l).length = l.length) (hF0 : F [] = [])
   (hs : ∀ (blk off cap : Nat) (zs : List Int) (w : World), Holds (Value.int .i64) w blk off zs.toArray → blk < w.heap.size → zs.length < 4611686018427387904 →
     Calls P f #[.slice (some ⟨blk, off, none⟩) zs.length cap] w fun e w' => e = .returned (.tuple #[]) ∧ ∃ n os, w' = grow (putRow (Value.int .i64) (Go.Sort.ahead w n) blk off (F zs).toArray) os)
   (hn : ∀ (p : Option Addr) (cap : Nat) (w : World), Calls P f #[.slice p 0 cap] w fun e w' => e = .returned (.tuple #[]) ∧ w' = w)
   (xs : List Int) (hl : xs.length < 2 ^ 62) : b1v P false f [.sl 1000 1 0 xs.length] [(1000, .list 1 (b3P xs))] (.tup []) [(1000, .list 1 (b3P (F xs)))] := by
 have hlen : (F xs).length = xs.length := hF xs
 have look1 : ∀ {o : Ob} {id : Nat} {q : Ob}, look [(1000, o)] id = some q → id = 1000 ∧ q = o := by
   intro o id q h
   simp only [look] at h
   split at h
   · exact ⟨by omega, by cases h; rfl⟩
   · cases h
 refine ⟨⟨fun id o h => by obtain ⟨_, rfl⟩ := look1 h; rfl, fun id o h => by obtain ⟨_, rfl⟩ := look1 h; rfl⟩, ?_⟩
 intro A ψ w vs hA hob hinj hsubs hheld hvl hrav
 have ho := hob 1000 (.list 1 (b3P xs)) rfl
 have hr := hrav 0 _ rfl
 obtain ⟨v, rfl⟩ : ∃ v, vs = [v] := by
   match vs, hvl with
   | [v], _ => exact ⟨v, rfl⟩
 simp only [List.getD_eq_getElem?_getD, List.getElem?_cons_zero, Option.getD_some] at hr
 have key : ∀ (w' : World), w.heap.size ≤ w'.heap.size → Same w w' → (∀ b, b < w.heap.size → ¬Held ψ [(1000, .list 1 (b3P xs))] b → w'.heap[b]? = w.heap[b]?) →
     ROb (fun b => ((false = false ∧ A b) ∨ w.heap.size ≤ b) ∧ ¬Held ψ [(1000, .list 1 (b3P (F xs)))] b) ψ [(1000, .list 1 (b3P (F xs)))] w' 1000 (.list 1 (b3P (F xs))) →
     ∃ v ψ', (Ending.returned (.tuple #[]) : Ending) = .returned v ∧
     (∀ b, b < w.heap.size → ¬Held ψ [(1000, .list 1 (b3P xs))] b → w'.heap[b]? = w.heap[b]?) ∧ w.heap.size ≤ w'.heap.size ∧ Same w w' ∧
     (∀ id o, look [(1000, Ob.list 1 (b3P xs))] id = some o → ψ'.main id = ψ id) ∧
     (∀ id o b, look [(1000, Ob.list 1 (b3P (F xs)))] id = some o → Owns ψ' id b → (∃ o0, look [(1000, Ob.list 1 (b3P xs))] id = some o0 ∧ Owns ψ id b) ∨ w.heap.size ≤ b) ∧
     (∀ id id' o o' b, look [(1000, Ob.list 1 (b3P (F xs)))] id = some o → look [(1000, Ob.list 1 (b3P (F xs)))] id' = some o' → Owns ψ' id b → Owns ψ' id' b → id = id') ∧ Subs ψ' [(1000, .list 1 (b3P (F xs)))] w' ∧
     (∀ id o, look [(1000, Ob.list 1 (b3P (F xs)))] id = some o → ROb (fun b => ((false = false ∧ A b) ∨ w.heap.size ≤ b) ∧ ¬Held ψ' [(1000, .list 1 (b3P (F xs)))] b) ψ' [(1000, .list 1 (b3P (F xs)))] w' id o) ∧
     RAV (fun b => ((false = false ∧ A b) ∨ w.heap.size ≤ b) ∧ ¬Held ψ' [(1000, .list 1 (b3P (F xs)))] b) ψ' [(1000, .list 1 (b3P (F xs)))] w' (.tup []) v := by
   intro w' h1 h2 h3 h4
   refine ⟨.tuple #[], ψ, rfl, h3, h1, h2, fun _ _ _ => rfl, fun id o b h hb => .inl ?_, fun id id' o o' b h h' _ _ => ?_, fun id o b h hb => ?_, fun id o h => ?_, .tup [] #[] rfl (fun i c h => by simp at h)⟩
   · obtain ⟨rfl, rfl⟩ := look1 h; exact ⟨.list 1 (b3P xs), rfl, hb⟩
   · obtain ⟨rfl, _⟩ := look1 h; obtain ⟨rfl, _⟩ := look1 h'; rfl
   · obtain ⟨rfl, rfl⟩ := look1 h
     have := (hsubs 1000 (.list 1 (b3P xs)) b rfl hb).1
     cases this
   · obtain ⟨rfl, rfl⟩ := look1 h; exact h4
 obtain ⟨hw1, ho⟩ := ho
 by_cases hx : xs = []
 · subst hx
   have hv : ∃ p cap, v = .slice p 0 cap := by
     cases hr with
     | sl0 => exact ⟨_, _, rfl⟩
     | sl => exact ⟨_, _, rfl⟩
   obtain ⟨p, cap, rfl⟩ := hv
   refine (hn p cap w).mono ?_
   rintro e w' ⟨rfl, rfl⟩
   refine key w' (Nat.le_refl _) ⟨rfl, rfl, rfl, Nat.le_refl _⟩ (fun _ _ _ => rfl) ?_
   have hso : F [] = [] := hF0
   rw [hso]
   refine ⟨hw1, ?_⟩
   rcases ho with ⟨g1, g2⟩ | ⟨b, k, c, e, g1, g2, g3, g4, g5⟩
   · exact .inl ⟨g1, g2⟩
   · exact .inr ⟨b, k, c, e, g1, g2, g3, g4, fun i j x h => by simp [at2, b3P] at h⟩
 · have hpos := List.length_pos_iff.2 hx
   rcases ho with ⟨_, g2⟩ | ⟨b, k, c, e, g1, g2, g3, g4, g5⟩
   · exact absurd (by simpa [b3P] using g2) hx
   · obtain ⟨cap, rfl⟩ : ∃ cap, v = .slice (some ⟨b, k.1, none⟩) xs.length cap := by
       generalize hlx : xs.length = n at hr hpos
       cases hr with
       | sl0 => omega
       | sl id sz lo len b' k' cap a o n' ho' he hxx hb ha hlc hk hm =>
         rw [g1] at hb; cases hb
         have := ha (by omega)
         rw [Nat.zero_mul, Nat.add_zero] at this
         subst this
         exact ⟨cap, rfl⟩
     have hbl : b < w.heap.size := c6T g2
     have hB : Held ψ [(1000, .list 1 (b3P xs))] b := ⟨1000, .list 1 (b3P xs), rfl, .inl ⟨k, g1⟩⟩
     have hcell : ∀ i n, xs[i]? = some n → c[k.1 + i]? = some (.int .i64 n) := by
       intro i n hi
       have h5 := b7P (g5 i 0 _ (b6P hi))
       have hil := (List.getElem?_eq_some_iff.1 hi).1
       have hcs : k.1 + i < c.size := by simp only [b3P, List.length_map] at g4; omega
       rw [Nat.mul_one, Nat.add_zero] at h5
       rw [Array.getD_eq_getD_getElem?, Array.getElem?_eq_getElem hcs] at h5
       rw [Array.getElem?_eq_getElem hcs]
       exact congrArg some h5
     have hH : Holds (Value.int .i64) w b k.1 xs.toArray := by
       intro j hj
       simp only [List.size_toArray] at hj
       have hj2 := List.getElem?_eq_getElem hj
       constructor
       · simp only [World.cell?, g2]
         rw [hcell j _ hj2]
         simp [hj]
       · simp only [World.frozen?, g2]
         simp
     refine (hs b k.1 cap xs w hH hbl (by omega)).mono ?_
     rintro ex w' ⟨rfl, n, os, rfl⟩
     have hsz : (putRow (Value.int .i64) (Go.Sort.ahead w n) b k.1 (F xs).toArray).heap.size = w.heap.size := by simp [putRow, mapBlock, Go.Sort.ahead]
     have hother : ∀ i, i ≠ b → i < w.heap.size → (grow (putRow (Value.int .i64) (Go.Sort.ahead w n) b k.1 (F xs).toArray) os).heap[i]? = w.heap[i]? := by
       intro i hi hlt
       rw [Go.Sort.heap_grow_old _ _ (by rw [hsz]; exact hlt)]
       simp only [putRow, mapBlock, Go.Sort.ahead, Array.getElem?_modify]
       rw [if_neg (Ne.symm hi)]
     have hmine : (grow (putRow (Value.int .i64) (Go.Sort.ahead w n) b k.1 (F xs).toArray) os).heap[b]? = some (.cells (putCells (Value.int .i64) k.1 (F xs).toArray c) e (0, 0)) := by
       rw [Go.Sort.heap_grow_old _ _ (by rw [hsz]; exact hbl)]
       simp only [putRow, mapBlock, Go.Sort.ahead, Array.getElem?_modify, if_true]
       rw [g2]; rfl
     refine key _ (by rw [Go.Sort.size_grow, hsz]; omega) ⟨rfl, rfl, rfl, Nat.le_add_right _ _⟩ (fun i hi hh => hother i (fun e => hh (e ▸ hB)) hi) ?_
     refine ⟨fun x hxm => ?_, .inr ⟨b, k, _, e, g1, hmine, ?_, ?_, fun i j x h => ?_⟩⟩
     · simp only [b3P, List.mem_map] at hxm
       obtain ⟨_, _, rfl⟩ := hxm; rfl
     · simp only [putCells, Array.size_mapIdx]; exact g3
     · simp only [b3P, List.length_map] at g4 ⊢; omega
     · obtain ⟨rfl, m, hm, rfl⟩ := b5P h
       have hil := (List.getElem?_eq_some_iff.1 hm).1
       rw [hlen] at hil
       simp only [b3P, List.length_map] at g4
       have hlt : k.1 + (i * 1 + 0) < (putCells (Value.int .i64) k.1 (F xs).toArray c).size := by simp only [putCells, Array.size_mapIdx]; omega
       have : (putCells (Value.int .i64) k.1 (F xs).toArray c).getD (k.1 + (i * 1 + 0)) undef = .int .i64 m := by
         rw [Array.getD_eq_getD_getElem?, Array.getElem?_eq_getElem hlt, Option.getD_some]
         simp only [putCells, Array.getElem_mapIdx, List.size_toArray, hlen]
         rw [if_pos (by omega)]
         have e1 : k.1 + (i * 1 + 0) - k.1 = i := by omega
         rw [e1]
         have := hm
         simp [List.getElem!_eq_getElem?_getD, this]
       rw [this]
       exact .v _ rfl
end Go.Vm
end

section
namespace Go.Proofs
open Go.Shelf
def Tryz.lays189_ren : Go.Shelf.Ren := ⟨fun | 189 => 105 | 125 => 115 | 257 => 147 | 128 => 162 | 129 => 163 | 294 => 181 | 295 => 182 | 296 => 183 | 297 => 184 | 298 => 185 | 299 => 186 | 216 => 187 | 300 => 188 | 301 => 189 | 328 => 208 | 329 => 195 | 330 => 196 | 331 => 209 | 332 => 210 | 215 => 211 | 343 => 218 | n => n, fun | 28 => 49 | 3 => 3 | 46 => 135 | 0 => 0 | 51 => 177 | 53 => 179 | 4 => 4 | 183 => 170 | 182 => 169 | 131 => 174 | 5 => 5 | 9 => 9 | 218 => 209 | 222 => 213 | 228 => 226 | 229 => 227 | n => n, fun | n => n⟩
theorem Tryz.lays189 : Go.Proofs.Lays.n189 Tryz.prog Tryz.lays189_ren := {
 mixed := by kernel_rfl
 f125 := Tryz.func115.trans (congrArg some (by kernel_rfl))
 f128 := Tryz.func162.trans (congrArg some (by kernel_rfl))
 f129 := Tryz.func163.trans (congrArg some (by kernel_rfl))
 f189 := Tryz.func105.trans (congrArg some (by kernel_rfl))
 f215 := Tryz.func211.trans (congrArg some (by kernel_rfl))
 f216 := Tryz.func187.trans (congrArg some (by kernel_rfl))
 f257 := Tryz.func147.trans (congrArg some (by kernel_rfl))
 f294 := Tryz.func181.trans (congrArg some (by kernel_rfl))
 f295 := Tryz.func182.trans (congrArg some (by kernel_rfl))
 f296 := Tryz.func183.trans (congrArg some (by kernel_rfl))
 f297 := Tryz.func184.trans (congrArg some (by kernel_rfl))
 f298 := Tryz.func185.trans (congrArg some (by kernel_rfl))
 f299 := Tryz.func186.trans (congrArg some (by kernel_rfl))
 f300 := Tryz.func188.trans (congrArg some (by kernel_rfl))
 f301 := Tryz.func189.trans (congrArg some (by kernel_rfl))
 f328 := Tryz.func208.trans (congrArg some (by kernel_rfl))
 f329 := Tryz.func195.trans (congrArg some (by kernel_rfl))
 f330 := Tryz.func196.trans (congrArg some (by kernel_rfl))
 f331 := Tryz.func209.trans (congrArg some (by kernel_rfl))
 f332 := Tryz.func210.trans (congrArg some (by kernel_rfl))
 f343 := Tryz.func218.trans (congrArg some (by kernel_rfl))
 t0 := Tryz.underlying0
 a0 := Tryz.isAgg0
 z0 := Tryz.sizeOf0
 v0 := Tryz.zeroValue0
 t3 := Tryz.underlying3
 a3 := Tryz.isAgg3
 z3 := Tryz.sizeOf3
 v3 := Tryz.zeroValue3
 t4 := Tryz.underlying4
 a4 := Tryz.isAgg4
 z4 := Tryz.sizeOf4
 v4 := Tryz.zeroValue4
 t5 := Tryz.underlying5
 a5 := Tryz.isAgg5
 z5 := Tryz.sizeOf5
 v5 := Tryz.zeroValue5
 t9 := Tryz.underlying9
 a9 := Tryz.isAgg9
 z9 := Tryz.sizeOf9
 v9 := Tryz.zeroValue9
 t28 := Tryz.underlying49
 a28 := Tryz.isAgg49
 z28 := Tryz.sizeOf49
 v28 := Tryz.zeroValue49
 t46 := Tryz.underlying135
 a46 := Tryz.isAgg135
 z46 := Tryz.sizeOf135
 v46 := Tryz.zeroValue135
 t51 := Tryz.underlying177
 a51 := Tryz.isAgg177
 z51 := Tryz.sizeOf177
 v51 := Tryz.zeroValue177
 t53 := Tryz.underlying179
 a53 := Tryz.isAgg179
 z53 := Tryz.sizeOf179
 v53 := Tryz.zeroValue179
 t131 := Tryz.underlying174
 a131 := Tryz.isAgg174
 z131 := Tryz.sizeOf174
 v131 := Tryz.zeroValue174
 t182 := Tryz.underlying169
 a182 := Tryz.isAgg169
 z182 := Tryz.sizeOf169
 v182 := Tryz.zeroValue169
 t183 := Tryz.underlying170
 a183 := Tryz.isAgg170
 z183 := Tryz.sizeOf170
 v183 := Tryz.zeroValue170
 t218 := Tryz.underlying209
 a218 := Tryz.isAgg209
 z218 := Tryz.sizeOf209
 v218 := Tryz.zeroValue209
 t222 := Tryz.underlying213
 a222 := Tryz.isAgg213
 z222 := Tryz.sizeOf213
 v222 := Tryz.zeroValue213
 t228 := Tryz.underlying226
 a228 := Tryz.isAgg226
 z228 := Tryz.sizeOf226
 v228 := Tryz.zeroValue226
 t229 := Tryz.underlying227
 a229 := Tryz.isAgg227
 z229 := Tryz.sizeOf227
 v229 := Tryz.zeroValue227 }
open Go.Sort Go.RowKit in
theorem Tryz.slices_Sort_int (blk off cap : Nat) (zs : List Int) (w : World) (hH : Holds (Value.int .i64) w blk off zs.toArray) (hblk : blk < w.heap.size) (hsz : zs.length < 4611686018427387904) :
   Calls Tryz.prog 105 #[.slice (some ⟨blk, off, none⟩) zs.length cap] w fun e w' =>
     e = .returned (.tuple #[]) ∧ ∃ n os, w' = grow (putRow (Value.int .i64) (Sort.ahead w n) blk off (zs.mergeSort fun x y => decide (x ≤ y)).toArray) os := Any.slices_Sort_int Tryz.lays189 blk off cap zs w hH hblk hsz
def Tryz.sortF_ren : Go.Shelf.Ren := ⟨fun | 6 => 69 | 15 => 115 | 14 => 114 | 28 => 162 | 29 => 163 | 20 => 154 | 21 => 155 | 22 => 156 | 23 => 157 | 24 => 158 | 25 => 159 | 26 => 160 | 27 => 161 | 46 => 194 | 47 => 195 | 48 => 196 | 49 => 197 | 50 => 198 | 57 => 213 | n => n, fun | 22 => 30 | 24 => 37 | 25 => 86 | 3 => 3 | 39 => 135 | 0 => 0 | 53 => 177 | 55 => 179 | 4 => 4 | 46 => 170 | 45 => 169 | 50 => 174 | 5 => 5 | 9 => 9 | 66 => 209 | 70 => 213 | 76 => 226 | 77 => 227 | n => n, fun | n => n⟩
theorem Tryz.sortF : Go.Proofs.SlLaysF0.n6 Tryz.prog Tryz.sortF_ren := {
 mixed := by kernel_rfl
 f6 := ⟨Tryz.f69.name, by decide, Tryz.func69.trans (congrArg some (by kernel_rfl))⟩
 f14 := ⟨Tryz.f114.name, by decide, Tryz.func114.trans (congrArg some (by kernel_rfl))⟩
 f15 := Tryz.func115.trans (congrArg some (by kernel_rfl))
 f20 := ⟨Tryz.f154.name, by decide, Tryz.func154.trans (congrArg some (by kernel_rfl))⟩
 f21 := ⟨Tryz.f155.name, by decide, Tryz.func155.trans (congrArg some (by kernel_rfl))⟩
 f22 := ⟨Tryz.f156.name, by decide, Tryz.func156.trans (congrArg some (by kernel_rfl))⟩
 f23 := ⟨Tryz.f157.name, by decide, Tryz.func157.trans (congrArg some (by kernel_rfl))⟩
 f24 := ⟨Tryz.f158.name, by decide, Tryz.func158.trans (congrArg some (by kernel_rfl))⟩
 f25 := ⟨Tryz.f159.name, by decide, Tryz.func159.trans (congrArg some (by kernel_rfl))⟩
 f26 := ⟨Tryz.f160.name, by decide, Tryz.func160.trans (congrArg some (by kernel_rfl))⟩
 f27 := ⟨Tryz.f161.name, by decide, Tryz.func161.trans (congrArg some (by kernel_rfl))⟩
 f28 := Tryz.func162.trans (congrArg some (by kernel_rfl))
 f29 := Tryz.func163.trans (congrArg some (by kernel_rfl))
 f46 := ⟨Tryz.f194.name, by decide, Tryz.func194.trans (congrArg some (by kernel_rfl))⟩
 f47 := Tryz.func195.trans (congrArg some (by kernel_rfl))
 f48 := Tryz.func196.trans (congrArg some (by kernel_rfl))
 f49 := ⟨Tryz.f197.name, by decide, Tryz.func197.trans (congrArg some (by kernel_rfl))⟩
 f50 := ⟨Tryz.f198.name, by decide, Tryz.func198.trans (congrArg some (by kernel_rfl))⟩
 f57 := ⟨Tryz.f213.name, by decide, Tryz.func213.trans (congrArg some (by kernel_rfl))⟩
 t0 := Tryz.underlying0
 a0 := Tryz.isAgg0
 z0 := Tryz.sizeOf0
 v0 := Tryz.zeroValue0
 t3 := Tryz.underlying3
 a3 := Tryz.isAgg3
 z3 := Tryz.sizeOf3
 v3 := Tryz.zeroValue3
 t4 := Tryz.underlying4
 a4 := Tryz.isAgg4
 z4 := Tryz.sizeOf4
 v4 := Tryz.zeroValue4
 t5 := Tryz.underlying5
 a5 := Tryz.isAgg5
 z5 := Tryz.sizeOf5
 v5 := Tryz.zeroValue5
 t9 := Tryz.underlying9
 a9 := Tryz.isAgg9
 z9 := Tryz.sizeOf9
 v9 := Tryz.zeroValue9
 t22 := Tryz.underlying30
 a22 := Tryz.isAgg30
 z22 := Tryz.sizeOf30
 v22 := Tryz.zeroValue30
 t25 := Tryz.underlying86
 a25 := Tryz.isAgg86
 z25 := Tryz.sizeOf86
 v25 := Tryz.zeroValue86
 t39 := Tryz.underlying135
 a39 := Tryz.isAgg135
 z39 := Tryz.sizeOf135
 v39 := Tryz.zeroValue135
 t45 := Tryz.underlying169
 a45 := Tryz.isAgg169
 z45 := Tryz.sizeOf169
 v45 := Tryz.zeroValue169
 t46 := Tryz.underlying170
 a46 := Tryz.isAgg170
 z46 := Tryz.sizeOf170
 v46 := Tryz.zeroValue170
 t50 := Tryz.underlying174
 a50 := Tryz.isAgg174
 z50 := Tryz.sizeOf174
 v50 := Tryz.zeroValue174
 t53 := Tryz.underlying177
 a53 := Tryz.isAgg177
 z53 := Tryz.sizeOf177
 v53 := Tryz.zeroValue177
 t55 := Tryz.underlying179
 a55 := Tryz.isAgg179
 z55 := Tryz.sizeOf179
 v55 := Tryz.zeroValue179
 t66 := Tryz.underlying209
 a66 := Tryz.isAgg209
 z66 := Tryz.sizeOf209
 v66 := Tryz.zeroValue209
 t70 := Tryz.underlying213
 a70 := Tryz.isAgg213
 z70 := Tryz.sizeOf213
 v70 := Tryz.zeroValue213
 t76 := Tryz.underlying226
 a76 := Tryz.isAgg226
 z76 := Tryz.sizeOf226
 v76 := Tryz.zeroValue226
 t77 := Tryz.underlying227
 a77 := Tryz.isAgg227
 z77 := Tryz.sizeOf227
 v77 := Tryz.zeroValue227 }
open Go.Sort Go.RowKit Go.Lib in
theorem Tryz.slices_SortFunc_none (p : Option Addr) (cap : Nat) (fv : Value) (w : World) :
   Calls Tryz.prog 69 #[.slice p 0 cap, fv] w fun e w' => e = .returned (.tuple #[]) ∧ w' = w := AnyF.slices_SortFunc_none Tryz.sortF p cap fv w
end Go.Proofs
end

section
namespace Go.Rt
open Go.Vm
theorem b2V (l : List Int) : (b4P l).length = l.length := List.length_mergeSort _
theorem b3V (xs : List Int) (hl : xs.length < 2 ^ 62) : b1v prog false n_a3r [.sl 1000 1 0 xs.length] [(1000, .list 1 (c1Z xs))] (.tup []) [(1000, .list 1 (c1Z (b4P xs)))] :=
 b8P b4P b2V (by simp [b4P]) (fun blk off cap zs w hH hb hs => Go.Proofs.Tryz.slices_Sort_int blk off cap zs w hH hb hs) (fun p cap w => Go.Proofs.Any.slices_Sort_int_none Go.Proofs.Tryz.lays189 p cap w) xs hl
theorem b4V (xs : List Int) (hl : xs.length < 2 ^ 62) : b1v prog false n_a3r [.sl 900 1 0 xs.length] [(900, .list 1 (c1Z xs))] (.tup []) [(900, .list 1 (c1Z (b4P xs)))] :=
 (b3V xs hl).ren (Ren.swaps [(1000, 900)]) rfl
def chT (es : List Ev) (o : Ins) (k : Nat) : List Vs := ⟨0, 0⟩ :: (o.txns.take k).map fun txn => ⟨txn, c7n es txn o.table o.key⟩
theorem b5V (es : List Ev) (o : Ins) : chT es o 0 = [⟨0, 0⟩] := rfl
theorem b6V {es : List Ev} {o : Ins} {k : Nat} {txn : Int} (h : o.txns[k]? = some txn) : chT es o (k + 1) = chT es o k ++ [⟨txn, c7n es txn o.table o.key⟩] := by
 unfold chT
 rw [show o.txns.take (k + 1) = o.txns.take k ++ [txn] by rw [List.take_add_one, h]; rfl]
 simp
theorem b7V (es : List Ev) (o : Ins) : chT es o o.txns.length = chnI es o := by unfold chT chnI; rw [List.take_length]
theorem b8V {es : List Ev} {o : Ins} {k : Nat} (h : k ≤ o.txns.length) : (chT es o k).length = k + 1 := by simp [chT]; omega
def b9V (es : List Ev) : Prop := ∀ e, e ∈ es → e.kind = 3 → e.row.length < 2 ^ 40
def bkIV (es : List Ev) (os : List Ins) : IV := .pt [.mp skL (gLv es), .lst 1 (c1Z (b4P (c0p es))), .mp skR (gRw es), .mp skR (gLs es), .mp skC (gCh es os)]
theorem b0W {h : Hs} (hok : h.Ok) (hev : h.events.length < 2 ^ 40) (hw : ¬b8s h) : b1v prog false n_a8a [h.av] [] (.iv (.v (.pointer none))) [] := by
 refine d6h a8a_is (by simp) (by decide) ?_
 have hck := b1P (h := h) (fun hc => hw ((c4i h).1 hc))
 simp -dsimp [a8a, Hs.av]
 refine a0G (b2P hok hev) (by simp [Hs.av]) (by simp [Hs.av]) ?_
 simp -dsimp [hck]
 exact ⟨[1], by simp [EndV, AV.ivc]⟩
set_option maxHeartbeats 40000000 in
theorem b1W {h : Hs} (hok : h.Ok) (hev : h.events.length < 2 ^ 40) (hw : b8s h) (hrow : b9V h.events) (htx : ∀ o, o ∈ h.order → o.txns.length < 2 ^ 40) : b1v prog false n_a8a [h.av] [] (.iv (bkIV h.events h.order)) [] := by
 refine d6h a8a_is (by simp) (by decide) ?_
 have hck := b0P ((c4i h).2 hw)
 simp -dsimp [a8a, Hs.av]
 refine a0G (b2P hok hev) (by simp [Hs.av]) (by simp [Hs.av]) ?_
 simp -dsimp [hck]
 refine b5h [5, 6, 55] h.events.length (fun i => ⟨[(25, vi i), (24, vi h.events.length), (23, .iv (.lst 22 (evsC h.events))), (3, .ptr 21 0), (1, .ptr 1 0)],
   [(900, .list 1 (c1Z (c0p (h.events.take i)))), (21, .box [.mpr 16, .sl 900 1 0 (c0p (h.events.take i)).length, .mpr 17, .mpr 18, .mpr 19]), (16, .map skL (gLv (h.events.take i))), (17, .map skR (gRw (h.events.take i))), (18, .map skR (gLs (h.events.take i))), (19, .map skC (fun _ => none)),
    (1, .box [.iv (.lst 1 (tbsC h.tables)), .iv (.lst 22 (evsC h.events)), .iv (.lst 5 (insC h.order))])]⟩) (fun _ => True) ?_ trivial ?_
 · refine (b4h (j := 21) (i := 1) (id := 900) (sz := 1) rfl rfl rfl (by decide)).trans (LeTo.le (D := []) ?_)
   simp -dsimp [St.add, c8n, c9n, c0o, c1p, c1Z]
 · intro i hi _
   by_cases hil : i < h.events.length
   · obtain ⟨e, he⟩ := c8Y hil
     have hwi := c9Y (n := (i : Int) + 1) (by omega)
     have htn : h.events.take (i + 1) = h.events.take i ++ [e] := by rw [List.take_add_one, he]; rfl
     have hcl := c3p (h.events.take i)
     have htl : (h.events.take i).length ≤ h.events.length := by simp; omega
     by_cases k1 : e.kind = 1
     · have hg1 := c2o (es := h.events.take i) k1
       have hg2 := c6o (es := h.events.take i) (e := e) (by omega)
       have hg3 := c8o (es := h.events.take i) (e := e) (by omega)
       have hg4 : c0p (h.events.take i ++ [e]) = c0p (h.events.take i) := by rw [c2p, if_neg (by omega)]; simp
       rw [htn, hg2, hg3, hg4]
       simp -dsimp [a8a_l17, he, b2Z, k1, hg1, hwi]
       exact fun h => absurd h (by omega)
     · by_cases k5 : e.kind = 5
       · have hg1 := c3o (es := h.events.take i) (e := e) k1
         have hg2 := c6o (es := h.events.take i) (e := e) (by omega)
         have hg3 := c8o (es := h.events.take i) (e := e) (by omega)
         have hg4 : c0p (h.events.take i ++ [e]) = c0p (h.events.take i) ++ [e.txn] := by rw [c2p, if_pos k5]
         rw [htn, hg1, hg2, hg3, hg4]
         simp -dsimp [a8a_l17, he, b2Z, k5, hwi]
         exact ⟨fun _ => ⟨by omega, by omega, hil, by simp [c1Z]⟩, fun h => absurd h (by omega)⟩
       · have hg1 := c3o (es := h.events.take i) (e := e) k1
         have hg4 : c0p (h.events.take i ++ [e]) = c0p (h.events.take i) := by rw [c2p, if_neg (by omega)]; simp
         by_cases k3 : e.kind = 3
         · have hg2 := c5o (es := h.events.take i) k3
           have hg3 := c7o (es := h.events.take i) k3
           rw [htn, hg1, hg4]
           simp -dsimp [a8a_l17, he, b2Z, k3]
           refine ⟨fun _ => ?_, fun h => absurd h (by omega)⟩
           have hre := hrow e (List.mem_of_getElem? he) k3
           have hcl2 : b1v prog false n_a0c [.iv (.lst 3 (rowC e.row))] [] (.iv (.lst 3 (rowC e.row))) [] := b8l (by simpa using hre)
           repeat' first
             | (refine And.intro ?_ ?_)
             | (refine d3l hcl2 rfl (by simp) (by simp) (by simp) (by simp) ?_; simp -dsimp [b2Z, hg2, hg3, hwi])
           all_goals exact hil
         · have hg2 := c6o (es := h.events.take i) (e := e) k3
           have hg3 := c8o (es := h.events.take i) (e := e) k3
           rw [htn, hg1, hg2, hg3, hg4]
           simp -dsimp [a8a_l17, he, b2Z, k1, k3, k5, hwi]
           exact fun h => absurd h (by omega)
   · have hie : i = h.events.length := by omega
     subst hie
     rw [List.take_length]
     have hcl := c3p h.events
     simp -dsimp [a8a_l17]
     refine a3K (b4V (c0p h.events) (by omega)) rfl (by simp) (by simp) (by simp) (by simp) (by simp) (by simp only [a4J, a3J, and_true]; exact ⟨_, rfl, Ob.le_of rfl rfl (by simp [b2V])⟩) (by simp) ?_
     simp -dsimp
     have hol := hok.order
     refine a7H [1] [9, 105]  h.order.length (fun i => ⟨[(95, vi i), (94, vi h.order.length), (93, .iv (.lst 5 (insC h.order))), (3, .ptr 21 0)],
       [(900, .list 1 (c1Z (b4P (c0p h.events)))), (21, .box [.mpr 16, .sl 900 1 0 (c0p h.events).length, .mpr 17, .mpr 18, .mpr 19]), (16, .map skL (gLv h.events)), (17, .map skR (gRw h.events)), (18, .map skR (gLs h.events)), (19, .map skC (gCh h.events (h.order.take i)))]⟩) (fun _ => True) ?_ trivial ?_
     · simp [c1o]
     · intro i hi _
       by_cases hil : i < h.order.length
       · obtain ⟨o, ho⟩ := c8Y hil
         have hwi := c9Y (n := (i : Int) + 1) (by omega)
         have htn : h.order.take (i + 1) = h.order.take i ++ [o] := by rw [List.take_add_one, ho]; rfl
         have hot := htx o (List.mem_of_getElem? ho)
         have hgc := c9o h.events (h.order.take i) o
         rw [htn]
         simp -dsimp [a8a_l32, ho, Ins.cells, b2Z]
         refine ⟨fun _ => ?_, fun hh => absurd hh (by omega)⟩
         refine a7H [8] [125] o.txns.length (fun k => ⟨[(109, vi k), (108, vi o.txns.length), (107, .iv (.lst 1 (c1Z o.txns))), (10, .sl 105 2 0 (k + 1)), (9, .ptr 9 0), (95, vi i), (94, vi h.order.length), (93, .iv (.lst 5 (insC h.order))), (3, .ptr 21 0)],
           [(105, .list 2 (vsC (chT h.events o k))), (9, .box [vi o.table, vb o.key.text, vi o.key.n, .iv (.v (.string o.key.s))]), (900, .list 1 (c1Z (b4P (c0p h.events)))), (21, .box [.mpr 16, .sl 900 1 0 (c0p h.events).length, .mpr 17, .mpr 18, .mpr 19]), (16, .map skL (gLv h.events)), (17, .map skR (gRw h.events)), (18, .map skR (gLs h.events)), (19, .map skC (gCh h.events (h.order.take i)))]⟩) (fun _ => True) ?_ trivial ?_
         · simp [b5V, vsC]
         · intro k hk _
           by_cases hkl : k < o.txns.length
           · obtain ⟨txn, htxn⟩ := c8Y hkl
             have hwk := c9Y (n := (k : Int) + 1) (by omega)
             have hcn := b6V (es := h.events) htxn
             have hcl := b8V (es := h.events) (o := o) (k := k) (by omega)
             have hvs : vsC (chT h.events o k) ++ [[ci txn, ci (c7n h.events txn o.table o.key)]] = vsC (chT h.events o (k + 1)) := by rw [hcn]; simp [vsC]
             simp -dsimp [a8a_l29, htxn, hwk, hcl, hvs]
             exact ⟨fun _ => ⟨by omega, by omega, hkl⟩, fun h => absurd h (by omega)⟩
           · have hke : k = o.txns.length := by omega
             subst hke
             rw [b7V]
             have hcl := b8V (es := h.events) (o := o) (k := o.txns.length) (by omega)
             rw [b7V] at hcl
             have htk : List.take (o.txns.length + 1) (vsC (chnI h.events o)) = vsC (chnI h.events o) := List.take_of_length_le (by simp [hcl])
             simp -dsimp [a8a_l29, htk, hgc, hwi]
             exact hil
       · have hie : i = h.order.length := by omega
         subst hie
         rw [List.take_length]
         simp -dsimp [a8a_l32]
         have htk : List.take (c0p h.events).length (c1Z (b4P (c0p h.events))) = c1Z (b4P (c0p h.events)) := List.take_of_length_le (by simp [b2V])
         exact ⟨[16, 17, 18, 19, 900, 21], by simp [EndV, AV.ivc, bkIV, htk]⟩
end Go.Rt
end

section
namespace Go.Rt
open Go.Vm
def rowB (es : List Ev) (table : Int) (k : Vl) (v : Vs) : Option (List Vl) := if v = ⟨0, 0⟩ then some [] else (c0n (Ev.isN v.txn table k v.n) es).map Ev.row
def chaB (es : List Ev) (os : List Ins) (table : Int) (k : Vl) : List Vs := match c0n (Ins.isO table k) os with
 | some o => chnI es o
 | none => [⟨0, 0⟩]
def plaB (es : List Ev) (os : List Ins) (table : Int) (k : Vl) (v : Vs) : Int := if (rowB es table k v).isNone then -1 else ixP (fun x => decide (x.txn = v.txn)) (chaB es os table k)
def hldB (es : List Ev) (table : Int) (k : Vl) (p : Pd) (v : Vs) : Bool := !((rowB es table k v).getD []).isEmpty && p.holds ((rowB es table k v).getD [])
def chgB (es : List Ev) (os : List Ins) (table : Int) (k : Vl) (b5I : Int) (p : Pd) : Bool :=
 if b5I < 1 ∨ (chaB es os table k).length ≤ b5I then false else hldB es table k p (((chaB es os table k)[(b5I - 1).toNat]?).getD ⟨0, 0⟩) != hldB es table k p (((chaB es os table k)[b5I.toNat]?).getD ⟨0, 0⟩)
theorem b4o {txn table : Int} {k : Vl} {m : Int} {e : Ev} (h : e.isN txn table k m = true) : e.kind = 3 := by
 simp only [Ev.isN, Bool.and_eq_true, Ev.isW_iff] at h
 exact h.1.1
section
variable (es : List Ev) (os : List Ins)
theorem b5o (hev : es.length < 2 ^ 40) : b1v prog false n_a9a [.iv (bkIV es os)] [] (.iv (c2Z (b4P (c0p es)))) [] := by
 refine d6h a9a_is (by simp) (by decide) ?_
 have := c3p es
 simp -dsimp [a9a, bkIV]
 refine d3l (b6l (xs := c1Z (b4P (c0p es))) (by simp [b2V]; omega)) rfl (by simp) (by simp) (by simp) (by simp) ?_
 simp -dsimp
 exact ⟨[2], by simp [EndV, AV.ivc, c2Z]⟩
theorem b6o (table : Int) (k : Vl) (v : Vs) (hrow : b9V es) : b1v prog false n_a7b [.iv (bkIV es os), vi table, k.av, v.av] [] (.tup [.iv (.lst 3 (rowC ((rowB es table k v).getD []))), vb (rowB es table k v).isSome]) [] := by
 refine d5l (by decide) a7b_is (by simp) (by decide) ?_
 by_cases h0 : v = ⟨0, 0⟩
 · subst h0
   simp -dsimp [a7b, bkIV, rowB]
   exact ⟨[8, 6, 7], by simp [d4l, AV.ivc, rowC]⟩
 · have h1 : v.txn = 0 → ¬v.n = 0 := fun h h' => h0 (Vs.eq_iff.2 ⟨h, h'⟩)
   have h2 : rowB es table k v = (c0n (Ev.isN v.txn table k v.n) es).map Ev.row := by unfold rowB; rw [if_neg h0]
   rw [h2]
   simp -dsimp [a7b, bkIV, gRw]
   refine ⟨fun a b => absurd b (h1 a), fun _ => ?_⟩
   cases hl : c0n (Ev.isN v.txn table k v.n) es with
   | none =>
     simp -dsimp
     have hc : b1v prog false n_a0c [.iv (.lst 3 [])] [] (.iv (.lst 3 [])) [] := b8l (by simp)
     refine d3l hc rfl (by simp) (by simp) (by simp) (by simp) ?_
     simp -dsimp
     exact ⟨[6, 7], by simp [d4l, AV.ivc, rowC]⟩
   | some e =>
     have hc : b1v prog false n_a0c [.iv (.lst 3 (rowC e.row))] [] (.iv (.lst 3 (rowC e.row))) [] := b8l (by simpa using hrow e (c5n hl).1 (b4o (c5n hl).2))
     simp -dsimp
     refine d3l hc rfl (by simp) (by simp) (by simp) (by simp) ?_
     simp -dsimp
     exact ⟨[6, 7], by simp [d4l, AV.ivc]⟩
theorem b7o (table : Int) (k : Vl) : b1v prog false n_a5e [.iv (bkIV es os), vi table, k.av] [] (.iv (.lst 2 (vsC (chaB es os table k)))) [] := by
 refine d6h a5e_is (by simp) (by decide) ?_
 simp -dsimp [a6e_chain, bkIV, gCh, chaB]
 cases c0n (Ins.isO table k) os with
 | none =>
   simp -dsimp
   exact ⟨[23, 5], by simp [EndV, AV.ivc, vsC]⟩
 | some o =>
   simp -dsimp
   exact ⟨[5], by simp [EndV, AV.ivc]⟩
theorem b8o (table : Int) (k : Vl) (hc : (chaB es os table k).length < 2 ^ 42) : b1v prog false n_a4c [.iv (bkIV es os), vi table, k.av] [] (.iv (.lst 2 (vsC (chaB es os table k)))) [] := by
 refine d6h a4c_is (by simp) (by decide) ?_
 simp -dsimp [a4c, bkIV]
 refine d3l (b7o es os table k) rfl (by simp [bkIV]) (by simp) (by simp) (by simp) ?_
 simp -dsimp
 refine ⟨by omega, by omega, ?_⟩
 have ht : List.take (chaB es os table k).length (vsC (chaB es os table k)) = vsC (chaB es os table k) := List.take_of_length_le (by simp)
 refine ⟨?_, [17], by simp [EndV, AV.ivc, ht]⟩
 unfold chaB
 cases c0n (Ins.isO table k) os <;> simp [chnI]
theorem b9o : okFn prog n_a7e = true := by kernel_rfl
theorem b0p (x v : Vs) : b1v prog true n_a7e [x.av, .iv (.pt v.cells)] [] (vb (decide (x.txn = v.txn))) [] := by
 refine a4H a7e_is (by simp) (by decide) rfl ?_
 simp -dsimp [a7e]
 rfl
theorem b1p (l : List Vs) (hl : l.length < 2 ^ 63) (v : Vs) : b1v prog true n_a4e [.iv (.lst 2 (vsC l)), .fn n_a7e [] [.val (.pt v.cells)]] [] (vi (ixP (fun x => decide (x.txn = v.txn)) l)) [] := by
 refine a4H a4e_is (by simp) (by decide) rfl ?_
 simp -dsimp [a4e]
 refine a7H [] [] l.length (fun i => ⟨[(8, vi i), (7, vi l.length), (0, .iv (.lst 2 (vsC l))), (1, .fn n_a7e [] [.val (.pt v.cells)])], []⟩) (fun i => Upto i fun j => ∀ e, l[j]? = some e → decide (e.txn = v.txn) = false) ?_ c7Y ?_
 · simp -dsimp
 · intro i hi hq
   simp -dsimp [a4e_l7]
   refine ⟨fun hlt => ?_, fun hge => ?_⟩
   · obtain ⟨e, he⟩ := c8Y hlt
     have hw := c9Y (n := (i : Int) + 1) (by omega)
     simp -dsimp [he, b2Z]
     refine ⟨b9o, a4K (b0p e v) (by simp) (by simp) (by simp) ?_⟩
     by_cases hf : e.txn = v.txn
     · have := b0I (p := fun x : Vs => decide (x.txn = v.txn)) he (by simpa using hf) hq
       simp -dsimp [hf, this]
     · simp -dsimp [hf, hw]
       exact ⟨hlt, Upto.succ (fun j hj y hy => by simpa using hq j hj y hy) fun y hy => by rw [he] at hy; cases hy; exact hf⟩
   · rw [b1I (b2I hge hq)]
theorem b2p (table : Int) (k : Vl) (v : Vs) (hrow : b9V es) (hc : (chaB es os table k).length < 2 ^ 42) : b1v prog true n_a3c [.iv (bkIV es os), vi table, k.av, v.av] [] (vi (plaB es os table k v)) [] := by
 refine a4H a3c_is (by simp) (by decide) rfl ?_
 simp -dsimp [a3c]
 refine d3l (b6o es os table k v hrow) rfl (by simp) (by simp) (by simp) (by simp) ?_
 unfold plaB
 cases hr : rowB es table k v with
 | none => simp -dsimp
 | some r =>
   simp -dsimp
   refine d3l (b7o es os table k) rfl (by simp) (by simp) (by simp) (by simp) ?_
   simp -dsimp
   refine a0G (b1p (chaB es os table k) (by omega) v) (by simp) (by simp) ?_
   simp -dsimp
end
end Go.Rt
end

section
namespace Go.Rt
open Go.Vm
theorem b5r : okFn prog n_a8e = true := by kernel_rfl
theorem b6r {es : List Ev} {table : Int} {k : Vl} {v : Vs} (hrow : b9V es) : ((rowB es table k v).getD []).length < 2 ^ 40 := by
 unfold rowB
 split
 · simp
 · cases h : c0n (Ev.isN v.txn table k v.n) es with
   | none => simp
   | some e => exact hrow e (c5n h).1 (b4o (c5n h).2)
set_option maxHeartbeats 4000000 in
theorem b7r (es : List Ev) (os : List Ins) (table : Int) (k : Vl) {p : Pd} (hp : p.Ok) (v : Vs) (hrow : b9V es) :
   b1v prog true n_a8e [v.av, .iv (.pt [bkIV es os]), .iv (.pt [ci table]), .iv (.pt k.cells), .iv (.pt p.cells)] [] (vb (hldB es table k p v)) [] := by
 refine a4H a8e_is (by simp) (by decide) rfl ?_
 simp -dsimp [a8e]
 refine d3l (b6o es os table k v hrow) rfl (by simp) (by simp) (by simp) (by simp) ?_
 have hl := b6r (table := table) (k := k) (v := v) hrow
 have hp9 : p.cells.length = 9 := by rw [Pd.cells_eq]; rfl
 unfold hldB
 generalize (rowB es table k v).getD [] = r at *
 cases r with
 | nil =>
   simp -dsimp [rowC]
 | cons a b =>
   have hne : 0 < (rowC (a :: b)).length := by simp
   simp -dsimp
   have ht : List.take 9 (p.cells.map AV.iv) = p.cells.map AV.iv := List.take_of_length_le (by simp [hp9])
   refine ⟨by omega, ?_⟩
   refine a0G (c8f hp (a :: b) (by omega)) (by simp [ht, Pd.av]) (by simp [Pd.av]) ?_
   simp -dsimp
theorem b8r (es : List Ev) (os : List Ins) (table : Int) (k : Vl) : 0 < (chaB es os table k).length := by
 unfold chaB; split <;> simp [chnI]
set_option maxHeartbeats 8000000 in
theorem b9r (es : List Ev) (os : List Ins) (table : Int) (k : Vl) (b5I : Int) {p : Pd} (hp : p.Ok) (hrow : b9V es) (hc : (chaB es os table k).length < 2 ^ 42) :
   b1v prog true n_a5c [.iv (bkIV es os), vi table, k.av, vi b5I, p.av] [] (vb (chgB es os table k b5I p)) [] := by
 refine a4H a5c_is (by simp) (by decide) rfl ?_
 have h1 := fun v => b7r es os table k hp v hrow
 have hch := b7o es os table k
 have hres : chgB es os table k b5I p = if b5I < 1 ∨ (chaB es os table k).length ≤ b5I then false else hldB es table k p (((chaB es os table k)[(b5I - 1).toNat]?).getD ⟨0, 0⟩) != hldB es table k p (((chaB es os table k)[b5I.toNat]?).getD ⟨0, 0⟩) := rfl
 generalize chgB es os table k b5I p = res at *
 generalize chaB es os table k = l at *
 simp -dsimp [a5c, Pd.av_eq, bkIV]
 refine d3l hch rfl (by simp [bkIV]) (by simp) (by simp) (by simp) ?_
 by_cases p1 : b5I < 1
 · rw [if_pos (.inl p1)] at hres
   subst hres
   simp -dsimp [p1]
 · by_cases p2 : (l.length : Int) ≤ b5I
   · rw [if_pos (.inr p2)] at hres
     subst hres
     simp -dsimp [p1, p2]
   · obtain ⟨q, rfl⟩ : ∃ q : Nat, b5I = ((q + 1 : Nat) : Int) := ⟨(b5I - 1).toNat, by omega⟩
     obtain ⟨x, hx⟩ : ∃ x, l[q]? = some x := c8Y (by omega)
     obtain ⟨y, hy⟩ : ∃ y, l[q + 1]? = some y := c8Y (by omega)
     have hw := c9Y (n := ((q + 1 : Nat) : Int) - 1) (by omega)
     have hq : ((q + 1 : Nat) : Int) - 1 = q := by omega
     rw [if_neg (by omega), hq, Int.toNat_natCast, Int.toNat_natCast, hx, hy] at hres
     rw [hq] at hw
     subst hres
     have p1' : ¬((q : Int) + 1 < 1) := by omega
     have p2' : ¬((l.length : Int) ≤ (q : Int) + 1) := by omega
     have p0 : (0 : Int) ≤ (q : Int) + 1 := by omega
     have hw' : IntKind.i64.wrap (q : Int) = q := hw
     simp -dsimp [p1', p2', p0, hw', hx, hy, b2Z]
     refine ⟨⟨b5r, a4K (h1 x) (by simp) (by simp [bkIV, Pd.cells_eq]) (by simp) ?_⟩, ?_⟩
     · simp -dsimp [b2Z]
       refine ⟨b5r, a4K (h1 y) (by simp) (by simp [bkIV, Pd.cells_eq]) (by simp) ?_⟩
       simp -dsimp
     · refine ⟨b5r, a4K (h1 x) (by simp) (by simp [bkIV, Pd.cells_eq]) (by simp) ?_⟩
       simp -dsimp
       refine ⟨b5r, a4K (h1 y) (by simp) (by simp [bkIV, Pd.cells_eq]) (by simp) ?_⟩
       simp -dsimp
end Go.Rt
end

section
namespace Go.Rt
open Go.Vm
theorem c3d {α : Type} [DecidableEq α] : ∀ {l r : List α}, l.Nodup → (∀ x, x ∈ l → x ∈ r) → l.length ≤ r.length
 | [], _, _, _ => Nat.zero_le _
 | a :: l, r, hn, h => by
   have hn := List.nodup_cons.1 hn
   have ha := h a List.mem_cons_self
   have := c3d (l := l) (r := r.erase a) hn.2 fun x hx => by
     refine (List.mem_erase_of_ne ?_).2 (h x (List.mem_cons_of_mem _ hx))
     rintro rfl; exact hn.1 hx
   rw [List.length_erase_of_mem ha] at this
   have := List.length_pos_of_mem ha
   simp only [List.length_cons]; omega
theorem c4d {α : Type} {l : List α} (h : ∀ (i : Nat) (t : α), l[i]? = some t → t ∉ l.take i) : l.Nodup := by
 unfold List.Nodup
 rw [List.pairwise_iff_getElem]
 intro i j hi hj hij he
 refine h j l[j] (List.getElem?_eq_getElem hj) (List.mem_of_getElem? (i := i) ?_)
 rw [List.getElem?_take_of_lt hij, List.getElem?_eq_getElem hi, he]
section
variable {h : Hs}
theorem c5d {es : List Ev} {txn table : Int} {k : Vl} (hw : c5Q es txn table k ≠ 0) : ∃ e, e ∈ es ∧ e.isW txn table k = true := by
 unfold c5Q at hw
 obtain ⟨e, he⟩ := List.exists_mem_of_length_pos (Nat.pos_of_ne_zero hw)
 rw [List.mem_filter] at he
 exact ⟨e, he.1, he.2⟩
theorem c6d (hw : b8s h) {o : Ins} (ho : o ∈ h.order) : o.txns.Nodup := by
 obtain ⟨i, hi⟩ := List.getElem?_of_mem ho
 exact c4d fun j t hj => ((b3B hw hi).2.1 j (List.getElem?_eq_some_iff.1 hj).1 t hj).2.2
theorem c7d (hw : b8s h) {o : Ins} (ho : o ∈ h.order) {t : Int} (ht : t ∈ o.txns) : b8g h.events t = 5 ∧ c5Q h.events t o.table o.key ≠ 0 := by
 obtain ⟨i, hi⟩ := List.getElem?_of_mem ho
 obtain ⟨j, hj⟩ := List.getElem?_of_mem ht
 have := (b3B hw hi).2.1 j (List.getElem?_eq_some_iff.1 hj).1 t hj
 exact ⟨this.1, this.2.1⟩
theorem c8d (hw : b8s h) {o : Ins} (ho : o ∈ h.order) : o.txns.length ≤ h.events.length := by
 have := c3d (l := o.txns) (r := h.events.map Ev.txn) (c6d hw ho) fun t ht => by
   obtain ⟨e, he, hk⟩ := c5d (c7d hw ho ht).2
   exact List.mem_map.2 ⟨e, he, (b7B hk).2.1⟩
 simpa using this
theorem c9d (hw : b8s h) {e : Ev} (he : e ∈ h.events) : 1 ≤ e.txn := by
 obtain ⟨i, hi⟩ := List.getElem?_of_mem he
 exact (b2B hw hi).1.1.1
theorem c0e {table : Int} {k : Vl} {o : Ins} : o.isO table k = true ↔ o.isOf table k := by
 unfold Ins.isO Ins.isOf
 rw [Bool.and_eq_true, decide_eq_true_eq, decide_eq_true_eq]
theorem c1e (hw : b8s h) {table : Int} {k : Vl} : ∀ (i j : Nat) (a b : Ins), h.order[i]? = some a → h.order[j]? = some b → a.isO table k = true → b.isO table k = true → i = j := by
 have key : ∀ (i j : Nat) (a b : Ins), i < j → h.order[i]? = some a → h.order[j]? = some b → a.isO table k = true → b.isO table k = true → False := by
   intro i j a b hij hi hj ha hb
   rw [c0e] at ha hb
   refine (b3B hw hj).1 a (List.mem_of_getElem? (i := i) ?_) ⟨ha.1.trans hb.1.symm, ha.2.trans hb.2.symm⟩
   rw [List.getElem?_take_of_lt hij]; exact hi
 intro i j a b hi hj ha hb
 rcases Nat.lt_trichotomy i j with g | g | g
 · exact (key i j a b g hi hj ha hb).elim
 · exact g
 · exact (key j i b a g hj hi hb ha).elim
theorem c2e (hw : b8s h) (table : Int) (k : Vl) : (chaB h.events h.order table k).length ≤ h.events.length + 1 := by
 unfold chaB
 cases ho : c0n (Ins.isO table k) h.order with
 | none => simp
 | some o =>
   have := c8d hw (c5n ho).1
   simp [chnI]; omega
end
end Go.Rt
end

section
namespace Go.Rt
open Go.Vm
section
variable {h : Hs}
theorem b3p {α : Type} {p : α → Bool} {l : List α} (hu : ∀ (i j : Nat) (a b : α), l[i]? = some a → l[j]? = some b → p a = true → p b = true → i = j) {e : α} (he : e ∈ l) (hp : p e = true) : c0n p l = some e := by
 cases hl : c0n p l with
 | none => rw [c4n] at hl; rw [hl e he] at hp; cases hp
 | some a =>
   obtain ⟨h1, h2⟩ := c5n hl
   obtain ⟨i, hi⟩ := List.getElem?_of_mem h1
   obtain ⟨j, hj⟩ := List.getElem?_of_mem he
   have := hu i j a e hi hj h2 hp
   subst this
   rw [hi] at hj; exact hj
end
end Go.Rt
end

section
namespace Go.Rt
open Go.Vm
theorem a9z : ∀ {es : List Ev} {t : Int}, b8g es t = 5 → ∃ e, e ∈ es ∧ e.txn = t ∧ e.kind = 5
 | [], _, h => by simp [b8g] at h
 | x :: r, t, h => by
   rw [b8g] at h
   by_cases hx : x.ends t
   · rw [if_pos hx] at h
     exact ⟨x, List.mem_cons_self, hx.1, h⟩
   · rw [if_neg hx] at h
     obtain ⟨e, h1, h2⟩ := a9z h
     exact ⟨e, List.mem_cons_of_mem _ h1, h2⟩
section
variable {h : Hs}
theorem a0A (hw : b8s h) {t : Int} (ht : t ∈ c0p h.events) : b8g h.events t = 5 := by
 unfold c0p at ht
 obtain ⟨e, he, rfl⟩ := List.mem_map.1 ht
 rw [List.mem_filter, decide_eq_true_eq] at he
 obtain ⟨i, hi⟩ := List.getElem?_of_mem he.1
 rw [b0h (i := i) (e := e) ?_ hi ⟨rfl, .inl he.2⟩, he.2]
 intro j hj x hx hxe
 have := (b2B hw hi).1.1.2.2.2.1 x (List.mem_of_getElem? (i := j) (by rw [List.getElem?_take_of_lt hj]; exact hx)) hxe.1
 rcases hxe.2 with g | g
 · exact this.1 g
 · exact this.2 g
theorem a1A {t : Int} (h5 : b8g h.events t = 5) : t ∈ c0p h.events := by
 obtain ⟨e, h1, h2, h3⟩ := a9z h5
 unfold c0p
 exact List.mem_map.2 ⟨e, List.mem_filter.2 ⟨h1, by simpa using h3⟩, h2⟩
def tsB (h : Hs) (table : Int) (k : Vl) : List Int := match c0n (Ins.isO table k) h.order with
 | some o => o.txns
 | none => []
variable {table : Int} {k : Vl}
theorem a2A (hw : b8s h) : chaB h.events h.order table k = ⟨0, 0⟩ :: (tsB h table k).map fun t => ⟨t, (c5Q h.events t table k : Int)⟩ := by
 unfold chaB tsB
 cases ho : c0n (Ins.isO table k) h.order with
 | none => rfl
 | some o =>
   obtain ⟨h1, h2⟩ := c5n ho
   rw [c0e] at h2
   obtain ⟨h2, h3⟩ := h2
   simp only [chnI, b2C hw, h2, h3]
theorem a3A (hw : b8s h) {t : Int} : t ∈ tsB h table k ↔ t ∈ c0p h.events ∧ 1 ≤ c5Q h.events t table k := by
 constructor
 · intro ht
   unfold tsB at ht
   cases ho : c0n (Ins.isO table k) h.order with
   | none => rw [ho] at ht; cases ht
   | some o =>
     rw [ho] at ht
     obtain ⟨h1, h2⟩ := c5n ho
     rw [c0e] at h2
     obtain ⟨h2, h3⟩ := h2
     obtain ⟨g1, g2⟩ := c7d hw h1 ht
     rw [h2, h3] at g2
     exact ⟨a1A g1, by omega⟩
 · rintro ⟨h1, h2⟩
   obtain ⟨e, he, hk⟩ := c5d (es := h.events) (txn := t) (table := table) (k := k) (by omega)
   obtain ⟨k3, rfl, rfl, rfl⟩ := b7B hk
   obtain ⟨i, hi⟩ := List.getElem?_of_mem he
   obtain ⟨o, ho, hof, hot⟩ := (b2B hw hi).2 k3 (a0A hw h1)
   unfold tsB
   rw [b3p (c1e hw) ho (c0e.2 hof)]
   exact hot
theorem a4A (hw : b8s h) {t : Int} (ht : t ∈ tsB h table k) : 1 ≤ t := by
 obtain ⟨_, h2⟩ := (a3A hw).1 ht
 obtain ⟨e, he, hk⟩ := c5d (es := h.events) (txn := t) (table := table) (k := k) (by omega)
 obtain ⟨_, rfl, _⟩ := b7B hk
 exact c9d hw he
end
end Go.Rt
end

section
namespace Go.Rt
open Go.Vm
instance decAt {α : Type} {l : List α} {i : Nat} {p : α → Prop} [∀ x, Decidable (p x)] : Decidable (∀ x, l[i]? = some x → p x) :=
 match h : l[i]? with
 | none => .isTrue fun x hx => by cases hx
 | some y => if hp : p y then .isTrue fun x hx => by cases hx; exact hp else .isFalse fun g => hp (g y rfl)
instance decEx {α : Type} {l : List α} {i : Nat} {p : α → Prop} [∀ x, Decidable (p x)] : Decidable (∃ x, l[i]? = some x ∧ p x) :=
 match h : l[i]? with
 | none => .isFalse fun ⟨x, hx, _⟩ => by cases hx
 | some y => if hp : p y then .isTrue ⟨y, rfl, hp⟩ else .isFalse fun ⟨x, hx, g⟩ => by cases hx; exact hp g
instance decUpto {n : Nat} {p : Nat → Prop} [∀ j, Decidable (p j)] : Decidable (Upto n p) := by unfold Upto; infer_instance
instance {es : List Ev} {t : Int} : Decidable (c2R es t) := by unfold c2R; infer_instance
instance {es : List Ev} {t : Int} : Decidable (c1R es t) := by unfold c1R; infer_instance
instance {es : List Ev} {e : Ev} : Decidable (c7R es e) := by unfold c7R; infer_instance
instance {t : Tb} : Decidable (TbOk t) := by unfold TbOk; infer_instance
instance {h : Hs} {table : Int} {k : Vl} : Decidable (b2h h table k) := by unfold b2h; infer_instance
instance {es : List Ev} {table : Int} {k : Vl} {v : Vs} : Decidable (b3h es table k v) := by unfold b3h; infer_instance
instance {t : Tb} {r : List Vl} {i : Nat} : Decidable (∀ (v : Vl) (c : Bool), r[i]? = some v → t[i]? = some c → v.text = c ∧ v.right = true) :=
 decidable_of_iff (∀ v, r[i]? = some v → ∀ c, t[i]? = some c → v.text = c ∧ v.right = true) ⟨fun h v c a b => h v a c b, fun h v a c b => h v c a b⟩
instance {t : Tb} {r : List Vl} {i : Nat} : Decidable (d2c t r i) := by unfold d2c; infer_instance
instance {t : Tb} {r : List Vl} : Decidable (Fits t r) := by unfold Fits; infer_instance
instance {h : Hs} {es : List Ev} {e : Ev} : Decidable (c9t h es e) := by unfold c9t; infer_instance
instance {h : Hs} {es : List Ev} {e : Ev} : Decidable (c0u h es e) := by unfold c0u; infer_instance
noncomputable instance {h : Hs} {es : List Ev} {e : Ev} : Decidable (c3u h es e) := Classical.propDecidable _
noncomputable instance {h : Hs} {es : List Ev} {e : Ev} : Decidable (b3s h es e) := by unfold b3s; infer_instance
instance {table : Int} {k : Vl} {o : Ins} : Decidable (o.isOf table k) := by unfold Ins.isOf; infer_instance
instance {h : Hs} {e : Ev} : Decidable (b5s h e) := by unfold b5s; infer_instance
instance {h : Hs} {a : Nat} {o : Ins} : Decidable (b6s h a o) := by unfold b6s; infer_instance
instance {h : Hs} : Decidable (h.TbsOk) := by unfold Hs.TbsOk; infer_instance
instance {h : Hs} : Decidable (b7s h) := by unfold b7s; infer_instance
noncomputable instance {h : Hs} : Decidable (b8s h) := by unfold b8s; infer_instance
def k5 : Vl := ⟨false, 5, ⟨#[]⟩⟩
def noPd : Pd := .mk 0 0 Vl.zero Vl.zero []
def exB (t l : Int) : Ev := ⟨t, 1, l, 0, Vl.zero, ⟨0, 0⟩, 0, [], noPd, [], false⟩
def exW (t n : Int) (r : List Vl) : Ev := ⟨t, 3, 0, 0, k5, ⟨0, 0⟩, n, r, noPd, [], false⟩
def exC (t : Int) : Ev := ⟨t, 5, 0, 0, Vl.zero, ⟨0, 0⟩, 0, [], noPd, [], false⟩
end Go.Rt
end

section
namespace Go.Rt
open Go.Vm
def a6K (l : List Rf) (k : Vl) : Vs := ((c0n (fun r : Rf => decide (r.key = k)) l).map Rf.frm).getD ⟨0, 0⟩
def wwE (o : Ins) : List Eg := (o.txns.zip o.txns.tail).map fun p => ⟨p.1, p.2, 1, o.table, o.key, false⟩
section
variable (h : Hs) (e : Ev)
def rd1 (p : Int) : List Eg := if 0 < p then [⟨e.frm.txn, e.txn, 2, e.table, e.key, e.cur⟩] else []
def rd2 (p : Int) (c : List Vs) : List Eg := if 0 ≤ p ∧ p + 1 < c.length ∧ e.frm.txn ≠ e.txn then [⟨e.txn, ((c[(p + 1).toNat]?).getD ⟨0, 0⟩).txn, 4, e.table, e.key, e.cur⟩] else []
def a7K : List Eg := rd1 e (plaB h.events h.order e.table e.key e.frm) ++ rd2 e (plaB h.events h.order e.table e.key e.frm) (chaB h.events h.order e.table e.key)
def a8K (k : Vl) (p : Int) (i : Nat) : List Eg := if chgB h.events h.order e.table k i e.pred = true then
 [if (i : Int) ≤ p then ⟨(((chaB h.events h.order e.table k)[i]?).getD ⟨0, 0⟩).txn, e.txn, 3, e.table, k, false⟩ else ⟨e.txn, (((chaB h.events h.order e.table k)[i]?).getD ⟨0, 0⟩).txn, 5, e.table, k, false⟩] else []
def a9K (k : Vl) : List Eg := if plaB h.events h.order e.table k (a6K e.refs k) < 0 ∨ (a6K e.refs k).txn = e.txn then [] else
 (List.range (chaB h.events h.order e.table k).length).flatMap (a8K h e k (plaB h.events h.order e.table k (a6K e.refs k)))
def a0L (o : Ins) : List Eg := if o.table = e.table then a9K h e o.key else []
def a1L : List Eg := h.order.flatMap (a0L h e)
def evE : List Eg := if b8g h.events e.txn = 5 then (if e.kind = 2 then a7K h e else if e.kind = 4 then a1L h e else []) else []
def a2L : List Eg := h.order.flatMap wwE ++ h.events.flatMap (evE h)
noncomputable def a3L : List Eg := if b8s h then (a2L h).foldl putE [] else []
end
theorem a4L {h : Hs} (hw : b8s h) {m : Eg} : m ∈ a3L h ↔ m ∈ a2L h ∧ m.frm ≠ m.to := by
 unfold a3L; rw [if_pos hw, b3E]; simp
theorem a5L {h : Hs} (hw : ¬b8s h) : a3L h = [] := by unfold a3L; rw [if_neg hw]
theorem a6L {o : Ins} {m : Eg} : m ∈ wwE o ↔ ∃ i a b, o.txns[i]? = some a ∧ o.txns[i + 1]? = some b ∧ m = ⟨a, b, 1, o.table, o.key, false⟩ := by
 unfold wwE
 rw [List.mem_map]
 constructor
 · rintro ⟨p, hp, rfl⟩
   obtain ⟨i, hi⟩ := List.getElem?_of_mem hp
   rw [List.getElem?_zip_eq_some] at hi
   rw [List.getElem?_tail] at hi
   exact ⟨i, p.1, p.2, hi.1, hi.2, rfl⟩
 · rintro ⟨i, a, b, h1, h2, rfl⟩
   refine ⟨(a, b), List.mem_of_getElem? (i := i) ?_, rfl⟩
   rw [List.getElem?_zip_eq_some, List.getElem?_tail]
   exact ⟨h1, h2⟩
/-! what is known of the ends and of the keys -/
section
variable {h : Hs}
def Hs.Rg (h : Hs) : Prop := ∀ e, e ∈ h.events → -(2 ^ 63) ≤ e.txn ∧ e.txn < 2 ^ 63
theorem a7L {table : Int} {k : Vl} (hk : b2h h table k) : k.right = true := by
 obtain ⟨_, t, _, h1, _⟩ := hk; exact h1
theorem a8L {table : Int} {k : Vl} (hw : b8s h) (hk : b2h h table k) : 0 ≤ table ∧ table < 3 := by
 obtain ⟨h0, t, h1, _⟩ := hk
 have h2 := (List.getElem?_eq_some_iff.1 h1).1
 have h3 := hw.1.1.2
 omega
theorem a9L (hw : b8s h) {table : Int} {k : Vl} {i : Nat} {v : Vs} (hv : (chaB h.events h.order table k)[i]? = some v) (hi : 0 < i) :
   v.txn ∈ c0p h.events ∧ 1 ≤ v.txn ∧ ∃ e, e ∈ h.events ∧ e.txn = v.txn ∧ e.kind = 3 ∧ e.table = table ∧ e.key = k := by
 rw [a2A hw] at hv
 cases i with
 | zero => omega
 | succ i =>
   rw [List.getElem?_cons_succ, List.getElem?_map, Option.map_eq_some_iff] at hv
   obtain ⟨t, ht, rfl⟩ := hv
   have hm := List.mem_of_getElem? ht
   have h1 := (a3A hw).1 hm
   refine ⟨h1.1, a4A hw hm, ?_⟩
   obtain ⟨e, he, hk⟩ := c5d (es := h.events) (txn := t) (table := table) (k := k) (by omega)
   obtain ⟨k3, g1, g2, g3⟩ := b7B hk
   exact ⟨e, he, g1, k3, g2, g3⟩
end
end Go.Rt
end

section
namespace Go.Vm
@[simp] theorem inns_gh {ks : List Nat} {Z : GZ} {vs : List Value} {cs : List AV} : Ob.inns ks (.gh Z vs cs) = cs.all (AV.inn ks) := rfl
theorem a1O {s : St} {id g i m : Nat} {cs : List AV} (ho : look s.hp id = some (.box cs)) (hi : cs[i]? = some (.mpr m)) (hg : look s.hp g = none) (hgl : g < 1000) :
   LeX s fun s' => ∃ x : Value, s' = (s.add id (.box (cs.set i (.iv (.v x))))).add g (.gh ZT [x] [.mpr m]) := by
 rintro E n a w ⟨ψ, h⟩
 obtain ⟨b, c, e, q1, q2, q3, q4⟩ := h.obs id _ ho
 have hm := q4 i _ hi
 obtain ⟨mb, hx⟩ : ∃ mb, c.getD i undef = .map (some mb) := by
   generalize c.getD i undef = v at hm
   cases hm; exact ⟨_, rfl⟩
 have h1 := h.chg (o' := .box (cs.set i (.iv (.v (c.getD i undef))))) (k := (0, c.size)) ho (Ob.le_none rfl) rfl (by simp [Ob.multi]) q1 (fun _ _ => rfl) rfl ⟨rfl, rfl, rfl, Nat.le_refl _⟩ fun tr _ => ⟨b, c, e, q1, q2, by simpa using q3, fun k y hy => by
   rw [List.getElem?_set] at hy
   split at hy
   · rename_i e1
     subst e1
     split at hy
     · cases hy
       rw [hx]; exact d7d rfl
     · cases hy
   · exact tr _ _ (q4 k y hy)⟩
 have hgi : id ≠ g := fun e => by subst e; rw [ho] at hg; cases hg
 have hno : look (s.add id (.box (cs.set i (.iv (.v (c.getD i undef)))))).hp g = none := by rw [d9g, if_neg hgi]; exact hg
 have h2 := h1.new (o := .gh ZT [c.getD i undef] [.mpr m]) (p := none) (w' := w) hgl hno (Ext.refl w) (fun b k e => by cases e) ⟨by simp [upd], fun _ _ _ _ _ _ _ => trivial, rfl, fun j y hy => by
   cases j with
   | succ j => simp at hy
   | zero =>
     simp only [List.getElem?_cons_zero, Option.some.injEq] at hy
     subst hy
     simp only [List.getD_cons_zero]
     generalize hv : c.getD i undef = v at hm
     cases hm with
     | mpr _ b' k' o' ho' hb' =>
       have hgm : g ≠ m := fun e => by subst e; rw [hg] at ho'; cases ho'
       have : ∃ o2, look (s.add id (.box (cs.set i (.iv (.v (.map (some b'))))))).hp m = some o2 := by
         rw [d9g]; split
         · exact ⟨_, rfl⟩
         · exact ⟨_, ho'⟩
       obtain ⟨o2, ho2⟩ := this
       refine .mpr m b' k' o2 (by rw [d9g, if_neg hgm]; exact ho2) (by simp only [upd]; rw [if_neg (Ne.symm hgm)]; exact hb')⟩
 exact ⟨_, ⟨_, rfl⟩, _, h2⟩
theorem a2O {s : St} {t g i : Nat} {x : Value} {Z : GZ} {vs : List Value} {cs : List AV} {y : AV} (ht : s.get t = .iv (.v x)) (hg : look s.hp g = some (.gh Z vs cs)) (hv : vs[i]? = some x) (hc : cs[i]? = some y) : Le s (s.set t y) := by
 rintro E n a w ⟨ψ, hs⟩
 refine ⟨ψ, { hs with frame := fun u => ?_ }⟩
 rw [St.get_set]
 split
 · rename_i e; subst e
   have h1 := hs.frame t
   rw [ht] at h1
   have h2 := b9v h1
   have h3 := (hs.obs g _ hg).2.2.2 i _ hc
   rw [List.getD_eq_getElem?_getD, hv] at h3
   rw [h2]; exact h3
 · exact hs.frame u
theorem LeX.to {s : St} {F G : St → Prop} (h : LeX s F) (k : ∀ s', F s' → LeX s' G) : LeX s G := fun E n a w hs => by
 obtain ⟨s', h1, h2⟩ := h E n a w hs
 exact k s' h1 E n a w h2
end Go.Vm
end

section
namespace Go.Rt
open Go.Vm
abbrev skE : Sk := (true, [.i .i64, .i .i64, .i .i64, .i .i64, .b, .i .i64, .s, .b], false)
open Classical in
noncomputable def gE (S : Eg → Prop) : List Value → Option (List IV)
 | [.int .i64 f, .int .i64 t, .int .i64 k, .int .i64 tb, .bool x, .int .i64 n, .string s, .bool c] => if S ⟨f, t, k, tb, ⟨x, n, s⟩, c⟩ then some [ci 1] else none
 | _ => none
theorem c2P : gE (fun _ => False) = fun _ => none := by
 funext q; unfold gE; split
 · rw [if_neg]; exact fun h => h
 · rfl
theorem c3P (S : Eg → Prop) (e : Eg) : gset (gE S) [.int .i64 e.frm, .int .i64 e.to, .int .i64 e.kind, .int .i64 e.table, .bool e.key.text, .int .i64 e.key.n, .string e.key.s, .bool e.cursor] (some [ci 1]) = gE (fun x => S x ∨ x = e) := by
 funext q
 simp only [gset]
 split
 · rename_i h; subst h
   simp only [gE]
   rw [if_pos]
   exact .inr rfl
 · rename_i hne
   unfold gE
   split
   · rename_i f t k tb x n s c
     have hn : ¬((⟨f, t, k, tb, ⟨x, n, s⟩, c⟩ : Eg) = e) := by rintro rfl; exact hne rfl
     by_cases hp : S ⟨f, t, k, tb, ⟨x, n, s⟩, c⟩
     · rw [if_pos hp, if_pos (.inl hp)]
     · rw [if_neg hp, if_neg fun g => g.elim hp hn]
   · rfl
def grIV (h : Hs) (x : Value) : IV := .pt [.lst 1 (tbsC h.tables), .lst 22 (evsC h.events), .lst 5 (insC h.order), bkIV h.events h.order, .v x]
noncomputable abbrev grH (S : Eg → Prop) (x : Value) : Hp := [(1001, .map skE (gE S)), (1002, .gh ZT [x] [.mpr 1001])]
def addE (S : Eg → Prop) (e : Eg) (m : Eg) : Prop := S m ∨ (m = e ∧ e.frm ≠ e.to)
set_option maxHeartbeats 4000000 in
theorem c4P (h : Hs) (S : Eg → Prop) (x : Value) (e : Eg) : b1v prog false n_a6k [.iv (grIV h x), e.av] (grH S x) (.tup []) (grH (addE S e) x) := by
 refine a0J a6k_is (by simp) (by decide) (by simp) (by simp [Ob.isLent]) ?_
 by_cases hft : e.frm = e.to
 · have hS : addE S e = S := by funext m; exact propext ⟨fun g => g.elim id fun g => absurd hft g.2, .inl⟩
   rw [hS]
   simp -dsimp [a4j_put, Eg.av, Eg.cells, hft]
 · have hS : addE S e = fun m => S m ∨ m = e := by funext m; exact propext ⟨fun g => g.elim .inl fun g => .inr g.1, fun g => g.elim .inl fun g => .inr ⟨g, hft⟩⟩
   have hge := (c3P S e).symm
   rw [hS]
   simp -dsimp [a4j_put, Eg.av, Eg.cells, hft, grIV, hge, St.unr, b1Y, b0Y]
def addL (S : Eg → Prop) (f : Nat → List Eg) (i : Nat) (m : Eg) : Prop := S m ∨ (m.frm ≠ m.to ∧ ∃ j, j < i ∧ m ∈ f j)
def addK {κ : Type} (S : Eg → Prop) (F : κ → List Eg) (ks : List κ) (m : Eg) : Prop := S m ∨ (m.frm ≠ m.to ∧ ∃ k, k ∈ ks ∧ m ∈ F k)
theorem c5P (S : Eg → Prop) (f : Nat → List Eg) : addL S f 0 = S := by
 funext m; exact propext ⟨fun g => g.elim id fun ⟨_, j, hj, _⟩ => absurd hj (Nat.not_lt_zero _), .inl⟩
theorem c6P {S : Eg → Prop} {f : Nat → List Eg} {i : Nat} (h : f i = []) : addL S f (i + 1) = addL S f i := by
 funext m
 refine propext ⟨fun g => g.imp id fun ⟨h1, j, hj, hm⟩ => ⟨h1, j, ?_, hm⟩, fun g => g.imp id fun ⟨h1, j, hj, hm⟩ => ⟨h1, j, by omega, hm⟩⟩
 rcases Nat.lt_or_ge j i with g | g
 · exact g
 · have : j = i := by omega
   subst this; rw [h] at hm; cases hm
theorem c7P {S : Eg → Prop} {f : Nat → List Eg} {i : Nat} {e : Eg} (h : f i = [e]) : addL S f (i + 1) = addE (addL S f i) e := by
 funext m
 refine propext ⟨fun g => ?_, fun g => ?_⟩
 · rcases g with g | ⟨h1, j, hj, hm⟩
   · exact .inl (.inl g)
   · rcases Nat.lt_or_ge j i with g | g
     · exact .inl (.inr ⟨h1, j, g, hm⟩)
     · have : j = i := by omega
       subst this
       rw [h, List.mem_singleton] at hm
       subst hm; exact .inr ⟨rfl, h1⟩
 · rcases g with (g | ⟨h1, j, hj, hm⟩) | ⟨rfl, h1⟩
   · exact .inl g
   · exact .inr ⟨h1, j, by omega, hm⟩
   · exact .inr ⟨h1, i, by omega, by rw [h]; exact List.mem_singleton.2 rfl⟩
theorem c8P {κ : Type} (S : Eg → Prop) (F : κ → List Eg) : addK S F [] = S := by
 funext m; exact propext ⟨fun g => g.elim id fun ⟨_, k, hk, _⟩ => (by cases hk), .inl⟩
theorem c9P {κ : Type} (S : Eg → Prop) (F : κ → List Eg) (ks : List κ) (k : κ) (f : Nat → List Eg) (n : Nat) (hf : ∀ m, m ∈ F k ↔ ∃ j, j < n ∧ m ∈ f j) : addK S F (ks ++ [k]) = addL (addK S F ks) f n := by
 funext m
 refine propext ⟨fun g => ?_, fun g => ?_⟩
 · rcases g with g | ⟨h1, k', hk, hm⟩
   · exact .inl (.inl g)
   · rcases List.mem_append.1 hk with g | g
     · exact .inl (.inr ⟨h1, k', g, hm⟩)
     · rw [List.mem_singleton.1 g] at hm
       exact .inr ⟨h1, (hf m).1 hm⟩
 · rcases g with (g | ⟨h1, k', hk, hm⟩) | ⟨h1, hm⟩
   · exact .inl g
   · exact .inr ⟨h1, k', List.mem_append_left _ hk, hm⟩
   · exact .inr ⟨h1, k, by simp, (hf m).2 hm⟩
theorem c0Q {κ : Type} (S : Eg → Prop) (F : κ → List Eg) (ks : List κ) (k : κ) (hf : F k = []) : addK S F (ks ++ [k]) = addK S F ks := by
 rw [c9P S F ks k (fun _ => []) 0 (fun m => by rw [hf]; simp), c5P]
end Go.Rt
end

section
namespace Go.Rt
open Go.Vm
def rowO (h : Hs) (o : Ins) : List AV := [o.key.av, .iv (.lst 2 (vsC (chaB h.events h.order o.table o.key)))]
def b4F (h : Hs) (l : List Ins) : List (List AV) := l.map (rowO h)
def ofT (table : Int) (o : Ins) : Bool := decide (o.table = table)
def PreC (h : Hs) (table : Int) (pre : List (List AV)) (x : List AV) : Prop := ∃ (i : Nat) (o : Ins), h.order[i]? = some o ∧ o.table = table ∧ pre = b4F h ((h.order.take i).filter (ofT table)) ∧ x = rowO h o
def AllC (h : Hs) (table : Int) (xs : List (List AV)) : Prop := xs = b4F h (h.order.filter (ofT table))
theorem b5F {table : Int} {l : List Ins} {i : Nat} {o : Ins} (ho : l[i]? = some o) : (l.take (i + 1)).filter (ofT table) = (l.take i).filter (ofT table) ++ if o.table = table then [o] else [] := by
 rw [show l.take (i + 1) = l.take i ++ [o] by rw [List.take_add_one, ho]; rfl, List.filter_append]
 congr 1
 unfold ofT
 by_cases h : o.table = table <;> simp [h]
set_option maxHeartbeats 4000000 in
theorem b6F {h : Hs} (hol : h.order.length < 2 ^ 62) (table : Int) (x : Value) (hc : ∀ k, (chaB h.events h.order table k).length < 2 ^ 42) :
   b8n prog n_a0l [.pt [grIV h x], .pt [ci table]] (PreC h table) (AllC h table) := by
 intro l Zs Zx cont hy
 refine b3A a0l_is (by simp) (by decide) ?_
 simp -dsimp [a0l, grIV]
 refine a7H [] [5] h.order.length (fun i => ⟨[(12, vi i), (11, vi h.order.length), (10, .iv (.lst 5 (insC h.order))), (0, .iv (.v (.func (.yield l) #[] #[]))), (1, .iv (.pt [grIV h x])), (2, .iv (.pt [ci table]))],
   [(1000, .gh (Zs (b4F h ((h.order.take i).filter (ofT table)))) [] [])]⟩) (fun _ => True) ?_ trivial ?_
 · simp -dsimp [grIV, b4F]
 · intro i hi _
   simp -dsimp [a0l_l5]
   refine ⟨fun hlt => ?_, fun hge => ?_⟩
   · obtain ⟨o, ho⟩ := c8Y hlt
     have hw := c9Y (n := (i : Int) + 1) (by omega)
     have hst := b5F (table := table) ho
     by_cases ht : o.table = table
     · simp -dsimp [ho, Ins.cells_eq o, ht, grIV]
       rw [if_pos ht] at hst
       have hp : PreC h table (b4F h ((h.order.take i).filter (ofT table))) (rowO h o) := ⟨i, o, ho, ht, rfl, rfl⟩
       have hrow : b4F h ((h.order.take i).filter (ofT table)) ++ [rowO h o] = b4F h ((h.order.take (i + 1)).filter (ofT table)) := by
         rw [hst]; simp [b4F]
       have hro : rowO h o = [o.key.av, .iv (.lst 2 (vsC (chaB h.events h.order table o.key)))] := by unfold rowO; rw [ht]
       constructor
       all_goals refine d3l (b8o h.events h.order table o.key (hc o.key)) rfl (by simp) (by simp) (by simp) (by simp) ?_
       all_goals simp -dsimp
       all_goals refine b4A (g := 1000) (hy _ _ hp) (by simp) (by rw [hro]; simp) (by rw [hro]; rfl) ?_
       all_goals (
         cases hcn : cont (b4F h ((h.order.take i).filter (ofT table))) (rowO h o) with
         | true =>
           simp -dsimp [hcn, hrow, hw]
           exact ⟨hlt, rfl⟩
         | false =>
           simp -dsimp [hcn]
           exact ⟨Zx (b4F h ((h.order.take i).filter (ofT table))) (rowO h o), by simp, fun A B w hz => .inr ⟨_, _, hz⟩, by simp⟩)
     · rw [if_neg ht, List.append_nil] at hst
       simp -dsimp [ho, Ins.cells_eq o, ht, hw, grIV, hst]
       exact hlt
   · have : (h.order.take i) = h.order := List.take_of_length_le (by omega)
     rw [this]
     exact ⟨Zs (b4F h (h.order.filter (ofT table))), by simp, fun A B w hz => .inl ⟨_, rfl, hz⟩, by simp⟩
theorem b7F (h : Hs) (table : Int) (x : Value) : b2v prog false n_a5k [.iv (grIV h x), vi table] [] (fun r K => r = .fn n_a0l [] [.ptr 2 0, .ptr 3 0] ∧ K = [(3, .box [vi table]), (2, .box [.iv (grIV h x)])]) := by
 refine b6A _ a5k_is (by simp) (by decide) (fun x H' h => by
   obtain ⟨rfl, rfl⟩ := h
   refine ⟨fun id o ho => ?_, by simp⟩
   simp only [Vm.look] at ho
   split at ho
   · cases ho; rfl
   · split at ho
     · cases ho; rfl
     · cases ho) ?_
 simp -dsimp [a4j_chains]
 exact ⟨[], _, _, ⟨rfl, rfl⟩, by simp -dsimp⟩
theorem b8F (h : Hs) (table : Int) (x : Value) : b1v prog false n_a5k [.iv (grIV h x), vi table] [] (.fn n_a0l [] [.ptr 902 0, .ptr 903 0]) [(903, .box [vi table]), (902, .box [.iv (grIV h x)])] :=
 ((b7F h table x).one (fun _ _ e => e) (fun id o ho => by
   simp only [Vm.look] at ho
   split at ho
   · cases ho; rfl
   · split at ho
     · cases ho; rfl
     · cases ho)).ren (Ren.swaps [(2, 902), (3, 903)]) rfl
theorem b9F : okFn prog n_a0l = true := by kernel_rfl
end Go.Rt
end

section
namespace Go.Rt
open Go.Vm
def keyOfA : List AV → Vl
 | [.agg [.iv (.v (.bool t)), .iv (.v (.int _ n)), .iv (.v (.string s))], _] => ⟨t, n, s⟩
 | _ => Vl.zero
def c9q (p : List (List AV)) : List Vl := p.map keyOfA
theorem c0r (h : Hs) (l : List Ins) : c9q (b4F h l) = l.map Ins.key := by
 unfold c9q b4F
 rw [List.map_map]
 rfl
def wwAt (h : Hs) (table : Int) (k : Vl) (i : Nat) : List Eg := if 2 ≤ i then [⟨(((chaB h.events h.order table k)[i - 1]?).getD ⟨0, 0⟩).txn, (((chaB h.events h.order table k)[i]?).getD ⟨0, 0⟩).txn, 1, table, k, false⟩] else []
def wwK (h : Hs) (table : Int) (k : Vl) : List Eg := (List.range (chaB h.events h.order table k).length).flatMap (wwAt h table k)
theorem mem_range {n : Nat} {f : Nat → List Eg} {m : Eg} : m ∈ (List.range n).flatMap f ↔ ∃ j, j < n ∧ m ∈ f j := by
 rw [List.mem_flatMap]
 simp
set_option maxHeartbeats 8000000 in
theorem c1r {h : Hs} (hol : h.order.length < 2 ^ 62) (table : Int) (x : Value) (hc : ∀ k, (chaB h.events h.order table k).length < 2 ^ 42) (S : Eg → Prop) :
   b1v prog false n_a3j [.iv (grIV h x), vi table] (grH S x) (.tup []) (grH (addK S (wwK h table) ((h.order.filter (ofT table)).map Ins.key)) x) := by
 refine a0J a3j_is (by simp) (by decide) (by simp) (by simp [Ob.isLent]) ?_
 simp -dsimp [a4j_writes]
 refine d3l (b8F h table x) rfl (by simp) (by simp) (by simp) (by simp) ?_
 simp -dsimp
 refine b5A [902, 903] [4] 990 [(9, .fn n_a0l [] [.val (.pt [grIV h x]), .val (.pt [ci table])]), (3, .ptr 3 0), (2, .ptr 2 0)] (fun p => ∃ i, p = b4F h ((h.order.take i).filter (ofT table)))
   (fun p => (3, .box [vi table]) :: (2, .box [.iv (grIV h x)]) :: grH (addK S (wwK h table) (c9q p)) x) (b6F hol table x hc) ?_ (by simp) b9F (by decide) (by simp) (by simp) ?_ ⟨0, rfl⟩ ?_ ?_
 · simp -dsimp [c9q, c8P]
 · rintro pre _ ⟨i, o, _, _, _, rfl⟩
   rfl
 · rintro vs _ _ ⟨j, rfl⟩ ⟨i, o, ho, ht, hpre, rfl⟩
   have hst := b5F (table := table) ho
   rw [if_pos ht] at hst
   rw [hpre]
   have hrow : b4F h ((h.order.take i).filter (ofT table)) ++ [rowO h o] = b4F h ((h.order.take (i + 1)).filter (ofT table)) := by
     rw [hst]; simp [b4F]
   refine ⟨⟨i + 1, hrow⟩, ?_⟩
   have hks : c9q (b4F h ((h.order.take i).filter (ofT table)) ++ [rowO h o]) = c9q (b4F h ((h.order.take i).filter (ofT table))) ++ [o.key] := by
     unfold c9q; rw [List.map_append]; rfl
   have hro : rowO h o = [o.key.av, .iv (.lst 2 (vsC (chaB h.events h.order table o.key)))] := by unfold rowO; rw [ht]
   have hlen := hc o.key
   have hnext := c9P S (wwK h table) (c9q (b4F h ((h.order.take i).filter (ofT table)))) o.key (wwAt h table o.key) (chaB h.events h.order table o.key).length (fun m => mem_range)
   have hf : ∀ q, wwAt h table o.key q = if 2 ≤ q then [⟨(((chaB h.events h.order table o.key)[q - 1]?).getD ⟨0, 0⟩).txn, (((chaB h.events h.order table o.key)[q]?).getD ⟨0, 0⟩).txn, 1, table, o.key, false⟩] else [] := fun q => rfl
   rw [hks, hnext, hro]
   generalize addK S (wwK h table) (c9q (b4F h ((h.order.take i).filter (ofT table)))) = S0
   generalize wwAt h table o.key = f at hf ⊢
   generalize chaB h.events h.order table o.key = c at hf hlen ⊢
   simp -dsimp [a3j_a9, a3j_b10, parS, St.set_mk, frCs]
   have f0 : f 0 = [] := by rw [hf, if_neg (by omega)]
   have f1 : f 1 = [] := by rw [hf, if_neg (by omega)]
   refine a7H [] [] (c.length - 2) (fun q => ⟨[(6, vi ((q + 2 : Nat) : Int)), (5, .iv (.lst 2 (vsC c))), (4, .ptr 4 0), (3, .ptr 3 0), (2, .ptr 2 0)],
     [(4, .box (o.key.cells.map .iv)), (990, .gh ZT vs [.fn n_a0l [] [.val (.pt [grIV h x]), .val (.pt [ci table])], .ptr 3 0, .ptr 2 0]), (3, .box [vi table]), (2, .box [.iv (grIV h x)])] ++ grH (addL S0 f (q + 2)) x⟩) (fun _ => True) ?_ trivial ?_
   · have : addL S0 f (0 + 2) = S0 := by rw [c6P f1, c6P f0, c5P]
     simp -dsimp [this]
   · intro q hq _
     simp -dsimp [a3j_l8]
     refine ⟨fun hlt => ?_, fun hge => ?_⟩
     · obtain ⟨v, hv⟩ : ∃ v, c[q + 2]? = some v := c8Y (by omega)
       obtain ⟨u, hu⟩ : ∃ u, c[q + 1]? = some u := c8Y (by omega)
       have w1 : IntKind.i64.wrap ((q : Int) + 2 - 1) = ((q + 1 : Nat) : Int) := by rw [c9Y (by omega)]; omega
       have w2 : IntKind.i64.wrap ((q : Int) + 2 + 1) = (q : Int) + 1 + 2 := by rw [c9Y (by omega)]; omega
       have t1 : ((q : Int) + 2).toNat = q + 2 := by omega
       have p1 : (0 : Int) ≤ (q : Int) + 2 := by omega
       have hfq : f (q + 2) = [⟨u.txn, v.txn, 1, table, o.key, false⟩] := by
         rw [hf, if_pos (by omega), show q + 2 - 1 = q + 1 from rfl, hu, hv]; rfl
       have hadd := c7P (S := S0) hfq
       simp -dsimp [w1, t1, p1, hv, hu, b2Z]
       refine ⟨by omega, ?_⟩
       refine a3K (c4P h (addL S0 f (q + 2)) x ⟨u.txn, v.txn, 1, table, o.key, false⟩) rfl (by simp) (by simp [Eg.av, Eg.cells]) (by simp [Eg.av, Eg.cells]) (by simp) (by simp) (by simp) (by simp) ?_
       rw [← hadd]
       simp -dsimp [w2]
       omega
     · have hend : addL S0 f (q + 2) = addL S0 f c.length := by
         rcases Nat.lt_or_ge c.length 2 with g | g
         · have hq0 : q = 0 := by omega
           have h2 : addL S0 f (0 + 2) = S0 := by rw [c6P f1, c6P f0, c5P]
           rw [hq0, h2]
           have : c.length = 0 ∨ c.length = 1 := by omega
           rcases this with e | e <;> rw [e]
           · rw [c5P]
           · rw [c6P f0, c5P]
         · rw [show q + 2 = c.length by omega]
       rw [hend]
 · rintro vs _ _ hS
   rw [hS, c0r]
   simp -dsimp [frCs]
end Go.Rt
end

section
namespace Go.Rt
open Go.Vm
theorem c5e (es : List Ev) (os : List Ins) (table : Int) (k : Vl) (v : Vs) : plaB es os table k v < (chaB es os table k).length ∧ -1 ≤ plaB es os table k v := by
 unfold plaB
 split
 · have := b8r es os table k; omega
 · rcases b3I (fun x : Vs => decide (x.txn = v.txn)) (chaB es os table k) with ⟨i, x, g1, _, g3, _⟩ | ⟨_, g⟩
   · have := (List.getElem?_eq_some_iff.1 g1).1
     rw [g3]; omega
   · rw [g]; omega
def rdT (e : Ev) (p : Int) (c : List Vs) (S : Eg → Prop) (m : Eg) : Prop := S m ∨ (m.frm ≠ m.to ∧ m ∈ rd1 e p ++ rd2 e p c)
def rdU (e : Ev) (p : Int) (c : List Vs) (S : Eg → Prop) (m : Eg) : Prop := S m ∨ (m.frm ≠ m.to ∧ m ∈ rd2 e p c)
set_option maxHeartbeats 8000000 in
theorem c6e {h : Hs} (x : Value) (e : Ev) (hrow : b9V h.events) (hc : (chaB h.events h.order e.table e.key).length < 2 ^ 42) (S : Eg → Prop) :
   b1v prog false n_a5j [.iv (grIV h x), e.av] (grH S x) (.tup []) (grH (addK S (fun _ : Unit => a7K h e) [()]) x) := by
 have hP := b2p h.events h.order e.table e.key e.frm hrow hc
 have hC := b8o h.events h.order e.table e.key hc
 have hlt := c5e h.events h.order e.table e.key e.frm
 have hS : addK S (fun _ : Unit => a7K h e) [()] = rdT e (plaB h.events h.order e.table e.key e.frm) (chaB h.events h.order e.table e.key) S := by
   funext m; unfold addK a7K rdT; simp
 rw [hS]
 generalize plaB h.events h.order e.table e.key e.frm = p at *
 generalize chaB h.events h.order e.table e.key = c at *
 refine a0J a5j_is (by simp) (by decide) (by simp) (by simp [Ob.isLent]) ?_
 simp -dsimp [a4j_read, grIV, Ev.av, Ev.cells_eq e]
 refine a0G hP (by simp) (by simp) ?_
 simp -dsimp
 refine d3l hC rfl (by simp) (by simp) (by simp) (by simp) ?_
 simp -dsimp
 have hT1 : 0 < p → rdT e p c S = rdU e p c (addE S ⟨e.frm.txn, e.txn, 2, e.table, e.key, e.cur⟩) := by
   intro h1
   funext m
   unfold rdT rdU rd1 addE
   rw [if_pos h1]
   simp only [List.cons_append, List.nil_append, List.mem_cons, or_assoc, eq_iff_iff]
   constructor
   · rintro (g | ⟨g1, rfl | g2⟩)
     · exact .inl g
     · exact .inr (.inl ⟨rfl, g1⟩)
     · exact .inr (.inr ⟨g1, g2⟩)
   · rintro (g | ⟨rfl, g1⟩ | ⟨g1, g2⟩)
     · exact .inl g
     · exact .inr ⟨g1, .inl rfl⟩
     · exact .inr ⟨g1, .inr g2⟩
 have hT0 : ¬0 < p → rdT e p c S = rdU e p c S := by
   intro h1
   funext m
   unfold rdT rdU rd1
   rw [if_neg h1, List.nil_append]
 have hU1 : ∀ (S : Eg → Prop) (v : Vs), 0 ≤ p → c[(p + 1).toNat]? = some v → p + 1 < c.length → e.frm.txn ≠ e.txn → rdU e p c S = addE S ⟨e.txn, v.txn, 4, e.table, e.key, e.cur⟩ := by
   intro S v g1 g2 g3 g4
   funext m
   unfold rdU rd2 addE
   rw [if_pos ⟨g1, g3, g4⟩, g2, List.mem_singleton, eq_iff_iff]
   constructor
   · rintro (g | ⟨g1, rfl⟩)
     · exact .inl g
     · exact .inr ⟨rfl, g1⟩
   · rintro (g | ⟨rfl, g1⟩)
     · exact .inl g
     · exact .inr ⟨g1, rfl⟩
 have hU0 : ∀ (S : Eg → Prop), ¬(0 ≤ p ∧ p + 1 < c.length ∧ e.frm.txn ≠ e.txn) → rdU e p c S = S := by
   intro S g
   funext m
   unfold rdU rd2
   rw [if_neg g]; simp
 have hw : IntKind.i64.wrap (p + 1) = p + 1 := c9Y (by omega)
 by_cases h1 : 0 < p
 · rw [hT1 h1]
   have h1' : ¬p ≤ 0 := by omega
   simp -dsimp [h1, h1']
   refine a3K (c4P h S x ⟨e.frm.txn, e.txn, 2, e.table, e.key, e.cur⟩) rfl (by simp) (by simp [Eg.av, Eg.cells, grIV]) (by simp [Eg.av, Eg.cells]) (by simp) (by simp) (by simp) (by simp) ?_
   generalize addE S ⟨e.frm.txn, e.txn, 2, e.table, e.key, e.cur⟩ = S1
   have h0 : 0 ≤ p := by omega
   by_cases h2 : p + 1 < c.length
   · by_cases h3 : e.frm.txn = e.txn
     · rw [hU0 S1 fun g => g.2.2 h3]
       simp -dsimp [h0, hw, h2, h3]
     · obtain ⟨v, hv⟩ : ∃ v, c[(p + 1).toNat]? = some v := c8Y (by omega)
       rw [hU1 S1 v h0 hv h2 h3]
       have h4 : 0 ≤ p + 1 := by omega
       have hv' : ∀ hh, (vsC c)[(p + 1).toNat]'hh = v.cells := fun hh => (List.getElem?_eq_some_iff.1 (show (vsC c)[(p + 1).toNat]? = some v.cells by rw [c6n, hv]; rfl)).2
       simp -dsimp [h0, hw, h2, h3, hv', h4, b2Z]
       refine a3K (c4P h S1 x ⟨e.txn, v.txn, 4, e.table, e.key, e.cur⟩) rfl (by simp) (by simp [Eg.av, Eg.cells, grIV]) (by simp [Eg.av, Eg.cells]) (by simp) (by simp) (by simp) (by simp) ?_
       simp -dsimp
   · rw [hU0 S1 fun g => h2 g.2.1]
     simp -dsimp [h0, hw, h2]
 · rw [hT0 h1]
   have h1' : p ≤ 0 := by omega
   simp -dsimp [h1, h1']
   by_cases h0 : 0 ≤ p
   · obtain rfl : p = 0 := by omega
     have hw1 : IntKind.i64.wrap 1 = 1 := c9Y (by omega)
     by_cases h2 : 1 < c.length
     · have h2' : (1 : Int) < c.length := by omega
       have h2n : ¬(c.length : Int) ≤ 1 := by omega
       by_cases h3 : e.frm.txn = e.txn
       · rw [hU0 S fun g => g.2.2 h3]
         simp -dsimp [hw1, h2, h2', h2n, h3]
       · obtain ⟨v, hv⟩ : ∃ v, c[1]? = some v := c8Y h2
         rw [hU1 S v (by omega) (by simpa using hv) (by omega) h3]
         have hv' : ∀ hh, c[1]'hh = v := fun hh => (List.getElem?_eq_some_iff.1 hv).2
         simp -dsimp [hw1, h2, h2', h2n, h3, hv', b2Z]
         refine a3K (c4P h S x ⟨e.txn, v.txn, 4, e.table, e.key, e.cur⟩) rfl (by simp) (by simp [Eg.av, Eg.cells, grIV]) (by simp [Eg.av, Eg.cells]) (by simp) (by simp) (by simp) (by simp) ?_
         simp -dsimp
     · have h2' : ¬(1 : Int) < c.length := by omega
       rw [hU0 S fun g => h2' (by simpa using g.2.1)]
       simp -dsimp [hw1, h2, h2']
   · rw [hU0 S fun g => h0 g.1]
     simp -dsimp [h0]
end Go.Rt
end

section
namespace Go.Rt
open Go.Vm
abbrev skRf : Sk := (true, [.b, .i .i64, .s], true)
def c7y (l : List Rf) (k : Vl) : Option Rf := c0n (fun r : Rf => decide (r.key = k)) l
def gRf (l : List Rf) : List Value → Option (List IV)
 | [.bool t, .int .i64 n, .string s] => (c7y l ⟨t, n, s⟩).map fun r => r.frm.cells
 | _ => none
theorem c8y : gRf [] = fun _ => none := by
 funext q; unfold gRf; split
 · rfl
 · rfl
theorem c9y (l : List Rf) (r : Rf) : gset (gRf l) [.bool r.key.text, .int .i64 r.key.n, .string r.key.s] (some [ci r.frm.txn, ci r.frm.n]) = gRf (l ++ [r]) := by
 funext q
 simp only [gset]
 split
 · rename_i h; subst h
   simp only [gRf, c7y, c1n]
   rw [if_pos (by simp)]
   rfl
 · rename_i hne
   unfold gRf
   split
   · rename_i t n s
     simp only [c7y, c1n]
     rw [if_neg]
     intro hk
     rw [decide_eq_true_eq] at hk
     exact hne (by rw [hk])
   · rfl
theorem c0z (l : List Rf) (t : Bool) (n : Int) (s : ByteArray) :
   lkR [.iv (.v (.int .i64 0)), .iv (.v (.int .i64 0))] true false (gRf l [Value.bool t, Value.int .i64 n, Value.string s]) = (a6K l ⟨t, n, s⟩).av := by
 simp only [gRf, a6K]
 unfold c7y
 cases c0n (fun r : Rf => decide (r.key = ⟨t, n, s⟩)) l with
 | none => rfl
 | some r => rfl
set_option maxHeartbeats 8000000 in
theorem c1z {h : Hs} (hol : h.order.length < 2 ^ 62) (x : Value) (e : Ev) (heok : e.Ok) (hrow : b9V h.events) (hc : ∀ k, (chaB h.events h.order e.table k).length < 2 ^ 42) (S : Eg → Prop) :
   b1v prog false n_a6j [.iv (grIV h x), e.av] (grH S x) (.tup []) (grH (addK S (a9K h e) ((h.order.filter (ofT e.table)).map Ins.key)) x) := by
 refine a0J a6j_is (by simp) (by decide) (by simp) (by simp [Ob.isLent]) ?_
 simp -dsimp [a4j_saw, Ev.av, Ev.cells_eq e]
 refine a7H [] [6] e.refs.length (fun i => ⟨[(16, vi i), (15, vi e.refs.length), (14, .iv (.lst 5 (c1Q e.refs))), (4, .ptr 4 0), (3, .ptr 3 0), (2, .ptr 2 0)],
   [(4, .box [.mpr 12]), (12, .map skRf (gRf (e.refs.take i))), (3, .box (e.cells.map .iv)), (2, .box [.iv (grIV h x)])] ++ grH S x⟩) (fun _ => True) ?_ trivial ?_
 · simp -dsimp [c8y, Ev.cells_eq e]
 · intro i hi _
   simp -dsimp [a6j_l7]
   have hrl := heok.refs
   refine ⟨fun hlt => ?_, fun hge => ?_⟩
   · obtain ⟨r, hr⟩ := c8Y hlt
     have hw := c9Y (n := (i : Int) + 1) (by omega)
     have hst : e.refs.take (i + 1) = e.refs.take i ++ [r] := by rw [List.take_add_one, hr]; rfl
     simp -dsimp [hr, hw, Rf.cells_eq r, c9y, hst]
     exact hlt
   · rw [List.take_of_length_le hge]
     simp -dsimp [Ev.cells_eq e]
     refine d3l (b8F h e.table x) rfl (by simp) (by simp) (by simp) (by simp) ?_
     simp -dsimp
     have hev : Ob.box [AV.iv (ci e.txn), AV.iv (ci e.kind), AV.iv (ci e.level), AV.iv (ci e.table), AV.iv (cb e.key.text), AV.iv (ci e.key.n), AV.iv (IV.v (Value.string e.key.s)),
                       AV.iv (ci e.frm.txn), AV.iv (ci e.frm.n), AV.iv (ci e.n), AV.iv (IV.lst 3 (rowC e.row)),
                       AV.iv (ci e.pred.op), AV.iv (ci e.pred.col), AV.iv (cb e.pred.v.text), AV.iv (ci e.pred.v.n),
                       AV.iv (IV.v (Value.string e.pred.v.s)), AV.iv (cb e.pred.w.text), AV.iv (ci e.pred.w.n),
                       AV.iv (IV.v (Value.string e.pred.w.s)), AV.iv (IV.lst 9 (List.map Pd.cells e.pred.l)),
                       AV.iv (IV.lst 5 (c1Q e.refs)), AV.iv (cb e.cur)] = .box (e.cells.map .iv) := by rw [Ev.cells_eq e]; rfl
     rw [hev]
     refine b5A [902, 903] [7, 9] 990 [(29, .fn n_a0l [] [.val (.pt [grIV h x]), .val (.pt [ci e.table])]), (4, .ptr 4 0), (3, .ptr 3 0), (2, .ptr 2 0)] (fun p => ∃ i, p = b4F h ((h.order.take i).filter (ofT e.table)))
       (fun p => (4, .box [.mpr 12]) :: (12, .map skRf (gRf e.refs)) :: (3, .box (e.cells.map .iv)) :: (2, .box [.iv (grIV h x)]) :: grH (addK S (a9K h e) (c9q p)) x) (b6F hol e.table x hc) ?_ (by simp) b9F (by decide) (by simp) (by simp) ?_ ⟨0, rfl⟩ ?_ ?_
     · simp -dsimp [c9q, c8P]
     · rintro pre _ ⟨i, o, _, _, _, rfl⟩
       rfl
     · rintro vs _ _ ⟨j, rfl⟩ ⟨i, o, ho, ht, hpre, rfl⟩
       have hst := b5F (table := e.table) ho
       rw [if_pos ht] at hst
       rw [hpre]
       have hrw : b4F h ((h.order.take i).filter (ofT e.table)) ++ [rowO h o] = b4F h ((h.order.take (i + 1)).filter (ofT e.table)) := by
         rw [hst]; simp [b4F]
       refine ⟨⟨i + 1, hrw⟩, ?_⟩
       have hks : c9q (b4F h ((h.order.take i).filter (ofT e.table)) ++ [rowO h o]) = c9q (b4F h ((h.order.take i).filter (ofT e.table))) ++ [o.key] := by
         unfold c9q; rw [List.map_append]; rfl
       have hro : rowO h o = [o.key.av, .iv (.lst 2 (vsC (chaB h.events h.order e.table o.key)))] := by unfold rowO; rw [ht]
       have hlen := hc o.key
       have hP := b2p h.events h.order e.table o.key (a6K e.refs o.key) hrow hlen
       have hCh : ∀ n : Int, b1v prog true n_a5c [.iv (bkIV h.events h.order), vi e.table, o.key.av, vi n, e.pred.av] [] (vb (chgB h.events h.order e.table o.key n e.pred)) [] := fun n => b9r h.events h.order e.table o.key n heok.pred hrow hlen
       rw [hks, hro]
       simp -dsimp [a6j_a23, a6j_b24, parS, St.set_mk, frCs, c0z, Ev.cells_eq e]
       simp -dsimp [grIV]
       refine a0G hP (by simp) (by simp) ?_
       by_cases hskip : plaB h.events h.order e.table o.key (a6K e.refs o.key) < 0 ∨ (a6K e.refs o.key).txn = e.txn
       · have hK : a9K h e o.key = [] := by unfold a9K; rw [if_pos hskip]
         rw [c0Q _ _ _ _ hK]
         by_cases h0 : plaB h.events h.order e.table o.key (a6K e.refs o.key) < 0
         · simp -dsimp [h0]
           rfl
         · have h1 := hskip.resolve_left h0
           simp -dsimp [h0, h1]
           rfl
       · have h0 : ¬plaB h.events h.order e.table o.key (a6K e.refs o.key) < 0 := fun g => hskip (.inl g)
         have h1 : ¬(a6K e.refs o.key).txn = e.txn := fun g => hskip (.inr g)
         have hK : a9K h e o.key = (List.range (chaB h.events h.order e.table o.key).length).flatMap (a8K h e o.key (plaB h.events h.order e.table o.key (a6K e.refs o.key))) := by unfold a9K; rw [if_neg hskip]
         rw [c9P _ (a9K h e) _ o.key (a8K h e o.key (plaB h.events h.order e.table o.key (a6K e.refs o.key))) (chaB h.events h.order e.table o.key).length (fun m => by rw [hK]; exact mem_range)]
         have hf : ∀ q, a8K h e o.key (plaB h.events h.order e.table o.key (a6K e.refs o.key)) q = if chgB h.events h.order e.table o.key q e.pred = true then
             [if (q : Int) ≤ plaB h.events h.order e.table o.key (a6K e.refs o.key) then ⟨(((chaB h.events h.order e.table o.key)[q]?).getD ⟨0, 0⟩).txn, e.txn, 3, e.table, o.key, false⟩ else ⟨e.txn, (((chaB h.events h.order e.table o.key)[q]?).getD ⟨0, 0⟩).txn, 5, e.table, o.key, false⟩] else [] := fun q => rfl
         generalize a8K h e o.key (plaB h.events h.order e.table o.key (a6K e.refs o.key)) = f at hf ⊢
         generalize plaB h.events h.order e.table o.key (a6K e.refs o.key) = p at *
         generalize addK S (a9K h e) (c9q (b4F h ((h.order.take i).filter (ofT e.table)))) = S0
         generalize chaB h.events h.order e.table o.key = c at *
         simp -dsimp [h0, h1]
         refine a7H [] [] c.length (fun q => ⟨[(55, vi q), (54, vi c.length), (10, vi p), (8, .iv (.lst 2 (vsC c))), (7, .ptr 7 0), (3, .ptr 3 0), (2, .ptr 2 0)],
           [(9, .box ((a6K e.refs o.key).cells.map .iv)), (7, .box (o.key.cells.map .iv)), (990, .gh ZT vs [.fn n_a0l [] [.val (.pt [grIV h x]), .val (.pt [ci e.table])], .ptr 4 0, .ptr 3 0, .ptr 2 0]),
             (4, .box [.mpr 12]), (12, .map skRf (gRf e.refs)), (3, .box (e.cells.map .iv)), (2, .box [.iv (grIV h x)])] ++ grH (addL S0 f q) x⟩) (fun _ => True) ?_ trivial ?_
         · simp -dsimp [c5P, Ev.cells_eq e, grIV]
         · intro q hq _
           have hP9 : List.take 9 (List.drop 11 (e.cells.map AV.iv)) = e.pred.cells.map AV.iv := Ev.pred_at e
           simp -dsimp [a6j_l22, Ev.cells_eq e]
           simp -dsimp [grIV]
           refine ⟨fun hlt => ?_, fun hge => ?_⟩
           · obtain ⟨v, hv⟩ := c8Y hlt
             have hw := c9Y (n := (q : Int) + 1) (by omega)
             refine a0G (hCh q) (by simp [Pd.av_eq]) (by simp [Pd.av_eq]) ?_
             have hfq := hf q
             rw [hv] at hfq
             cases hchg : chgB h.events h.order e.table o.key q e.pred with
             | false =>
               rw [hchg, if_neg (by simp)] at hfq
               have hadd := c6P (S := S0) hfq
               simp -dsimp [hchg, hw, hadd]
               exact ⟨hlt, rfl⟩
             | true =>
               rw [hchg, if_pos rfl] at hfq
               by_cases hle : (q : Int) ≤ p
               · rw [if_pos hle] at hfq
                 have hadd := c7P (S := S0) hfq
                 simp -dsimp [hchg, hle, hv]
                 refine a3K (c4P h (addL S0 f q) x ⟨v.txn, e.txn, 3, e.table, o.key, false⟩) rfl (by simp) (by simp [Eg.av, Eg.cells, grIV]) (by simp [Eg.av, Eg.cells]) (by simp) (by simp) (by simp) (by simp) ?_
                 have hadd' : addE (addL S0 f q) ⟨v.txn, e.txn, 3, e.table, o.key, false⟩ = addL S0 f (q + 1) := hadd.symm
                 rw [hadd']
                 simp -dsimp [hw]
                 exact ⟨hlt, rfl⟩
               · rw [if_neg hle] at hfq
                 have hadd := c7P (S := S0) hfq
                 simp -dsimp [hchg, hle, hv]
                 refine a3K (c4P h (addL S0 f q) x ⟨e.txn, v.txn, 5, e.table, o.key, false⟩) rfl (by simp) (by simp [Eg.av, Eg.cells, grIV]) (by simp [Eg.av, Eg.cells]) (by simp) (by simp) (by simp) (by simp) ?_
                 have hadd' : addE (addL S0 f q) ⟨e.txn, v.txn, 5, e.table, o.key, false⟩ = addL S0 f (q + 1) := hadd.symm
                 rw [hadd']
                 simp -dsimp [hw]
                 exact ⟨hlt, rfl⟩
           · rw [show q = c.length by omega]
     · rintro vs _ _ hS
       rw [hS, c0r]
       simp -dsimp [frCs]
end Go.Rt
end

section
namespace Go.Rt
open Go.Vm
def c1b : List Int → Int → Int
 | [], z => z
 | d :: r, z => if d ≠ 0 then d else c1b r z
set_option maxHeartbeats 4000000 in
theorem c2b (a b : Eg) : b1v prog true n_a1k [a.av, b.av] [] (vi (a.cmp0 b)) [] := by
 have hc : a.cmp0 b = c1b [IntKind.i64.wrap (a.frm - b.frm), IntKind.i64.wrap (a.to - b.to), IntKind.i64.wrap (a.kind - b.kind), IntKind.i64.wrap (a.table - b.table)] (a.key.cmp b.key) := rfl
 rw [hc]
 refine a4H a1k_is (by simp [Eg.av]) (by decide) rfl ?_
 simp -dsimp [c5k, Eg.av, Eg.cells, b2Z]
 generalize IntKind.i64.wrap (a.frm - b.frm) = d0
 generalize IntKind.i64.wrap (a.to - b.to) = d1
 generalize IntKind.i64.wrap (a.kind - b.kind) = d2
 generalize IntKind.i64.wrap (a.table - b.table) = d3
 refine a7H [] [] 4 (fun i => ⟨[(28, vi i), (27, .agg [vi d0, vi d1, vi d2, vi d3]), (2, .ptr 2 0), (3, .ptr 3 0)], [(2, .box (a.cells.map .iv)), (3, .box (b.cells.map .iv))]⟩)
   (fun i => (0 < i → d0 = 0) ∧ (1 < i → d1 = 0) ∧ (2 < i → d2 = 0) ∧ (3 < i → d3 = 0)) ?_ (by omega) ?_
 · simp -dsimp [Eg.cells]
 · intro i hi ⟨q0, q1, q2, q3⟩
   have w1 : IntKind.i64.wrap 1 = 1 := c9Y (by omega)
   have w2 : IntKind.i64.wrap 2 = 2 := c9Y (by omega)
   have w3 : IntKind.i64.wrap 3 = 3 := c9Y (by omega)
   have w4 : IntKind.i64.wrap 4 = 4 := c9Y (by omega)
   have hcase : i = 0 ∨ i = 1 ∨ i = 2 ∨ i = 3 ∨ i = 4 := by omega
   rcases hcase with rfl | rfl | rfl | rfl | rfl
   · by_cases h0 : d0 = 0
     · simp -dsimp [a1k_l7, h0, Eg.cells, w1]
     · simp -dsimp [a1k_l7, h0, c1b]
   · have q0 := q0 (by omega)
     by_cases h0 : d1 = 0
     · simp -dsimp [a1k_l7, h0, q0, Eg.cells, w2]
     · simp -dsimp [a1k_l7, h0, c1b, q0]
   · have q0 := q0 (by omega)
     have q1 := q1 (by omega)
     by_cases h0 : d2 = 0
     · simp -dsimp [a1k_l7, h0, q0, q1, Eg.cells, w3]
     · simp -dsimp [a1k_l7, h0, c1b, q0, q1]
   · have q0 := q0 (by omega)
     have q1 := q1 (by omega)
     have q2 := q2 (by omega)
     by_cases h0 : d3 = 0
     · simp -dsimp [a1k_l7, h0, q0, q1, q2, Eg.cells, w4]
     · simp -dsimp [a1k_l7, h0, c1b, q0, q1, q2]
   · have q0 := q0 (by omega)
     have q1 := q1 (by omega)
     have q2 := q2 (by omega)
     have q3 := q3 (by omega)
     simp -dsimp [a1k_l7, q0, q1, q2, q3, c1b, Eg.cells]
     refine a0G (b0n a.key b.key) (by simp) (by simp) ?_
     simp -dsimp [c1b, q0, q1, q2, q3]
set_option maxHeartbeats 4000000 in
theorem c3b (a b : Eg) : b1v prog true n_a0k [a.av, b.av] [] (vi (a.cmp b)) [] := by
 refine a4H a0k_is (by simp [Eg.av]) (by decide) rfl ?_
 have hc : a.cmp b = if a.cmp0 b ≠ 0 ∨ a.cursor = b.cursor then a.cmp0 b else if b.cursor = true then -1 else 1 := rfl
 have hs := c2b a b
 rw [hc]
 generalize a.cmp0 b = c at *
 simp -dsimp [a0k, Eg.av, Eg.cells]
 refine a0G hs (by simp [Eg.av, Eg.cells]) (by simp [Eg.av, Eg.cells]) ?_
 by_cases h0 : c = 0
 · cases hca : a.cursor <;> cases hcb : b.cursor <;> simp -dsimp [h0]
 · simp -dsimp [h0]
set_option maxHeartbeats 4000000 in
theorem c4b (a b : Eg) (ha : a.key.s.size < 2 ^ 63) : b1v prog true n_a9k [a.av, b.av] [] (vb (a.lss b)) [] := by
 refine a4H a9k_is (by simp [Eg.av]) (by decide) rfl ?_
 unfold Eg.lss
 have hs := b7n a.key b.key ha
 generalize a.key.cmp b.key = c at *
 by_cases h1 : a.frm = b.frm
 · by_cases h2 : a.to = b.to
   · by_cases h3 : a.kind = b.kind
     · by_cases h4 : a.table = b.table
       · simp -dsimp [a9k, Eg.av, Eg.cells, h1, h2, h3, h4]
         refine a0G hs (by simp) (by simp) ?_
         by_cases h5 : c = 0
         · cases hca : a.cursor <;> simp -dsimp [h5]
         · simp -dsimp [h5]
       · simp -dsimp [a9k, Eg.av, Eg.cells, h1, h2, h3, h4]
     · simp -dsimp [a9k, Eg.av, Eg.cells, h1, h2, h3]
   · simp -dsimp [a9k, Eg.av, Eg.cells, h1, h2]
 · simp -dsimp [a9k, Eg.av, Eg.cells, h1]
end Go.Rt
end

section
namespace Go.Vm
open Go.Sort (Holds HoldsK putRow putRowK flatK grow putCells mapBlock)
open Go.Proofs (sortWorldK)
set_option linter.unusedSectionVars false
section
variable {α : Type} [Inhabited α]
def b2W (enc : α → List Value) (x : α) : List IV := (enc x).map IV.v
theorem b3W {enc : α → List Value} {xs : List α} {i j : Nat} {c : IV} (h : at2 (xs.map (b2W enc)) i j = some c) : ∃ x v, xs[i]? = some x ∧ (enc x)[j]? = some v ∧ c = .v v := by
 unfold at2 at h
 rw [List.getElem?_map] at h
 cases hx : xs[i]? with
 | none => rw [hx] at h; simp at h
 | some x =>
   rw [hx] at h
   simp only [Option.map_some, Option.bind_some, b2W, List.getElem?_map] at h
   cases hv : (enc x)[j]? with
   | none => rw [hv] at h; simp at h
   | some v => rw [hv] at h; simp at h; exact ⟨x, v, rfl, hv, h.symm⟩
theorem b4W {enc : α → List Value} {xs : List α} {i j : Nat} {x : α} {v : Value} (hx : xs[i]? = some x) (hv : (enc x)[j]? = some v) : at2 (xs.map (b2W enc)) i j = some (.v v) := by
 unfold at2
 rw [List.getElem?_map, hx]
 simp [b2W, hv]
theorem b5W {A : Nat → Prop} {w : World} {u v : Value} (h : RIV A w (.v u) v) : v = u := by cases h; rfl
theorem b6W {l : List α} {i : Nat} {x : α} (h : l[i]? = some x) : l.toArray[i]! = x := by
 obtain ⟨h1, h2⟩ := List.getElem?_eq_some_iff.1 h
 simp [h1, h2]
theorem b7W {l : List Value} {i : Nat} {x : Value} (h : l[i]? = some x) : l[i]! = x := by
 obtain ⟨h1, h2⟩ := List.getElem?_eq_some_iff.1 h
 simp [h1, h2]
theorem b8W {P : Program} {f g : FuncId} (k : Nat) (hk0 : 0 < k) (enc : α → List Value) (hk : ∀ x, (enc x).length = k) (h1 : ∀ x, ∀ v ∈ enc x, v.oneCell' = true) (F : List α → List α) (hF : ∀ l, (F l).length = l.length)
   (hs : ∀ (blk off cap : Nat) (zs : List α) (w : World), HoldsK enc k w blk off zs.toArray → blk < w.heap.size → zs.length < 4611686018427387904 →
     Calls P f #[.slice (some ⟨blk, off, none⟩) zs.length cap, .func (.func g) #[] #[]] w fun e w' => e = .returned (.tuple #[]) ∧ ∃ n os, w' = sortWorldK enc k w blk off n (F zs).toArray os)
   (hn : ∀ (p : Option Addr) (cap : Nat) (fv : Value) (w : World), Calls P f #[.slice p 0 cap, fv] w fun e w' => e = .returned (.tuple #[]) ∧ w' = w)
   (xs : List α) (hl : xs.length < 2 ^ 62) : b1v P false f [.sl 1000 k 0 xs.length, .fn g [] []] [(1000, .list k (xs.map (b2W enc)))] (.tup []) [(1000, .list k ((F xs).map (b2W enc)))] := by
 have hlen : (F xs).length = xs.length := hF xs
 have look1 : ∀ {o : Ob} {id : Nat} {q : Ob}, look [(1000, o)] id = some q → id = 1000 ∧ q = o := by
   intro o id q h
   simp only [look] at h
   split at h
   · exact ⟨by omega, by cases h; rfl⟩
   · cases h
 refine ⟨⟨fun id o h => by obtain ⟨_, rfl⟩ := look1 h; rfl, fun id o h => by obtain ⟨_, rfl⟩ := look1 h; rfl⟩, ?_⟩
 intro A ψ w vs hA hob hinj hsubs hheld hvl hrav
 have ho := hob 1000 (.list k (xs.map (b2W enc))) rfl
 have hr := hrav 0 _ rfl
 have hg := hrav 1 _ rfl
 obtain ⟨v, fv, rfl⟩ : ∃ v fv, vs = [v, fv] := by
   match vs, hvl with
   | [v, fv], _ => exact ⟨v, fv, rfl⟩
 simp only [List.getD_eq_getElem?_getD, List.getElem?_cons_zero, List.getElem?_cons_succ, Option.getD_some] at hr hg
 obtain rfl : fv = .func (.func g) #[] #[] := by
   cases hg with
   | fn _ _ _ vf vc hf hc _ _ =>
     obtain rfl : vf = #[] := Array.eq_empty_of_size_eq_zero (by simpa using hf)
     obtain rfl : vc = #[] := Array.eq_empty_of_size_eq_zero (by simpa using hc)
     rfl
 have key : ∀ (w' : World), w.heap.size ≤ w'.heap.size → Same w w' → (∀ b, b < w.heap.size → ¬Held ψ [(1000, .list k (xs.map (b2W enc)))] b → w'.heap[b]? = w.heap[b]?) →
     ROb (fun b => ((false = false ∧ A b) ∨ w.heap.size ≤ b) ∧ ¬Held ψ [(1000, .list k ((F xs).map (b2W enc)))] b) ψ [(1000, .list k ((F xs).map (b2W enc)))] w' 1000 (.list k ((F xs).map (b2W enc))) →
     ∃ v ψ', (Ending.returned (.tuple #[]) : Ending) = .returned v ∧
     (∀ b, b < w.heap.size → ¬Held ψ [(1000, .list k (xs.map (b2W enc)))] b → w'.heap[b]? = w.heap[b]?) ∧ w.heap.size ≤ w'.heap.size ∧ Same w w' ∧
     (∀ id o, look [(1000, Ob.list k (xs.map (b2W enc)))] id = some o → ψ'.main id = ψ id) ∧
     (∀ id o b, look [(1000, Ob.list k ((F xs).map (b2W enc)))] id = some o → Owns ψ' id b → (∃ o0, look [(1000, Ob.list k (xs.map (b2W enc)))] id = some o0 ∧ Owns ψ id b) ∨ w.heap.size ≤ b) ∧
     (∀ id id' o o' b, look [(1000, Ob.list k ((F xs).map (b2W enc)))] id = some o → look [(1000, Ob.list k ((F xs).map (b2W enc)))] id' = some o' → Owns ψ' id b → Owns ψ' id' b → id = id') ∧ Subs ψ' [(1000, .list k ((F xs).map (b2W enc)))] w' ∧
     (∀ id o, look [(1000, Ob.list k ((F xs).map (b2W enc)))] id = some o → ROb (fun b => ((false = false ∧ A b) ∨ w.heap.size ≤ b) ∧ ¬Held ψ' [(1000, .list k ((F xs).map (b2W enc)))] b) ψ' [(1000, .list k ((F xs).map (b2W enc)))] w' id o) ∧
     RAV (fun b => ((false = false ∧ A b) ∨ w.heap.size ≤ b) ∧ ¬Held ψ' [(1000, .list k ((F xs).map (b2W enc)))] b) ψ' [(1000, .list k ((F xs).map (b2W enc)))] w' (.tup []) v := by
   intro w' h1 h2 h3 h4
   refine ⟨.tuple #[], ψ, rfl, h3, h1, h2, fun _ _ _ => rfl, fun id o b h hb => .inl ?_, fun id id' o o' b h h' _ _ => ?_, fun id o b h hb => ?_, fun id o h => ?_, .tup [] #[] rfl (fun i c h => by simp at h)⟩
   · obtain ⟨rfl, rfl⟩ := look1 h; exact ⟨.list k (xs.map (b2W enc)), rfl, hb⟩
   · obtain ⟨rfl, _⟩ := look1 h; obtain ⟨rfl, _⟩ := look1 h'; rfl
   · obtain ⟨rfl, rfl⟩ := look1 h
     have := (hsubs 1000 (.list k (xs.map (b2W enc))) b rfl hb).1
     cases this
   · obtain ⟨rfl, rfl⟩ := look1 h; exact h4
 obtain ⟨hw1, ho⟩ := ho
 have hwF : ∀ x ∈ (F xs).map (b2W enc), x.length = k := by
   intro x hx
   obtain ⟨y, _, rfl⟩ := List.mem_map.1 hx
   simp [b2W, hk]
 by_cases hx : xs = []
 · subst hx
   have hv : ∃ p cap, v = .slice p 0 cap := by
     cases hr with
     | sl0 => exact ⟨_, _, rfl⟩
     | sl => exact ⟨_, _, rfl⟩
   obtain ⟨p, cap, rfl⟩ := hv
   refine (hn p cap _ w).mono ?_
   rintro e w' ⟨rfl, rfl⟩
   refine key w' (Nat.le_refl _) ⟨rfl, rfl, rfl, Nat.le_refl _⟩ (fun _ _ _ => rfl) ?_
   have hso : F [] = [] := List.eq_nil_of_length_eq_zero (by simpa using hF [])
   rw [hso]
   refine ⟨hw1, ?_⟩
   rcases ho with ⟨g1, g2⟩ | ⟨b, k', c, e, g1, g2, g3, g4, g5⟩
   · exact .inl ⟨g1, g2⟩
   · exact .inr ⟨b, k', c, e, g1, g2, g3, g4, fun i j x h => by simp [at2] at h⟩
 · have hpos := List.length_pos_iff.2 hx
   rcases ho with ⟨_, g2⟩ | ⟨b, q, c, e, g1, g2, g3, g4, g5⟩
   · exact absurd (by simpa using g2) hx
   · obtain ⟨cap, rfl⟩ : ∃ cap, v = .slice (some ⟨b, q.1, none⟩) xs.length cap := by
       generalize hlx : xs.length = n at hr hpos
       cases hr with
       | sl0 => omega
       | sl id sz lo len b' k' cap a o n' ho' he hxx hb ha hlc hk' hm =>
         rw [g1] at hb; cases hb
         have := ha (by omega)
         rw [Nat.zero_mul, Nat.add_zero] at this
         subst this
         exact ⟨cap, rfl⟩
     have hbl : b < w.heap.size := c6T g2
     have hB : Held ψ [(1000, .list k (xs.map (b2W enc)))] b := ⟨1000, .list k (xs.map (b2W enc)), rfl, .inl ⟨q, g1⟩⟩
     rw [List.length_map] at g4
     have hH : HoldsK enc k w b q.1 xs.toArray := by
       intro t ht
       rw [Go.Sort.size_flatK, List.size_toArray] at ht
       rw [Go.Sort.get_flatK _ _ _ _ (by simpa using ht)]
       have hi : t / k < xs.length := Nat.div_lt_of_lt_mul (by rw [Nat.mul_comm]; exact ht)
       have hj : t % k < k := Nat.mod_lt _ hk0
       obtain ⟨x, hxx⟩ : ∃ x, xs[t / k]? = some x := ⟨_, List.getElem?_eq_getElem hi⟩
       obtain ⟨u, hu⟩ : ∃ u, (enc x)[t % k]? = some u := ⟨_, List.getElem?_eq_getElem (by rw [hk]; exact hj)⟩
       rw [b6W hxx, b7W hu]
       have h5 := b5W (g5 _ _ _ (b4W hxx hu))
       have hts : t / k * k + t % k = t := by rw [Nat.mul_comm]; exact Nat.div_add_mod t k
       rw [hts] at h5
       have hcs : q.1 + t < c.size := by omega
       rw [Array.getD_eq_getD_getElem?, Array.getElem?_eq_getElem hcs] at h5
       constructor
       · simp only [World.cell?, g2]
         rw [Array.getElem?_eq_getElem hcs]
         simpa using h5
       · simp only [World.frozen?, g2]
         simp
     refine (hs b q.1 cap xs w hH hbl (by omega)).mono ?_
     rintro ex w' ⟨rfl, n, os, rfl⟩
     have hfl : (flatK enc k (F xs).toArray).size = xs.length * k := by rw [Go.Sort.size_flatK, List.size_toArray, hlen]
     unfold sortWorldK putRowK
     have hsz : (putRow id (Go.Sort.ahead w n) b q.1 (flatK enc k (F xs).toArray)).heap.size = w.heap.size := by simp [putRow, mapBlock, Go.Sort.ahead]
     have hother : ∀ i, i ≠ b → i < w.heap.size → (grow (putRow id (Go.Sort.ahead w n) b q.1 (flatK enc k (F xs).toArray)) os).heap[i]? = w.heap[i]? := by
       intro i hi hlt
       rw [Go.Sort.heap_grow_old _ _ (by rw [hsz]; exact hlt)]
       simp only [putRow, mapBlock, Go.Sort.ahead, Array.getElem?_modify]
       rw [if_neg (Ne.symm hi)]
     have hmine : (grow (putRow id (Go.Sort.ahead w n) b q.1 (flatK enc k (F xs).toArray)) os).heap[b]? = some (.cells (putCells id q.1 (flatK enc k (F xs).toArray) c) e (0, 0)) := by
       rw [Go.Sort.heap_grow_old _ _ (by rw [hsz]; exact hbl)]
       simp only [putRow, mapBlock, Go.Sort.ahead, Array.getElem?_modify, if_true]
       rw [g2]; rfl
     refine key _ (by rw [Go.Sort.size_grow, hsz]; omega) ⟨rfl, rfl, rfl, Nat.le_add_right _ _⟩ (fun i hi hh => hother i (fun e => hh (e ▸ hB)) hi) ?_
     refine ⟨hwF, .inr ⟨b, q, _, e, g1, hmine, ?_, ?_, fun i j x h => ?_⟩⟩
     · simp only [putCells, Array.size_mapIdx]; exact g3
     · rw [List.length_map, hlen]; exact g4
     · obtain ⟨y, u, hy, hu, rfl⟩ := b3W h
       have hil := (List.getElem?_eq_some_iff.1 hy).1
       have hjl := (List.getElem?_eq_some_iff.1 hu).1
       rw [hlen] at hil
       rw [hk] at hjl
       have hin : i * k + j < xs.length * k := by
         have := Nat.mul_le_mul_right k (show i + 1 ≤ xs.length from hil)
         rw [Nat.add_mul, Nat.one_mul] at this; omega
       have hlt : q.1 + (i * k + j) < (putCells id q.1 (flatK enc k (F xs).toArray) c).size := by simp only [putCells, Array.size_mapIdx]; omega
       have e1 : (i * k + j) / k = i := (Go.Sort.blk_iff k i _ hk0).1 ⟨by omega, by omega⟩
       have e2 : (i * k + j) % k = j := by rw [Nat.mod_eq_sub_div_mul, e1]; omega
       have : (putCells id q.1 (flatK enc k (F xs).toArray) c).getD (q.1 + (i * k + j)) undef = u := by
         rw [Array.getD_eq_getD_getElem?, Array.getElem?_eq_getElem hlt, Option.getD_some]
         simp only [putCells, Array.getElem_mapIdx]
         rw [if_pos (by rw [hfl]; omega)]
         have e3 : q.1 + (i * k + j) - q.1 = i * k + j := by omega
         rw [e3, Go.Sort.get_flatK _ _ _ _ (by rw [List.size_toArray, hlen]; exact hin), e1, e2, b6W hy, b7W hu]
         rfl
       rw [this]
       exact .v _ (h1 y u (List.mem_of_getElem? hu))
end
theorem b9W {P : Program} {f g : FuncId} (k : Nat)
   (hn : ∀ (p : Option Addr) (cap : Nat) (fv : Value) (w : World), Calls P f #[.slice p 0 cap, fv] w fun e w' => e = .returned (.tuple #[]) ∧ w' = w) : b1v P true f [.iv (.lst k []), .fn g [] []] [] (.tup []) [] := by
 refine ⟨⟨fun id o h => (by cases h), fun id o h => by cases h⟩, ?_⟩
 intro A ψ w vs hA hob hinj hsubs hheld hvl hrav
 have hr := hrav 0 _ rfl
 obtain ⟨v, fv, rfl⟩ : ∃ v fv, vs = [v, fv] := by
   match vs, hvl with
   | [v, fv], _ => exact ⟨v, fv, rfl⟩
 simp only [List.getD_eq_getElem?_getD, List.getElem?_cons_zero, Option.getD_some] at hr
 have hv : ∃ p cap, v = .slice p 0 cap := by
   cases hr with
   | iv _ _ h =>
     generalize hx : IV.lst k [] = x at h
     cases h <;> try cases hx
     · exact ⟨_, _, rfl⟩
     · exact ⟨_, _, rfl⟩
 obtain ⟨p, cap, rfl⟩ := hv
 refine (hn p cap fv w).mono ?_
 rintro e w' ⟨rfl, rfl⟩
 refine ⟨.tuple #[], ψ, rfl, fun _ _ _ => rfl, Nat.le_refl _, ⟨rfl, rfl, rfl, Nat.le_refl _⟩, fun _ _ _ => rfl, fun id o b h => (by cases h), fun id id' o o' b h => (by cases h), fun id o b h => (by cases h), fun id o h => (by cases h), .tup [] #[] rfl (fun i c h => by simp at h)⟩
end Go.Vm
end

section
namespace Go.Rt
open Go.Vm
def egV (e : Eg) : List Value := [.int .i64 e.frm, .int .i64 e.to, .int .i64 e.kind, .int .i64 e.table, .bool e.key.text, .int .i64 e.key.n, .string e.key.s, .bool e.cursor]
abbrev EgD := { e : Eg // e.D }
instance : Inhabited EgD := ⟨⟨⟨0, 0, 0, 0, Vl.zero, false⟩, ⟨by unfold Eg.Rt Vl.right Vl.zero; decide, by decide, by decide, by decide, by decide⟩⟩⟩
theorem c5l {w w' : World} (h1 : ∀ b, b < w.heap.size → w'.heap[b]? = w.heap[b]?) (h2 : w.heap.size ≤ w'.heap.size) (h3 : Same w w') : ∃ q os, w' = Go.Sort.grow (w.drewN q) os := by
 refine ⟨w'.drawn - w.drawn, w'.heap.extract w.heap.size w'.heap.size, ?_⟩
 obtain ⟨heap, tape, drawn, os, output⟩ := w
 obtain ⟨heap', tape', drawn', os', output'⟩ := w'
 obtain ⟨e1, e2, e3, e4⟩ := h3
 simp only at e1 e2 e3 e4 h1 h2
 subst e1 e2 e3
 have hh : heap' = heap ++ heap'.extract heap.size heap'.size := by
   apply Array.ext_getElem?
   intro i
   by_cases hi : i < heap.size
   · rw [h1 i hi, Array.getElem?_append_left hi]
   · rw [Array.getElem?_append_right (by omega), Array.getElem?_extract]
     by_cases hi2 : i < heap'.size
     · rw [if_pos (by omega)]
       congr 1; omega
     · rw [if_neg (by omega), Array.getElem?_eq_none (by omega)]
 unfold Go.Sort.grow World.drewN
 simp only [World.mk.injEq, true_and, and_true]
 exact ⟨hh, by omega⟩
theorem c6l (blk off size : Nat) (w : World) : Go.Proofs.CmpLays prog n_a0k #[] (fun e : EgD => egV e.1) 8 (fun a b => a.1.cmp b.1) blk off size w := by
 intro m os dk _ x y
 generalize Go.Proofs.sortWorldK (fun e : EgD => egV e.1) 8 w blk off m dk os = W
 have hav : ∀ e : Eg, RAV (fun _ => False) pl0 [] W e.av (.agg (egV e).toArray) := by
   intro e
   refine .agg _ _ rfl fun i c hc => ?_
   have : ∃ u, (egV e)[i]? = some u ∧ c = .iv (.v u) ∧ u.oneCell' = true := by
     match i, hc with
     | 0, hc => cases hc; exact ⟨_, rfl, rfl, rfl⟩
     | 1, hc => cases hc; exact ⟨_, rfl, rfl, rfl⟩
     | 2, hc => cases hc; exact ⟨_, rfl, rfl, rfl⟩
     | 3, hc => cases hc; exact ⟨_, rfl, rfl, rfl⟩
     | 4, hc => cases hc; exact ⟨_, rfl, rfl, rfl⟩
     | 5, hc => cases hc; exact ⟨_, rfl, rfl, rfl⟩
     | 6, hc => cases hc; exact ⟨_, rfl, rfl, rfl⟩
     | 7, hc => cases hc; exact ⟨_, rfl, rfl, rfl⟩
     | i + 8, hc => cases hc
   obtain ⟨u, h1, rfl, h2⟩ := this
   have : (egV e).toArray.getD i undef = u := by
     rw [Array.getD_eq_getD_getElem?, List.getElem?_toArray, h1]; rfl
   rw [this]
   exact d7d h2
 have h := (c3b x.1 y.1).2 (fun _ => False) pl0 W [.agg (egV x.1).toArray, .agg (egV y.1).toArray] (fun _ h => h.elim) (fun _ _ h => by cases h) (fun _ _ _ _ _ h => by cases h) (fun _ _ _ h => by cases h)
   (fun b ⟨_, _, h, _⟩ => by cases h) rfl (fun i c hc => by
     match i, hc with
     | 0, hc => cases hc; exact hav x.1
     | 1, hc => cases hc; exact hav y.1
     | i + 2, hc => cases hc)
 refine Calls.mono h ?_
 rintro e w' ⟨v, ψ', rfl, k1, k2, k3, _, _, _, _, _, k8⟩
 refine ⟨by rw [b9v k8], c5l (fun b hb => k1 b hb fun ⟨_, _, h, _⟩ => by cases h) k2 k3⟩
theorem c7l (a b : EgD) : a.1.cmp b.1 = a.1.cmpN b.1 := cmp_N a.2 b.2
theorem c8l (a b : EgD) : Go.Proofs.ltOf (fun a b : EgD => a.1.cmp b.1) a b = a.1.lss b.1 := by
 show decide (a.1.cmp b.1 < 0) = _
 rw [c7l, Bool.eq_iff_iff, decide_eq_true_eq, b5D]
theorem c9l : Go.Sort.SWO (Go.Proofs.ltOf fun a b : EgD => a.1.cmp b.1) where
 irrefl := fun x => by rw [c8l]; exact b8D _
 trans := fun x y z => by rw [c8l, c8l, c8l]; exact b6D
 ntrans := fun x y z h1 h2 => by
   rw [c8l] at *
   cases h : x.1.lss z.1 with
   | false => rfl
   | true =>
     cases h3 : y.1.lss x.1 with
     | true => have := b6D h3 h; rw [this] at h2; cases h2
     | false => rw [← b9D x.2.rt y.2.rt h1 h3] at h2; rw [h2] at h; cases h
theorem c0m (x y : EgD) (h1 : Go.Proofs.ltOf (fun a b : EgD => a.1.cmp b.1) x y = false) (h2 : Go.Proofs.ltOf (fun a b : EgD => a.1.cmp b.1) y x = false) : x = y := by
 rw [c8l] at *
 exact Subtype.ext (b9D x.2.rt y.2.rt h1 h2)
theorem c2m : okFn prog n_a0k = true := by kernel_rfl
theorem t24 : Go.Proofs.Tryz.sortF_ren.t 24 = 37 := rfl
theorem und37 : (prog.underlying 37).isSome = true := by kernel_rfl
theorem c3m : b4X prog 37 = true := by kernel_rfl
theorem sz37 : b0X prog 37 = some 8 := by kernel_rfl
theorem c4m {P : Program} {t : TypeId} {k : Nat} (h : b0X P t = some k) (w : World) : (Go.sizeOf t).run P w = .ok k w := Go.Vm.run_sizeOf w h
theorem agg37 (w : World) : (isAgg (Go.Proofs.Tryz.sortF_ren.t 24)).run prog w = .ok true w := by
 obtain ⟨d, hd⟩ := Option.isSome_iff_exists.1 und37
 rw [t24, d8d w hd, c3m]
theorem c5m (w : World) : (Go.sizeOf (Go.Proofs.Tryz.sortF_ren.t 24)).run prog w = .ok 8 w := by
 rw [t24, c4m sz37 w]
def c6m (l : List EgD) : List EgD := l.mergeSort fun x y => !(Go.Proofs.ltOf (fun a b : EgD => a.1.cmp b.1) y x)
theorem c7m (l : List EgD) (hl : l.length < 2 ^ 62) : b1v prog false n_a3p [.sl 1000 8 0 l.length, .fn n_a0k [] []] [(1000, .list 8 (l.map (b2W fun e : EgD => egV e.1)))] (.tup []) [(1000, .list 8 ((c6m l).map (b2W fun e : EgD => egV e.1)))] := by
 refine b8W 8 (by decide) (fun e : EgD => egV e.1) (fun _ => rfl) (fun x v hv => ?_) c6m (fun l => List.length_mergeSort l) ?_ (fun p cap fv w => Go.Proofs.Tryz.slices_SortFunc_none p cap fv w) l hl
 · simp only [egV, List.mem_cons, List.not_mem_nil, or_false] at hv
   rcases hv with rfl | rfl | rfl | rfl | rfl | rfl | rfl | rfl <;> rfl
 · intro blk off cap zs w hH hb hs
   have := Go.Proofs.AnyQ.slices_SortFunc_total Go.Proofs.Tryz.sortF 8 agg37 c5m (fun e : EgD => egV e.1) (fun _ => rfl) (fun x v hv => by
     simp only [egV, List.mem_cons, List.not_mem_nil, or_false] at hv
     rcases hv with rfl | rfl | rfl | rfl | rfl | rfl | rfl | rfl <;> rfl) (fun a b => a.1.cmp b.1) c9l n_a0k #[] blk off cap zs.toArray w (c6X c2m) (c6l blk off _ w) hH hb (by simpa using hs) c0m
   rw [List.size_toArray] at this
   exact this
theorem c8m {l : List Eg} (hD : ∀ e, e ∈ l → e.D) (hnd : l.Nodup) (hl : l.length < 2 ^ 62) : ∃ r, Rise r ∧ (∀ e, e ∈ r ↔ e ∈ l) ∧ r.length = l.length ∧
   b1v prog false n_a3p [.sl 1000 8 0 l.length, .fn n_a0k [] []] [(1000, .list 8 (egsC l))] (.tup []) [(1000, .list 8 (egsC r))] := by
 let L : List EgD := l.attach.map fun e => ⟨e.1, hD e.1 e.2⟩
 have hL : L.map Subtype.val = l := by simp [L, List.map_map, Function.comp_def]
 have hlen : L.length = l.length := by simp [L]
 have hp : (c6m L).Perm L := List.mergeSort_perm _ _
 have hp2 : ((c6m L).map Subtype.val).Perm l := by have := hp.map Subtype.val; rw [hL] at this; exact this
 have hiv : ∀ q : List EgD, q.map (b2W fun e : EgD => egV e.1) = egsC (q.map Subtype.val) := fun q => by unfold egsC; rw [List.map_map]; rfl
 have hs := c7m L (by omega)
 rw [hiv, hiv, hL, hlen] at hs
 refine ⟨(c6m L).map Subtype.val, ?_, fun e => hp2.mem_iff, by rw [hp2.length_eq], hs⟩
 have h1 : (c6m L).Pairwise fun x y => (!(Go.Proofs.ltOf (fun a b : EgD => a.1.cmp b.1) y x)) = true := by
   refine List.pairwise_mergeSort (fun a b c h1 h2 => ?_) (fun a b => ?_) L
   · rw [Bool.not_eq_true'] at *
     exact c9l.ntrans _ _ _ h2 h1
   · rw [Bool.or_eq_true, Bool.not_eq_true', Bool.not_eq_true']
     cases h : Go.Proofs.ltOf (fun a b : EgD => a.1.cmp b.1) b a with
     | false => exact .inl rfl
     | true =>
       right
       rw [c8l] at *
       exact b7D h
 have h2 : ((c6m L).map Subtype.val).Nodup := hp2.nodup_iff.2 hnd
 unfold Rise
 rw [List.pairwise_map]
 unfold List.Nodup at h2
 rw [List.pairwise_map] at h2
 refine (h1.and h2).imp ?_
 rintro a b ⟨g1, g2⟩
 rw [Bool.not_eq_true', c8l] at g1
 cases h : a.1.lss b.1 with
 | true => rfl
 | false => exact absurd (b9D a.2.rt b.2.rt h g1) g2
theorem c9m : b1v prog true n_a3p [.iv (.lst 8 []), .fn n_a0k [] []] [] (.tup []) [] :=
 b9W 8 fun p cap fv w => Go.Proofs.Tryz.slices_SortFunc_none p cap fv w
end Go.Rt
end

section
namespace Go.Rt
open Go.Vm
theorem d5h {s : St} {t : Nat} {y : IV} (h : (s.get t).ivc = some y) : Le s (s.set t (.iv y)) := by
 rintro E n a w ⟨ψ, hs⟩
 refine ⟨ψ, { hs with frame := fun u => ?_ }⟩
 rw [St.get_set]
 split
 · rename_i e; subst e
   exact .iv _ _ (c2A (hs.frame t) h (fun _ _ h => h))
 · exact hs.frame u
def EndV (D : List Nat) (t : Nat) (x : IV) (s : St) : Prop := D.all (· < 1000) = true ∧ ((s.drops D).get t).ivc = some x ∧ a1G s.hp = true
theorem d6h {P : Program} {f : FuncId} {args : List AV} {x : IV} {n t : Nat} {c : VCode} (hf : fnV P f = some (n, c, [.tmp t]))
   (hargs : args.length ≤ n) (hn : n ≤ 999) (h : wpV P c ⟨c6j 0 args, []⟩ ⟨fun s => ∃ D, EndV D t x s, fun _ _ => False, fun s => ∃ D, EndV D t x s, fun _ _ => False⟩) : b1v P false f args [] (.iv x) [] :=
 d3a hf hargs rfl rfl (a3H (c3s hn _ _ _ h) fun s h => by
   obtain ⟨D, h1, h2, h3⟩ := h
   have hk : (((s.drops D).set t (.iv x)).hp.map (·.1)).all (· < 1000) = true := by
     show ((s.drops D).hp.map (·.1)).all (· < 1000) = true
     rw [List.all_eq_true]
     intro k hk
     exact List.all_eq_true.1 (a4G h3) k (d1k D hk)
   refine ⟨((s.drops D).set t (.iv x)).drops (((s.drops D).set t (.iv x)).hp.map (·.1)), [.iv x], ((c3t D h1 s).trans (d5h h2)).trans (c3t _ hk _), ?_, rfl, fun id => ?_, fun h => by cases h⟩
   · simp [resV, a6F _ (show ((s.drops D).set t (.iv x)).get t = .iv x by rw [St.get_set, if_pos rfl])]
   · refine a8F _ ?_
     cases hl : Vm.look ((s.drops D).set t (.iv x)).hp id with
     | none => exact .inr rfl
     | some o => exact .inl (List.contains_iff_mem.1 (b5v hl)))
theorem d7h {s : St} {t sz id : Nat} (h : s.get t = .nil sz) (hno : Vm.look s.hp id = none) (hid : id < 1000) : Le s ((s.add id (.list sz [])).set t (.sl id sz 0 0)) := by
 rintro E n a w ⟨ψ, hs⟩
 have h1 := hs.new (o := .list sz []) (p := none) (w' := w) hid hno (Ext.refl w) (fun b k e => by cases e) ⟨fun _ h => (by cases h), .inl ⟨by simp [upd], rfl⟩⟩
 have hψ : upd ψ id none id = none := by simp [upd]
 refine ⟨_, { h1 with frame := fun u => ?_ }⟩
 have hf := h1.frame u
 rw [St.get_set]
 split
 · rename_i e; subst e
   rw [show (s.add id (.list sz [])).get t = .nil sz from h] at hf
   generalize a.tmps.getD t undef = v at hf
   cases hf
   exact .sl0 id sz (.list sz []) 0 (by rw [show ((s.add id (.list sz [])).set t (.sl id sz 0 0)).hp = (s.add id (.list sz [])).hp from rfl, d9g, if_pos rfl]) rfl hψ
 · exact hf
def EndRL (t : Nat) (R : AV → Hp → Prop) (s : St) : Prop := ∃ s1, Le s s1 ∧ EndR t R s1
theorem d8h {P : Program} {f : FuncId} {args : List AV} {n t : Nat} {c : VCode} (R : AV → Hp → Prop) (hf : fnV P f = some (n, c, [.tmp t])) (hargs : args.length ≤ n) (hn : n ≤ 999)
   (hR : ∀ x H', R x H' → (∀ id o, Vm.look H' id = some o → o.isLent = false ∧ o.flat) ∧ x.flat = true)
   (h : wpV P c ⟨c6j 0 args, []⟩ ⟨EndRL t R, fun _ _ => False, EndRL t R, fun _ _ => False⟩) : b2v P true f args [] R :=
 d2a hf hargs rfl rfl (fun x H' h id o ho => ((hR x H' h).1 id o ho).1) (a3H (c3s hn _ _ _ h) fun s h => by
   obtain ⟨s1, h0, D, x, H', h1, h2⟩ := h
   exact ⟨⟨[(t, x)], H'⟩, [x], H', h0.trans h2.le, by simp [resV, St.get, Vm.look], h1, fun _ => rfl, fun _ => ⟨(hR x H' h1).2, fun id o ho => ((hR x H' h1).1 id o ho).2⟩⟩)
end Go.Rt
end

section
namespace Go.Rt
open Go.Vm
def c8R (e : Eg) : List AV := [e.av]
def c9R (ks : List Eg) : List (List AV) := ks.map c8R
def PreKE (S : Eg → Prop) (pre : List (List AV)) (x : List AV) : Prop := ∃ ks k, pre = c9R ks ∧ x = c8R k ∧ (ks ++ [k]).Nodup ∧ ∀ j ∈ ks ++ [k], S j
def AllKE (S : Eg → Prop) (xs : List (List AV)) : Prop := ∃ ks : List Eg, xs = c9R ks ∧ ks.Nodup ∧ ∀ j, j ∈ ks ↔ S j
theorem gE_at (S : Eg → Prop) (e : Eg) : gE S (egV e) ≠ none ↔ S e := by
 unfold egV
 simp only [gE]
 split
 · rename_i h; exact ⟨fun _ => h, fun _ h => by cases h⟩
 · rename_i h; exact ⟨fun g => absurd rfl g, fun g => absurd g h⟩
theorem c0S {S : Eg → Prop} {q : List Value} (h : gE S q ≠ none) : ∃ e, S e ∧ q = egV e := by
 unfold gE at h
 split at h
 · rename_i f t k tb x n s c
   split at h
   · rename_i hs; exact ⟨_, hs, rfl⟩
   · exact absurd rfl h
 · exact absurd rfl h
theorem c1S {a b : Eg} (h : egV a = egV b) : a = b := by
 unfold egV at h
 simp only [List.cons.injEq, Value.int.injEq, Value.bool.injEq, Value.string.injEq, true_and, and_true] at h
 obtain ⟨h1, h2, h3, h4, h5, h6, h7, h8⟩ := h
 exact Eg.eq_iff.2 ⟨h1, h2, h3, h4, Vl.eq_iff.2 ⟨h5, h6, h7⟩, h8⟩
theorem c2S {S : Eg → Prop} {q : List Value} {c : List IV} (h : gE S q = some c) : c = [ci 1] := by
 unfold gE at h
 split at h
 · split at h
   · cases h; rfl
   · cases h
 · cases h
set_option maxRecDepth 8000 in
set_option maxHeartbeats 4000000 in
theorem c3S (S : Eg → Prop) : b8n prog n_a8k [.pt [.mp skE (gE S)]] (PreKE S) (AllKE S) := by
 intro l Zs Zx cont hy
 refine b3A a8k_is (by simp) (by decide) ?_
 simp -dsimp [a8k]
 intro L0 hn0 hL0 _
 refine a5H (fun n s => ∃ (left : List (List Value)) (last : Option (List Value)) (ks : List Eg), n = left.length ∧ s = ⟨[(5, .ptr 5 0), (0, .iv (.v (.func (.yield l) #[] #[])))], [(5, .iter skE (gE S) left last), (1000, .gh (Zs (c9R ks)) [] [])]⟩ ∧
   ks.Nodup ∧ (∀ q ∈ left, ∃ k, S k ∧ q = egV k ∧ k ∉ ks) ∧ (∀ k ∈ ks, S k) ∧ ∀ k, S k → k ∈ ks ∨ egV k ∈ left) ⟨_, _, LeTo.le (D := []) (s' := ⟨[(5, .ptr 5 0), (0, .iv (.v (.func (.yield l) #[] #[])))], [(5, .iter skE (gE S) L0 none), (1000, .gh (Zs (c9R [])) [] [])]⟩) ?_, L0, none, [], rfl, rfl, by simp, ?_, by simp, ?_⟩ ?_
 · simp -dsimp [c9R]
 · intro q hq
   obtain ⟨k, h1, h2⟩ := c0S ((hL0 q).1 hq)
   exact ⟨k, h1, h2, by simp⟩
 · intro k hkL
   exact .inr ((hL0 _).2 ((gE_at S k).2 hkL))
 · rintro n s ⟨left, last, ks, rfl, rfl, h1, h2, h3, h4⟩
   simp -dsimp [a8k_l4]
   refine ⟨?_, ?_⟩
   · rintro rfl
     refine ⟨Zs (c9R ks), by simp, fun A B w hz => .inl ⟨_, ⟨ks, rfl, h1, fun j => ⟨h3 j, fun hj => (h4 j hj).resolve_right (by simp)⟩⟩, hz⟩, by simp⟩
   · intro q c hq hg
     obtain ⟨k, q1, rfl, q3⟩ := h2 q hq
     obtain rfl := c2S hg
     simp -dsimp [hg, egV]
     have hp : PreKE S (c9R ks) (c8R k) := ⟨ks, k, rfl, rfl, by
       refine List.nodup_append.2 ⟨h1, by simp, ?_⟩
       rintro a ha b hb rfl
       rw [List.mem_singleton.1 hb] at ha
       exact q3 ha, fun j hj => by
       rcases List.mem_append.1 hj with h | h
       · exact h3 j h
       · rw [List.mem_singleton.1 h]; exact q1⟩
     intro c' _
     have hr1 : Value.int .i64 k.frm :: Value.int .i64 k.to :: Value.int .i64 k.kind :: Value.int .i64 k.table :: Value.bool k.key.text :: Value.int .i64 k.key.n :: Value.string k.key.s :: Value.bool k.cursor :: [] = egV k := rfl
     refine b4A (g := 1000) (hy _ _ hp) (by simp) (by simp [c8R, Eg.av, Eg.cells]) (by simp [c8R, Eg.av, Eg.cells, AV.plain, AV.isIv]) ?_
     cases hcn : cont (c9R ks) (c8R k) with
     | true =>
       have hkr : c9R ks ++ [c8R k] = c9R (ks ++ [k]) := by simp [c9R]
       simp -dsimp [hcn, hkr, hr1]
       refine ⟨_, b7z hq, _, LeTo.le (D := [3]) (s' := ⟨[(5, .ptr 5 0), (0, .iv (.v (.func (.yield l) #[] #[])))], [(5, .iter skE (gE S) (rmk (egV k) left) (some (egV k))), (1000, .gh (Zs (c9R (ks ++ [k]))) [] [])]⟩) ?_, _, rfl, _, _, rfl, ?_⟩
       · simp -dsimp
       · refine ⟨List.nodup_append.2 ⟨h1, by simp, fun a ha b hb => by rintro rfl; rw [List.mem_singleton.1 hb] at ha; exact q3 ha⟩, fun q hq' => ?_, fun j hj => ?_, fun j hj => ?_⟩
         · obtain ⟨hq1, hq2⟩ := b6U.1 hq'
           obtain ⟨k', p1, rfl, p3⟩ := h2 q hq1
           refine ⟨k', p1, rfl, fun hm => ?_⟩
           rcases List.mem_append.1 hm with h | h
           · exact p3 h
           · rw [List.mem_singleton.1 h] at hq2; exact hq2 rfl
         · rcases List.mem_append.1 hj with h | h
           · exact h3 j h
           · rw [List.mem_singleton.1 h]; exact q1
         · rcases h4 j hj with h | h
           · exact .inl (List.mem_append_left _ h)
           · by_cases e : j = k
             · exact .inl (List.mem_append_right _ (by simp [e]))
             · exact .inr (b6U.2 ⟨h, fun g => e (c1S g)⟩)
     | false =>
       simp -dsimp [hcn]
       exact ⟨Zx (c9R ks) (c8R k), by simp, fun A B w hz => .inr ⟨_, _, hz⟩, by simp⟩
theorem c4S (g : List Value → Option (List IV)) : b2v prog false n_a8j [.iv (.mp skE g)] [] (fun r K => r = .fn n_a8k [] [.ptr 1 0] ∧ K = [(1, .box [.iv (.mp skE g)])]) := by
 refine b6A _ a8j_is (by simp) (by decide) (fun x H' h => by
   obtain ⟨rfl, rfl⟩ := h
   refine ⟨fun id o ho => ?_, by simp⟩
   simp only [Vm.look] at ho
   split at ho
   · cases ho; rfl
   · cases ho) ?_
 simp -dsimp [a9j_int]
 exact ⟨[], _, _, ⟨rfl, rfl⟩, by simp -dsimp⟩
theorem c5S (g : List Value → Option (List IV)) : b1v prog false n_a8j [.iv (.mp skE g)] [] (.fn n_a8k [] [.ptr 901 0]) [(901, .box [.iv (.mp skE g)])] :=
 ((c4S g).one (fun _ _ e => e) (fun id o ho => by
   simp only [Vm.look] at ho
   split at ho
   · cases ho; rfl
   · cases ho)).ren (Ren.swaps [(1, 901)]) rfl
theorem c6S : okFn prog n_a8k = true := by kernel_rfl
def RowE (j : Nat) (S : List Eg → Prop) (r : AV) (K : Hp) : Prop := ∃ ks : List Eg, S ks ∧ ((ks = [] ∧ r = .nil 8 ∧ K = []) ∨ (ks ≠ [] ∧ r = .sl j 8 0 ks.length ∧ K = [(j, .list 8 (egsC ks))]))
def egOfA : List AV → Eg
 | [.agg [.iv (.v (.int _ a)), .iv (.v (.int _ b)), .iv (.v (.int _ c)), .iv (.v (.int _ d)), .iv (.v (.bool t)), .iv (.v (.int _ n)), .iv (.v (.string s)), .iv (.v (.bool u))]] => ⟨a, b, c, d, ⟨t, n, s⟩, u⟩
 | _ => ⟨0, 0, 0, 0, Vl.zero, false⟩
def c7S (p : List (List AV)) : List Eg := p.map egOfA
theorem c8S (ks : List Eg) : c7S (c9R ks) = ks := by
 unfold c7S c9R
 rw [List.map_map]
 exact (List.map_congr_left fun e _ => rfl).trans (List.map_id _)
def appE : List Eg → Hp
 | [] => [(2, .box [.nil 8])]
 | k :: ks => [(2, .box [.sl 11 8 0 (k :: ks).length]), (11, .list 8 (egsC (k :: ks)))]
theorem c9S {ks : List Eg} (h : ks ≠ []) : appE ks = [(2, .box [.sl 11 8 0 ks.length]), (11, .list 8 (egsC ks))] := by
 cases ks with
 | nil => exact absurd rfl h
 | cons k ks => rfl
theorem c0T (l : List Eg) : ∀ x ∈ egsC l, ∀ y ∈ x, y.flat = true := by
 intro x hx y hy
 obtain ⟨e, _, rfl⟩ := List.mem_map.1 hx
 simp only [Eg.cells, List.mem_cons, List.not_mem_nil, or_false] at hy
 rcases hy with rfl | rfl | rfl | rfl | rfl | rfl | rfl | rfl <;> rfl
theorem c1T {j : Nat} {S : List Eg → Prop} {r : AV} {K : Hp} (h : RowE j S r K) : (∀ id o, Vm.look K id = some o → o.isLent = false ∧ o.flat) ∧ r.flat = true := by
 obtain ⟨ks, _, ⟨_, rfl, rfl⟩ | ⟨_, rfl, rfl⟩⟩ := h
 · exact ⟨fun id o h => (by cases h), rfl⟩
 · refine ⟨fun id o ho => ?_, rfl⟩
   simp only [Vm.look] at ho
   split at ho
   · cases ho
     exact ⟨rfl, c0T ks⟩
   · cases ho
set_option maxRecDepth 8000 in
set_option maxHeartbeats 4000000 in
theorem c2T {f : FuncId} {caps : List IV} {Pre : List (List AV) → List AV → Prop} {S : List (List AV) → Prop} (hi : b8n prog f caps Pre S) (hok : okFn prog f = true)
   (hp : ∀ pre x, Pre pre x → ∃ ks k, pre = c9R ks ∧ x = c8R k ∧ ks.length < 2 ^ 32) :
   b2v prog true n_a7k [.nil 8, .fn f [] (caps.map CapV.val)] [] (RowE 11 fun ks => S (c9R ks)) := by
 refine b7A _ a7k_is (by simp) (by decide) (fun x H' h => c1T h) ?_
 simp -dsimp [a7k]
 refine b5A [4] [5, 10] 990 [(2, .ptr 2 0), (6, .fn f [] (caps.map CapV.val))] (fun p => ∃ ks, p = c9R ks) (fun p => appE (c7S p)) hi ?_ (by simp) hok (by decide) (by simp [c7S, appE]) (by simp) ?_ ⟨[], rfl⟩ ?_ ?_
 · simp -dsimp [c7S, appE]
 · intro pre x hx
   obtain ⟨ks, k, _, rfl, _⟩ := hp pre x hx
   rfl
 · rintro vs _ x ⟨ks, rfl⟩ hx
   obtain ⟨ks', k, hks, rfl, hlen⟩ := hp _ x hx
   have hks : ks = ks' := by have := congrArg c7S hks; rwa [c8S, c8S] at this
   subst hks
   have hkr : c9R ks ++ [c8R k] = c9R (ks ++ [k]) := by simp [c9R]
   refine ⟨⟨ks ++ [k], hkr⟩, ?_⟩
   rw [hkr, c8S, c8S, c9S (by simp : ks ++ [k] ≠ [])]
   cases ks with
   | nil =>
     simp -dsimp [a7k_a4, a7k_b5, parS, St.set_mk, c8R, appE, frCs, Eg.av, Eg.cells]
     rfl
   | cons k0 ks =>
     simp -dsimp [a7k_a4, a7k_b5, parS, St.set_mk, c8R, appE, frCs, Eg.av, Eg.cells]
     simp only [List.length_cons] at hlen
     refine ⟨by omega, by omega, by simp [egsC, Eg.cells]⟩
 · rintro vs _ ⟨ks, rfl⟩ hS
   rw [c8S]
   cases ks with
   | nil =>
     simp -dsimp [appE, frCs]
     exact ⟨[2, 990], _, _, ⟨_, hS, .inl ⟨rfl, rfl, rfl⟩⟩, by simp -dsimp⟩
   | cons k0 ks =>
     simp -dsimp [appE, frCs]
     exact ⟨[2, 990], _, _, ⟨_, hS, .inr ⟨by simp, rfl, rfl⟩⟩, by simp -dsimp⟩
theorem c3T {f : FuncId} {caps : List IV} {Pre : List (List AV) → List AV → Prop} {S : List (List AV) → Prop} (hi : b8n prog f caps Pre S) (hok : okFn prog f = true)
   (hp : ∀ pre x, Pre pre x → ∃ ks k, pre = c9R ks ∧ x = c8R k ∧ ks.length < 2 ^ 32) :
   b2v prog true n_a7j [.fn f [] (caps.map CapV.val)] [] (RowE 11 fun ks => S (c9R ks)) := by
 refine b7A _ a7j_is (by simp) (by decide) (fun x H' h => c1T h) ?_
 simp -dsimp [a7j]
 refine b8A (c2T hi hok hp) ?_ (by simp) ?_ ?_
 · simp
 · intro x H' h id o ho
   simp -dsimp
   obtain ⟨ks, hS, ⟨rfl, rfl, rfl⟩ | ⟨hne, rfl, rfl⟩⟩ := h
   · cases ho
   · simp only [Vm.look] at ho
     split at ho
     · omega
     · cases ho
 · rintro x H' ⟨ks, hS, ⟨rfl, rfl, rfl⟩ | ⟨hne, rfl, rfl⟩⟩
   · simp -dsimp
     exact ⟨[2], _, _, ⟨_, hS, .inl ⟨rfl, rfl, rfl⟩⟩, by simp -dsimp⟩
   · simp -dsimp
     exact ⟨[2], _, _, ⟨_, hS, .inr ⟨hne, rfl, rfl⟩⟩, by simp -dsimp⟩
end Go.Rt
end

section
namespace Go.Rt
open Go.Vm
theorem c7v : noPd.Ok := .mk _ (by decide) (by decide) (by decide) fun q hq => by cases hq
theorem c8v {h : Hs} (hw : b8s h) : b9V h.events := fun _ he hk => (b5C hw he hk).1
theorem exB_c (t l : Int) : (exB t l).cells = [ci t, ci 1, ci l, ci 0, cb false, ci 0, .v (.string ⟨#[]⟩), ci 0, ci 0, ci 0, .lst 3 [], ci 0, ci 0, cb false, ci 0, .v (.string ⟨#[]⟩), cb false, ci 0, .v (.string ⟨#[]⟩), .lst 9 [], .lst 5 [], cb false] := by rw [Ev.cells_eq]; rfl
theorem exC_c (t : Int) : (exC t).cells = [ci t, ci 5, ci 0, ci 0, cb false, ci 0, .v (.string ⟨#[]⟩), ci 0, ci 0, ci 0, .lst 3 [], ci 0, ci 0, cb false, ci 0, .v (.string ⟨#[]⟩), cb false, ci 0, .v (.string ⟨#[]⟩), .lst 9 [], .lst 5 [], cb false] := by rw [Ev.cells_eq]; rfl
theorem exW_c (t n : Int) (r : List Vl) : (exW t n r).cells = [ci t, ci 3, ci 0, ci 0, cb false, ci 5, .v (.string ⟨#[]⟩), ci 0, ci 0, ci n, .lst 3 (rowC r), ci 0, ci 0, cb false, ci 0, .v (.string ⟨#[]⟩), cb false, ci 0, .v (.string ⟨#[]⟩), .lst 9 [], .lst 5 [], cb false] := by rw [Ev.cells_eq]; rfl
end Go.Rt
end

section
namespace Go.Rt
open Go.Vm
theorem d4h {h : Hs} (hw : b8s h) {table : Int} {k : Vl} {v : Vs} : ∀ x, x ∈ (rowB h.events table k v).getD [] → x.s.size < 2 ^ 63 := by
 unfold rowB
 split
 · simp
 · cases hl : c0n (Ev.isN v.txn table k v.n) h.events with
   | none => simp
   | some e => exact (b5C hw (c5n hl).1 (b4o (c5n hl).2)).2
end Go.Rt
end

section
namespace Go.Rt
open Go.Vm
def addS (S : Eg → Prop) (es : List Eg) (m : Eg) : Prop := S m ∨ (m.frm ≠ m.to ∧ m ∈ es)
theorem c9v {κ : Type} (S : Eg → Prop) (F : κ → List Eg) (ks : List κ) : addK S F ks = addS S (ks.flatMap F) := by
 funext m; unfold addK addS; simp [List.mem_flatMap]
theorem c0w (S : Eg → Prop) (f : Nat → List Eg) (i : Nat) : addL S f (i + 1) = addS (addL S f i) (f i) := by
 funext m
 refine propext ⟨fun g => ?_, fun g => ?_⟩
 · rcases g with g | ⟨h1, j, hj, hm⟩
   · exact .inl (.inl g)
   · rcases Nat.lt_or_ge j i with g | g
     · exact .inl (.inr ⟨h1, j, g, hm⟩)
     · have : j = i := by omega
       subst this; exact .inr ⟨h1, hm⟩
 · rcases g with (g | ⟨h1, j, hj, hm⟩) | ⟨h1, hm⟩
   · exact .inl g
   · exact .inr ⟨h1, j, by omega, hm⟩
   · exact .inr ⟨h1, i, by omega, hm⟩
theorem c1w (S : Eg → Prop) : addS S [] = S := by funext m; unfold addS; simp
def Hs.Mid (h : Hs) : Prop := h.events.length ≤ 100 ∧ h.order.length ≤ 100
def wwT (h : Hs) (j : Nat) : List Eg := ((h.order.filter (ofT j)).map Ins.key).flatMap (wwK h j)
def evT (h : Hs) (i : Nat) : List Eg := (h.events[i]?).elim [] (evE h)
section
variable {h : Hs}
theorem c2w (hw : b8s h) {e : Ev} (he : e ∈ h.events) (hk : e.kind = 3) : b2h h e.table e.key := by
 obtain ⟨i, hi⟩ := List.getElem?_of_mem he
 exact (b4B hw hi hk).1
theorem c3w (hw : b8s h) {o : Ins} (ho : o ∈ h.order) : b2h h o.table o.key := by
 obtain ⟨i, hi⟩ := List.getElem?_of_mem ho
 obtain ⟨t, ht⟩ := c8Y (b3B hw hi).2.2
 obtain ⟨e, he, hk⟩ := c5d (c7d hw ho (List.mem_of_getElem? ht)).2
 obtain ⟨k3, _, g1, g2⟩ := b7B hk
 rw [← g1, ← g2]
 exact c2w hw he k3
theorem c4w (hw : b8s h) {o : Ins} (ho : o ∈ h.order) : tsB h o.table o.key = o.txns := by
 unfold tsB
 rw [b3p (c1e hw) ho (c0e.2 ⟨rfl, rfl⟩)]
theorem c5w (hw : b8s h) {o : Ins} (ho : o ∈ h.order) {m : Eg} : m ∈ wwK h o.table o.key ↔ m ∈ wwE o := by
 unfold wwK
 rw [mem_range, a6L]
 have hch := a2A hw (table := o.table) (k := o.key)
 rw [c4w hw ho] at hch
 rw [hch]
 constructor
 · rintro ⟨j, hj, hm⟩
   unfold wwAt at hm
   rw [hch] at hm
   split at hm
   · rename_i h2
     obtain ⟨i, rfl⟩ : ∃ i, j = i + 2 := ⟨j - 2, by omega⟩
     rw [List.length_cons, List.length_map] at hj
     obtain ⟨a, ha⟩ : ∃ a, o.txns[i]? = some a := c8Y (by omega)
     obtain ⟨b, hb⟩ : ∃ b, o.txns[i + 1]? = some b := c8Y (by omega)
     rw [show i + 2 - 1 = i + 1 from rfl, List.getElem?_cons_succ, List.getElem?_cons_succ, List.getElem?_map, List.getElem?_map, ha, hb] at hm
     exact ⟨i, a, b, ha, hb, by simpa using hm⟩
   · cases hm
 · rintro ⟨i, a, b, ha, hb, rfl⟩
   refine ⟨i + 2, ?_, ?_⟩
   · rw [List.length_cons, List.length_map]
     have := (List.getElem?_eq_some_iff.1 hb).1; omega
   · unfold wwAt
     rw [hch, if_pos (by omega), show i + 2 - 1 = i + 1 from rfl, List.getElem?_cons_succ, List.getElem?_cons_succ, List.getElem?_map, List.getElem?_map, ha, hb]
     simp
theorem c6w (hw : b8s h) {m : Eg} : (∃ j, j < h.tables.length ∧ m ∈ wwT h j) ↔ m ∈ h.order.flatMap wwE := by
 rw [List.mem_flatMap]
 constructor
 · rintro ⟨j, _, hm⟩
   unfold wwT at hm
   rw [List.mem_flatMap] at hm
   obtain ⟨k, hk, hm⟩ := hm
   obtain ⟨o, ho, rfl⟩ := List.mem_map.1 hk
   rw [List.mem_filter] at ho
   have ht : o.table = j := by simpa [ofT] using ho.2
   exact ⟨o, ho.1, (c5w hw ho.1).1 (by rw [ht]; exact hm)⟩
 · rintro ⟨o, ho, hm⟩
   obtain ⟨h0, t, ht, _⟩ := c3w hw ho
   refine ⟨o.table.toNat, (List.getElem?_eq_some_iff.1 ht).1, ?_⟩
   unfold wwT
   rw [List.mem_flatMap]
   have hn : ((o.table.toNat : Nat) : Int) = o.table := by omega
   exact ⟨o.key, List.mem_map.2 ⟨o, List.mem_filter.2 ⟨ho, by simp [ofT, hn]⟩, rfl⟩, by rw [hn]; exact (c5w hw ho).2 hm⟩
theorem c7w {m : Eg} : (∃ i, i < h.events.length ∧ m ∈ evT h i) ↔ m ∈ h.events.flatMap (evE h) := by
 rw [List.mem_flatMap]
 constructor
 · rintro ⟨i, hi, hm⟩
   obtain ⟨e, he⟩ := c8Y hi
   unfold evT at hm
   rw [he] at hm
   exact ⟨e, List.mem_of_getElem? he, hm⟩
 · rintro ⟨e, he, hm⟩
   obtain ⟨i, hi⟩ := List.getElem?_of_mem he
   refine ⟨i, (List.getElem?_eq_some_iff.1 hi).1, ?_⟩
   unfold evT
   rw [hi]; exact hm
theorem c8w (hw : b8s h) (m : Eg) : addL (addL (fun _ => False) (wwT h) h.tables.length) (evT h) h.events.length m ↔ m ∈ a3L h := by
 rw [a4L hw]
 unfold addL a2L
 rw [c6w hw, c7w, List.mem_append]
 constructor
 · rintro ((h1 | ⟨h1, h2⟩) | ⟨h1, h2⟩)
   · exact h1.elim
   · exact ⟨.inl h2, h1⟩
   · exact ⟨.inr h2, h1⟩
 · rintro ⟨h1 | h1, h2⟩
   · exact .inl (.inr ⟨h2, h1⟩)
   · exact .inr ⟨h2, h1⟩
structure EgOf (h : Hs) (m : Eg) : Prop where
 frm : m.frm ∈ c0p h.events
 to : m.to ∈ c0p h.events
 kind : 1 ≤ m.kind ∧ m.kind ≤ 5
 key : b2h h m.table m.key
 cur : m.cursor = true → m.kind = 2 ∨ m.kind = 4
theorem c9w (hw : b8s h) {e : Ev} (he : e ∈ h.events) (hk : e.kind = 2) : b2h h e.table e.key := by
 obtain ⟨i, hi⟩ := List.getElem?_of_mem he
 exact ((b2B hw hi).1.2.1 hk).1
theorem c0x (hw : b8s h) {table : Int} {k : Vl} {i : Nat} {v : Vs} (hv : (chaB h.events h.order table k)[i]? = some v) (hi : 0 < i) : v.txn ∈ c0p h.events := (a9L hw hv hi).1
theorem c1x (hw : b8s h) {table : Int} {k : Vl} {v : Vs} (hp : 0 < plaB h.events h.order table k v) : v.txn ∈ c0p h.events := by
 unfold plaB at hp
 split at hp
 · omega
 · rcases b3I (fun x : Vs => decide (x.txn = v.txn)) (chaB h.events h.order table k) with ⟨i, x, g1, g2, g3, _⟩ | ⟨_, g⟩
   · rw [g3] at hp
     rw [decide_eq_true_eq] at g2
     rw [← g2]
     exact c0x hw g1 (by omega)
   · omega
theorem c2x (hw : b8s h) {m : Eg} (hm : m ∈ a2L h) : EgOf h m := by
 unfold a2L at hm
 rw [List.mem_append, List.mem_flatMap, List.mem_flatMap] at hm
 rcases hm with ⟨o, ho, hm⟩ | ⟨e, he, hm⟩
 · obtain ⟨i, a, b, ha, hb, rfl⟩ := a6L.1 hm
   exact ⟨a1A (c7d hw ho (List.mem_of_getElem? ha)).1, a1A (c7d hw ho (List.mem_of_getElem? hb)).1, by simp, c3w hw ho, fun h => by cases h⟩
 · unfold evE at hm
   split at hm
   · rename_i h5
     have hc := a1A h5
     split at hm
     · rename_i k2
       unfold a7K at hm
       rw [List.mem_append] at hm
       rcases hm with hm | hm
       · unfold rd1 at hm
         split at hm
         · rename_i hp
           rw [List.mem_singleton] at hm
           subst hm
           exact ⟨c1x hw hp, hc, by simp, c9w hw he k2, fun _ => .inl rfl⟩
         · cases hm
       · unfold rd2 at hm
         split at hm
         · rename_i hp
           rw [List.mem_singleton] at hm
           subst hm
           obtain ⟨v, hv⟩ : ∃ v, (chaB h.events h.order e.table e.key)[(plaB h.events h.order e.table e.key e.frm + 1).toNat]? = some v := c8Y (by omega)
           refine ⟨hc, ?_, by simp, c9w hw he k2, fun _ => .inr rfl⟩
           rw [hv]
           exact c0x hw hv (by omega)
         · cases hm
     · split at hm
       · unfold a1L at hm
         rw [List.mem_flatMap] at hm
         obtain ⟨o, ho, hm⟩ := hm
         unfold a0L at hm
         split at hm
         · rename_i ht
           unfold a9K at hm
           split at hm
           · cases hm
           · rw [mem_range] at hm
             obtain ⟨j, hj, hm⟩ := hm
             unfold a8K at hm
             split at hm
             · rename_i hch
               have hj0 : 0 < j := by
                 rcases Nat.eq_zero_or_pos j with g | g
                 · subst g
                   unfold chgB at hch
                   rw [if_pos (.inl (by decide))] at hch
                   cases hch
                 · exact g
               obtain ⟨v, hv⟩ := c8Y hj
               have hcv := c0x hw hv hj0
               have hk : b2h h e.table o.key := by rw [← ht]; exact c3w hw ho
               rw [List.mem_singleton, hv] at hm
               split at hm
               · subst hm
                 exact ⟨hcv, hc, by simp, hk, fun h => by cases h⟩
               · subst hm
                 exact ⟨hc, hcv, by simp, hk, fun h => by cases h⟩
             · cases hm
         · cases hm
       · cases hm
   · cases hm
theorem c3x (hw : b8s h) (hrg : h.Rg) {t : Int} (ht : t ∈ c0p h.events) : 1 ≤ t ∧ t < 2 ^ 63 := by
 unfold c0p at ht
 obtain ⟨e, he, rfl⟩ := List.mem_map.1 ht
 have hm := (List.mem_filter.1 he).1
 exact ⟨c9d hw hm, (hrg e hm).2⟩
theorem c4x (hw : b8s h) (hrg : h.Rg) {m : Eg} (hm : m ∈ a2L h) : m.D := by
 obtain ⟨h1, h2, h3, h4, _⟩ := c2x hw hm
 have g1 := c3x hw hrg h1
 have g2 := c3x hw hrg h2
 have g3 := a8L hw h4
 exact ⟨a7L h4, by omega, by omega, by omega, by omega⟩
theorem c5x (h : Hs) : Rise (a3L h) := by
 by_cases hw : b8s h
 · unfold a3L
   rw [if_pos hw]
   exact b4E (fun x hx => by cases hx) (fun x hx => a7L (c2x hw hx).key) List.Pairwise.nil
 · rw [a5L hw]; exact List.Pairwise.nil
theorem c6x {α β : Type} {f : α → List β} {B : Nat} : ∀ {l : List α}, (∀ x, x ∈ l → (f x).length ≤ B) → (l.flatMap f).length ≤ l.length * B
 | [], _ => by simp
 | x :: r, h => by
   rw [List.flatMap_cons, List.length_append, List.length_cons, Nat.add_mul, Nat.one_mul]
   have h1 := h x List.mem_cons_self
   have h2 := c6x (l := r) fun y hy => h y (List.mem_cons_of_mem _ hy)
   omega
theorem c7x (hw : b8s h) (hm : h.Mid) : (a2L h).length < 2 ^ 31 := by
 unfold a2L
 rw [List.length_append]
 have h1 : (h.order.flatMap wwE).length ≤ h.order.length * 100 := c6x fun o ho => by
   have := c8d hw ho
   unfold wwE
   rw [List.length_map, List.length_zip]
   have := hm.1
   omega
 have h2 : (h.events.flatMap (evE h)).length ≤ h.events.length * 20000 := c6x fun e _ => by
   unfold evE
   split
   · split
     · unfold a7K rd1 rd2
       rw [List.length_append]
       split <;> split <;> simp
     · split
       · unfold a1L
         have := c6x (f := a0L h e) (B := 200) (l := h.order) fun o _ => by
           unfold a0L
           split
           · unfold a9K
             split
             · simp
             · have := c6x (f := a8K h e o.key (plaB h.events h.order e.table o.key (a6K e.refs o.key))) (B := 1) (l := List.range (chaB h.events h.order e.table o.key).length) fun j _ => by
                 unfold a8K
                 split <;> simp
               rw [List.length_range] at this
               have := c2e hw e.table o.key
               have := hm.1
               omega
           · simp
         have := Nat.mul_le_mul_right 200 hm.2
         omega
       · simp
   · simp
 have := Nat.mul_le_mul_right 100 hm.2
 have := Nat.mul_le_mul_right 20000 hm.1
 omega
theorem c8x (hm : h.Mid) : (a3L h).length < 2 ^ 31 := by
 by_cases hw : b8s h
 · unfold a3L
   rw [if_pos hw]
   have h1 := b5E (es := a2L h) (l := [])
   have h2 := c7x hw hm
   rw [List.length_nil] at h1
   omega
 · rw [a5L hw]; decide
end
end Go.Rt
end

section
namespace Go.Rt
open Go.Vm
def gIn (l : List Int) : List Value → Option (List IV)
 | [.int .i64 t] => if t ∈ l then some [ci 1] else none
 | _ => none
theorem b4p : gIn [] = fun _ => none := by
 funext q; unfold gIn; split
 · rw [if_neg (by simp)]
 · rfl
theorem b5p (l : List Int) (t : Int) : gset (gIn l) [.int .i64 t] (some [ci 1]) = gIn (l ++ [t]) := by
 funext q
 simp only [gset]
 split
 · rename_i h; subst h
   simp only [gIn]
   rw [if_pos (by simp)]
 · rename_i hne
   unfold gIn
   split
   · rename_i u
     by_cases hu : u ∈ l
     · rw [if_pos hu, if_pos (by simp [hu])]
     · rw [if_neg hu, if_neg]
       intro g
       rcases List.mem_append.1 g with g | g
       · exact hu g
       · rw [List.mem_singleton.1 g] at hne; exact hne rfl
   · rfl
theorem b6p (l : List Int) (t : Int) : lkR [.iv (.v (.int .i64 0))] false false (gIn l [Value.int .i64 t]) = vi (if t ∈ l then 1 else 0) := by
 simp only [gIn]
 split <;> rfl
set_option maxHeartbeats 8000000 in
theorem b7p {h : Hs} (hok : h.Ok) (hm : h.Mid) (hw : ¬b8s h) : b1v prog true n_a0j [h.av] [] (.sl 2 8 0 0) [(2, .list 8 [])] := by
 have hR := b0W hok (by have := hm.1; omega) hw
 refine d6k 2 8 [] a0j_is (by simp) (by decide) (by simp) ?_
 simp -dsimp [a0j, Hs.av]
 refine d3l hR rfl (by simp [Hs.av]) (by simp [Hs.av]) (by simp) (by simp) ?_
 simp -dsimp
noncomputable abbrev grL (S : Eg → Prop) (x : Value) : Hp := [(18, .map skE (gE S)), (991, .gh ZT [x] [.mpr 18])]
theorem b8p {h : Hs} (hol : h.order.length < 2 ^ 62) (i : Nat) (x : Value) (hc : ∀ k, (chaB h.events h.order i k).length < 2 ^ 42) (S : Eg → Prop) :
   b1v prog false n_a3j [.iv (grIV h x), vi i] (grL S x) (.tup []) (grL (addS S (wwT h i)) x) := by
 have := (c1r hol i x hc S).ren (Ren.swaps [(1001, 18), (1002, 991)]) rfl
 rw [c9v] at this
 exact this
theorem b9p {h : Hs} (x : Value) (e : Ev) (hrow : b9V h.events) (hc : (chaB h.events h.order e.table e.key).length < 2 ^ 42) (S : Eg → Prop) :
   b1v prog false n_a5j [.iv (grIV h x), e.av] (grL S x) (.tup []) (grL (addS S (a7K h e)) x) := by
 have hs := c6e x e hrow hc S
 rw [c9v, Ev.av_eq, show [()].flatMap (fun _ : Unit => a7K h e) = a7K h e by simp] at hs
 rw [Ev.av_eq]
 exact hs.ren (Ren.swaps [(1001, 18), (1002, 991)]) rfl
theorem b0q (h : Hs) (e : Ev) : a1L h e = ((h.order.filter (ofT e.table)).map Ins.key).flatMap (a9K h e) := by
 unfold a1L
 induction h.order with
 | nil => rfl
 | cons o r ih =>
   rw [List.flatMap_cons, ih, List.filter_cons]
   unfold a0L ofT
   by_cases ht : o.table = e.table
   · rw [if_pos ht, if_pos (by simpa using ht), List.map_cons, List.flatMap_cons]
   · rw [if_neg ht, if_neg (by simpa using ht), List.nil_append]
theorem b1q {h : Hs} (hol : h.order.length < 2 ^ 62) (x : Value) (e : Ev) (heok : e.Ok) (hrow : b9V h.events) (hc : ∀ k, (chaB h.events h.order e.table k).length < 2 ^ 42) (S : Eg → Prop) :
   b1v prog false n_a6j [.iv (grIV h x), e.av] (grL S x) (.tup []) (grL (addS S (a1L h e)) x) := by
 have hs := c1z hol x e heok hrow hc S
 rw [c9v, ← b0q, Ev.av_eq] at hs
 rw [Ev.av_eq]
 exact hs.ren (Ren.swaps [(1001, 18), (1002, 991)]) rfl
noncomputable def edS (h : Hs) (x : Value) (S : Eg → Prop) (fr : List (Nat × AV)) (hp : Hp) : St :=
 ⟨fr ++ [(4, .iv (grIV h x)), (1, .ptr 1 0), (3, .iv (bkIV h.events h.order))], hp ++ [(1, .box [.iv (.lst 1 (tbsC h.tables)), .iv (.lst 22 (evsC h.events)), .iv (.lst 5 (insC h.order))]), (18, .map skE (gE S)), (991, .gh ZT [x] [.mpr 18])]⟩
set_option maxHeartbeats 8000000 in
theorem b2q {h : Hs} (hok : h.Ok) (hrg : h.Rg) (hm : h.Mid) (hw : b8s h) : b1v prog true n_a0j [h.av] [] (.sl 11 8 0 (a3L h).length) [(11, .list 8 (egsC (a3L h)))] := by
 refine (d8h (fun r K => r = .sl 11 8 0 (a3L h).length ∧ K = [(11, .list 8 (egsC (a3L h)))]) a0j_is (by simp) (by decide) (fun x H' h => ?_) ?_).one (fun _ _ h => h) (fun id o ho => ?_)
 · obtain ⟨rfl, rfl⟩ := h
   refine ⟨fun id o ho => ?_, rfl⟩
   simp only [Vm.look] at ho
   split at ho
   · cases ho
     exact ⟨rfl, c0T _⟩
   · cases ho
 rotate_left
 · simp only [Vm.look] at ho
   split at ho
   · cases ho; rfl
   · cases ho
 have hol : h.order.length < 2 ^ 62 := by have := hm.2; omega
 have hc : ∀ table k, (chaB h.events h.order table k).length < 2 ^ 42 := fun table k => by
   have := c2e hw table k; have := hm.1; omega
 have hrow := c8v hw
 have hR := b1W hok (by have := hm.1; omega) hw hrow fun o ho => Nat.lt_of_le_of_lt (c8d hw ho) (by have := hm.1; omega)
 simp -dsimp [a0j, Hs.av]
 refine d3l hR rfl (by simp [Hs.av]) (by simp [Hs.av]) (by simp) (by simp) ?_
 have hbk : ∀ {P : Program} {s : St} {K : St → AV → Prop}, True := trivial
 simp -dsimp [bkIV, b2Z]
 refine a6H (fun k s => ∃ (x : Value) (i : Nat), i ≤ h.tables.length ∧ k = h.tables.length - i ∧ s = edS h x (addL (fun _ => False) (wwT h) i) [(24, vi i), (23, vi h.tables.length)] []) ?_ ?_
 · refine (a1O (id := 20) (g := 991) (i := 4) (m := 18) (cs := [.iv (.lst 1 (tbsC h.tables)), .iv (.lst 22 (evsC h.events)), .iv (.lst 5 (insC h.order)), .iv (bkIV h.events h.order), .mpr 18]) (by simp [bkIV]) rfl (by simp) (by decide)).to ?_
   rintro s' ⟨x, rfl⟩
   refine (LeTo.le (D := [20, 2]) (s' := edS h x (addL (fun _ => False) (wwT h) 0) [(24, vi (0 : Nat)), (23, vi h.tables.length)] []) ?_).x ⟨_, x, 0, Nat.zero_le _, rfl, rfl⟩
   simp -dsimp [edS, c5P, c2P, grIV, bkIV, St.add, St.set_mk]
 · rintro k s' ⟨x, i, hi, rfl, rfl⟩
   simp -dsimp [edS, a0j_l10]
   refine ⟨fun hlt => ?_, fun hge => ?_⟩
   · have hwr := c9Y (n := (i : Int) + 1) (by have := hok.tables; omega)
     refine a3K (b8p hol i x (fun k => hc i k) (addL (fun _ => False) (wwT h) i)) rfl (by simp) (by simp) (by simp) (by simp) (by simp) (by simp) (by simp) ?_
     rw [← c0w]
     simp -dsimp [hwr]
     exact ⟨h.tables.length - (i + 1), by omega, edS h x (addL (fun _ => False) (wwT h) (i + 1)) [(24, vi (i + 1 : Nat)), (23, vi h.tables.length)] [], LeTo.le (D := []) (by simp -dsimp [edS]), x, i + 1, hlt, rfl, rfl⟩
   · have hin : i = h.tables.length := by omega
     subst hin
     simp -dsimp
     have hlen : (b4P (c0p h.events)).length ≤ 100 := by
       rw [b2V]; exact Nat.le_trans (c3p _) hm.1
     refine d3l (b5o h.events h.order (by have := hm.1; omega)) rfl (by simp) (by simp) (by simp) (by simp) ?_
     simp -dsimp [c2Z]
     generalize hS0 : addL (fun _ => False) (wwT h) h.tables.length = S0
     generalize hcl : b4P (c0p h.events) = cl at hlen
     refine a7H [] [] cl.length (fun q => edS h x S0 [(35, vi q), (34, vi cl.length), (33, .iv (.lst 1 (c1Z cl))), (6, .mpr 31)] [(31, .map (false, [.i .i64], false) (gIn (cl.take q)))]) (fun _ => True) ?_ trivial ?_
     · simp -dsimp [edS, b4p]
     · intro q hq _
       simp -dsimp [edS, a0j_l17]
       refine ⟨fun hlt => ?_, fun hge => ?_⟩
       · obtain ⟨t, ht⟩ := c8Y hlt
         have hwr := c9Y (n := (q : Int) + 1) (by omega)
         have hst : cl.take (q + 1) = cl.take q ++ [t] := by rw [List.take_add_one, ht]; rfl
         simp -dsimp [ht, hwr, b5p, hst]
         exact hlt
       · rw [List.take_of_length_le hge]
         refine a7H [31] [10] h.events.length (fun q => edS h x (addL S0 (evT h) q) [(45, vi q), (44, vi h.events.length), (43, .iv (.lst 22 (evsC h.events))), (6, .iv (.mp (false, [.i .i64], false) (gIn cl)))] []) (fun _ => True) ?_ trivial ?_
         · simp -dsimp [edS, c5P]
         · intro q hq _
           simp -dsimp [edS, a0j_l27]
           refine ⟨fun hlt => ?_, fun hge => ?_⟩
           · obtain ⟨e, he⟩ := c8Y hlt
             have hwr := c9Y (n := (q : Int) + 1) (by have := hm.1; omega)
             have hadd := c0w S0 (evT h) q
             have hev : evT h q = evE h e := by unfold evT; rw [he]; rfl
             have hmem : e.txn ∈ cl ↔ b8g h.events e.txn = 5 := by
               rw [← hcl]
               exact ⟨fun g => a0A hw ((List.mergeSort_perm _ _).mem_iff.1 g), fun g => (List.mergeSort_perm _ _).mem_iff.2 (a1A g)⟩
             have heok := hok.ev e (List.mem_of_getElem? he)
             rw [hev] at hadd
             rw [hadd]
             unfold evE
             by_cases h5 : e.txn ∈ cl
             · rw [if_pos (hmem.1 h5)]
               by_cases k2 : e.kind = 2
               · rw [if_pos k2]
                 simp -dsimp [he, b6p, Ev.cells_eq e, h5, k2]
                 refine a3K (b9p x e hrow (hc e.table e.key) (addL S0 (evT h) q)) rfl (by simp) (by simp [Ev.av_eq, k2]) (by simp [Ev.av_eq]) (by simp) (by simp) (by simp) (by simp) ?_
                 simp -dsimp [hwr]
                 exact hlt
               · rw [if_neg k2]
                 by_cases k4 : e.kind = 4
                 · rw [if_pos k4]
                   simp -dsimp [he, b6p, Ev.cells_eq e, h5, k4]
                   refine a3K (b1q hol x e heok hrow (hc e.table) (addL S0 (evT h) q)) rfl (by simp) (by simp [Ev.av_eq, k4]) (by simp [Ev.av_eq]) (by simp) (by simp) (by simp) (by simp) ?_
                   simp -dsimp [hwr]
                   exact hlt
                 · rw [if_neg k4, c1w]
                   simp -dsimp [he, b6p, Ev.cells_eq e, h5, k2, k4, hwr]
                   exact hlt
             · rw [if_neg fun g => h5 (hmem.2 g), c1w]
               simp -dsimp [he, b6p, Ev.cells_eq e, h5, hwr]
               exact hlt
           · have hqn : q = h.events.length := by omega
             subst hqn
             have hfin : ∀ m, addL S0 (evT h) h.events.length m ↔ m ∈ a3L h := fun m => by rw [← hS0]; exact c8w hw m
             generalize addL S0 (evT h) h.events.length = SF at hfin ⊢
             have hSL : ∀ m, SF m → m ∈ a2L h := fun m g => ((a4L hw).1 ((hfin m).1 g)).1
             have hEl := c7x hw hm
             have hnd : ∀ {ks : List Eg}, ks.Nodup → (∀ j ∈ ks, SF j) → ks.length ≤ (a2L h).length := fun g1 g2 => c3d g1 fun j hj => hSL j (g2 j hj)
             simp -dsimp [grIV]
             refine c7u (a2O (t := 73) (g := 991) (i := 0) (x := x) (y := .mpr 18) (Z := ZT) (vs := [x]) (cs := [.mpr 18]) (by simp) (by simp) rfl rfl) ?_
             refine d3l (c5S (gE SF)) rfl (by simp [St.set_mk]) (by simp) (by simp) (by simp [St.set_mk]) ?_
             simp -dsimp [St.set_mk]
             refine b8A (c3T (caps := [.pt [.mp skE (gE SF)]]) (c3S SF) c6S (fun pre x hp => ?_)) ?_ (by simp) ?_ ?_
             · obtain ⟨ks, k, h1, h2, h3, h4⟩ := hp
               refine ⟨ks, k, h1, h2, ?_⟩
               have := hnd h3 h4
               rw [List.length_append] at this
               omega
             · simp
             · rintro r K ⟨ks, hS, ⟨rfl, rfl, rfl⟩ | ⟨hne, rfl, rfl⟩⟩ id o ho
               · cases ho
               · simp only [Vm.look] at ho
                 split at ho
                 · rename_i e; subst e
                   refine ⟨?_, by decide⟩
                   simp -dsimp
                 · cases ho
             · rintro r K ⟨ks, ⟨ks', hk1, hk2, hk3⟩, hcase⟩
               have hks : ks = ks' := by have := congrArg c7S hk1; rwa [c8S, c8S] at this
               subst hks
               obtain ⟨r0, hr1, hr2, hr3, hr4⟩ := c8m (l := ks) (fun e he => c4x hw hrg (hSL e ((hk3 e).1 he))) hk2 (by
                 have := hnd hk2 fun j hj => (hk3 j).1 hj
                 omega)
               obtain rfl : r0 = a3L h := b0E hr1 (c5x h) fun e => by rw [hr2, hk3, hfin]
               rcases hcase with ⟨rfl, rfl, rfl⟩ | ⟨hne, rfl, rfl⟩
               · have hE : a3L h = [] := List.eq_nil_of_length_eq_zero hr3
                 rw [hE]
                 simp -dsimp
                 refine a0G c9m (by simp) (by simp) ?_
                 simp -dsimp
                 refine ⟨_, d7h (t := 2) (sz := 8) (id := 11) (by simp) (by simp) (by decide), [1, 901, 991], _, _, ⟨rfl, rfl⟩, ?_⟩
                 simp -dsimp [St.add, St.set_mk, egsC]
               · simp -dsimp
                 have hr5 : b1v prog false n_a3p [.sl 11 8 0 ks.length, .fn n_a0k [] []] [(11, .list 8 (egsC ks))] (.tup []) [(11, .list 8 (egsC (a3L h)))] := hr4.ren (Ren.swaps [(1000, 11)]) rfl
                 refine a3K hr5 rfl (by simp) (by simp) (by simp) (by simp) (by simp) (by simp [Ob.le, Ob.dim, hr3]) (by simp) ?_
                 simp -dsimp
                 refine ⟨_, Le.refl _, [1, 901, 991], _, _, ⟨rfl, rfl⟩, ?_⟩
                 simp -dsimp [hr3]
theorem b3q {h : Hs} (hok : h.Ok) (hrg : h.Rg) (hm : h.Mid) (d : Nat) : b1v prog true n_a0j [h.av] [] (.sl d 8 0 (a3L h).length) [(d, .list 8 (egsC (a3L h)))] := by
 by_cases hw : b8s h
 · exact (b2q hok hrg hm hw).fresh d (by simp [Hs.av, AV.shal, AV.shal2, AV.shal1]) (fun ρ => rfl)
 · have := (b7p hok hm hw).fresh d (by simp [Hs.av, AV.shal, AV.shal2, AV.shal1]) (fun ρ => rfl)
   rw [a5L hw]
   exact this
end Go.Rt
end

section
namespace Go.Rt
open Go.Vm
theorem b9s {α : Type} {p : α → Bool} : ∀ {l : List α} {i : Nat} {e : α}, (Upto i fun j => ∀ x, l[j]? = some x → p x = false) → l[i]? = some e → p e = true → l.find? p = some e
 | [], _, _, _, h, _ => by cases h
 | x :: r, 0, e, _, h, hp => by
   simp only [List.getElem?_cons_zero, Option.some.injEq] at h
   subst h
   exact List.find?_cons_of_pos hp
 | x :: r, i + 1, e, hq, h, hp => by
   have hx := hq 0 (by omega) x rfl
   rw [List.find?_cons_of_neg (by simp [hx])]
   exact b9s (i := i) (fun j hj y hy => hq (j + 1) (by omega) y hy) h hp
theorem b0t {α : Type} {p : α → Bool} {l : List α} {n : Nat} (hn : l.length ≤ n) (hq : Upto n fun j => ∀ x, l[j]? = some x → p x = false) : l.find? p = none := by
 rw [List.find?_eq_none]
 intro x hx
 obtain ⟨j, hj⟩ := List.getElem?_of_mem hx
 simp [hq j (Nat.lt_of_lt_of_le (List.getElem?_eq_some_iff.1 hj).1 hn) x hj]
def rowF (es : List Ev) (table : Int) (k : Vl) (v : Vs) : Option (List Vl) := if v = ⟨0, 0⟩ then some [] else (es.find? (Ev.isN v.txn table k v.n)).map Ev.row
theorem b1t {h : Hs} (hw : b8s h) (table : Int) (k : Vl) (v : Vs) : rowF h.events table k v = rowB h.events table k v := by
 unfold rowF rowB
 rw [b3C hw]
set_option maxRecDepth 8000 in
set_option maxHeartbeats 8000000 in
theorem b2t {h : Hs} (hok : h.Ok) (table : Int) (k : Vl) (v : Vs) : b1v prog false n_a4f [h.av, vi table, k.av, v.av] [] (.tup [.iv (.lst 3 (rowC ((rowF h.events table k v).getD []))), vb (rowF h.events table k v).isSome]) [] := by
 refine d5l (by decide) a4f_is (by simp [Hs.av]) (by decide) ?_
 by_cases h0 : v = ⟨0, 0⟩
 · subst h0
   simp -dsimp [a4f, Hs.av, rowF]
   exact ⟨[4, 6, 7, 8, 10], by simp [d4l, AV.ivc, rowC]⟩
 · have h1 : v.txn = 0 → ¬v.n = 0 := fun h h' => h0 (Vs.eq_iff.2 ⟨h, h'⟩)
   have h2 : rowF h.events table k v = (h.events.find? (Ev.isN v.txn table k v.n)).map Ev.row := by unfold rowF; rw [if_neg h0]
   rw [h2]
   simp -dsimp [a4f, Hs.av]
   refine ⟨fun a b => absurd b (h1 a), fun _ => ?_⟩
   refine a7H [8, 10] [12] h.events.length (fun i => ⟨[(11, vi i), (4, .ptr 4 0), (6, .ptr 6 0), (7, .ptr 7 0), (1, vi table)], [(7, .box (v.cells.map .iv)), (6, .box (k.cells.map .iv)), (4, .box (h.cells.map .iv))]⟩)
     (fun i => Upto i fun j => ∀ e, h.events[j]? = some e → Ev.isN v.txn table k v.n e = false) ?_ ?_ ?_
   · simp -dsimp [Hs.cells]
   · simp
   · intro i hi hq
     have hev := hok.events
     by_cases hil : i < h.events.length
     · obtain ⟨e, he⟩ := c8Y hil
       have hw := c9Y (n := (i : Int) + 1) (by omega)
       by_cases hb : Ev.isN v.txn table k v.n e = true
       · rw [b9s hq he hb]
         obtain ⟨g1, g2⟩ := b9B.1 hb
         obtain ⟨g3, g4, g5, g6⟩ := b7B g1
         have g7 := Vl.eq_iff.1 g6
         simp -dsimp [a4f_l10, Hs.cells, he, Ev.cells_eq e, g2, g3, g4, g5, g7]
         exact ⟨fun _ => ⟨[4, 6, 7, 12], by simp [d4l, AV.ivc]⟩, fun hx => absurd hil (by omega)⟩
       · have hq2 : Upto (i + 1) fun j => ∀ e, h.events[j]? = some e → Ev.isN v.txn table k v.n e = false := hq.succ fun x hx => by
           rw [he] at hx; cases hx; simpa using hb
         have hb2 : ¬((e.kind = 3 ∧ e.txn = v.txn ∧ e.table = table ∧ e.key.text = k.text ∧ e.key.n = k.n ∧ e.key.s = k.s) ∧ e.n = v.n) := by
           rw [← Ev.isW_iff, ← b9B]; exact hb
         by_cases k3 : e.kind = 3
         · by_cases k4 : e.txn = v.txn
           · by_cases k5 : e.n = v.n
             · by_cases k6 : e.table = table
               · have k7 : ¬(e.key.text = k.text ∧ e.key.n = k.n ∧ e.key.s = k.s) := fun g => hb2 ⟨⟨k3, k4, k6, g⟩, k5⟩
                 simp -dsimp [a4f_l10, Hs.cells, he, Ev.cells_eq e, hw, k3, k4, k5, k6]
                 exact ⟨fun _ => ⟨fun a b c => (k7 ⟨a, b, c⟩).elim, fun _ => ⟨hil, hq2⟩⟩, fun hx => absurd hil (by omega)⟩
               · simp -dsimp [a4f_l10, Hs.cells, he, Ev.cells_eq e, hw, k3, k4, k5, k6]
                 exact ⟨fun _ => ⟨hil, hq2⟩, fun hx => absurd hil (by omega)⟩
             · simp -dsimp [a4f_l10, Hs.cells, he, Ev.cells_eq e, hw, k3, k4, k5]
               exact ⟨fun _ => ⟨hil, hq2⟩, fun hx => absurd hil (by omega)⟩
           · simp -dsimp [a4f_l10, Hs.cells, he, Ev.cells_eq e, hw, k3, k4]
             exact ⟨fun _ => ⟨hil, hq2⟩, fun hx => absurd hil (by omega)⟩
         · simp -dsimp [a4f_l10, Hs.cells, he, Ev.cells_eq e, hw, k3]
           exact ⟨fun _ => ⟨hil, hq2⟩, fun hx => absurd hil (by omega)⟩
     · rw [b0t (by omega) hq]
       have hie : i = h.events.length := by omega
       subst hie
       simp -dsimp [a4f_l10, Hs.cells]
       exact ⟨[4, 6, 7, 8], by simp [d4l, AV.ivc, rowC]⟩
end Go.Rt
end

section
namespace Go.Rt
open Go.Vm
def posU (t : Int) : List Int → Nat
 | [] => 0
 | a :: r => if a < t then posU t r + 1 else 0
def insU (l : List Int) (t : Int) : List Int := if l[posU t l]? = some t then l else l.take (posU t l) ++ t :: l.drop (posU t l)
def stepT (out : List Int) (e : Ev) : List Int := if e.kind = 1 then insU out e.txn else out
def txns (es : List Ev) : List Int := es.foldl stepT []
end Go.Rt
end

section
namespace Go.Rt
open Go.Vm
end Go.Rt
end

section
namespace Go.Rt
open Go.Vm
def b5H (l : List Eg) : Prop := l.length < 2 ^ 40 ∧ ∀ x, x ∈ l → x.key.s.size < 2 ^ 63
set_option maxHeartbeats 8000000 in
theorem b6H {l : List Eg} (hl : b5H l) (e : Eg) : b1v prog false n_a2k [.iv (b0r l), e.av] [] (.iv (b0r (putE l e))) [] := by
 refine d6h a2k_is (by simp [Eg.av]) (by decide) ?_
 have hlen := hl.1
 by_cases hft : e.frm = e.to
 · have hp : putE l e = l := by unfold putE; rw [if_pos hft]
   rw [hp]
   simp -dsimp [c6k, Eg.av, Eg.cells, hft]
   exact ⟨[3], by simp -dsimp [EndV]⟩
 · have hp : putE l e = insE e l := by unfold putE; rw [if_neg hft]
   rw [hp]
   simp -dsimp [c6k, Eg.av, Eg.cells, hft]
   refine a7H [4] [] l.length (fun i => ⟨[(5, vi i), (3, .ptr 3 0), (0, .iv (b0r l))], [(3, .box (e.cells.map .iv))]⟩) (fun i => ∀ j, j < i → ∀ x, l[j]? = some x → x.lss e = true) ?_ (fun j hj => absurd hj (Nat.not_lt_zero _)) ?_
   · simp -dsimp [Eg.cells]
   · intro i hi hq
     rcases Nat.lt_or_ge i l.length with hlt | hge
     · obtain ⟨x, hx⟩ := c8Y hlt
       have hd : decide (i < l.length) = true := decide_eq_true hlt
       have hwr := c9Y (n := (i : Int) + 1) (by omega)
       have hL := c4b x e (hl.2 x (List.mem_of_getElem? hx))
       simp -dsimp [a2k_l6, b0r, Eg.cells, hx, hd]
       refine a0G hL (by simp [Eg.av, Eg.cells]) (by simp [Eg.av, Eg.cells]) ?_
       cases hs : x.lss e with
       | true =>
         simp -dsimp [hs, hwr]
         refine ⟨hlt, fun j hj y hy => ?_⟩
         rcases Nat.lt_or_ge j i with g | g
         · exact hq j g y hy
         · have : j = i := by omega
           subst this; rw [hx] at hy; cases hy; exact hs
       | false =>
         by_cases hxe : x = e
         · subst hxe
           have hins : insE x l = l := by
             have := b6E (e := x) (k := i) hi hq (fun y hy => by rw [hx] at hy; cases hy; exact hs)
             rw [this, if_pos hx]
           simp -dsimp [hs, hx, hd, Eg.cells]
           refine ⟨[3], ?_⟩
           rw [hins]
           simp -dsimp [EndV]
           rfl
         · have hins : insE e l = l.take i ++ e :: l.drop i := by
             have := b6E (e := e) (k := i) hi hq (fun y hy => by rw [hx] at hy; cases hy; exact hs)
             rw [this, if_neg (by rw [hx]; simpa using hxe)]
           have hne : ¬(x.frm = e.frm ∧ x.to = e.to ∧ x.kind = e.kind ∧ x.table = e.table ∧ x.key.text = e.key.text ∧ x.key.n = e.key.n ∧ x.key.s = e.key.s ∧ x.cursor = e.cursor) := fun g =>
             hxe (Eg.eq_iff.2 ⟨g.1, g.2.1, g.2.2.1, g.2.2.2.1, Vl.eq_iff.2 ⟨g.2.2.2.2.1, g.2.2.2.2.2.1, g.2.2.2.2.2.2.1⟩, g.2.2.2.2.2.2.2⟩)
           simp -dsimp [hs, hx, hd, Eg.cells]
           refine ⟨fun a1 a2 a3 a4 a5 a6 a7 a8 => (hne ⟨a1, a2, a3, a4, a5, a6, a7, a8⟩).elim, fun _ => ?_⟩
           rw [Nat.min_eq_left hi]
           refine ⟨hi, by omega, by omega, by omega, by omega, hi, by omega, by omega, [3, 6, 47], ?_⟩
           simp -dsimp [EndV, b0r]
           rw [hins, List.take_of_length_le (by simp; omega)]
           simp [egsC, Eg.cells, List.map_take, List.map_drop]
           exact List.take_of_length_le (by simp)
     · obtain rfl : i = l.length := by omega
       have hins : insE e l = l ++ [e] := by
         have := b6E (k := l.length) (Nat.le_refl _) hq (fun x hx => by simp at hx)
         rw [this]; simp
       simp -dsimp [a2k_l6, b0r, Eg.cells]
       refine ⟨by omega, by omega, by omega, by omega, by omega, by omega, [3, 6, 47], ?_⟩
       simp -dsimp [EndV]
       rw [hins, List.take_of_length_le (by simp)]
       simp [egsC, Eg.cells]
       exact List.take_of_length_le (by simp)
end Go.Rt
end

section
namespace Go.Rt
open Go.Vm
theorem b6S {α : Type} {p : α → Bool} : ∀ {l : List α}, (∀ (i j : Nat) (a b : α), l[i]? = some a → l[j]? = some b → p a = true → p b = true → i = j) → ∀ {e : α}, e ∈ l → p e = true → l.filter p = [e]
 | [], _, _, he, _ => by cases he
 | x :: r, hu, e, he, hp => by
   by_cases hx : p x = true
   · have hr : r.filter p = [] := by
       rw [List.filter_eq_nil_iff]
       intro y hy hpy
       obtain ⟨j, hj⟩ := List.getElem?_of_mem hy
       have := hu 0 (j + 1) x y rfl hj hx hpy
       omega
     rw [List.filter_cons_of_pos hx, hr]
     rcases List.mem_cons.1 he with rfl | he
     · rfl
     · have : e ∈ r.filter p := List.mem_filter.2 ⟨he, hp⟩
       rw [hr] at this; cases this
   · rw [List.filter_cons_of_neg hx]
     rcases List.mem_cons.1 he with rfl | he
     · exact (hx hp).elim
     · exact b6S (fun i j a b ha hb => by
         intro h1 h2
         have := hu (i + 1) (j + 1) a b ha hb h1 h2
         omega) he hp
def verO (es : List Ev) (table : Int) (k : Vl) (o : Ins) : List Vs := o.txns.map fun t => ⟨t, (c5Q es t table k : Int)⟩
def chaF (es : List Ev) (os : List Ins) (table : Int) (k : Vl) : List Vs := ⟨0, 0⟩ :: ((os.filter (Ins.isO table k)).map (verO es table k)).flatten
theorem b7S {es : List Ev} {os : List Ins} {table : Int} {k : Vl} {i : Nat} {o : Ins} (ho : os[i]? = some o) : chaF es (os.take (i + 1)) table k = if Ins.isO table k o = true then chaF es (os.take i) table k ++ verO es table k o else chaF es (os.take i) table k := by
 unfold chaF
 rw [show os.take (i + 1) = os.take i ++ [o] by rw [List.take_add_one, ho]; rfl, List.filter_append]
 by_cases hb : Ins.isO table k o = true
 · rw [if_pos hb, List.filter_cons_of_pos hb]; simp
 · rw [if_neg hb, List.filter_cons_of_neg hb]; simp
theorem b8S {h : Hs} (hw : b8s h) (table : Int) (k : Vl) : chaF h.events h.order table k = chaB h.events h.order table k := by
 rw [a2A hw]
 unfold chaF tsB
 cases ho : c0n (Ins.isO table k) h.order with
 | none =>
   have : h.order.filter (Ins.isO table k) = [] := by
     rw [List.filter_eq_nil_iff]
     intro o hm
     rw [c4n] at ho
     rw [ho o hm]; simp
   rw [this]; rfl
 | some o =>
   obtain ⟨h1, h2⟩ := c5n ho
   rw [b6S (c1e hw) h1 h2]
   simp [verO]
theorem b9S {es : List Ev} {os : List Ins} {table : Int} {k : Vl} (i : Nat) : (chaF es (os.take i) table k).length ≤ (chaF es os table k).length := by
 unfold chaF
 have h1 : (os.take i).filter (Ins.isO table k) <+: os.filter (Ins.isO table k) := (List.take_prefix i os).filter _
 obtain ⟨r, hr⟩ := h1
 rw [← hr]
 simp
set_option maxHeartbeats 16000000 in
theorem b0T {h : Hs} (hok : h.Ok) (hw : b8s h) (hev : h.events.length < 2 ^ 40) (table : Int) (k : Vl) : b1v prog false n_a2a [h.av, vi table, k.av] [] (.iv (.lst 2 (vsC (chaB h.events h.order table k)))) [] := by
 rw [← b8S hw]
 have hlen : (chaF h.events h.order table k).length ≤ h.events.length + 1 := by rw [b8S hw]; exact c2e hw table k
 have hord := hok.order
 refine d6h a2a_is (by simp [Hs.av]) (by decide) ?_
 simp -dsimp [a2a, Hs.av]
 refine a7H [6] [9] h.order.length (fun i => ⟨[(8, vi i), (7, .sl 13 2 0 (chaF h.events (h.order.take i) table k).length), (5, .ptr 5 0), (3, .ptr 3 0), (1, vi table)],
   [(13, .list 2 (vsC (chaF h.events (h.order.take i) table k))), (5, .box (k.cells.map .iv)), (3, .box (h.cells.map .iv))]⟩) (fun _ => True) ?_ trivial ?_
 · simp [Hs.cells, chaF, vsC, Vs.cells]
 · intro i hi _
   by_cases hil : i < h.order.length
   · obtain ⟨o, ho⟩ := c8Y hil
     have hwi := c9Y (n := (i : Int) + 1) (by omega)
     have hst := b7S (es := h.events) (table := table) (k := k) ho
     have hl0 := b9S (es := h.events) (os := h.order) (table := table) (k := k) (i + 1)
     by_cases hb : Ins.isO table k o = true
     · rw [if_pos hb] at hst
       rw [hst] at hl0 ⊢
       obtain ⟨g1, g2⟩ := c0e.1 hb
       have g3 := Vl.eq_iff.1 g2
       generalize chaF h.events (h.order.take i) table k = l0 at *
       simp -dsimp [a2a_l13, Hs.cells, ho, Ins.cells_eq o, g1, g3]
       refine ⟨fun _ => ?_, fun hx => absurd hil (by omega)⟩
       have hvl : (verO h.events table k o).length = o.txns.length := by simp [verO]
       have hl1 := hl0
       rw [List.length_append, hvl] at hl1
       refine a7H [] [63] o.txns.length (fun j => ⟨[(10, vi j), (9, .ptr 9 0), (8, vi i), (7, .sl 13 2 0 (l0 ++ (verO h.events table k o).take j).length), (5, .ptr 5 0), (3, .ptr 3 0), (1, vi table)],
         [(9, .box (o.cells.map .iv)), (13, .list 2 (vsC (l0 ++ (verO h.events table k o).take j))), (5, .box (k.cells.map .iv)), (3, .box (h.cells.map .iv))]⟩) (fun _ => True) ?_ trivial ?_
       · simp [Hs.cells, Ins.cells_eq o, g1, g3]
       · intro j hj _
         by_cases hjl : j < o.txns.length
         · obtain ⟨t, ht⟩ := c8Y hjl
           have hwj := c9Y (n := (j : Int) + 1) (by omega)
           have hvt : (verO h.events table k o)[j]? = some ⟨t, (c5Q h.events t table k : Int)⟩ := by
             unfold verO; rw [List.getElem?_map, ht]; rfl
           simp -dsimp [a2a_l11, Hs.cells, Ins.cells_eq o, ht, b2Z]
           refine ⟨fun _ => ?_, fun hx => absurd hjl (by omega)⟩
           refine a0G (b7g hok h.events.length t table k) (by simp [Hs.av]) (by simp [Hs.av]) ?_
           rw [List.take_length]
           rw [show List.take (j + 1) (verO h.events table k o) = List.take j (verO h.events table k o) ++ [⟨t, (c5Q h.events t table k : Int)⟩] by rw [List.take_add_one, hvt]; rfl]
           generalize verO h.events table k o = w at *
           simp -dsimp [Ins.cells_eq o, ht, hwj]
           exact ⟨by omega, by omega, hjl, by omega, by simp [vsC, Vs.cells]⟩
         · have hje : j = o.txns.length := by omega
           subst hje
           rw [show List.take o.txns.length (verO h.events table k o) = verO h.events table k o by rw [← hvl]; exact List.take_length]
           simp -dsimp [a2a_l11, Hs.cells, Ins.cells_eq o, hwi, hil]
     · rw [if_neg hb] at hst
       rw [hst]
       have hb2 : ¬(o.table = table ∧ o.key.text = k.text ∧ o.key.n = k.n ∧ o.key.s = k.s) := by
         intro g
         exact hb (c0e.2 ⟨g.1, Vl.eq_iff.2 g.2⟩)
       generalize chaF h.events (h.order.take i) table k = l0 at *
       by_cases g1 : o.table = table
       · simp -dsimp [a2a_l13, Hs.cells, ho, Ins.cells_eq o, g1, hwi]
         refine ⟨fun _ => ⟨fun _ => hil, fun a b c => (hb2 ⟨g1, a, b, c⟩).elim⟩, fun hx => absurd hil (by omega)⟩
       · simp -dsimp [a2a_l13, Hs.cells, ho, Ins.cells_eq o, g1, hwi]
         exact fun hx => absurd hil (by omega)
   · have hie : i = h.order.length := by omega
     subst hie
     rw [List.take_length]
     simp -dsimp [a2a_l13, Hs.cells]
     exact ⟨[3, 5, 13], by simp [EndV, AV.ivc]; exact List.take_of_length_le (by simp)⟩
set_option maxHeartbeats 8000000 in
theorem b1T {h : Hs} (hok : h.Ok) (hw : b8s h) (hev : h.events.length < 2 ^ 40) (table : Int) (k : Vl) (v : Vs) : b1v prog true n_a7c [h.av, vi table, k.av, v.av] [] (vi (plaB h.events h.order table k v)) [] := by
 have hR := b2t hok table k v
 rw [b1t hw] at hR
 refine a4H a7c_is (by simp [Hs.av]) (by decide) rfl ?_
 simp -dsimp [a7c, Hs.av]
 refine d3l hR rfl (by simp [Hs.av]) (by simp [Hs.av]) (by simp) (by simp) ?_
 simp -dsimp
 refine d3l (b0T hok hw hev table k) rfl (by simp [Hs.av]) (by simp [Hs.av]) (by simp) (by simp) ?_
 have hcl := c2e hw table k
 unfold plaB
 generalize chaB h.events h.order table k = l at *
 generalize rowB h.events table k v = r at *
 simp -dsimp
 cases r with
 | none =>
   refine a7H [] [] 0 (fun i => ⟨[(12, vi i), (11, .iv (.lst 2 (vsC l))), (10, vb false), (7, .ptr 7 0)], [(7, .box (v.cells.map .iv)), (6, .box (k.cells.map .iv)), (4, .box (h.cells.map .iv))]⟩) (fun _ => True) ?_ trivial ?_
   · simp [Hs.cells]
   · intro i hi _
     have hi0 : i = 0 := by omega
     subst hi0
     by_cases hl0 : 0 < l.length <;> simp -dsimp [a7c_l8, hl0]
 | some r =>
   refine a7H [] [] l.length (fun i => ⟨[(12, vi i), (11, .iv (.lst 2 (vsC l))), (10, vb true), (7, .ptr 7 0)], [(7, .box (v.cells.map .iv)), (6, .box (k.cells.map .iv)), (4, .box (h.cells.map .iv))]⟩)
     (fun i => Upto i fun j => ∀ x, l[j]? = some x → decide (x.txn = v.txn) = false) ?_ ?_ ?_
   · simp [Hs.cells]
   · simp
   · intro i hi hq
     by_cases hil : i < l.length
     · obtain ⟨x, hx⟩ := c8Y hil
       have hwi := c9Y (n := (i : Int) + 1) (by omega)
       by_cases he : x.txn = v.txn
       · have := b0I (p := fun x : Vs => decide (x.txn = v.txn)) hx (by simpa using he) hq
         simp -dsimp [a7c_l8, hx, he, this]
         exact hil
       · have hq2 : Upto (i + 1) fun j => ∀ x, l[j]? = some x → decide (x.txn = v.txn) = false := hq.succ fun y hy => by
           rw [hx] at hy; cases hy; simpa using he
         simp -dsimp [a7c_l8, hx, he, hwi]
         exact ⟨fun _ => ⟨hil, by simpa using hq2⟩, fun hx => absurd hil (by omega)⟩
     · have hie : i = l.length := by omega
       have := b1I (p := fun x : Vs => decide (x.txn = v.txn)) (l := l) fun x hx => by
         obtain ⟨j, hj⟩ := List.getElem?_of_mem hx
         exact hq j (by have := (List.getElem?_eq_some_iff.1 hj).1; omega) x hj
       subst hie
       simp -dsimp [a7c_l8, this]
end Go.Rt
end

section
namespace Go.Rt
open Go.Vm
set_option maxHeartbeats 8000000 in
theorem b7H {h : Hs} (hok : h.Ok) (hw : b8s h) (table : Int) (k : Vl) (v : Vs) {p : Pd} (hp : p.Ok) : b1v prog true n_a5f [h.av, vi table, k.av, v.av, p.av] [] (vb (hldB h.events table k p v)) [] := by
 have hR := b2t hok table k v
 rw [b1t hw] at hR
 have hsz := d4h (table := table) (k := k) (v := v) hw
 have hrl := b6r (table := table) (k := k) (v := v) (c8v hw)
 unfold hldB
 refine a4H a5f_is (by simp [Hs.av]) (by decide) rfl ?_
 simp -dsimp [a5f, Hs.av, Pd.av_eq]
 refine d3l hR rfl (by simp [Hs.av]) (by simp [Hs.av]) (by simp) (by simp) ?_
 generalize (rowB h.events table k v).getD [] = r at *
 simp -dsimp
 refine a0G (c0b hp r (by omega) hsz) (by simp [Pd.av_eq]) (by simp [Pd.av_eq]) ?_
 cases r with
 | nil => simp -dsimp
 | cons x r =>
   simp -dsimp
set_option maxHeartbeats 8000000 in
theorem b8H {h : Hs} (hok : h.Ok) (hw : b8s h) (hev : h.events.length < 2 ^ 40) (table : Int) (k : Vl) (b5I : Int) {p : Pd} (hp : p.Ok) : b1v prog true n_a8c [h.av, vi table, k.av, vi b5I, p.av] [] (vb (chgB h.events h.order table k b5I p)) [] := by
 have hH := fun v => b7H hok hw table k v hp
 have hC := b0T hok hw hev table k
 have hcl := c2e hw table k
 refine a4H a8c_is (by simp [Hs.av]) (by decide) rfl ?_
 unfold chgB
 generalize chaB h.events h.order table k = l at *
 simp -dsimp [a8c, Hs.av, Pd.av_eq]
 refine d3l hC rfl (by simp [Hs.av]) (by simp [Hs.av]) (by simp) (by simp) ?_
 by_cases h1 : b5I < 1
 · simp -dsimp [h1]
 · by_cases h2 : (l.length : Int) ≤ b5I
   · simp -dsimp [h1, h2]
   · obtain ⟨n, hn⟩ : ∃ n : Nat, b5I = (n : Int) + 1 := ⟨(b5I - 1).toNat, by omega⟩
     subst hn
     obtain ⟨u, hu⟩ : ∃ u, l[n]? = some u := c8Y (by omega)
     obtain ⟨v, hv⟩ : ∃ v, l[n + 1]? = some v := c8Y (by omega)
     have hw1 := c9Y (n := (n : Int)) (by omega)
     have hg : (n : Int) + 1 = ((n + 1 : Nat) : Int) := by omega
     have hp0 : (0 : Int) ≤ (n : Int) + 1 := by omega
     have htn : ((n : Int) + 1).toNat = n + 1 := by omega
     simp -dsimp [h1, h2, hw1, hu, hv, hp0, htn, b2Z]
     repeat' refine And.intro ?_ ?_
     all_goals refine a0G (hH u) (by simp [Hs.av, Pd.av_eq]) (by simp [Hs.av, Pd.av_eq]) ?_
     all_goals simp -dsimp [hv, hp0, htn]
     all_goals refine a0G (hH v) (by simp [Hs.av, Pd.av_eq]) (by simp [Hs.av, Pd.av_eq]) ?_
     all_goals simp -dsimp
     all_goals (rw [hu, hv, decide_eq_false h1, decide_eq_false h2]; rfl)
end Go.Rt
end

section
namespace Go.Rt
open Go.Vm
theorem c9x {l : List Eg} {e : Eg} (h : ∀ x, x ∈ l → x.key.s.size < 2 ^ 63) (he : e.key.s.size < 2 ^ 63) : ∀ x, x ∈ putE l e → x.key.s.size < 2 ^ 63 := by
 intro x hx
 unfold putE at hx
 split at hx
 · exact h x hx
 · rcases b1E.1 hx with rfl | hx
   · exact he
   · exact h x hx
theorem c0y (l : List Eg) (e : Eg) : (putE l e).length ≤ l.length + 1 := by
 have := b5E (es := [e]) (l := l)
 simpa using this
def rdR (e : Ev) (p : Int) (c : List Vs) (l : List Eg) : List Eg := (rd1 e p ++ rd2 e p c).foldl putE l
def rdQ (e : Ev) (p : Int) (c : List Vs) (l : List Eg) : List Eg := (rd2 e p c).foldl putE l
theorem c1y {e : Ev} {p : Int} {c : List Vs} {l : List Eg} (h : p < 0) : rdR e p c l = l := by
 unfold rdR rd1 rd2; rw [if_neg (by omega), if_neg (by omega)]; rfl
theorem c2y {e : Ev} {p : Int} {c : List Vs} {l : List Eg} (h : 0 < p) : rdR e p c l = rdQ e p c (putE l ⟨e.frm.txn, e.txn, 2, e.table, e.key, e.cur⟩) := by
 unfold rdR rdQ rd1; rw [if_pos h]; rfl
theorem c3y {e : Ev} {c : List Vs} {l : List Eg} : rdR e 0 c l = rdQ e 0 c l := by
 unfold rdR rdQ rd1; rw [if_neg (by omega)]; rfl
theorem c4y {e : Ev} {p : Int} {c : List Vs} {l : List Eg} (h : ¬(0 ≤ p ∧ p + 1 < c.length ∧ e.frm.txn ≠ e.txn)) : rdQ e p c l = l := by
 unfold rdQ rd2; rw [if_neg h]; rfl
theorem c5y {e : Ev} {p : Int} {c : List Vs} {l : List Eg} {v : Vs} (h : 0 ≤ p ∧ p + 1 < c.length ∧ e.frm.txn ≠ e.txn) (hv : c[(p + 1).toNat]? = some v) : rdQ e p c l = putE l ⟨e.txn, v.txn, 4, e.table, e.key, e.cur⟩ := by
 unfold rdQ rd2; rw [if_pos h, hv]; rfl
set_option maxHeartbeats 8000000 in
theorem c6y {h : Hs} (hok : h.Ok) (hw : b8s h) (hev : h.events.length < 2 ^ 40) {e : Ev} (heok : e.Ok) {l : List Eg} (hl : b5H l) (hl2 : l.length < 2 ^ 39) :
   b1v prog false n_a3k [h.av, .iv (b0r l), e.av] [] (.iv (b0r ((a7K h e).foldl putE l))) [] := by
 have hC := b0T hok hw hev e.table e.key
 have hP := b1T hok hw hev e.table e.key e.frm
 have hlt := c5e h.events h.order e.table e.key e.frm
 have hcl := c2e hw e.table e.key
 have hR : (a7K h e).foldl putE l = rdR e (plaB h.events h.order e.table e.key e.frm) (chaB h.events h.order e.table e.key) l := rfl
 rw [hR]
 generalize plaB h.events h.order e.table e.key e.frm = p at *
 generalize chaB h.events h.order e.table e.key = c at *
 refine d6h a3k_is (by simp [Hs.av]) (by decide) ?_
 simp -dsimp [c7k, Hs.av, Ev.av, Ev.cells_eq e]
 refine d3l hC rfl (by simp [Hs.av]) (by simp [Hs.av]) (by simp) (by simp) ?_
 simp -dsimp
 refine a0G hP (by simp [Hs.av]) (by simp [Hs.av]) ?_
 have hw1 : IntKind.i64.wrap (p + 1) = p + 1 := c9Y (by omega)
 by_cases h0 : p < 0
 · rw [c1y h0]
   simp -dsimp [h0]
   exact ⟨[3, 5], by simp -dsimp [EndV]⟩
 · have hek := heok.key
   have hsec : ∀ (l1 : List Eg), b5H l1 → ∀ (v : Vs), c[(p + 1).toNat]? = some v → b1v prog false n_a2k [.iv (b0r l1), .agg [vi e.txn, vi v.txn, vi 4, vi e.table, vb e.key.text, vi e.key.n, .iv (.v (.string e.key.s)), vb e.cur]] [] (.iv (b0r (putE l1 ⟨e.txn, v.txn, 4, e.table, e.key, e.cur⟩))) [] :=
     fun l1 h1 v _ => b6H h1 ⟨e.txn, v.txn, 4, e.table, e.key, e.cur⟩
   by_cases h1 : 0 < p
   · have hq : b5H (putE l ⟨e.frm.txn, e.txn, 2, e.table, e.key, e.cur⟩) := ⟨by have := c0y l ⟨e.frm.txn, e.txn, 2, e.table, e.key, e.cur⟩; omega, c9x hl.2 hek⟩
     have hput := b6H hl ⟨e.frm.txn, e.txn, 2, e.table, e.key, e.cur⟩
     rw [c2y h1]
     generalize putE l ⟨e.frm.txn, e.txn, 2, e.table, e.key, e.cur⟩ = l1 at *
     simp -dsimp [h0, h1]
     refine d3l hput rfl (by simp [Eg.av, Eg.cells]) (by simp [Eg.av, Eg.cells]) (by simp) (by simp) ?_
     by_cases h2 : p + 1 < c.length
     · by_cases h3 : e.frm.txn = e.txn
       · rw [c4y fun g => g.2.2 h3]
         simp -dsimp [hw1, h2, h3]
         exact ⟨[3, 5], by simp -dsimp [EndV]⟩
       · obtain ⟨v, hv⟩ : ∃ v, c[(p + 1).toNat]? = some v := c8Y (by omega)
         have hv' : ∀ hh, (vsC c)[(p + 1).toNat]'hh = v.cells := fun hh => (List.getElem?_eq_some_iff.1 (show (vsC c)[(p + 1).toNat]? = some v.cells by rw [c6n, hv]; rfl)).2
         have h4 : 0 ≤ p + 1 := by omega
         rw [c5y ⟨by omega, h2, h3⟩ hv]
         simp -dsimp [hw1, h2, h3, h4, hv', b2Z]
         refine d3l (hsec l1 hq v hv) rfl (by simp) (by simp) (by simp) (by simp) ?_
         simp -dsimp
         exact ⟨[3, 5], by simp -dsimp [EndV]⟩
     · rw [c4y fun g => h2 g.2.1]
       simp -dsimp [hw1, h2]
       exact ⟨[3, 5], by simp -dsimp [EndV]⟩
   · obtain rfl : p = 0 := by omega
     have hwz : IntKind.i64.wrap 1 = 1 := c9Y (by omega)
     rw [c3y]
     simp -dsimp
     by_cases h2 : 1 < c.length
     · have h2' : (1 : Int) < c.length := by omega
       have h2n : ¬(c.length : Int) ≤ 1 := by omega
       by_cases h3 : e.frm.txn = e.txn
       · rw [c4y fun g => g.2.2 h3]
         simp -dsimp [hwz, h2, h2', h2n, h3]
         exact ⟨[3, 5], by simp -dsimp [EndV]⟩
       · obtain ⟨v, hv⟩ : ∃ v, c[1]? = some v := c8Y h2
         have hv' : ∀ hh, c[1]'hh = v := fun hh => (List.getElem?_eq_some_iff.1 hv).2
         rw [c5y ⟨by omega, by omega, h3⟩ (by simpa using hv)]
         simp -dsimp [hwz, h2, h2', h2n, h3, hv', b2Z]
         refine d3l (hsec l hl v (by simpa using hv)) rfl (by simp) (by simp) (by simp) (by simp) ?_
         simp -dsimp
         exact ⟨[3, 5], by simp -dsimp [EndV]⟩
     · have h2' : ¬(1 : Int) < c.length := by omega
       rw [c4y (by omega)]
       simp -dsimp [hwz, h2, h2']
       exact fun _ => ⟨[3, 5], by simp -dsimp [EndV]⟩
end Go.Rt
end

section
namespace Go.Rt
open Go.Vm
theorem c1c : ∀ {es l : List Eg}, (∀ x, x ∈ l → x.key.s.size < 2 ^ 63) → (∀ x, x ∈ es → x.key.s.size < 2 ^ 63) → ∀ x, x ∈ es.foldl putE l → x.key.s.size < 2 ^ 63
 | [], _, h, _ => h
 | e :: es, l, h, he => by
   rw [List.foldl_cons]
   exact c1c (es := es) (c9x h (he e List.mem_cons_self)) (fun x hx => he x (List.mem_cons_of_mem _ hx))
theorem c2c {es l : List Eg} (hl : b5H l) (he : ∀ x, x ∈ es → x.key.s.size < 2 ^ 63) (hn : l.length + es.length < 2 ^ 40) : b5H (es.foldl putE l) :=
 ⟨by have := b5E (es := es) (l := l); omega, c1c hl.2 he⟩
theorem c3c {h : Hs} {e : Ev} {k : Vl} {p : Int} {i : Nat} {x : Eg} (hx : x ∈ a8K h e k p i) : x.key = k := by
 unfold a8K at hx
 split at hx
 · rw [List.mem_singleton] at hx
   split at hx <;> subst hx <;> rfl
 · cases hx
theorem c4c {h : Hs} {e : Ev} {k : Vl} {x : Eg} (hx : x ∈ a9K h e k) : x.key = k := by
 unfold a9K at hx
 split at hx
 · cases hx
 · obtain ⟨j, _, hj⟩ := mem_range.1 hx
   exact c3c hj
theorem c5c {h : Hs} (hok : h.Ok) {e : Ev} {o : Ins} (ho : o ∈ h.order) {x : Eg} (hx : x ∈ a0L h e o) : x.key.s.size < 2 ^ 63 := by
 unfold a0L at hx
 split at hx
 · rw [c4c hx]; exact hok.cols o ho
 · cases hx
theorem c6c (h : Hs) (e : Ev) (k : Vl) (p : Int) (i : Nat) : (a8K h e k p i).length ≤ 1 := by
 unfold a8K; split <;> simp
theorem c7c {h : Hs} (hw : b8s h) (hm : h.Mid) (e : Ev) (o : Ins) : (a0L h e o).length ≤ 200 := by
 unfold a0L
 split
 · unfold a9K
   split
   · simp
   · have := c6x (f := a8K h e o.key (plaB h.events h.order e.table o.key (a6K e.refs o.key))) (B := 1) (l := List.range (chaB h.events h.order e.table o.key).length) fun j _ => c6c ..
     rw [List.length_range] at this
     have := c2e hw e.table o.key
     have := hm.1
     omega
 · simp
def prL (h : Hs) (e : Ev) (l : List Eg) (i : Nat) : List Eg := ((h.order.take i).flatMap (a0L h e)).foldl putE l
theorem c8c {h : Hs} {e : Ev} {l : List Eg} {i : Nat} {o : Ins} (ho : h.order[i]? = some o) : prL h e l (i + 1) = (a0L h e o).foldl putE (prL h e l i) := by
 unfold prL
 rw [show h.order.take (i + 1) = h.order.take i ++ [o] by rw [List.take_add_one, ho]; rfl, List.flatMap_append, List.foldl_append]
 simp
def pkL (h : Hs) (e : Ev) (k : Vl) (p : Int) (l : List Eg) (j : Nat) : List Eg := ((List.range j).flatMap (a8K h e k p)).foldl putE l
theorem c9c (h : Hs) (e : Ev) (k : Vl) (p : Int) (l : List Eg) (j : Nat) : pkL h e k p l (j + 1) = (a8K h e k p j).foldl putE (pkL h e k p l j) := by
 unfold pkL
 rw [List.range_succ, List.flatMap_append, List.foldl_append]
 simp
theorem c0d (h : Hs) (e : Ev) (k : Vl) (p : Int) (l : List Eg) : pkL h e k p l 1 = l := by
 rw [c9c]
 have : a8K h e k p 0 = [] := by
   have hc : chgB h.events h.order e.table k ((0 : Nat) : Int) e.pred = false := by
     unfold chgB; exact if_pos (.inl (by decide))
   unfold a8K
   rw [hc]; rfl
 rw [this]; rfl
theorem c1d {l : List Rf} {q : Nat} {r : Rf} (hr : l[q]? = some r) (k : Vl) : a6K (l.take (q + 1)) k = if r.key = k then r.frm else a6K (l.take q) k := by
 unfold a6K
 rw [show l.take (q + 1) = l.take q ++ [r] by rw [List.take_add_one, hr]; rfl, c1n]
 by_cases hk : r.key = k
 · rw [if_pos (by simpa using hk), if_pos hk]; rfl
 · rw [if_neg (by simpa using hk), if_neg hk]
set_option maxHeartbeats 16000000 in
theorem c2d {h : Hs} (hok : h.Ok) (hw : b8s h) (hm : h.Mid) {e : Ev} (heok : e.Ok) {l : List Eg} (hl : b5H l) (hl2 : l.length < 2 ^ 38) :
   b1v prog false n_a4k [h.av, .iv (b0r l), e.av] [] (.iv (b0r ((a1L h e).foldl putE l))) [] := by
 have hev : h.events.length < 2 ^ 40 := by have := hm.1; omega
 have hE : (a1L h e).foldl putE l = prL h e l h.order.length := by unfold a1L prL; rw [List.take_length]
 rw [hE]
 refine d6h a4k_is (by simp [Hs.av]) (by decide) ?_
 simp -dsimp [c8k, Hs.av, Ev.av, Ev.cells_eq e]
 refine a7H [6] [8, 9] h.order.length (fun i => ⟨[(7, vi i), (5, .ptr 5 0), (3, .ptr 3 0), (1, .iv (b0r (prL h e l i)))],
   [(5, .box (e.cells.map .iv)), (3, .box [.iv (.lst 1 (tbsC h.tables)), .iv (.lst 22 (evsC h.events)), .iv (.lst 5 (insC h.order))])]⟩) (fun _ => True) ?_ trivial ?_
 · simp -dsimp [Ev.cells_eq e, prL]
 · intro i hi _
   rcases Nat.lt_or_ge i h.order.length with hlt | hge
   · obtain ⟨o, ho⟩ := c8Y hlt
     have hd : decide (i < h.order.length) = true := decide_eq_true hlt
     have hwr := c9Y (n := (i : Int) + 1) (by have := hm.2; omega)
     have hom := List.mem_of_getElem? ho
     have hLi : b5H (prL h e l i) := c2c hl (fun x hx => by
         rw [List.mem_flatMap] at hx
         obtain ⟨o', ho', hx⟩ := hx
         exact c5c hok (List.mem_of_mem_take ho') hx) (by
         have := c6x (f := a0L h e) (B := 200) (l := h.order.take i) fun o' _ => c7c hw hm e o'
         have h2 : (h.order.take i).length ≤ 100 := by rw [List.length_take]; have := hm.2; omega
         have := Nat.mul_le_mul_right 200 h2
         omega)
     have hLn : (prL h e l i).length < 2 ^ 39 := by
       have h1 := b5E (es := (h.order.take i).flatMap (a0L h e)) (l := l)
       have := c6x (f := a0L h e) (B := 200) (l := h.order.take i) fun o' _ => c7c hw hm e o'
       have h2 : (h.order.take i).length ≤ 100 := by rw [List.length_take]; have := hm.2; omega
       have := Nat.mul_le_mul_right 200 h2
       show (((h.order.take i).flatMap (a0L h e)).foldl putE l).length < 2 ^ 39
       omega
     have hnext := c8c (e := e) (l := l) ho
     by_cases ht : o.table = e.table
     · simp -dsimp [a4k_l25, ho, hd, Ins.cells_eq o, Ev.cells_eq e, ht, b2Z]
       refine a7H [] [] e.refs.length (fun q => ⟨[(10, vi q), (9, .ptr 9 0), (8, .ptr 8 0), (7, vi i), (5, .ptr 5 0), (3, .ptr 3 0), (1, .iv (b0r (prL h e l i)))],
         [(9, .box ((a6K (e.refs.take q) o.key).cells.map .iv)), (8, .box (o.cells.map .iv)), (5, .box (e.cells.map .iv)), (3, .box [.iv (.lst 1 (tbsC h.tables)), .iv (.lst 22 (evsC h.events)), .iv (.lst 5 (insC h.order))])]⟩) (fun _ => True) ?_ trivial ?_
       · simp -dsimp [Ev.cells_eq e, Ins.cells_eq o, ht, a6K, c2n]
       · intro q hq _
         rcases Nat.lt_or_ge q e.refs.length with hqlt | hqge
         · obtain ⟨r, hr⟩ := c8Y hqlt
           have hqd : decide (q < e.refs.length) = true := decide_eq_true hqlt
           have hqw := c9Y (n := (q : Int) + 1) (by have := heok.refs; omega)
           have hst := c1d hr o.key
           by_cases hk : r.key = o.key
           · rw [if_pos hk] at hst
             simp -dsimp [a4k_l11, Ev.cells_eq e, Ins.cells_eq o, hr, hqd, Rf.cells_eq r, hk, hqw, hst, b2Z]
             exact hqlt
           · rw [if_neg hk] at hst
             have hne : ¬(r.key.text = o.key.text ∧ r.key.n = o.key.n ∧ r.key.s = o.key.s) := fun g => hk (Vl.eq_iff.2 g)
             simp -dsimp [a4k_l11, Ev.cells_eq e, Ins.cells_eq o, hr, hqd, Rf.cells_eq r, hqw, hst]
             exact ⟨fun a b c => (hne ⟨a, b, c⟩).elim, fun _ => hqlt⟩
         · obtain rfl : q = e.refs.length := by omega
           rw [List.take_length]
           simp -dsimp [a4k_l11, Ev.cells_eq e, Ins.cells_eq o]
           have hPl := b1T hok hw hev e.table o.key (a6K e.refs o.key)
           have hCh := b0T hok hw hev e.table o.key
           have hcl := c2e hw e.table o.key
           have hcp := b8r h.events h.order e.table o.key
           have hCg : ∀ n : Int, b1v prog true n_a8c [h.av, vi e.table, o.key.av, vi n, e.pred.av] [] (vb (chgB h.events h.order e.table o.key n e.pred)) [] := fun n => b8H hok hw hev e.table o.key n heok.pred
           refine a0G hPl (by simp [Hs.av, ht]) (by simp [Hs.av]) ?_
           have hO : a0L h e o = a9K h e o.key := by unfold a0L; rw [if_pos ht]
           rw [hO] at hnext
           have hos := hok.cols o hom
           by_cases hskip : plaB h.events h.order e.table o.key (a6K e.refs o.key) < 0 ∨ (a6K e.refs o.key).txn = e.txn
           · have hK : a9K h e o.key = [] := by unfold a9K; rw [if_pos hskip]
             rw [hK, List.foldl_nil] at hnext
             by_cases h1 : (a6K e.refs o.key).txn = e.txn
             · simp -dsimp [h1, hwr, hnext]
               exact hlt
             · have h0 := hskip.resolve_right h1
               simp -dsimp [h0, h1, hwr, hnext]
               exact hlt
           · have h0 : ¬plaB h.events h.order e.table o.key (a6K e.refs o.key) < 0 := fun g => hskip (.inl g)
             have h1 : ¬(a6K e.refs o.key).txn = e.txn := fun g => hskip (.inr g)
             have hK : (a9K h e o.key).foldl putE (prL h e l i) = pkL h e o.key (plaB h.events h.order e.table o.key (a6K e.refs o.key)) (prL h e l i) (chaB h.events h.order e.table o.key).length := by
               unfold a9K pkL; rw [if_neg hskip]
             rw [hK] at hnext
             have hstep := c9c h e o.key (plaB h.events h.order e.table o.key (a6K e.refs o.key)) (prL h e l i)
             have hone := c0d h e o.key (plaB h.events h.order e.table o.key (a6K e.refs o.key)) (prL h e l i)
             have hat : ∀ j : Nat, a8K h e o.key (plaB h.events h.order e.table o.key (a6K e.refs o.key)) j = if chgB h.events h.order e.table o.key j e.pred = true then
               [if (j : Int) ≤ plaB h.events h.order e.table o.key (a6K e.refs o.key) then ⟨(((chaB h.events h.order e.table o.key)[j]?).getD ⟨0, 0⟩).txn, e.txn, 3, e.table, o.key, false⟩ else ⟨e.txn, (((chaB h.events h.order e.table o.key)[j]?).getD ⟨0, 0⟩).txn, 5, e.table, o.key, false⟩] else [] := fun j => rfl
             have hMj : ∀ j, j ≤ 200 → b5H (pkL h e o.key (plaB h.events h.order e.table o.key (a6K e.refs o.key)) (prL h e l i) j) := fun j hj => c2c hLi (fun x hx => by
               obtain ⟨q, _, hx⟩ := mem_range.1 hx
               rw [c3c hx]; exact hos) (by
               have := c6x (f := a8K h e o.key (plaB h.events h.order e.table o.key (a6K e.refs o.key))) (B := 1) (l := List.range j) fun q _ => c6c ..
               rw [List.length_range] at this
               omega)
             generalize plaB h.events h.order e.table o.key (a6K e.refs o.key) = p at *
             generalize chaB h.events h.order e.table o.key = c at *
             simp -dsimp [h0, h1]
             refine d3l hCh rfl (by simp [Hs.av, ht]) (by simp [Hs.av]) (by simp) (by simp) ?_
             simp -dsimp
             refine a7H [] [] (c.length - 1) (fun j => ⟨[(13, vi (j + 1 : Nat)), (12, .iv (.lst 2 (vsC c))), (11, vi p), (9, .ptr 9 0), (8, .ptr 8 0), (7, vi i), (5, .ptr 5 0), (3, .ptr 3 0), (1, .iv (b0r (pkL h e o.key p (prL h e l i) (j + 1))))],
               [(9, .box ((a6K e.refs o.key).cells.map .iv)), (8, .box (o.cells.map .iv)), (5, .box (e.cells.map .iv)), (3, .box [.iv (.lst 1 (tbsC h.tables)), .iv (.lst 22 (evsC h.events)), .iv (.lst 5 (insC h.order))])]⟩) (fun _ => True) ?_ trivial ?_
             · simp -dsimp [Ev.cells_eq e, Ins.cells_eq o, hone]
             · intro j hj _
               rcases Nat.lt_or_ge (j + 1) c.length with hjlt | hjge
               · obtain ⟨v, hv⟩ := c8Y hjlt
                 have hjd : decide ((j : Int) + 1 < c.length) = true := decide_eq_true (by omega)
                 have hjw : IntKind.i64.wrap ((j : Int) + 1 + 1) = (j : Int) + 1 + 1 := c9Y (by have := hm.1; omega)
                 have hstj := hstep (j + 1)
                 have hatj := hat (j + 1)
                 rw [hv] at hatj
                 simp -dsimp [a4k_l23, Ev.cells_eq e, Ins.cells_eq o, hjd]
                 have hMM := hMj (j + 1) (by have := hm.1; omega)
                 refine a0G (hCg ((j : Int) + 1)) (by simp [Hs.av, Pd.av_eq, ht]) (by simp [Hs.av, Pd.av_eq]) ?_
                 have hcast : (((j + 1 : Nat) : Int)) = (j : Int) + 1 := by omega
                 rw [hcast] at hatj
                 have htn : ((j : Int) + 1).toNat = j + 1 := by omega
                 have hp0 : (0 : Int) ≤ (j : Int) + 1 := by omega
                 cases hchg : chgB h.events h.order e.table o.key ((j : Int) + 1) e.pred with
                 | false =>
                   rw [hchg, if_neg (by simp)] at hatj
                   rw [hatj, List.foldl_nil] at hstj
                   simp -dsimp [hchg, hjw, hstj]
                   omega
                 | true =>
                   rw [hchg, if_pos rfl] at hatj
                   by_cases hle : (j : Int) + 1 ≤ p
                   · rw [if_pos hle] at hatj
                     rw [hatj, List.foldl_cons, List.foldl_nil] at hstj
                     have hput := b6H hMM ⟨v.txn, e.txn, 3, e.table, o.key, false⟩
                     have hstj' : putE (pkL h e o.key p (prL h e l i) (j + 1)) ⟨v.txn, e.txn, 3, e.table, o.key, false⟩ = pkL h e o.key p (prL h e l i) (j + 1 + 1) := hstj.symm
                     rw [hstj'] at hput
                     simp -dsimp [hchg, hle, hv, htn, hp0, b2Z]
                     refine d3l hput rfl (by simp [Eg.av, Eg.cells, ht]) (by simp [Eg.av, Eg.cells]) (by simp) (by simp) ?_
                     simp -dsimp [hjw]
                     omega
                   · rw [if_neg hle] at hatj
                     rw [hatj, List.foldl_cons, List.foldl_nil] at hstj
                     have hput := b6H hMM ⟨e.txn, v.txn, 5, e.table, o.key, false⟩
                     have hstj' : putE (pkL h e o.key p (prL h e l i) (j + 1)) ⟨e.txn, v.txn, 5, e.table, o.key, false⟩ = pkL h e o.key p (prL h e l i) (j + 1 + 1) := hstj.symm
                     rw [hstj'] at hput
                     simp -dsimp [hchg, hle, hv, htn, hp0, b2Z]
                     refine d3l hput rfl (by simp [Eg.av, Eg.cells, ht]) (by simp [Eg.av, Eg.cells]) (by simp) (by simp) ?_
                     simp -dsimp [hjw]
                     omega
               · have hjd : decide ((j : Int) + 1 < c.length) = false := decide_eq_false (by omega)
                 have hjl : j + 1 = c.length := by omega
                 rw [hjl]
                 simp -dsimp [a4k_l23, Ev.cells_eq e, Ins.cells_eq o, hjd, hwr, hnext]
                 exact hlt
     · have hO : a0L h e o = [] := by unfold a0L; rw [if_neg ht]
       rw [hO, List.foldl_nil] at hnext
       simp -dsimp [a4k_l25, ho, hd, Ins.cells_eq o, Ev.cells_eq e, ht, hwr, hnext]
       exact hlt
   · obtain rfl : i = h.order.length := by omega
     simp -dsimp [a4k_l25]
     exact ⟨[3, 5], by simp -dsimp [EndV]⟩
end Go.Rt
end

section
namespace Go.Rt
open Go.Vm
theorem b6I (v : Vl) : b1v prog true n_a2h [v.av] [] (vb v.right) [] := by
 refine a4H a2h_is (by simp) (by decide) rfl ?_
 simp -dsimp [a2h, Vl.right]
 grind
theorem b7I (t : Tb) : b1v prog true n_a9c [tbAV t] [] (vb (ofP (TbOk t))) [] := by
 refine a4H a9c_is (by simp) (by decide) rfl ?_
 simp -dsimp [a9c, tbAV, tbIV, c4Y, TbOk, -List.length_eq_zero_iff]
 omega
theorem b8I (t : Tb) (r : List Vl) : b1v prog true n_a8f [tbAV t, .iv (c3Z r)] [] (vb (ofP (Fits t r))) [] := by
 refine a4H a8f_is (by simp) (by decide) rfl ?_
 simp -dsimp [a8f, tbAV]
 refine a0G (b7I t) (by simp [tbAV]) rfl ?_
 simp -dsimp [tbIV, c3Z, -List.length_eq_zero_iff]
 refine ⟨fun h1 => ⟨fun h3 h => by have := h.2.1; omega, fun h3 => ?_⟩, fun h h' => h h'.1⟩
 refine a7H [] [] r.length (fun i => ⟨[(6, vi i), (1, .iv (.lst 3 (r.map Vl.cells))), (2, .ptr 2 0)], [(2, .box [.iv (.lst 1 (c0Z t))])]⟩)
   (fun i => Upto i (d2c t r)) ?_ ?_ ?_
 · simp
 · simp
 · intro i hi hq
   have h2 := h1.2
   simp -dsimp [a8f_l10]
   refine ⟨fun hlt => ?_, fun hge => ?_⟩
   · obtain ⟨v, hv⟩ := c8Y hlt
     obtain ⟨c, hc⟩ : ∃ c, t[i]? = some c := c8Y (by omega)
     simp -dsimp [hv, hc]
     refine a0G (b6I v) (by simp) rfl ?_
     simp -dsimp [hv, hc]
     exact ⟨fun e2 => ⟨fun e => d3c hv hc fun h => e h.1, fun e => ⟨hlt, c9Y (by omega), hq.succ (d4c hv hc ⟨e, e2⟩)⟩⟩, fun e2 => d3c hv hc (by simp [e2])⟩
   · exact ⟨h1, by omega, fun j hj => hq j (by omega)⟩
theorem b9I (t : Tb) (i : Int) (v : Vl) : b1v prog true n_a1i [tbAV t, vi i, v.av] [] (vb (ofP (b0u t i v))) [] := by
 refine a4H a1i_is (by simp) (by decide) rfl ?_
 simp -dsimp [b5S, tbAV]
 refine a0G (b6I v) (by simp) rfl ?_
 simp -dsimp [tbIV]
 refine ⟨fun h1 => ⟨fun h2 => ?_, fun h2 h => by have := h.2.1; omega⟩, fun h1 h => by have := h.1; omega⟩
 obtain ⟨k, rfl⟩ := Int.eq_ofNat_of_zero_le h1
 obtain ⟨c, hc⟩ : ∃ c, t[k]? = some c := c8Y (by omega)
 refine ⟨fun h3 => ⟨h1, ?_⟩, fun h3 h => by have := h.2.2.2; rw [h3] at this; cases this⟩
 simp -dsimp [hc, c4Y, b1u hc, h3]
theorem Pd.allOk_eq (t : Tb) (p : Pd) : p.AllOk t ↔ b3u t p ∧ Pd.AllOkL t p.l := by cases p; rw [Pd.AllOk]; rfl
theorem Pd.allOkL_iff (t : Tb) : ∀ l : List Pd, Pd.AllOkL t l ↔ ∀ p, p ∈ l → p.AllOk t
 | [] => by simp [Pd.AllOkL]
 | p :: r => by simp [Pd.AllOkL, Pd.allOkL_iff t r]
theorem b0J {t : Tb} {p : Pd} {i : Nat} {q : Pd} (h : p.l[i]? = some q) (hq : ¬q.AllOk t) : ¬p.AllOk t := fun g =>
 hq ((Pd.allOkL_iff t p.l).1 ((Pd.allOk_eq t p).1 g).2 q (List.mem_of_getElem? h))
theorem b1J (t : Tb) {p : Pd} (h : p.Ok) : b1v prog true n_a3h [tbAV t, p.av] [] (vb (ofP (p.AllOk t))) [] := by
 induction h with
 | mk p hl _ _ hq ih =>
 refine a4H a3h_is (by simp) (by decide) rfl ?_
 simp -dsimp [b2S, Pd.av_eq, tbAV]
 refine a7H [] [] p.l.length (fun i => ⟨[(5, vi i), (2, .ptr 2 0), (3, .ptr 3 0)], [(3, p.box), (2, .box [.iv (tbIV t)])]⟩)
   (fun i => Upto i fun j => ∀ q, p.l[j]? = some q → q.AllOk t) ?_ ?_ ?_
 · simp [Pd.box]
 · simp
 · intro i hi hqq
   have len0 : ((p.l.length : Int) == 0) = ofP (p.l.length = 0) := by rw [c4Y, beq_iff_eq]; omega
   have len1 : ((p.l.length : Int) == 1) = ofP (p.l.length = 1) := by rw [c4Y, beq_iff_eq]; omega
   have lenp : (decide (0 < (p.l.length : Int))) = ofP (0 < p.l.length) := by rw [c4Y, decide_eq_true_eq]; omega
   by_cases hlt : i < p.l.length
   · obtain ⟨q, hqi⟩ := c8Y hlt
     have hw : IntKind.i64.wrap ((i : Int) + 1) = (i : Int) + 1 := c9Y (by omega)
     have hqe := (List.getElem?_eq_some_iff.1 hqi).2
     simp -dsimp [a3h_l7, Pd.box, hlt, hqe, Pd.cells_eq q]
     refine a0G (ih q (List.mem_of_getElem? hqi)) (by simp [Pd.av_eq, tbAV]) (by simp [Pd.av_eq, tbAV]) ?_
     simp -dsimp [hw]
     refine ⟨fun e => b0J hqi e, fun e => hqq.succ fun q' h' => by rw [hqi] at h'; cases h'; exact e⟩
   · have e0 : p.AllOk t ↔ b3u t p := by
       rw [Pd.allOk_eq, Pd.allOkL_iff]
       refine ⟨fun h => h.1, fun h => ⟨h, fun q hq => ?_⟩⟩
       obtain ⟨j, hj⟩ := List.getElem?_of_mem hq
       exact hqq j (by have := (List.getElem?_eq_some_iff.1 hj).1; omega) q hj
     have hop : (p.op = 1 ∨ p.op = 2) ∨ (p.op = 3 ∨ p.op = 4 ∨ p.op = 5 ∨ p.op = 6 ∨ p.op = 7 ∨ p.op = 8) ∨ p.op = 9 ∨ p.op = 10 ∨ (p.op = 11 ∨ p.op = 12) ∨ (p.op < 1 ∨ 12 < p.op) := by omega
     rcases hop with h | h | h | h | h | h
     · have e : b3u t p ↔ p.l.length = 0 := by unfold b3u; rw [if_pos h]
       rcases h with h | h <;> simp -dsimp [a3h_l7, Pd.box, hlt, h, len0, e, e0]
     · have e : b3u t p ↔ p.l.length = 0 ∧ b0u t p.col p.v := by
         unfold b3u; rw [if_neg (by omega), if_pos (by omega)]
       rcases h with h | h | h | h | h | h
       all_goals
         simp -dsimp [a3h_l7, Pd.box, hlt, h, len0, e, e0]
         refine ⟨fun h0 => ?_, fun h0 => ?_⟩
         · refine a0G (b9I t p.col p.v) (by simp [tbAV]) (by simp [tbAV]) ?_
           simp -dsimp [h0, e, e0]
         · simp -dsimp [h0, e, e0]
     · have e : b3u t p ↔ p.l.length = 0 ∧ b0u t p.col p.v ∧ b0u t p.col p.w := by
         unfold b3u; rw [if_neg (by omega), if_neg (by omega), if_pos (by omega)]
       simp -dsimp [a3h_l7, Pd.box, hlt, h, len0, e, e0]
       refine ⟨fun h0 => ?_, fun h0 => ?_⟩
       · refine a0G (b9I t p.col p.v) (by simp [tbAV]) (by simp [tbAV]) ?_
         simp -dsimp
         refine ⟨fun h1 => ?_, fun h1 => ?_⟩
         · refine a0G (b9I t p.col p.w) (by simp [tbAV]) (by simp [tbAV]) ?_
           simp -dsimp [h0, h1, e, e0]
         · simp -dsimp [h0, h1, e, e0]
       · simp -dsimp [h0, e, e0]
     · have e : b3u t p ↔ p.l.length = 1 := by
         unfold b3u; rw [if_neg (by omega), if_neg (by omega), if_neg (by omega), if_pos h]
       simp -dsimp [a3h_l7, Pd.box, hlt, h, len1, e, e0]
     · have e : b3u t p ↔ 0 < p.l.length := by
         unfold b3u; rw [if_neg (by omega), if_neg (by omega), if_neg (by omega), if_neg (by omega), if_pos h]
       rcases h with h | h <;> simp -dsimp [a3h_l7, Pd.box, hlt, h, lenp, e, e0, c4Y]
     · have e : ¬b3u t p := by
         unfold b3u; rw [if_neg (by omega), if_neg (by omega), if_neg (by omega), if_neg (by omega), if_neg (by omega)]; exact id
       have ne : ∀ k : Int, 1 ≤ k → k ≤ 12 → (p.op == k) = false := fun k h1 h2 => by rw [beq_eq_false_iff_ne]; omega
       simp -dsimp [a3h_l7, Pd.box, hlt, e, e0, ne]
theorem b2J (t : Tb) {p : Pd} (h : p.Ok) : b1v prog true n_a9f [tbAV t, p.av] [] (vb (ofP (PdOk t p))) [] := by
 refine a4H a9f_is (by simp) (by decide) rfl ?_
 simp -dsimp [a9f, Pd.av_eq, tbAV]
 refine a0G (b7I t) (by simp [tbAV]) (by simp [tbAV]) ?_
 simp -dsimp
 refine ⟨fun h1 => ?_, fun h1 h => h1 h.1⟩
 refine a0G (b3t h) (by simp [Pd.av_eq]) (by simp [Pd.av_eq]) ?_
 simp -dsimp
 refine ⟨fun h2 => ?_, fun h2 h => by have := h.2.1; omega⟩
 refine a0G (b1J t h) (by simp [Pd.av_eq, tbAV]) (by simp [Pd.av_eq, tbAV]) ?_
 simp -dsimp [c4Y, PdOk, h1, h2]
theorem b3J {h : Hs} (ht : h.TbsOk) (table : Int) (k : Vl) : b1v prog true n_a6f [h.av, vi table, k.av] [] (vb (ofP (b2h h table k))) [] := by
 refine a4H a6f_is (by simp) (by decide) rfl ?_
 simp -dsimp [b9R, Hs.av]
 refine ⟨fun h1 => ⟨fun h2 => ?_, fun h2 => ?_⟩, fun h1 h => absurd h.1 (by omega)⟩
 · rintro ⟨_, t, h3, _⟩
   have := (List.getElem?_eq_some_iff.1 h3).1
   omega
 · obtain ⟨n, rfl⟩ := Int.eq_ofNat_of_zero_le h1
   obtain ⟨t, htn⟩ : ∃ t, h.tables[n]? = some t := c8Y (by omega)
   have hT := ht t (List.mem_of_getElem? htn)
   obtain ⟨c, hc⟩ : ∃ c, t[0]? = some c := c8Y hT.1
   have hK : b2h h n k ↔ k.right = true ∧ k.text = c := by
     unfold b2h
     constructor
     · rintro ⟨_, t', h3, h4, h5⟩
       rw [show ((n : Int)).toNat = n from rfl, htn] at h3; cases h3
       rw [hc] at h5; cases h5
       exact ⟨h4, rfl⟩
     · rintro ⟨h4, h5⟩; exact ⟨h1, t, by simpa using htn, h4, by rw [hc, h5]⟩
   refine a0G (b6I k) (by simp) (by simp) ?_
   simp -dsimp [htn, hc, tbIV, c4Y, hK]
   grind
theorem b4J {h : Hs} (hok : h.Ok) (a : Nat) (table : Int) (k : Vl) (v : Vs) : b1v prog true n_a7f [h.av, vi a, vi table, k.av, v.av] [] (vb (ofP (b3h (h.events.take a) table k v))) [] := by
 refine a4H a7f_is (by simp) (by decide) rfl ?_
 simp -dsimp [b0S, Hs.av]
 refine a0G (b7g hok a v.txn table k) (by simp [Hs.av]) (by simp [Hs.av]) ?_
 simp -dsimp [c4Y, b3h]
 grind
theorem b5J {h : Hs} (hok : h.Ok) {a : Nat} {e : Ev} (ha : h.events[a]? = some e) : b1v prog true n_a0d [h.av, vi a] [] (vb (ofP (c7R (h.events.take a) e))) [] := by
 refine a4H a0d_is (by simp) (by decide) rfl ?_
 have hlen := (List.getElem?_eq_some_iff.1 ha).1
 have hev := hok.events
 simp -dsimp [b5R, Hs.av, ha]
 refine ⟨fun h1 => ⟨fun h2 => ⟨fun h3 g => absurd g.2.2.1 (by omega), fun h3 => ?_⟩, fun h2 g => absurd g.2.1 (by omega)⟩, fun h1 g => absurd g.1 (by omega)⟩
 refine a7H [] [8] a (fun i => ⟨[(7, vi i), (6, vb (ofP (c1R (h.events.take i) e.txn))), (1, vi a), (5, .ptr 5 0), (2, .ptr 2 0)],
     [(5, .box (e.cells.map .iv)), (2, .box [.iv (.lst 1 (tbsC h.tables)), .iv (.lst 22 (evsC h.events)), .iv (.lst 5 (insC h.order))])]⟩)
   (fun i => c2R (h.events.take i) e.txn) ?_ ?_ ?_
 · simp -dsimp
 · simp
 · intro i hi hq
   by_cases hlt : i < a
   · obtain ⟨x, hx⟩ : ∃ x, h.events[i]? = some x := c8Y (by omega)
     have hw := c9Y (n := (i : Int) + 1) (by omega)
     simp -dsimp [a0d_l13, hlt, hx, c0R hx, c5R, c6R, c8Q]
     rw [hw]
     have hN : x.txn = e.txn → (x.kind = 5 ∨ x.kind = 6) → ¬c7R (h.events.take a) e := fun g1 g2 g => by
       have := g.2.2.2.1 x (List.mem_of_getElem? (by rw [List.getElem?_take, if_pos hlt]; exact hx)) g1
       omega
     grind
   · have hia : i = a := by omega
     subst hia
     simp -dsimp [a0d_l13, c8Q, c9Q]
     unfold c7R
     grind
theorem b6J {h : Hs} (hok : h.Ok) (ht : h.TbsOk) {a : Nat} {e : Ev} (ha : h.events[a]? = some e) : b1v prog true n_a2d [h.av, vi a] [] (vb (ofP (c9t h (h.events.take a) e))) [] := by
 refine a4H a2d_is (by simp) (by decide) rfl ?_
 have hlen := (List.getElem?_eq_some_iff.1 ha).1
 have hev := hok.events
 simp -dsimp [b7R, Hs.av, ha]
 refine a0G (b3J ht e.table e.key) (by simp [Hs.av]) (by simp [Hs.av]) ?_
 simp -dsimp
 refine ⟨fun h1 => ?_, fun h1 g => h1 g.1⟩
 have hw := c9Y (n := (c5Q (h.events.take a) e.txn e.table e.key : Int) + 1) (by have := c7Q (h.events.take a) e.txn e.table e.key; rw [List.length_take] at this; omega)
 obtain ⟨h0, t, htt, hr, hc⟩ := id h1
 constructor
 all_goals
   refine a0G (b7g hok a e.txn e.table e.key) (by simp [Hs.av]) (by simp [Hs.av]) ?_
   simp -dsimp [hw]
   refine ⟨fun g1 g => g1 g.2.1, fun g1 => ⟨h0, ?_⟩⟩
   simp -dsimp [htt]
   refine a0G (b8I t e.row) (by simp [tbAV, c3Z, rowC]) (by simp [tbAV]) ?_
   have hWO : c9t h (h.events.take a) e ↔ e.row = [] ∨ (Fits t e.row ∧ e.row[0]? = some e.key) := by
     unfold c9t
     constructor
     · rintro ⟨_, _, g | ⟨t', g2, g3, g4⟩⟩
       · exact .inl g
       · rw [htt] at g2; cases g2; exact .inr ⟨g3, g4⟩
     · rintro (g | ⟨g3, g4⟩)
       · exact ⟨h1, g1, .inl g⟩
       · exact ⟨h1, g1, .inr ⟨t, htt, g3, g4⟩⟩
   by_cases hrow : e.row = []
   · simp -dsimp [hWO, hrow]
   · obtain ⟨v, hv⟩ : ∃ v, e.row[0]? = some v := c8Y (List.length_pos_iff.2 hrow)
     simp -dsimp [hrow]
     refine ⟨fun g3 => ?_, fun g3 g => ?_⟩
     · simp -dsimp [hv, hWO, hrow, g3, c4Y, Vl.eq_iff]
       try grind
     · exact g3 ((hWO.1 g).resolve_left hrow).1
theorem b7J {h : Hs} (hok : h.Ok) (ht : h.TbsOk) {a : Nat} {e : Ev} (ha : h.events[a]? = some e) : b1v prog true n_a1d [h.av, vi a] [] (vb (ofP (c0u h (h.events.take a) e))) [] := by
 refine a4H a1d_is (by simp) (by decide) rfl ?_
 have hlen := (List.getElem?_eq_some_iff.1 ha).1
 have hev := hok.events
 simp -dsimp [b6R, Hs.av, ha]
 refine a0G (b3J ht e.table e.key) (by simp [Hs.av]) (by simp [Hs.av]) ?_
 simp -dsimp
 refine ⟨fun h1 g => h1 g.1, fun h1 => ?_⟩
 refine a0G (b7g hok a e.txn e.table e.key) (by simp [Hs.av]) (by simp [Hs.av]) ?_
 simp -dsimp
 have hRO : c0u h (h.events.take a) e ↔ if 0 < c5Q (h.events.take a) e.txn e.table e.key then e.frm.txn = e.txn ∧ e.frm.n = c5Q (h.events.take a) e.txn e.table e.key
     else (e.frm.txn = 0 ∧ e.frm.n = 0) ∨ b3h (h.events.take a) e.table e.key e.frm := by
   unfold c0u
   split <;> simp [h1, Vs.eq_iff]
 refine ⟨fun h2 => ?_, fun h2 => ?_⟩
 · rw [c4Y, hRO, if_pos h2]; simp
 · rw [if_neg (by omega)] at hRO
   constructor
   · intro h3
     refine a0G (b4J hok a e.table e.key e.frm) (by simp [Hs.av]) (by simp [Hs.av]) ?_
     simp -dsimp [c8Q, hRO]
     grind
   · simp [hRO]
     try grind
set_option maxHeartbeats 4000000 in
theorem b8J {h : Hs} (hok : h.Ok) (ht : h.TbsOk) {a : Nat} {e : Ev} (ha : h.events[a]? = some e) : b1v prog true n_a3d [h.av, vi a] [] (vb (ofP (c3u h (h.events.take a) e))) [] := by
 refine a4H a3d_is (by simp) (by decide) rfl ?_
 have hlen := (List.getElem?_eq_some_iff.1 ha).1
 have hev := hok.events
 have heok := hok.ev e (List.mem_of_getElem? ha)
 simp -dsimp [b8R, Hs.av, ha]
 refine ⟨fun h0 => ⟨fun h1 => ⟨h0, ?_⟩, fun h1 => ?_⟩, fun h0 g => absurd g.1.1 (by omega)⟩
 · obtain ⟨t, htt⟩ : ∃ t, h.tables[e.table.toNat]? = some t := c8Y (by omega)
   simp -dsimp [htt]
   refine a0G (b2J t heok.pred) (by simp [tbAV, Pd.av]) (by simp [tbAV, Pd.av]) ?_
   simp -dsimp
   refine ⟨fun h2 g => ?_, fun h2 => ?_⟩
   · obtain ⟨⟨_, t', g1, g2⟩, _⟩ := g
     rw [htt] at g1; cases g1; exact h2 g2
   · refine a7H [] [7] e.refs.length (fun i => ⟨[(6, vi i), (1, vi a), (2, .ptr 2 0), (5, .ptr 5 0)],
         [(5, .box (e.cells.map .iv)), (2, .box [.iv (.lst 1 (tbsC h.tables)), .iv (.lst 22 (evsC h.events)), .iv (.lst 5 (insC h.order))])]⟩)
       (fun i => Upto i (c1u h (h.events.take a) e)) ?_ ?_ ?_
     · simp -dsimp
     · simp
     · intro i hi hq
       simp -dsimp [a3d_l13]
       refine ⟨fun hlt => ?_, fun hge => ?_⟩
       · obtain ⟨q, hqi⟩ := c8Y hlt
         have hre := heok.refs
         have hw := c9Y (n := (i : Int) + 1) (by omega)
         have hw1 := c9Y (n := (i : Int) - 1) (by omega)
         have hno : ¬c1u h (h.events.take a) e i → ¬c3u h (h.events.take a) e := fun g1 g => g1 (g.2.1 i hlt)
         have hat : c1u h (h.events.take a) e i ↔ b2h h e.table q.key ∧ b3h (h.events.take a) e.table q.key q.frm ∧ (∀ p, 0 < i → e.refs[i - 1]? = some p → p.key.cmp q.key < 0) := by
           unfold c1u; rw [hqi]
           exact ⟨fun g => g q rfl, fun g r hr => by cases hr; exact g⟩
         simp -dsimp [hqi, Rf.cells_eq q]
         refine a0G (b3J ht e.table q.key) (by simp [Hs.av]) (by simp [Hs.av]) ?_
         simp -dsimp
         refine ⟨fun k1 => ?_, fun k1 => hno fun g => k1 (hat.1 g).1⟩
         refine a0G (b4J hok a e.table q.key q.frm) (by simp [Hs.av]) (by simp [Hs.av]) ?_
         simp -dsimp
         by_cases k2 : b3h (h.events.take a) e.table q.key q.frm
         · by_cases hi0 : 0 < i
           · obtain ⟨p, hp⟩ : ∃ p, e.refs[i - 1]? = some p := c8Y (by omega)
             have e1 : ((i : Int) - 1).toNat = i - 1 := by omega
             have e2 : (0 : Int) ≤ (i : Int) - 1 := by omega
             simp -dsimp [k2, hi0, hw1, e1, e2, hp, Rf.cells_eq p]
             refine ⟨⟨by omega, a0G (b7n p.key q.key (heok.rkey p (List.mem_of_getElem? hp))) (by simp) (by simp) ?_⟩, fun g => absurd g (by omega)⟩
             simp -dsimp [hw]
             refine ⟨fun k3 => hno fun g => absurd ((hat.1 g).2.2 p hi0 hp) (by omega), fun k3 => ⟨hlt, hq.succ (hat.2 ⟨k1, k2, fun p' _ hp' => by rw [hp] at hp'; cases hp'; exact k3⟩)⟩⟩
           · simp -dsimp [k2, hi0, hw]
             exact fun _ => ⟨hlt, hq.succ (hat.2 ⟨k1, k2, fun p h => absurd h hi0⟩)⟩
         · simp -dsimp [k2]
           exact hno fun g => k2 (hat.1 g).2.1
       · have hall : Upto e.refs.length (c1u h (h.events.take a) e) := fun j hj => hq j (by omega)
         refine a7H [] [10, 11] a (fun i => ⟨[(9, vi i), (1, vi a), (2, .ptr 2 0), (5, .ptr 5 0)],
             [(5, .box (e.cells.map .iv)), (2, .box [.iv (.lst 1 (tbsC h.tables)), .iv (.lst 22 (evsC h.events)), .iv (.lst 5 (insC h.order))])]⟩)
           (fun i => ∀ x, x ∈ h.events.take i → c2u (h.events.take a) e x) ?_ ?_ ?_
         · simp -dsimp
         · simp
         · intro j hj hs
           simp -dsimp [a3d_l28]
           refine ⟨fun hjlt => ?_, fun hjge => ?_⟩
           · obtain ⟨x, hx⟩ : ∃ x, h.events[j]? = some x := c8Y (by omega)
             have hwj := c9Y (n := (j : Int) + 1) (by omega)
             have hnext : c2u (h.events.take a) e x → ∀ y, y ∈ h.events.take (j + 1) → c2u (h.events.take a) e y := fun g y hy => by
               rw [c0R hx] at hy
               rcases List.mem_append.1 hy with hy | hy
               · exact hs y hy
               · simp only [List.mem_singleton] at hy; subst hy; exact g
             by_cases c1 : x.kind = 3
             · by_cases c2 : x.txn = e.txn
               · by_cases c3 : x.table = e.table
                 · simp -dsimp [hx, c1, c2, c3]
                   refine ⟨⟨?_, ?_⟩, ?_, ?_, ?_⟩
                   all_goals
                     refine a0G (b7g hok a e.txn e.table x.key) (by simp [Hs.av]) (by simp [Hs.av]) ?_
                     simp -dsimp
                   all_goals
                     refine a7H [] [] e.refs.length (fun k => ⟨[(13, vi k), (12, vb (ofP (c4u (e.refs.take k) x.key ⟨e.txn, c5Q (h.events.take a) e.txn e.table x.key⟩))), (9, vi j), (1, vi a), (2, .ptr 2 0), (5, .ptr 5 0), (10, .ptr 10 0), (11, .ptr 11 0)],
                         [(11, .box [.iv (ci e.txn), .iv (ci (c5Q (h.events.take a) e.txn e.table x.key))]), (10, .box (x.cells.map .iv)), (5, .box (e.cells.map .iv)), (2, .box [.iv (.lst 1 (tbsC h.tables)), .iv (.lst 22 (evsC h.events)), .iv (.lst 5 (insC h.order))])]⟩)
                       (fun _ => True) ?_ trivial ?_
                     · simp -dsimp
                     · intro k hk _
                       simp -dsimp [a3d_l24]
                       refine ⟨fun hklt => ?_, fun hkge => ?_⟩
                       · obtain ⟨q, hqk⟩ := c8Y hklt
                         have hrl := heok.refs
                         have hwk := c9Y (n := (k : Int) + 1) (by omega)
                         simp -dsimp [hqk, Rf.cells_eq q, c0R hqk, c6u, c4Y, hwk]
                         grind
                       · rw [List.take_of_length_le hkge]
                         simp -dsimp [hwj]
                         refine ⟨fun g g2 => ?_, fun g => ⟨hjlt, hnext fun _ _ _ => ?_⟩⟩
                         · exact g (by obtain ⟨r, g3, g4, g5⟩ := g2.2.2 x (List.mem_of_getElem? (by rw [List.getElem?_take, if_pos hjlt]; exact hx)) c1 c2 c3; exact ⟨r, g3, g4, g5⟩)
                         · obtain ⟨r, g3, g4, g5⟩ := g; exact ⟨r, g3, g4, g5⟩
                 · simp -dsimp [hx, c1, c2, c3, hwj]
                   exact ⟨hjlt, hnext fun _ _ g => absurd g c3⟩
               · simp -dsimp [hx, c1, c2, hwj]
                 exact ⟨hjlt, hnext fun _ g => absurd g c2⟩
             · simp -dsimp [hx, c1, hwj]
               exact ⟨hjlt, hnext fun g => absurd g c1⟩
           · have hja : j = a := by omega
             subst hja
             exact ⟨⟨h0, t, htt, h2⟩, hall, hs⟩
 · rintro ⟨⟨_, t, g, _⟩, _⟩
   have := (List.getElem?_eq_some_iff.1 g).1
   omega
theorem b9J {h : Hs} (hok : h.Ok) (ht : h.TbsOk) {a : Nat} {e : Ev} (ha : h.events[a]? = some e) : b1v prog true n_a1b [h.av, vi a] [] (vb (ofP (b3s h (h.events.take a) e))) [] := by
 refine a4H a1b_is (by simp) (by decide) rfl ?_
 simp -dsimp [b2R, Hs.av]
 refine a0G (b5J hok ha) (by simp [Hs.av]) (by simp [Hs.av]) ?_
 simp -dsimp
 by_cases h1 : c7R (h.events.take a) e
 · by_cases k2 : e.kind = 2
   · simp -dsimp [ha, h1, k2]
     refine a0G (b7J hok ht ha) (by simp [Hs.av]) (by simp [Hs.av]) ?_
     simp -dsimp [b3s, h1, k2]
   · by_cases k3 : e.kind = 3
     · simp -dsimp [ha, h1, k3]
       refine a0G (b6J hok ht ha) (by simp [Hs.av]) (by simp [Hs.av]) ?_
       simp -dsimp [b3s, h1, k3]
     · by_cases k4 : e.kind = 4
       · simp -dsimp [ha, h1, k4]
         refine a0G (b8J hok ht ha) (by simp [Hs.av]) (by simp [Hs.av]) ?_
         simp -dsimp [b3s, h1, k4]
       · simp -dsimp [ha, h1, k2, k3, k4, b3s]
 · simp -dsimp [ha, h1, b3s]
def NoIns (h : Hs) (e : Ev) (i : Nat) : Prop := Upto i fun j => ∀ o, h.order[j]? = some o → ¬(o.isOf e.table e.key ∧ e.txn ∈ o.txns)
theorem b0K {h : Hs} (hok : h.Ok) {a : Nat} {e : Ev} (ha : h.events[a]? = some e) : b1v prog true n_a2b [h.av, vi a] [] (vb (ofP (b5s h e))) [] := by
 refine a4H a2b_is (by simp) (by decide) rfl ?_
 simp -dsimp [b3R, Hs.av, ha]
 refine a0G (b4s hok e.txn) (by simp [Hs.av]) (by simp [Hs.av]) ?_
 simp -dsimp
 by_cases k3 : e.kind = 3
 · by_cases k5 : b8g h.events e.txn = 5
   · simp -dsimp [k3, k5]
     refine a7H [] [8] h.order.length (fun i => ⟨[(7, vi i), (2, .ptr 2 0), (5, .ptr 5 0)],
         [(5, .box (e.cells.map .iv)), (2, .box [.iv (.lst 1 (tbsC h.tables)), .iv (.lst 22 (evsC h.events)), .iv (.lst 5 (insC h.order))])]⟩)
       (fun i => NoIns h e i) ?_ ?_ ?_
     · simp -dsimp
     · exact c7Y
     · intro i hi hq
       have hol := hok.order
       simp -dsimp [a2b_l16]
       refine ⟨fun hlt => ?_, fun hge => ?_⟩
       · obtain ⟨o, ho⟩ := c8Y hlt
         have hw := c9Y (n := (i : Int) + 1) (by omega)
         have hno : ¬(o.isOf e.table e.key ∧ e.txn ∈ o.txns) → NoIns h e (i + 1) := fun g => Upto.succ hq fun o' ho' => by rw [ho] at ho'; cases ho'; exact g
         by_cases c : o.isOf e.table e.key
         · obtain ⟨c1, c2⟩ := id c
           have hol2 := hok.txns o (List.mem_of_getElem? ho)
           simp -dsimp [ho, Ins.cells_eq o, c1, c2]
           refine a7H [] [] o.txns.length (fun k => ⟨[(9, vi k), (7, vi i), (2, .ptr 2 0), (5, .ptr 5 0), (8, .ptr 8 0)],
               [(8, .box [.iv (ci o.table), .iv (cb o.key.text), .iv (ci o.key.n), .iv (.v (.string o.key.s)), .iv (.lst 1 (c1Z o.txns))]), (5, .box (e.cells.map .iv)), (2, .box [.iv (.lst 1 (tbsC h.tables)), .iv (.lst 22 (evsC h.events)), .iv (.lst 5 (insC h.order))])]⟩)
             (fun k => e.txn ∉ o.txns.take k) ?_ ?_ ?_
           · simp -dsimp [c1, c2]
           · simp
           · intro k hk hn
             simp -dsimp [a2b_l14]
             refine ⟨fun hklt => ?_, fun hkge => ?_⟩
             · obtain ⟨x, hx⟩ := c8Y hklt
               have hwk := c9Y (n := (k : Int) + 1) (by omega)
               simp -dsimp [hx, hwk, c0R hx]
               refine ⟨fun g _ _ => ⟨o, List.mem_of_getElem? ho, c, by rw [← g]; exact List.mem_of_getElem? hx⟩, fun g => ⟨hklt, hn, fun g2 => g g2.symm⟩⟩
             · rw [List.take_of_length_le hkge] at hn
               exact ⟨hlt, hw, hno fun g => hn g.2⟩
         · have c' : ¬(o.table = e.table ∧ o.key.text = e.key.text ∧ o.key.n = e.key.n ∧ o.key.s = e.key.s) := fun g => c ⟨g.1, Vl.eq_iff.2 g.2⟩
           have hU := hno fun g => c g.1
           simp -dsimp [ho, Ins.cells_eq o, hw]
           have hC : ∀ {p : Prop}, (o.table = e.table) → (o.key.text = e.key.text) → (o.key.n = e.key.n) → (o.key.s = e.key.s) → p := fun a1 a2 a3 a4 => (c' ⟨a1, a2, a3, a4⟩).elim
           refine ⟨fun g1 => ⟨fun _ => ⟨hlt, hU⟩, fun g2 g3 g4 => hC g1 g2 g3 g4⟩, fun _ => ⟨hlt, hU⟩⟩
       · intro g
         obtain ⟨o, g1, g2, g3⟩ := g k3 k5
         obtain ⟨j, hj⟩ := List.getElem?_of_mem g1
         exact hq j (by have := (List.getElem?_eq_some_iff.1 hj).1; omega) o hj ⟨g2, g3⟩
   · simp -dsimp [k3, k5, b5s]
 · simp -dsimp [k3, b5s]
set_option maxHeartbeats 1000000 in
theorem b1K {h : Hs} (hok : h.Ok) {a : Nat} {o : Ins} (ha : h.order[a]? = some o) : b1v prog true n_a3b [h.av, vi a] [] (vb (ofP (b6s h a o))) [] := by
 refine a4H a3b_is (by simp) (by decide) rfl ?_
 have hlen := (List.getElem?_eq_some_iff.1 ha).1
 have hol := hok.order
 have hol2 := hok.txns o (List.mem_of_getElem? ha)
 simp -dsimp [b4R, Hs.av, ha, Ins.cells_eq o]
 refine a7H [] [] a (fun i => ⟨[(6, vi i), (1, vi a), (2, .ptr 2 0), (5, .ptr 5 0)],
     [(5, .box [.iv (ci o.table), .iv (cb o.key.text), .iv (ci o.key.n), .iv (.v (.string o.key.s)), .iv (.lst 1 (c1Z o.txns))]), (2, .box [.iv (.lst 1 (tbsC h.tables)), .iv (.lst 22 (evsC h.events)), .iv (.lst 5 (insC h.order))])]⟩)
   (fun i => ∀ x, x ∈ h.order.take i → ¬x.isOf o.table o.key) ?_ ?_ ?_
 · simp -dsimp
 · simp
 · intro i hi hq
   simp -dsimp [a3b_l7]
   refine ⟨fun hlt => ?_, fun hge => ?_⟩
   · obtain ⟨x, hx⟩ : ∃ x, h.order[i]? = some x := c8Y (by omega)
     have hw := c9Y (n := (i : Int) + 1) (by omega)
     simp -dsimp [hx, Ins.cells_eq x, hw]
     have hno : x.isOf o.table o.key → ¬b6s h a o := fun g g2 => g2.1 x (List.mem_of_getElem? (by rw [List.getElem?_take, if_pos hlt]; exact hx)) g
     have hyes : ¬x.isOf o.table o.key → ∀ y, y ∈ h.order.take (i + 1) → ¬y.isOf o.table o.key := fun g y hy => by
       rw [c0R hx] at hy
       rcases List.mem_append.1 hy with hy | hy
       · exact hq y hy
       · simp only [List.mem_singleton] at hy; subst hy; exact g
     refine ⟨fun g1 => ⟨fun g2 g3 g4 => hno ⟨g1, Vl.eq_iff.2 ⟨g2, g3, g4⟩⟩, fun g2 => ⟨hlt, hyes fun g => ?_⟩⟩, fun g1 => ⟨hlt, hyes fun g => g1 g.1⟩⟩
     have g3 := Vl.eq_iff.1 g.2
     exact g2 g3.1 g3.2.1 g3.2.2
   · have hia : i = a := by omega
     subst hia
     refine a7H [] [] o.txns.length (fun k => ⟨[(7, vi k), (2, .ptr 2 0), (5, .ptr 5 0)],
         [(5, .box [.iv (ci o.table), .iv (cb o.key.text), .iv (ci o.key.n), .iv (.v (.string o.key.s)), .iv (.lst 1 (c1Z o.txns))]), (2, .box [.iv (.lst 1 (tbsC h.tables)), .iv (.lst 22 (evsC h.events)), .iv (.lst 5 (insC h.order))])]⟩)
       (fun k => Upto k fun i => ∀ t, o.txns[i]? = some t → b8g h.events t = 5 ∧ c5Q h.events t o.table o.key ≠ 0 ∧ t ∉ o.txns.take i) ?_ ?_ ?_
     · simp -dsimp
     · exact c7Y
     · intro k hk hqk
       simp -dsimp [a3b_l20]
       refine ⟨fun hklt => ?_, fun hkge => ?_⟩
       · obtain ⟨t, htx⟩ := c8Y hklt
         have hwk := c9Y (n := (k : Int) + 1) (by omega)
         have hno : ¬(b8g h.events t = 5 ∧ c5Q h.events t o.table o.key ≠ 0 ∧ t ∉ o.txns.take k) → ¬b6s h i o := fun g g2 => g (g2.2.1 k hklt t htx)
         have htk : h.events.take h.events.length = h.events := List.take_length
         simp -dsimp [htx]
         refine a0G (b4s hok t) (by simp [Hs.av]) (by simp [Hs.av]) ?_
         simp -dsimp [htx]
         refine ⟨fun g1 => ?_, fun g1 => hno fun g => g1 g.1⟩
         refine a0G (b7g hok h.events.length t o.table o.key) (by simp [Hs.av]) (by simp [Hs.av]) ?_
         simp -dsimp [htx, htk]
         refine ⟨fun g2 => hno fun g => g.2.1 g2, fun g2 => ?_⟩
         refine a7H [] [] k (fun j => ⟨[(9, vi j), (7, vi k), (2, .ptr 2 0), (5, .ptr 5 0)],
             [(5, .box [.iv (ci o.table), .iv (cb o.key.text), .iv (ci o.key.n), .iv (.v (.string o.key.s)), .iv (.lst 1 (c1Z o.txns))]), (2, .box [.iv (.lst 1 (tbsC h.tables)), .iv (.lst 22 (evsC h.events)), .iv (.lst 5 (insC h.order))])]⟩)
           (fun j => t ∉ o.txns.take j) ?_ ?_ ?_
         · simp -dsimp
         · simp
         · intro j hj hnj
           simp -dsimp [a3b_l18]
           refine ⟨fun hjlt => ?_, fun hjge => ?_⟩
           · obtain ⟨u, hu⟩ : ∃ u, o.txns[j]? = some u := c8Y (by omega)
             have hwj := c9Y (n := (j : Int) + 1) (by omega)
             simp -dsimp [hu, htx, hwj, c0R hu]
             refine ⟨fun g => hno fun g3 => g3.2.2 ?_, fun g => ⟨hjlt, hnj, fun g3 => g g3.symm⟩⟩
             rw [← g]
             exact List.mem_of_getElem? (by rw [List.getElem?_take, if_pos hjlt]; exact hu)
           · have hjk : j = k := by omega
             subst hjk
             simp -dsimp [hwk]
             exact ⟨hklt, hqk.succ fun t' ht' => by rw [htx] at ht'; cases ht'; exact ⟨g1, g2, hnj⟩⟩
       · have hall : Upto o.txns.length fun i => ∀ t, o.txns[i]? = some t → b8g h.events t = 5 ∧ c5Q h.events t o.table o.key ≠ 0 ∧ t ∉ o.txns.take i := fun j hj => hqk j (by omega)
         rw [c4Y, decide_eq_true_eq]
         exact ⟨fun g => ⟨hq, hall, g⟩, fun g => g.2.2⟩
theorem b2K {h : Hs} (hok : h.Ok) : b1v prog true n_a0b [h.av] [] (vb (ofP (b7s h))) [] := by
 refine a4H a0b_is (by simp) (by decide) rfl ?_
 by_cases hn : 1 ≤ h.tables.length ∧ h.tables.length ≤ 3
 · have n1 : ¬(h.tables.length : Int) < 1 := by omega
   have n2 : ¬(3 : Int) < h.tables.length := by omega
   simp -dsimp [b1R, Hs.av, n1, n2]
   refine a7H [] [] h.tables.length (fun i => ⟨[(3, vi i), (1, .ptr 1 0)], [(1, .box [.iv (.lst 1 (tbsC h.tables)), .iv (.lst 22 (evsC h.events)), .iv (.lst 5 (insC h.order))])]⟩)
     (fun i => Upto i fun j => ∀ t, h.tables[j]? = some t → TbOk t) ?_ ?_ ?_
   · simp -dsimp
   · exact c7Y
   · intro i hi hq
     simp -dsimp [a0b_l9]
     refine ⟨fun hlt => ?_, fun hge => ?_⟩
     · obtain ⟨t, ht⟩ := c8Y hlt
       have hw := c9Y (n := (i : Int) + 1) (by omega)
       simp -dsimp [ht]
       refine a0G (b7I t) (by simp [tbAV]) (by simp [tbAV]) ?_
       simp -dsimp [hw]
       refine ⟨fun g g2 => g (g2.2 t (List.mem_of_getElem? ht)), fun g => ⟨hlt, hq.succ fun t' ht' => by rw [ht] at ht'; cases ht'; exact g⟩⟩
     · refine ⟨hn, fun t ht => ?_⟩
       obtain ⟨j, hj⟩ := List.getElem?_of_mem ht
       exact hq j (by have := (List.getElem?_eq_some_iff.1 hj).1; omega) t hj
 · have : ¬b7s h := fun g => hn g.1
   by_cases n1 : (h.tables.length : Int) < 1
   · simp -dsimp [b1R, Hs.av, n1, this]
   · have n2 : (3 : Int) < h.tables.length := by omega
     simp -dsimp [b1R, Hs.av, n1, n2, this]
theorem b3K {h : Hs} (hok : h.Ok) : b1v prog true n_a1a [h.av] [] (vb (ofP (b8s h))) [] := by
 refine a4H a1a_is (by simp) (by decide) rfl ?_
 simp -dsimp [a1a, Hs.av]
 refine a0G (b2K hok) (by simp [Hs.av]) (by simp [Hs.av]) ?_
 simp -dsimp
 refine ⟨fun g1 g2 => g1 g2.1, fun hT => ?_⟩
 refine a7H [] [] h.events.length (fun i => ⟨[(4, vi i), (1, .ptr 1 0)], [(1, .box [.iv (.lst 1 (tbsC h.tables)), .iv (.lst 22 (evsC h.events)), .iv (.lst 5 (insC h.order))])]⟩)
   (fun i => Upto i fun i => ∀ e, h.events[i]? = some e → b3s h (h.events.take i) e ∧ b5s h e) ?_ ?_ ?_
 · simp -dsimp
 · exact c7Y
 · intro i hi hq
   have hev := hok.events
   simp -dsimp [a1a_l11]
   refine ⟨fun hlt => ?_, fun hge => ?_⟩
   · obtain ⟨e, he⟩ := c8Y hlt
     have hw := c9Y (n := (i : Int) + 1) (by omega)
     refine a0G (b9J hok hT.2 he) (by simp [Hs.av]) (by simp [Hs.av]) ?_
     simp -dsimp
     refine a0G (b0K hok he) (by simp [Hs.av]) (by simp [Hs.av]) ?_
     simp -dsimp [hw]
     refine ⟨fun g1 => ⟨fun g2 g3 => g2 (g3.2.1 i hlt e he).2, fun g2 => ⟨hlt, hq.succ fun e' he' => by rw [he] at he'; cases he'; exact ⟨g1, g2⟩⟩⟩, fun g1 g3 => g1 (g3.2.1 i hlt e he).1⟩
   · refine a7H [] [] h.order.length (fun i => ⟨[(7, vi i), (1, .ptr 1 0)], [(1, .box [.iv (.lst 1 (tbsC h.tables)), .iv (.lst 22 (evsC h.events)), .iv (.lst 5 (insC h.order))])]⟩)
       (fun i => Upto i fun i => ∀ o, h.order[i]? = some o → b6s h i o) ?_ ?_ ?_
     · simp -dsimp
     · exact c7Y
     · intro j hj hqj
       have hol := hok.order
       simp -dsimp [a1a_l18]
       refine ⟨fun hjlt => ?_, fun hjge => ?_⟩
       · obtain ⟨o, ho⟩ := c8Y hjlt
         have hwj := c9Y (n := (j : Int) + 1) (by omega)
         refine a0G (b1K hok ho) (by simp [Hs.av]) (by simp [Hs.av]) ?_
         simp -dsimp [hwj]
         exact ⟨fun g1 g2 => g1 (g2.2.2 j hjlt o ho), fun g => ⟨hjlt, hqj.succ fun o' ho' => by rw [ho] at ho'; cases ho'; exact g⟩⟩
       · exact ⟨hT, fun k hk => hq k (by omega), fun k hk => hqj k (by omega)⟩
end Go.Rt
end

section
namespace Go.Rt
open Go.Vm
theorem c3V {o : Ins} {j : Nat} {a b : Int} (ha : o.txns[j]? = some a) (hb : o.txns[j + 1]? = some b) : (wwE o)[j]? = some ⟨a, b, 1, o.table, o.key, false⟩ := by
 unfold wwE
 rw [List.getElem?_map, (List.getElem?_zip_eq_some (z := (a, b))).2 ⟨ha, by rw [List.getElem?_tail]; exact hb⟩]
 rfl
theorem c4V (o : Ins) : (wwE o).length = o.txns.length - 1 := by
 unfold wwE
 rw [List.length_map, List.length_zip, List.length_tail]
 omega
def woL (h : Hs) (i : Nat) : List Eg := ((h.order.take i).flatMap wwE).foldl putE []
theorem c5V {h : Hs} {i : Nat} {o : Ins} (ho : h.order[i]? = some o) : woL h (i + 1) = (wwE o).foldl putE (woL h i) := by
 unfold woL
 rw [show h.order.take (i + 1) = h.order.take i ++ [o] by rw [List.take_add_one, ho]; rfl, List.flatMap_append, List.foldl_append]
 simp
def wkL (l : List Eg) (o : Ins) (j : Nat) : List Eg := ((wwE o).take j).foldl putE l
theorem c6V {l : List Eg} {o : Ins} {j : Nat} {e : Eg} (he : (wwE o)[j]? = some e) : wkL l o (j + 1) = putE (wkL l o j) e := by
 unfold wkL
 rw [List.take_add_one, he, Option.toList_some, List.foldl_append]
 rfl
def weL (h : Hs) (q : Nat) : List Eg := ((h.events.take q).flatMap (evE h)).foldl putE (woL h h.order.length)
theorem c7V {h : Hs} {q : Nat} {e : Ev} (he : h.events[q]? = some e) : weL h (q + 1) = (evE h e).foldl putE (weL h q) := by
 unfold weL
 rw [show h.events.take (q + 1) = h.events.take q ++ [e] by rw [List.take_add_one, he]; rfl, List.flatMap_append, List.foldl_append]
 simp
theorem c8V {h : Hs} (hw : b8s h) : weL h h.events.length = a3L h := by
 unfold weL woL a3L a2L
 rw [if_pos hw, List.take_length, List.take_length, List.foldl_append]
theorem c9V {h : Hs} (hok : h.Ok) {o : Ins} (ho : o ∈ h.order) {x : Eg} (hx : x ∈ wwE o) : x.key.s.size < 2 ^ 63 := by
 obtain ⟨_, _, _, _, _, rfl⟩ := a6L.1 hx
 exact hok.cols o ho
theorem c0W {h : Hs} (hok : h.Ok) {e : Ev} (he : e ∈ h.events) {x : Eg} (hx : x ∈ evE h e) : x.key.s.size < 2 ^ 63 := by
 unfold evE at hx
 split at hx
 · split at hx
   · unfold a7K rd1 rd2 at hx
     have hk := (hok.ev e he).key
     rw [List.mem_append] at hx
     rcases hx with hx | hx
     · split at hx
       · rw [List.mem_singleton] at hx; subst hx; exact hk
       · cases hx
     · split at hx
       · rw [List.mem_singleton] at hx; subst hx; exact hk
       · cases hx
   · split at hx
     · unfold a1L at hx
       rw [List.mem_flatMap] at hx
       obtain ⟨o, ho, hx⟩ := hx
       exact c5c hok ho hx
     · cases hx
 · cases hx
theorem c1W {h : Hs} (hw : b8s h) (hm : h.Mid) (e : Ev) : (evE h e).length ≤ 20000 := by
 unfold evE
 split
 · split
   · unfold a7K rd1 rd2
     rw [List.length_append]
     split <;> split <;> simp
   · split
     · unfold a1L
       have := c6x (f := a0L h e) (B := 200) (l := h.order) fun o _ => c7c hw hm e o
       have := Nat.mul_le_mul_right 200 hm.2
       omega
     · simp
 · simp
theorem c2W {h : Hs} (hok : h.Ok) (hw : b8s h) (hm : h.Mid) (i : Nat) : b5H (woL h i) ∧ (woL h i).length ≤ 10000 := by
 have h1 := c6x (f := wwE) (B := 100) (l := h.order.take i) fun o ho => by
   rw [c4V]
   have := c8d hw (List.mem_of_mem_take ho)
   have := hm.1
   omega
 have h2 : (h.order.take i).length ≤ 100 := by rw [List.length_take]; have := hm.2; omega
 have h3 := Nat.mul_le_mul_right 100 h2
 have h4 := b5E (es := (h.order.take i).flatMap wwE) (l := [])
 rw [List.length_nil] at h4
 refine ⟨⟨?_, c1c (fun x hx => by cases hx) fun x hx => ?_⟩, ?_⟩
 · show (((h.order.take i).flatMap wwE).foldl putE []).length < 2 ^ 40; omega
 · rw [List.mem_flatMap] at hx
   obtain ⟨o, ho, hx⟩ := hx
   exact c9V hok (List.mem_of_mem_take ho) hx
 · show (((h.order.take i).flatMap wwE).foldl putE []).length ≤ 10000; omega
theorem c3W {h : Hs} (hok : h.Ok) (hw : b8s h) (hm : h.Mid) (q : Nat) : b5H (weL h q) ∧ (weL h q).length ≤ 10000000 := by
 have h1 := c6x (f := evE h) (B := 20000) (l := h.events.take q) fun e _ => c1W hw hm e
 have h2 : (h.events.take q).length ≤ 100 := by rw [List.length_take]; have := hm.1; omega
 have h3 := Nat.mul_le_mul_right 20000 h2
 obtain ⟨h5, h6⟩ := c2W hok hw hm h.order.length
 have h4 := b5E (es := (h.events.take q).flatMap (evE h)) (l := woL h h.order.length)
 refine ⟨⟨?_, c1c h5.2 fun x hx => ?_⟩, ?_⟩
 · show (((h.events.take q).flatMap (evE h)).foldl putE (woL h h.order.length)).length < 2 ^ 40; omega
 · rw [List.mem_flatMap] at hx
   obtain ⟨e, he, hx⟩ := hx
   exact c0W hok (List.mem_of_mem_take he) hx
 · show (((h.events.take q).flatMap (evE h)).foldl putE (woL h h.order.length)).length ≤ 10000000; omega
set_option maxHeartbeats 16000000 in
theorem c4W {h : Hs} (hok : h.Ok) (hm : h.Mid) : b1v prog false n_a1j [h.av] [] (.iv (b0r (a3L h))) [] := by
 have hW := b3K hok
 have hev : h.events.length < 2 ^ 40 := by have := hm.1; omega
 refine d6h a1j_is (by simp [Hs.av]) (by decide) ?_
 simp -dsimp [a1j, Hs.av]
 refine a0G hW (by simp [Hs.av]) (by simp [Hs.av]) ?_
 by_cases hw : b8s h
 · have hwt : ofP (b8s h) = true := c2Y.2 hw
   simp -dsimp [hwt]
   refine a7H [2, 4] [6] h.order.length (fun i => ⟨[(5, vi i), (4, .iv (b0r (woL h i))), (1, .ptr 1 0)], [(1, .box [.iv (.lst 1 (tbsC h.tables)), .iv (.lst 22 (evsC h.events)), .iv (.lst 5 (insC h.order))])]⟩) (fun _ => True) ?_ trivial ?_
   · simp -dsimp [woL, b0r, egsC]
   · intro i hi _
     rcases Nat.lt_or_ge i h.order.length with hlt | hge
     · obtain ⟨o, ho⟩ := c8Y hlt
       have hom := List.mem_of_getElem? ho
       have hd : decide (i < h.order.length) = true := decide_eq_true hlt
       have hwr := c9Y (n := (i : Int) + 1) (by have := hm.2; omega)
       have htl := c8d hw hom
       have hnext := c5V ho
       have hall : wkL (woL h i) o (o.txns.length - 1) = woL h (i + 1) := by
         rw [hnext]; unfold wkL; rw [← c4V, List.take_length]
       have hko : ∀ j, b5H (wkL (woL h i) o j) := fun j => c2c (c2W hok hw hm i).1 (fun x hx => c9V hok hom (List.mem_of_mem_take hx)) (by
         have h1 := (c2W hok hw hm i).2
         have h2 : ((wwE o).take j).length ≤ (wwE o).length := (List.take_sublist j (wwE o)).length_le
         rw [c4V] at h2
         have := hm.1
         omega)
       simp -dsimp [a1j_l14, ho, hd, Ins.cells_eq o]
       refine a7H [] [] (o.txns.length - 1) (fun j => ⟨[(7, vi (j + 1 : Nat)), (6, .ptr 6 0), (5, vi i), (4, .iv (b0r (wkL (woL h i) o j))), (1, .ptr 1 0)],
         [(6, .box (o.cells.map .iv)), (1, .box [.iv (.lst 1 (tbsC h.tables)), .iv (.lst 22 (evsC h.events)), .iv (.lst 5 (insC h.order))])]⟩) (fun _ => True) ?_ trivial ?_
       · simp -dsimp [Ins.cells_eq o, wkL]
       · intro j hj _
         rcases Nat.lt_or_ge (j + 1) o.txns.length with hjlt | hjge
         · obtain ⟨b, hb⟩ := c8Y hjlt
           obtain ⟨a, ha⟩ : ∃ a, o.txns[j]? = some a := c8Y (by omega)
           have hjd : decide ((j : Int) + 1 < o.txns.length) = true := decide_eq_true (by omega)
           have w1 : IntKind.i64.wrap ((j : Int) + 1 + 1) = (j : Int) + 1 + 1 := c9Y (by have := hm.1; omega)
           have w2 : IntKind.i64.wrap (j : Int) = j := c9Y (by have := hm.1; omega)
           have htn : ((j : Int) + 1).toNat = j + 1 := by omega
           have hp0 : (0 : Int) ≤ (j : Int) + 1 := by omega
           have hstep := c6V (l := woL h i) (c3V ha hb)
           have hput := b6H (hko j) ⟨a, b, 1, o.table, o.key, false⟩
           rw [← hstep] at hput
           simp -dsimp [a1j_l12, Ins.cells_eq o, hjd, w2, htn, hp0, ha, hb, b2Z]
           refine d3l hput rfl (by simp [Eg.av, Eg.cells]) (by simp [Eg.av, Eg.cells]) (by simp) (by simp) ?_
           simp -dsimp [w1]
           omega
         · have hjd : decide ((j : Int) + 1 < o.txns.length) = false := decide_eq_false (by omega)
           have hje : wkL (woL h i) o j = woL h (i + 1) := by
             rw [← hall]; unfold wkL
             rw [List.take_of_length_le (by rw [c4V]; omega), List.take_of_length_le (by rw [c4V]; omega)]
           rw [hje]
           simp -dsimp [a1j_l12, Ins.cells_eq o, hjd, hwr]
           exact hlt
     · obtain rfl : i = h.order.length := by omega
       simp -dsimp [a1j_l14]
       refine a7H [] [9] h.events.length (fun q => ⟨[(8, vi q), (4, .iv (b0r (weL h q))), (1, .ptr 1 0)], [(1, .box [.iv (.lst 1 (tbsC h.tables)), .iv (.lst 22 (evsC h.events)), .iv (.lst 5 (insC h.order))])]⟩) (fun _ => True) ?_ trivial ?_
       · simp -dsimp [weL]
       · intro q hq _
         rcases Nat.lt_or_ge q h.events.length with hqlt | hqge
         · obtain ⟨e, he⟩ := c8Y hqlt
           have hem := List.mem_of_getElem? he
           have hqd : decide (q < h.events.length) = true := decide_eq_true hqlt
           have hqw := c9Y (n := (q : Int) + 1) (by omega)
           have hnext := c7V he
           obtain ⟨hok1, hok2⟩ := c3W hok hw hm q
           simp -dsimp [a1j_l24, he, hqd, Ev.cells_eq e]
           refine a0G (b4s hok e.txn) (by simp [Hs.av]) (by simp [Hs.av]) ?_
           unfold evE at hnext
           by_cases h5 : b8g h.events e.txn = 5
           · rw [if_pos h5] at hnext
             by_cases k2 : e.kind = 2
             · rw [if_pos k2] at hnext
               have hrd := c6y hok hw hev (hok.ev e hem) hok1 (by omega)
               rw [← hnext] at hrd
               simp -dsimp [h5, k2]
               refine d3l hrd rfl (by simp [Hs.av, Ev.av_eq, k2]) (by simp [Hs.av, Ev.av_eq]) (by simp) (by simp) ?_
               simp -dsimp [k2, h5, hqw]
               exact hqlt
             · rw [if_neg k2] at hnext
               by_cases k4 : e.kind = 4
               · rw [if_pos k4] at hnext
                 have hpd := c2d hok hw hm (hok.ev e hem) hok1 (by omega)
                 rw [← hnext] at hpd
                 simp -dsimp [h5, k4]
                 refine d3l hpd rfl (by simp [Hs.av, Ev.av_eq, k4]) (by simp [Hs.av, Ev.av_eq]) (by simp) (by simp) ?_
                 simp -dsimp [hqw]
                 exact hqlt
               · rw [if_neg k4, List.foldl_nil] at hnext
                 simp -dsimp [h5, k2, k4, hqw, hnext]
                 exact hqlt
           · rw [if_neg h5, List.foldl_nil] at hnext
             simp -dsimp [h5, hqw, hnext]
             exact hqlt
         · obtain rfl : q = h.events.length := by omega
           rw [c8V hw]
           simp -dsimp [a1j_l24]
           exact ⟨[1], by simp -dsimp [EndV]⟩
 · have hwf : ofP (b8s h) = false := c3Y.2 hw
   rw [a5L hw]
   simp -dsimp [hwf]
   exact ⟨[1, 2], by simp -dsimp [EndV, b0r, egsC]⟩
end Go.Rt
end

section
namespace Go.Rt
open Go.Vm
set_option maxHeartbeats 4000000 in
theorem c0B (a b : List Eg) (hl : a.length < 2 ^ 62) : b1v prog true n_a9i [.iv (b0r a), .iv (b0r b)] [] (vb (decide (a = b))) [] := by
 refine a4H a9i_is (by simp) (by decide) rfl ?_
 by_cases hlen : a.length = b.length
 · have hlen' : (a.length : Int) = b.length := by omega
   simp -dsimp [a9i, b0r, hlen']
   refine a7H [] [] b.length (fun i => ⟨[(5, vi i), (0, .iv (.lst 8 (egsC a))), (1, .iv (.lst 8 (egsC b)))], []⟩) (fun i => a.take i = b.take i) ?_ ?_ ?_
   · simp -dsimp
   · simp
   · intro i hi hq
     simp -dsimp [a9i_l8, hlen']
     refine ⟨fun hlt => ?_, fun hge => ?_⟩
     · obtain ⟨x, hx⟩ : ∃ x, a[i]? = some x := c8Y (by omega)
       obtain ⟨y, hy⟩ := c8Y hlt
       have hw := c9Y (n := (i : Int) + 1) (by omega)
       have htn : ∀ {l : List Eg} {z : Eg}, l[i]? = some z → l.take (i + 1) = l.take i ++ [z] := fun h => by rw [List.take_add_one, h]; rfl
       simp -dsimp [hx, hy, hw, Eg.cells, b2Z]
       refine ⟨fun g => ?_, fun g1 g2 g3 g4 g5 g6 g7 g8 => ⟨hlt, ?_⟩⟩
       · rintro rfl
         rw [hx] at hy; cases hy; simp at g
       · rw [htn hx, htn hy, hq, Eg.eq_iff.2 ⟨g1, g2, g3, g4, Vl.eq_iff.2 ⟨g5, g6, g7⟩, g8⟩]
     · rw [List.take_of_length_le (by omega), List.take_of_length_le hge] at hq
       simpa using hq
 · have hne : ¬a = b := fun g => hlen (by rw [g])
   have hlen' : ¬(a.length : Int) = b.length := by omega
   simp -dsimp [a9i, b0r, hlen', hne]
@[simp] theorem c1B (l : List Eg) : (egsC l).take l.length = egsC l := List.take_of_length_le (by simp)
def exR (t : Int) (v : Vs) : Ev := ⟨t, 2, 0, 0, k5, v, 0, [], noPd, [], false⟩
def exG : Hs := ⟨[[false]], [exB 1 1, exW 1 1 [k5], exC 1, exB 2 1, exR 2 ⟨1, 1⟩, exC 2, exB 3 1, exW 3 1 [], exC 3], [⟨0, k5, [1, 3]⟩]⟩
theorem c2B : b8s exG := by decide
theorem c3B : a3L exG = [⟨1, 2, 2, 0, k5, false⟩, ⟨1, 3, 1, 0, k5, false⟩, ⟨2, 3, 4, 0, k5, false⟩] := by
 unfold a3L
 rw [if_pos c2B]
 decide
theorem c4B {h : Hs} {e : Ev} (h1 : e.row.length ≤ 1) (h2 : e.refs = []) (h3 : e.pred = noPd) (h4 : e.key.s = ⟨#[]⟩) : e.Ok :=
 ⟨by omega, by rw [h2]; decide, by rw [h3]; exact c7v, by rw [h4]; decide, fun r hr => by rw [h2] at hr; cases hr⟩
theorem c5B : exG.Ok := by
 refine ⟨by decide, by decide, by decide, fun e he => ?_, fun o ho => ?_, fun t ht => ?_, fun o ho => ?_⟩
 · simp only [exG, List.mem_cons, List.not_mem_nil, or_false] at he
   rcases he with rfl | rfl | rfl | rfl | rfl | rfl | rfl | rfl | rfl <;> exact c4B (h := exG) (by decide) rfl rfl rfl
 · simp only [exG, List.mem_singleton] at ho; subst ho; decide
 · simp only [exG, List.mem_singleton] at ht; subst ht; decide
 · simp only [exG, List.mem_singleton] at ho; subst ho; decide
theorem c6B : exG.Rg := by
 intro e he
 simp only [exG, List.mem_cons, List.not_mem_nil, or_false] at he
 rcases he with rfl | rfl | rfl | rfl | rfl | rfl | rfl | rfl | rfl <;> exact ⟨by decide, by decide⟩
theorem c7B : exG.Mid := ⟨by decide, by decide⟩
theorem c8B : exG.av = .agg [.iv (.lst 1 [[.lst 1 [[cb false]]]]), .iv (.lst 22 [(exB 1 1).cells, (exW 1 1 [k5]).cells, (exC 1).cells, (exB 2 1).cells, (exR 2 ⟨1, 1⟩).cells, (exC 2).cells, (exB 3 1).cells, (exW 3 1 []).cells, (exC 3).cells]), .iv (.lst 5 [[ci 0, cb false, ci 5, .v (.string ⟨#[]⟩), .lst 1 [[ci 1], [ci 3]]]])] := rfl
theorem exR_c (t : Int) (v : Vs) : (exR t v).cells = [ci t, ci 2, ci 0, ci 0, cb false, ci 5, .v (.string ⟨#[]⟩), ci v.txn, ci v.n, ci 0, .lst 3 [], ci 0, ci 0, cb false, ci 0, .v (.string ⟨#[]⟩), cb false, ci 0, .v (.string ⟨#[]⟩), .lst 9 [], .lst 5 [], cb false] := rfl
theorem c9B (d : Nat) : b1v prog true n_a0j [exG.av] [] (.sl d 8 0 3) [(d, .list 8 (egsC [⟨1, 2, 2, 0, k5, false⟩, ⟨1, 3, 1, 0, k5, false⟩, ⟨2, 3, 4, 0, k5, false⟩]))] := by
 have := b3q c5B c6B c7B d
 rw [c3B] at this
 exact this
set_option maxHeartbeats 8000000 in
theorem c0C : b1v prog true n_a8i [] [] (vb true) [] := by
 refine a4H a8i_is (by simp) (by decide) rfl ?_
 simp -dsimp [c4k]
 refine d7k (c9B 38) (by decide) (by rw [c8B]; simp [exB_c, exC_c, exW_c, exR_c, rowC, k5]) (by simp [c8B]) ?_
 simp -dsimp [egsC, Eg.cells, k5]
end Go.Rt
end

section
namespace Go.Rt
open Go.Vm
theorem c9k {h : Hs} (hs : SmallP h) : h.Mid := ⟨by have := hs.events; omega, by have := hs.order; omega⟩
set_option maxHeartbeats 8000000 in
theorem c0l {h : Hs} (hok : h.Ok) (hrg : h.Rg) : b1v prog true n_a4i [h.av] [] (vb true) [] := by
 refine a4H a4i_is (by simp [Hs.av]) (by decide) rfl ?_
 simp -dsimp [a4i, Hs.av]
 refine a0G c0C (by simp) (by simp) ?_
 simp -dsimp
 refine a0G (c3r hok) (by simp [Hs.av]) (by simp [Hs.av]) ?_
 by_cases hs : SmallP h
 · have hst : ofP (SmallP h) = true := c2Y.2 hs
   have hm := c9k hs
   have hsame := c0B (a3L h) (a3L h) (by have := c8x (h := h) hm; omega)
   have h1 := b3q hok hrg hm 13
   have h2 := c4W hok hm
   simp -dsimp [hst]
   constructor
   all_goals refine d7k h1 (by decide) (by simp [Hs.av]) (by simp [Hs.av]) ?_
   all_goals simp -dsimp
   all_goals refine d3l h2 rfl (by simp [Hs.av]) (by simp [Hs.av]) (by simp) (by simp) ?_
   all_goals simp -dsimp
   all_goals refine a0G hsame (by simp [b0r]) (by simp) ?_
   all_goals simp -dsimp
 · have hsf : ofP (SmallP h) = false := c3Y.2 hs
   simp -dsimp [hsf]
end Go.Rt
end

section
namespace Go.Rt
open Go.Vm
theorem c4p {P : Program} {f : Nat} {t : TypeId} {cs : List IV} {k : IntKind} (hu : P.underlying t = some (.int k)) (h : WfT P f t cs) : ∃ n, cs = [.v (.int k n)] ∧ (Lit.int k n).wf = true := by
 cases f with
 | zero => exact h.elim
 | succ f => simpa only [WfT, hu] using h
theorem c5p {P : Program} {f : Nat} {t : TypeId} {cs : List IV} (hu : P.underlying t = some .bool) (h : WfT P f t cs) : ∃ b, cs = [.v (.bool b)] := by
 cases f with
 | zero => exact h.elim
 | succ f => simpa only [WfT, hu] using h
theorem c6p {P : Program} {f : Nat} {t : TypeId} {cs : List IV} (hu : P.underlying t = some .string) (h : WfT P f t cs) : ∃ s : ByteArray, cs = [.v (.string s)] ∧ s.size < 2 ^ 63 := by
 cases f with
 | zero => exact h.elim
 | succ f =>
   simp only [WfT, hu] at h
   obtain ⟨s, h1, h2⟩ := h
   refine ⟨s, h1, Nat.lt_of_le_of_lt h2 (by decide)⟩
theorem c7p {P : Program} {f : Nat} {t e n : Nat} {cs : List IV} (hu : P.underlying t = some (.slice e)) (hn : P.cellsOf e = n) (h : WfT P f t cs) : ∃ f', f = f' + 1 ∧ ∃ xs, cs = [.lst n xs] ∧ xs.length < 2 ^ 63 ∧ ∀ x ∈ xs, WfT P f' e x := by
 cases f with
 | zero => exact h.elim
 | succ f =>
   simp only [WfT, hu, hn] at h
   obtain ⟨xs, h1, h2, h3⟩ := h
   exact ⟨f, rfl, xs, h1, Nat.lt_of_le_of_lt h2 (by decide), h3⟩
def fieldsOf (P : Program) (t : TypeId) : Option (List (Nat × Nat × Nat)) := match P.underlying t with
 | some (.struct fs) => some (fs.toList.map fun f => (f.type, f.offset, P.cellsOf f.type))
 | _ => none
theorem c8p {P : Program} {f : Nat} {t n : Nat} {l : List (Nat × Nat × Nat)} {cs : List IV} (hu : fieldsOf P t = some l) (hn : P.cellsOf t = n) (h : WfT P f t cs) :
   ∃ f', f = f' + 1 ∧ cs.length = n ∧ ∀ p ∈ l, WfT P f' p.1 ((cs.drop p.2.1).take p.2.2) := by
 unfold fieldsOf at hu
 split at hu
 · rename_i fs hu'
   cases f with
   | zero => exact h.elim
   | succ f =>
     simp only [WfT, hu', hn] at h
     refine ⟨f, rfl, h.1, fun p hp => ?_⟩
     cases hu
     obtain ⟨fld, h1, rfl⟩ := List.mem_map.1 hp
     exact h.2 fld h1
 · cases hu
theorem c9p {α : Type} (cs : List α) (o n : Nat) {x : List α} (h : (cs.drop o).take n = x) : cs.drop o = x ++ cs.drop (o + n) := by
 rw [← h, ← List.drop_drop, List.take_append_drop]
theorem c0q {α : Type} {cs : List α} {o : Nat} (h : cs.length = o) : cs.drop o = [] := List.drop_eq_nil_of_le (by omega)
theorem c1q {α β : Type} {f : α → β} {Q : α → Prop} : ∀ {xs : List β}, (∀ x, x ∈ xs → ∃ p, Q p ∧ x = f p) → ∃ ps : List α, xs = ps.map f ∧ ∀ p, p ∈ ps → Q p
 | [], _ => ⟨[], rfl, fun _ h => by cases h⟩
 | x :: r, h => by
   obtain ⟨p, h1, rfl⟩ := h x List.mem_cons_self
   obtain ⟨ps, rfl, h3⟩ := c1q (xs := r) fun y hy => h y (List.mem_cons_of_mem _ hy)
   exact ⟨p :: ps, rfl, fun q hq => by
     rcases List.mem_cons.1 hq with rfl | hq
     · exact h1
     · exact h3 q hq⟩
section
theorem u4 : prog.underlying 4 = some .bool := by kernel_rfl
theorem u2 : prog.underlying 2 = some (.int .i64) := by kernel_rfl
theorem u3 : prog.underlying 3 = some (.int .i64) := by kernel_rfl
theorem u9 : prog.underlying 9 = some .string := by kernel_rfl
theorem c2q {f : Nat} {cs : List IV} (h : WfT prog f 33 cs) : ∃ v : Vl, cs = v.cells ∧ v.s.size < 2 ^ 63 := by
 obtain ⟨f, rfl, hl, hf⟩ := c8p (P := prog) (t := 33) (n := 3) (l := [(4, 0, 1), (2, 1, 1), (9, 2, 1)]) (by kernel_rfl) (by kernel_rfl) h
 obtain ⟨b, h1⟩ := c5p u4 (hf (4, 0, 1) (by decide))
 obtain ⟨n, h2, _⟩ := c4p u2 (hf (2, 1, 1) (by decide))
 obtain ⟨s, h3, h4⟩ := c6p u9 (hf (9, 2, 1) (by decide))
 refine ⟨⟨b, n, s⟩, ?_, h4⟩
 have e := c9p cs 0 1 h1
 rw [c9p cs 1 1 h2, c9p cs 2 1 h3, c0q hl] at e
 exact e
theorem c3q {f : Nat} {cs : List IV} (h : WfT prog f 39 cs) : ∃ v : Vs, cs = v.cells := by
 obtain ⟨f, rfl, hl, hf⟩ := c8p (P := prog) (t := 39) (n := 2) (l := [(3, 0, 1), (3, 1, 1)]) (by kernel_rfl) (by kernel_rfl) h
 obtain ⟨b, h1, _⟩ := c4p u3 (hf (3, 0, 1) (by decide))
 obtain ⟨n, h2, _⟩ := c4p u3 (hf (3, 1, 1) (by decide))
 refine ⟨⟨b, n⟩, ?_⟩
 have e := c9p cs 0 1 h1
 rw [c9p cs 1 1 h2, c0q hl] at e
 exact e
theorem c4q {f : Nat} {cs : List IV} (h : WfT prog f 42 cs) : ∃ r : List Vl, cs = [.lst 3 (rowC r)] ∧ r.length < 2 ^ 63 := by
 obtain ⟨f, rfl, xs, rfl, hl, hx⟩ := c7p (P := prog) (t := 42) (e := 33) (n := 3) (by kernel_rfl) (by kernel_rfl) h
 obtain ⟨r, rfl, _⟩ := c1q (f := Vl.cells) (Q := fun _ => True) (xs := xs) fun x hm => by
   obtain ⟨v, h1, _⟩ := c2q (hx x hm); exact ⟨v, trivial, h1⟩
 exact ⟨r, rfl, by simpa using hl⟩
theorem wf_pd : ∀ {f : Nat} {cs : List IV}, WfT prog f 45 cs → ∃ p : Pd, cs = p.cells ∧ p.Ok := by
 intro f
 induction f using Nat.strongRecOn with
 | ind f ih =>
   intro cs h
   obtain ⟨f1, rfl, hl, hf⟩ := c8p (P := prog) (t := 45) (n := 9) (l := [(3, 0, 1), (3, 1, 1), (33, 2, 3), (33, 5, 3), (43, 8, 1)]) (by kernel_rfl) (by kernel_rfl) h
   obtain ⟨o, h1, _⟩ := c4p u3 (hf (3, 0, 1) (by decide))
   obtain ⟨c, h2, _⟩ := c4p u3 (hf (3, 1, 1) (by decide))
   obtain ⟨v, h3, hv⟩ := c2q (hf (33, 2, 3) (by decide))
   obtain ⟨w, h4, hw⟩ := c2q (hf (33, 5, 3) (by decide))
   obtain ⟨f2, rfl, xs, h5, hxl, hx⟩ := c7p (P := prog) (t := 43) (e := 45) (n := 9) (by kernel_rfl) (by kernel_rfl) (hf (43, 8, 1) (by decide))
   obtain ⟨ps, rfl, hps⟩ := c1q (f := Pd.cells) (Q := Pd.Ok) (xs := xs) fun x hm => by
     obtain ⟨p, g1, g2⟩ := ih f2 (by omega) (hx x hm); exact ⟨p, g2, g1⟩
   refine ⟨.mk o c v w ps, ?_, .mk _ (by rw [List.length_map] at hxl; exact hxl) hv hw hps⟩
   have e := c9p cs 0 1 h1
   rw [c9p cs 1 1 h2, c9p cs 2 3 h3, c9p cs 5 3 h4, c9p cs 8 1 h5, c0q hl] at e
   rw [Pd.cells_eq]
   exact e
theorem wf_rf {f : Nat} {cs : List IV} (h : WfT prog f 54 cs) : ∃ r : Rf, cs = r.cells ∧ r.key.s.size < 2 ^ 63 := by
 obtain ⟨f, rfl, hl, hf⟩ := c8p (P := prog) (t := 54) (n := 5) (l := [(33, 0, 3), (39, 3, 2)]) (by kernel_rfl) (by kernel_rfl) h
 obtain ⟨v, h1, hv⟩ := c2q (hf (33, 0, 3) (by decide))
 obtain ⟨n, h2⟩ := c3q (hf (39, 3, 2) (by decide))
 refine ⟨⟨v, n⟩, ?_, hv⟩
 have e := c9p cs 0 3 h1
 rw [c9p cs 3 2 h2, c0q hl] at e
 exact e
set_option maxRecDepth 10000 in
theorem c5q {n : Int} (h : (Lit.int .i64 n).wf = true) : -(2 ^ 63) ≤ n ∧ n < 2 ^ 63 := by
 unfold Lit.wf at h
 rw [Bool.and_eq_true, decide_eq_true_eq, decide_eq_true_eq] at h
 have h1 : IntKind.min .i64 = -(2 ^ 63) := by decide
 have h2 : IntKind.max .i64 = 2 ^ 63 - 1 := by decide
 rw [h1, h2] at h
 omega
set_option maxRecDepth 10000 in
theorem wf_ev {f : Nat} {cs : List IV} (h : WfT prog f 48 cs) : ∃ e : Ev, cs = e.cells ∧ e.Ok ∧ (-(2 ^ 63) ≤ e.txn ∧ e.txn < 2 ^ 63) := by
 obtain ⟨f, rfl, hl, hf⟩ := c8p (P := prog) (t := 48) (n := 22) (l := [(3, 0, 1), (3, 1, 1), (3, 2, 1), (3, 3, 1), (33, 4, 3), (39, 7, 2), (3, 9, 1), (42, 10, 1), (45, 11, 9), (46, 20, 1), (4, 21, 1)]) (by kernel_rfl) (by kernel_rfl) h
 obtain ⟨a1, h1, r1⟩ := c4p u3 (hf (3, 0, 1) (by decide))
 obtain ⟨a2, h2, _⟩ := c4p u3 (hf (3, 1, 1) (by decide))
 obtain ⟨a3, h3, _⟩ := c4p u3 (hf (3, 2, 1) (by decide))
 obtain ⟨a4, h4, _⟩ := c4p u3 (hf (3, 3, 1) (by decide))
 obtain ⟨k, h5, hk⟩ := c2q (hf (33, 4, 3) (by decide))
 obtain ⟨v, h6⟩ := c3q (hf (39, 7, 2) (by decide))
 obtain ⟨n, h7, _⟩ := c4p u3 (hf (3, 9, 1) (by decide))
 obtain ⟨r, h8, hr⟩ := c4q (hf (42, 10, 1) (by decide))
 obtain ⟨p, h9, hp⟩ := wf_pd (hf (45, 11, 9) (by decide))
 obtain ⟨f2, rfl, xs, h10, hxl, hx⟩ := c7p (P := prog) (t := 46) (e := 54) (n := 5) (by kernel_rfl) (by kernel_rfl) (hf (46, 20, 1) (by decide))
 obtain ⟨b, h11⟩ := c5p u4 (hf (4, 21, 1) (by decide))
 obtain ⟨rs, rfl, hrs⟩ := c1q (f := Rf.cells) (Q := fun r => r.key.s.size < 2 ^ 63) (xs := xs) fun x hm => by
   obtain ⟨p, g1, g2⟩ := wf_rf (hx x hm); exact ⟨p, g2, g1⟩
 refine ⟨⟨a1, a2, a3, a4, k, v, n, r, p, rs, b⟩, ?_, ⟨hr, by simpa using hxl, hp, hk, hrs⟩, c5q r1⟩
 have e := c9p cs 0 1 h1
 rw [c9p cs 1 1 h2, c9p cs 2 1 h3, c9p cs 3 1 h4, c9p cs 4 3 h5, c9p cs 7 2 h6, c9p cs 9 1 h7, c9p cs 10 1 h8, c9p cs 11 9 h9, c9p cs 20 1 h10, c9p cs 21 1 h11, c0q hl] at e
 rw [Ev.cells_eq]
 rw [Pd.cells_eq] at e
 exact e
theorem c6q {f : Nat} {cs : List IV} (h : WfT prog f 49 cs) : ∃ r : List Int, cs = [.lst 1 (c1Z r)] ∧ r.length < 2 ^ 63 := by
 obtain ⟨f, rfl, xs, rfl, hl, hx⟩ := c7p (P := prog) (t := 49) (e := 3) (n := 1) (by kernel_rfl) (by kernel_rfl) h
 obtain ⟨r, rfl, _⟩ := c1q (f := fun i => [ci i]) (Q := fun _ => True) (xs := xs) fun x hm => by
   obtain ⟨v, h1, _⟩ := c4p u3 (hx x hm); exact ⟨v, trivial, h1⟩
 exact ⟨r, rfl, by simpa using hl⟩
theorem c7q {f : Nat} {cs : List IV} (h : WfT prog f 67 cs) : ∃ r : List Bool, cs = [.lst 1 (c0Z r)] ∧ r.length < 2 ^ 63 := by
 obtain ⟨f, rfl, xs, rfl, hl, hx⟩ := c7p (P := prog) (t := 67) (e := 4) (n := 1) (by kernel_rfl) (by kernel_rfl) h
 obtain ⟨r, rfl, _⟩ := c1q (f := fun b => [cb b]) (Q := fun _ => True) (xs := xs) fun x hm => by
   obtain ⟨v, h1⟩ := c5p u4 (hx x hm); exact ⟨v, trivial, h1⟩
 exact ⟨r, rfl, by simpa using hl⟩
theorem c8q {f : Nat} {cs : List IV} (h : WfT prog f 51 cs) : ∃ o : Ins, cs = o.cells ∧ (o.txns.length < 2 ^ 63 ∧ o.key.s.size < 2 ^ 63) := by
 obtain ⟨f, rfl, hl, hf⟩ := c8p (P := prog) (t := 51) (n := 5) (l := [(3, 0, 1), (33, 1, 3), (49, 4, 1)]) (by kernel_rfl) (by kernel_rfl) h
 obtain ⟨a, h1, _⟩ := c4p u3 (hf (3, 0, 1) (by decide))
 obtain ⟨k, h2, hk⟩ := c2q (hf (33, 1, 3) (by decide))
 obtain ⟨r, h3, hr⟩ := c6q (hf (49, 4, 1) (by decide))
 refine ⟨⟨a, k, r⟩, ?_, hr, hk⟩
 have e := c9p cs 0 1 h1
 rw [c9p cs 1 3 h2, c9p cs 4 1 h3, c0q hl] at e
 exact e
theorem wf_tb {f : Nat} {cs : List IV} (h : WfT prog f 69 cs) : ∃ t : Tb, cs = [tbIV t] ∧ t.length < 2 ^ 63 := by
 obtain ⟨f, rfl, hl, hf⟩ := c8p (P := prog) (t := 69) (n := 1) (l := [(67, 0, 1)]) (by kernel_rfl) (by kernel_rfl) h
 obtain ⟨r, h1, hr⟩ := c7q (hf (67, 0, 1) (by decide))
 refine ⟨r, ?_, hr⟩
 have e := c9p cs 0 1 h1
 rw [c0q hl] at e
 exact e
theorem wf_hs {f : Nat} {cs : List IV} (h : WfT prog f 26 cs) : ∃ h : Hs, cs = h.cells ∧ h.Ok ∧ h.Rg := by
 obtain ⟨f, rfl, hl, hf⟩ := c8p (P := prog) (t := 26) (n := 3) (l := [(22, 0, 1), (23, 1, 1), (24, 2, 1)]) (by kernel_rfl) (by kernel_rfl) h
 obtain ⟨f1, e1, xs1, h1, l1, g1⟩ := c7p (P := prog) (t := 22) (e := 69) (n := 1) (by kernel_rfl) (by kernel_rfl) (hf (22, 0, 1) (by decide))
 obtain ⟨f2, e2, xs2, h2, l2, g2⟩ := c7p (P := prog) (t := 23) (e := 48) (n := 22) (by kernel_rfl) (by kernel_rfl) (hf (23, 1, 1) (by decide))
 obtain ⟨f3, e3, xs3, h3, l3, g3⟩ := c7p (P := prog) (t := 24) (e := 51) (n := 5) (by kernel_rfl) (by kernel_rfl) (hf (24, 2, 1) (by decide))
 obtain ⟨ts, rfl, ht⟩ := c1q (f := fun t : Tb => [tbIV t]) (Q := fun t => t.length < 2 ^ 63) (xs := xs1) fun x hm => by
   obtain ⟨p, a1, a2⟩ := wf_tb (g1 x hm); exact ⟨p, a2, a1⟩
 obtain ⟨es, rfl, he⟩ := c1q (f := Ev.cells) (Q := fun e => e.Ok ∧ (-(2 ^ 63) ≤ e.txn ∧ e.txn < 2 ^ 63)) (xs := xs2) fun x hm => by
   obtain ⟨p, a1, a2⟩ := wf_ev (g2 x hm); exact ⟨p, a2, a1⟩
 obtain ⟨os, rfl, ho⟩ := c1q (f := Ins.cells) (Q := fun o => o.txns.length < 2 ^ 63 ∧ o.key.s.size < 2 ^ 63) (xs := xs3) fun x hm => by
   obtain ⟨p, a1, a2⟩ := c8q (g3 x hm); exact ⟨p, a2, a1⟩
 refine ⟨⟨ts, es, os⟩, ?_, ⟨by simpa using l1, by simpa using l2, by simpa using l3, fun e h => (he e h).1, fun o h => (ho o h).1, ht, fun o h => (ho o h).2⟩, fun e h => (he e h).2⟩
 have e := c9p cs 0 1 h1
 rw [c9p cs 1 1 h2, c9p cs 2 1 h3, c0q hl] at e
 exact e
end
end Go.Rt
end

section
namespace Go.Proofs.YthkdpdpgmhmgoaaGreat
open Go.ChangeShapes Go.WideShapes Go.ChangeAt Go.RowKit Go.Vm Go.Rt
open Go.Proofs (Tryz.prog)
theorem own : ownKnob Tryz.prog.godebug = none := by kernel_rfl
theorem d1b : laidOutB Tryz.prog = true := by kernel_rfl
def tset : List TypeId := [26, 22, 23, 24, 69, 67, 4, 48, 3, 33, 2, 9, 39, 42, 45, 43, 46, 54, 51, 49]
theorem d2b : c5r Tryz.prog tset = true := by kernel_rfl
theorem d3b : ∀ t ∈ [26, 33, 3, 4], Tryz.prog.readableRec t = true ∧ t < Tryz.prog.types.size := by
 intro t ht
 simp only [List.mem_cons, List.not_mem_nil, or_false] at ht
 rcases ht with rfl | rfl | rfl | rfl
 · exact ⟨by kernel_rfl, of_decide_eq_true (by kernel_rfl)⟩
 · exact ⟨by kernel_rfl, of_decide_eq_true (by kernel_rfl)⟩
 · exact ⟨by kernel_rfl, of_decide_eq_true (by kernel_rfl)⟩
 · exact ⟨by kernel_rfl, of_decide_eq_true (by kernel_rfl)⟩
theorem agg26 : b4X Tryz.prog 26 = true := by kernel_rfl
theorem d4b {css : List (List IV)} (h : c9u Tryz.prog [26] css) : ∃ h : Hs, h.Ok ∧ h.Rg ∧ c8u Tryz.prog [26] css = [h.av] := by
 match css, h with
 | [cs], ⟨⟨f, h1⟩, _⟩ =>
   obtain ⟨h, rfl, hok, hrg⟩ := wf_hs h1
   exact ⟨h, hok, hrg, by simp only [c8u, agg26]; rfl⟩
end Go.Proofs.YthkdpdpgmhmgoaaGreat
end
