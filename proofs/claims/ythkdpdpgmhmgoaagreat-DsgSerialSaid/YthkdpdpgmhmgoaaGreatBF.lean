/- Contracts of functions of the program, and what they lean on. Conditions: those of each theorem. -/
import Derived.Test.YthkdpdpgmhmgoaaGreatBE
import Derived.Sort.Grow
import Derived.Shelf.Small.Bits
import Derived.Shelf.Small.Wraps
import Derived.Shelf.Strconv.Itoa0
import Derived.Shelf.Sort.Plain
import Derived.Ground.Names2Prog
import Derived.Shelf.Slices.Clone
import Derived.Shelf.Slices.CompactI
import Derived.Shelf.Slices.SearchI
import Derived.Shelf.Slices.Delete
import Derived.Shelf.Slices.Cells
import Derived.Shelf.Slices.In.SortNone
import Derived.Shelf.Slices.Empties
import Derived.Ground.SlgnProg
import Derived.Shelf.SlicesE.Clone
import Derived.Shelf.SlSortCmp.NoneTotal
import Derived.Ground.SlsfProg
import Derived.Test.YthkdpdpgmhmgoaaGreatProg
import Derived.Test.YthkdpdpgmhmgoaaGreatBC
import Derived.Test.YthkdpdpgmhmgoaaGreatBD
import Derived.Test.YthkdpdpgmhmgoaaGreatRows

set_option linter.unusedVariables false
set_option linter.unusedSimpArgs false

section
namespace Go.Vm
open Go.Sort (Holds putRow grow putCells mapBlock)
def b5T (l : List Int) : List (List IV) := l.map fun i => [.v (.int .i64 i)]
def b6T (l : List Int) : List Int := l.mergeSort fun x y => decide (x ≤ y)
theorem b7T {l : List Int} {i j : Nat} {c : IV} (h : at2 (b5T l) i j = some c) : j = 0 ∧ ∃ n, l[i]? = some n ∧ c = .v (.int .i64 n) := by
 unfold at2 b5T at h
 rw [List.getElem?_map] at h
 cases hl : l[i]? with
 | none => rw [hl] at h; simp at h
 | some n =>
   rw [hl] at h
   simp only [Option.map_some, Option.bind_some] at h
   cases j with
   | zero => simp at h; exact ⟨rfl, n, rfl, h.symm⟩
   | succ j => simp at h
theorem b8T {l : List Int} {i : Nat} {n : Int} (h : l[i]? = some n) : at2 (b5T l) i 0 = some (.v (.int .i64 n)) := by
 unfold at2 b5T; rw [List.getElem?_map, h]; rfl
theorem b9T {A : Nat → Prop} {w : World} {n : Int} {v : Value} (h : RIV A w (.v (.int .i64 n)) v) : v = .int .i64 n := by cases h; rfl
theorem b0U {P : Program} {f : FuncId} (F : List Int → List Int) (hF : ∀ l, (F l).length = l.length) (hF0 : F [] = [])
   (hs : ∀ (blk off cap : Nat) (zs : List Int) (w : World), Holds (Value.int .i64) w blk off zs.toArray → blk < w.heap.size → zs.length < 4611686018427387904 →
     Calls P f #[.slice (some ⟨blk, off, none⟩) zs.length cap] w fun e w' => e = .returned (.tuple #[]) ∧ ∃ n os, w' = grow (putRow (Value.int .i64) (Go.Sort.ahead w n) blk off (F zs).toArray) os)
   (hn : ∀ (p : Option Addr) (cap : Nat) (w : World), Calls P f #[.slice p 0 cap] w fun e w' => e = .returned (.tuple #[]) ∧ w' = w)
   (xs : List Int) (hl : xs.length < 2 ^ 62) : b4z P false f [.sl 1000 1 0 xs.length] [(1000, .list 1 (b5T xs))] (.tup []) [(1000, .list 1 (b5T (F xs)))] := by
 have hlen : (F xs).length = xs.length := hF xs
 have look1 : ∀ {o : Ob} {id : Nat} {q : Ob}, look [(1000, o)] id = some q → id = 1000 ∧ q = o := by
   intro o id q h
   simp only [look] at h
   split at h
   · exact ⟨by omega, by cases h; rfl⟩
   · cases h
 refine ⟨⟨fun id o h => by obtain ⟨_, rfl⟩ := look1 h; rfl, fun id o h => by obtain ⟨_, rfl⟩ := look1 h; rfl⟩, ?_⟩
 intro A ψ w vs hA hob hinj hsubs hheld hvl hrav
 have ho := hob 1000 (.list 1 (b5T xs)) rfl
 have hr := hrav 0 _ rfl
 obtain ⟨v, rfl⟩ : ∃ v, vs = [v] := by
   match vs, hvl with
   | [v], _ => exact ⟨v, rfl⟩
 simp only [List.getD_eq_getElem?_getD, List.getElem?_cons_zero, Option.getD_some] at hr
 have key : ∀ (w' : World), w.heap.size ≤ w'.heap.size → Same w w' → (∀ b, b < w.heap.size → ¬Held ψ [(1000, .list 1 (b5T xs))] b → w'.heap[b]? = w.heap[b]?) →
     ROb (fun b => ((false = false ∧ A b) ∨ w.heap.size ≤ b) ∧ ¬Held ψ [(1000, .list 1 (b5T (F xs)))] b) ψ [(1000, .list 1 (b5T (F xs)))] w' 1000 (.list 1 (b5T (F xs))) →
     ∃ v ψ', (Ending.returned (.tuple #[]) : Ending) = .returned v ∧
     (∀ b, b < w.heap.size → ¬Held ψ [(1000, .list 1 (b5T xs))] b → w'.heap[b]? = w.heap[b]?) ∧ w.heap.size ≤ w'.heap.size ∧ Same w w' ∧
     (∀ id o, look [(1000, Ob.list 1 (b5T xs))] id = some o → ψ'.main id = ψ id) ∧
     (∀ id o b, look [(1000, Ob.list 1 (b5T (F xs)))] id = some o → Owns ψ' id b → (∃ o0, look [(1000, Ob.list 1 (b5T xs))] id = some o0 ∧ Owns ψ id b) ∨ w.heap.size ≤ b) ∧
     (∀ id id' o o' b, look [(1000, Ob.list 1 (b5T (F xs)))] id = some o → look [(1000, Ob.list 1 (b5T (F xs)))] id' = some o' → Owns ψ' id b → Owns ψ' id' b → id = id') ∧ Subs ψ' [(1000, .list 1 (b5T (F xs)))] w' ∧
     (∀ id o, look [(1000, Ob.list 1 (b5T (F xs)))] id = some o → ROb (fun b => ((false = false ∧ A b) ∨ w.heap.size ≤ b) ∧ ¬Held ψ' [(1000, .list 1 (b5T (F xs)))] b) ψ' [(1000, .list 1 (b5T (F xs)))] w' id o) ∧
     RAV (fun b => ((false = false ∧ A b) ∨ w.heap.size ≤ b) ∧ ¬Held ψ' [(1000, .list 1 (b5T (F xs)))] b) ψ' [(1000, .list 1 (b5T (F xs)))] w' (.tup []) v := by
   intro w' h1 h2 h3 h4
   refine ⟨.tuple #[], ψ, rfl, h3, h1, h2, fun _ _ _ => rfl, fun id o b h hb => .inl ?_, fun id id' o o' b h h' _ _ => ?_, fun id o b h hb => ?_, fun id o h => ?_, .tup [] #[] rfl (fun i c h => by simp at h)⟩
   · obtain ⟨rfl, rfl⟩ := look1 h; exact ⟨.list 1 (b5T xs), rfl, hb⟩
   · obtain ⟨rfl, _⟩ := look1 h; obtain ⟨rfl, _⟩ := look1 h'; rfl
   · obtain ⟨rfl, rfl⟩ := look1 h
     have := (hsubs 1000 (.list 1 (b5T xs)) b rfl hb).1
     cases this
   · obtain ⟨rfl, rfl⟩ := look1 h; exact h4
 obtain ⟨hw1, ho⟩ := ho
 by_cases hx : xs = []
 · subst hx
   have hv : ∃ p cap, v = .slice p 0 cap := by
     cases hr with
     | sl0 => exact ⟨_, _, rfl⟩
     | sl => exact ⟨_, _, rfl⟩
   obtain ⟨p, cap, rfl⟩ := hv
   refine (hn p cap w).mono ?_
   rintro e w' ⟨rfl, rfl⟩
   refine key w' (Nat.le_refl _) ⟨rfl, rfl, rfl, Nat.le_refl _⟩ (fun _ _ _ => rfl) ?_
   have hso : F [] = [] := hF0
   rw [hso]
   refine ⟨hw1, ?_⟩
   rcases ho with ⟨g1, g2⟩ | ⟨b, k, c, e, g1, g2, g3, g4, g5⟩
   · exact .inl ⟨g1, g2⟩
   · exact .inr ⟨b, k, c, e, g1, g2, g3, g4, fun i j x h => by simp [at2, b5T] at h⟩
 · have hpos := List.length_pos_iff.2 hx
   rcases ho with ⟨_, g2⟩ | ⟨b, k, c, e, g1, g2, g3, g4, g5⟩
   · exact absurd (by simpa [b5T] using g2) hx
   · obtain ⟨cap, rfl⟩ : ∃ cap, v = .slice (some ⟨b, k.1, none⟩) xs.length cap := by
       generalize hlx : xs.length = n at hr hpos
       cases hr with
       | sl0 => omega
       | sl id sz lo len b' k' cap a o n' ho' he hxx hb ha hlc hk hm =>
         rw [g1] at hb; cases hb
         have := ha (by omega)
         rw [Nat.zero_mul, Nat.add_zero] at this
         subst this
         exact ⟨cap, rfl⟩
     have hbl : b < w.heap.size := c3V g2
     have hB : Held ψ [(1000, .list 1 (b5T xs))] b := ⟨1000, .list 1 (b5T xs), rfl, .inl ⟨k, g1⟩⟩
     have hcell : ∀ i n, xs[i]? = some n → c[k.1 + i]? = some (.int .i64 n) := by
       intro i n hi
       have h5 := b9T (g5 i 0 _ (b8T hi))
       have hil := (List.getElem?_eq_some_iff.1 hi).1
       have hcs : k.1 + i < c.size := by simp only [b5T, List.length_map] at g4; omega
       rw [Nat.mul_one, Nat.add_zero] at h5
       rw [Array.getD_eq_getD_getElem?, Array.getElem?_eq_getElem hcs] at h5
       rw [Array.getElem?_eq_getElem hcs]
       exact congrArg some h5
     have hH : Holds (Value.int .i64) w b k.1 xs.toArray := by
       intro j hj
       simp only [List.size_toArray] at hj
       have hj2 := List.getElem?_eq_getElem hj
       constructor
       · simp only [World.cell?, g2]
         rw [hcell j _ hj2]
         simp [hj]
       · simp only [World.frozen?, g2]
         simp
     refine (hs b k.1 cap xs w hH hbl (by omega)).mono ?_
     rintro ex w' ⟨rfl, n, os, rfl⟩
     have hsz : (putRow (Value.int .i64) (Go.Sort.ahead w n) b k.1 (F xs).toArray).heap.size = w.heap.size := by simp [putRow, mapBlock, Go.Sort.ahead]
     have hother : ∀ i, i ≠ b → i < w.heap.size → (grow (putRow (Value.int .i64) (Go.Sort.ahead w n) b k.1 (F xs).toArray) os).heap[i]? = w.heap[i]? := by
       intro i hi hlt
       rw [Go.Sort.heap_grow_old _ _ (by rw [hsz]; exact hlt)]
       simp only [putRow, mapBlock, Go.Sort.ahead, Array.getElem?_modify]
       rw [if_neg (Ne.symm hi)]
     have hmine : (grow (putRow (Value.int .i64) (Go.Sort.ahead w n) b k.1 (F xs).toArray) os).heap[b]? = some (.cells (putCells (Value.int .i64) k.1 (F xs).toArray c) e (0, 0)) := by
       rw [Go.Sort.heap_grow_old _ _ (by rw [hsz]; exact hbl)]
       simp only [putRow, mapBlock, Go.Sort.ahead, Array.getElem?_modify, if_true]
       rw [g2]; rfl
     refine key _ (by rw [Go.Sort.size_grow, hsz]; omega) ⟨rfl, rfl, rfl, Nat.le_add_right _ _⟩ (fun i hi hh => hother i (fun e => hh (e ▸ hB)) hi) ?_
     refine ⟨fun x hxm => ?_, .inr ⟨b, k, _, e, g1, hmine, ?_, ?_, fun i j x h => ?_⟩⟩
     · simp only [b5T, List.mem_map] at hxm
       obtain ⟨_, _, rfl⟩ := hxm; rfl
     · simp only [putCells, Array.size_mapIdx]; exact g3
     · simp only [b5T, List.length_map] at g4 ⊢; omega
     · obtain ⟨rfl, m, hm, rfl⟩ := b7T h
       have hil := (List.getElem?_eq_some_iff.1 hm).1
       rw [hlen] at hil
       simp only [b5T, List.length_map] at g4
       have hlt : k.1 + (i * 1 + 0) < (putCells (Value.int .i64) k.1 (F xs).toArray c).size := by simp only [putCells, Array.size_mapIdx]; omega
       have : (putCells (Value.int .i64) k.1 (F xs).toArray c).getD (k.1 + (i * 1 + 0)) undef = .int .i64 m := by
         rw [Array.getD_eq_getD_getElem?, Array.getElem?_eq_getElem hlt, Option.getD_some]
         simp only [putCells, Array.getElem_mapIdx, List.size_toArray, hlen]
         rw [if_pos (by omega)]
         have e1 : k.1 + (i * 1 + 0) - k.1 = i := by omega
         rw [e1]
         have := hm
         simp [List.getElem!_eq_getElem?_getD, this]
       rw [this]
       exact .v _ rfl
end Go.Vm
end

section
namespace Go.Proofs
open Go.Shelf
def Tryz.lays189_ren : Go.Shelf.Ren := ⟨fun | 189 => 105 | 125 => 115 | 257 => 147 | 128 => 162 | 129 => 163 | 294 => 181 | 295 => 182 | 296 => 183 | 297 => 184 | 298 => 185 | 299 => 186 | 216 => 187 | 300 => 188 | 301 => 189 | 328 => 208 | 329 => 195 | 330 => 196 | 331 => 209 | 332 => 210 | 215 => 211 | 343 => 218 | n => n, fun | 28 => 49 | 3 => 3 | 46 => 135 | 0 => 0 | 51 => 177 | 53 => 179 | 4 => 4 | 183 => 170 | 182 => 169 | 131 => 174 | 5 => 5 | 9 => 9 | 218 => 209 | 222 => 213 | 228 => 226 | 229 => 227 | n => n, fun | n => n⟩
theorem Tryz.lays189 : Go.Proofs.Lays.n189 Tryz.prog Tryz.lays189_ren := {
 mixed := by kernel_rfl
 f125 := Tryz.func115.trans (congrArg some (by kernel_rfl))
 f128 := Tryz.func162.trans (congrArg some (by kernel_rfl))
 f129 := Tryz.func163.trans (congrArg some (by kernel_rfl))
 f189 := Tryz.func105.trans (congrArg some (by kernel_rfl))
 f215 := Tryz.func211.trans (congrArg some (by kernel_rfl))
 f216 := Tryz.func187.trans (congrArg some (by kernel_rfl))
 f257 := Tryz.func147.trans (congrArg some (by kernel_rfl))
 f294 := Tryz.func181.trans (congrArg some (by kernel_rfl))
 f295 := Tryz.func182.trans (congrArg some (by kernel_rfl))
 f296 := Tryz.func183.trans (congrArg some (by kernel_rfl))
 f297 := Tryz.func184.trans (congrArg some (by kernel_rfl))
 f298 := Tryz.func185.trans (congrArg some (by kernel_rfl))
 f299 := Tryz.func186.trans (congrArg some (by kernel_rfl))
 f300 := Tryz.func188.trans (congrArg some (by kernel_rfl))
 f301 := Tryz.func189.trans (congrArg some (by kernel_rfl))
 f328 := Tryz.func208.trans (congrArg some (by kernel_rfl))
 f329 := Tryz.func195.trans (congrArg some (by kernel_rfl))
 f330 := Tryz.func196.trans (congrArg some (by kernel_rfl))
 f331 := Tryz.func209.trans (congrArg some (by kernel_rfl))
 f332 := Tryz.func210.trans (congrArg some (by kernel_rfl))
 f343 := Tryz.func218.trans (congrArg some (by kernel_rfl))
 t0 := Tryz.underlying0
 a0 := Tryz.isAgg0
 z0 := Tryz.sizeOf0
 v0 := Tryz.zeroValue0
 t3 := Tryz.underlying3
 a3 := Tryz.isAgg3
 z3 := Tryz.sizeOf3
 v3 := Tryz.zeroValue3
 t4 := Tryz.underlying4
 a4 := Tryz.isAgg4
 z4 := Tryz.sizeOf4
 v4 := Tryz.zeroValue4
 t5 := Tryz.underlying5
 a5 := Tryz.isAgg5
 z5 := Tryz.sizeOf5
 v5 := Tryz.zeroValue5
 t9 := Tryz.underlying9
 a9 := Tryz.isAgg9
 z9 := Tryz.sizeOf9
 v9 := Tryz.zeroValue9
 t28 := Tryz.underlying49
 a28 := Tryz.isAgg49
 z28 := Tryz.sizeOf49
 v28 := Tryz.zeroValue49
 t46 := Tryz.underlying135
 a46 := Tryz.isAgg135
 z46 := Tryz.sizeOf135
 v46 := Tryz.zeroValue135
 t51 := Tryz.underlying177
 a51 := Tryz.isAgg177
 z51 := Tryz.sizeOf177
 v51 := Tryz.zeroValue177
 t53 := Tryz.underlying179
 a53 := Tryz.isAgg179
 z53 := Tryz.sizeOf179
 v53 := Tryz.zeroValue179
 t131 := Tryz.underlying174
 a131 := Tryz.isAgg174
 z131 := Tryz.sizeOf174
 v131 := Tryz.zeroValue174
 t182 := Tryz.underlying169
 a182 := Tryz.isAgg169
 z182 := Tryz.sizeOf169
 v182 := Tryz.zeroValue169
 t183 := Tryz.underlying170
 a183 := Tryz.isAgg170
 z183 := Tryz.sizeOf170
 v183 := Tryz.zeroValue170
 t218 := Tryz.underlying209
 a218 := Tryz.isAgg209
 z218 := Tryz.sizeOf209
 v218 := Tryz.zeroValue209
 t222 := Tryz.underlying213
 a222 := Tryz.isAgg213
 z222 := Tryz.sizeOf213
 v222 := Tryz.zeroValue213
 t228 := Tryz.underlying226
 a228 := Tryz.isAgg226
 z228 := Tryz.sizeOf226
 v228 := Tryz.zeroValue226
 t229 := Tryz.underlying227
 a229 := Tryz.isAgg227
 z229 := Tryz.sizeOf227
 v229 := Tryz.zeroValue227 }
open Go.Sort Go.RowKit in
theorem Tryz.slices_Sort_int (blk off cap : Nat) (zs : List Int) (w : World) (hH : Holds (Value.int .i64) w blk off zs.toArray) (hblk : blk < w.heap.size) (hsz : zs.length < 4611686018427387904) :
   Calls Tryz.prog 105 #[.slice (some ⟨blk, off, none⟩) zs.length cap] w fun e w' =>
     e = .returned (.tuple #[]) ∧ ∃ n os, w' = grow (putRow (Value.int .i64) (Sort.ahead w n) blk off (zs.mergeSort fun x y => decide (x ≤ y)).toArray) os := Any.slices_Sort_int Tryz.lays189 blk off cap zs w hH hblk hsz
def Tryz.sortF_ren : Go.Shelf.Ren := ⟨fun | 6 => 69 | 15 => 115 | 14 => 114 | 28 => 162 | 29 => 163 | 20 => 154 | 21 => 155 | 22 => 156 | 23 => 157 | 24 => 158 | 25 => 159 | 26 => 160 | 27 => 161 | 46 => 194 | 47 => 195 | 48 => 196 | 49 => 197 | 50 => 198 | 57 => 213 | n => n, fun | 22 => 30 | 24 => 37 | 25 => 86 | 3 => 3 | 39 => 135 | 0 => 0 | 53 => 177 | 55 => 179 | 4 => 4 | 46 => 170 | 45 => 169 | 50 => 174 | 5 => 5 | 9 => 9 | 66 => 209 | 70 => 213 | 76 => 226 | 77 => 227 | n => n, fun | n => n⟩
theorem Tryz.sortF : Go.Proofs.SlLaysF0.n6 Tryz.prog Tryz.sortF_ren := {
 mixed := by kernel_rfl
 f6 := ⟨Tryz.f69.name, by decide, Tryz.func69.trans (congrArg some (by kernel_rfl))⟩
 f14 := ⟨Tryz.f114.name, by decide, Tryz.func114.trans (congrArg some (by kernel_rfl))⟩
 f15 := Tryz.func115.trans (congrArg some (by kernel_rfl))
 f20 := ⟨Tryz.f154.name, by decide, Tryz.func154.trans (congrArg some (by kernel_rfl))⟩
 f21 := ⟨Tryz.f155.name, by decide, Tryz.func155.trans (congrArg some (by kernel_rfl))⟩
 f22 := ⟨Tryz.f156.name, by decide, Tryz.func156.trans (congrArg some (by kernel_rfl))⟩
 f23 := ⟨Tryz.f157.name, by decide, Tryz.func157.trans (congrArg some (by kernel_rfl))⟩
 f24 := ⟨Tryz.f158.name, by decide, Tryz.func158.trans (congrArg some (by kernel_rfl))⟩
 f25 := ⟨Tryz.f159.name, by decide, Tryz.func159.trans (congrArg some (by kernel_rfl))⟩
 f26 := ⟨Tryz.f160.name, by decide, Tryz.func160.trans (congrArg some (by kernel_rfl))⟩
 f27 := ⟨Tryz.f161.name, by decide, Tryz.func161.trans (congrArg some (by kernel_rfl))⟩
 f28 := Tryz.func162.trans (congrArg some (by kernel_rfl))
 f29 := Tryz.func163.trans (congrArg some (by kernel_rfl))
 f46 := ⟨Tryz.f194.name, by decide, Tryz.func194.trans (congrArg some (by kernel_rfl))⟩
 f47 := Tryz.func195.trans (congrArg some (by kernel_rfl))
 f48 := Tryz.func196.trans (congrArg some (by kernel_rfl))
 f49 := ⟨Tryz.f197.name, by decide, Tryz.func197.trans (congrArg some (by kernel_rfl))⟩
 f50 := ⟨Tryz.f198.name, by decide, Tryz.func198.trans (congrArg some (by kernel_rfl))⟩
 f57 := ⟨Tryz.f213.name, by decide, Tryz.func213.trans (congrArg some (by kernel_rfl))⟩
 t0 := Tryz.underlying0
 a0 := Tryz.isAgg0
 z0 := Tryz.sizeOf0
 v0 := Tryz.zeroValue0
 t3 := Tryz.underlying3
 a3 := Tryz.isAgg3
 z3 := Tryz.sizeOf3
 v3 := Tryz.zeroValue3
 t4 := Tryz.underlying4
 a4 := Tryz.isAgg4
 z4 := Tryz.sizeOf4
 v4 := Tryz.zeroValue4
 t5 := Tryz.underlying5
 a5 := Tryz.isAgg5
 z5 := Tryz.sizeOf5
 v5 := Tryz.zeroValue5
 t9 := Tryz.underlying9
 a9 := Tryz.isAgg9
 z9 := Tryz.sizeOf9
 v9 := Tryz.zeroValue9
 t22 := Tryz.underlying30
 a22 := Tryz.isAgg30
 z22 := Tryz.sizeOf30
 v22 := Tryz.zeroValue30
 t25 := Tryz.underlying86
 a25 := Tryz.isAgg86
 z25 := Tryz.sizeOf86
 v25 := Tryz.zeroValue86
 t39 := Tryz.underlying135
 a39 := Tryz.isAgg135
 z39 := Tryz.sizeOf135
 v39 := Tryz.zeroValue135
 t45 := Tryz.underlying169
 a45 := Tryz.isAgg169
 z45 := Tryz.sizeOf169
 v45 := Tryz.zeroValue169
 t46 := Tryz.underlying170
 a46 := Tryz.isAgg170
 z46 := Tryz.sizeOf170
 v46 := Tryz.zeroValue170
 t50 := Tryz.underlying174
 a50 := Tryz.isAgg174
 z50 := Tryz.sizeOf174
 v50 := Tryz.zeroValue174
 t53 := Tryz.underlying177
 a53 := Tryz.isAgg177
 z53 := Tryz.sizeOf177
 v53 := Tryz.zeroValue177
 t55 := Tryz.underlying179
 a55 := Tryz.isAgg179
 z55 := Tryz.sizeOf179
 v55 := Tryz.zeroValue179
 t66 := Tryz.underlying209
 a66 := Tryz.isAgg209
 z66 := Tryz.sizeOf209
 v66 := Tryz.zeroValue209
 t70 := Tryz.underlying213
 a70 := Tryz.isAgg213
 z70 := Tryz.sizeOf213
 v70 := Tryz.zeroValue213
 t76 := Tryz.underlying226
 a76 := Tryz.isAgg226
 z76 := Tryz.sizeOf226
 v76 := Tryz.zeroValue226
 t77 := Tryz.underlying227
 a77 := Tryz.isAgg227
 z77 := Tryz.sizeOf227
 v77 := Tryz.zeroValue227 }
open Go.Sort Go.RowKit Go.Lib in
theorem Tryz.slices_SortFunc_none (p : Option Addr) (cap : Nat) (fv : Value) (w : World) :
   Calls Tryz.prog 69 #[.slice p 0 cap, fv] w fun e w' => e = .returned (.tuple #[]) ∧ w' = w := AnyF.slices_SortFunc_none Tryz.sortF p cap fv w
end Go.Proofs
end

section
namespace Go.Rt
open Go.Vm
theorem b2Z (l : List Int) : (b6T l).length = l.length := List.length_mergeSort _
theorem b3Z (xs : List Int) (hl : xs.length < 2 ^ 62) : b4z prog false n_a3r [.sl 1000 1 0 xs.length] [(1000, .list 1 (c6Z xs))] (.tup []) [(1000, .list 1 (c6Z (b6T xs)))] :=
 b0U b6T b2Z (by simp [b6T]) (fun blk off cap zs w hH hb hs => Go.Proofs.Tryz.slices_Sort_int blk off cap zs w hH hb hs) (fun p cap w => Go.Proofs.Any.slices_Sort_int_none Go.Proofs.Tryz.lays189 p cap w) xs hl
theorem b4Z (xs : List Int) (hl : xs.length < 2 ^ 62) : b4z prog false n_a3r [.sl 900 1 0 xs.length] [(900, .list 1 (c6Z xs))] (.tup []) [(900, .list 1 (c6Z (b6T xs)))] :=
 (b3Z xs hl).ren (Ren.swaps [(1000, 900)]) rfl
def chT (es : List Ev) (o : Ins) (k : Nat) : List Vs := ⟨0, 0⟩ :: (o.txns.take k).map fun txn => ⟨txn, c1q es txn o.table o.key⟩
theorem b5Z (es : List Ev) (o : Ins) : chT es o 0 = [⟨0, 0⟩] := rfl
theorem b6Z {es : List Ev} {o : Ins} {k : Nat} {txn : Int} (h : o.txns[k]? = some txn) : chT es o (k + 1) = chT es o k ++ [⟨txn, c1q es txn o.table o.key⟩] := by
 unfold chT
 rw [show o.txns.take (k + 1) = o.txns.take k ++ [txn] by rw [List.take_add_one, h]; rfl]
 simp
theorem b7Z (es : List Ev) (o : Ins) : chT es o o.txns.length = chnI es o := by unfold chT chnI; rw [List.take_length]
theorem b8Z {es : List Ev} {o : Ins} {k : Nat} (h : k ≤ o.txns.length) : (chT es o k).length = k + 1 := by simp [chT]; omega
def b9Z (es : List Ev) : Prop := ∀ e, e ∈ es → e.kind = 3 → e.row.length < 2 ^ 40
def bkIV (es : List Ev) (os : List Ins) : IV := .pt [.mp skL (gLv es), .lst 1 (c6Z (b6T (c4r es))), .mp skR (gRw es), .mp skR (gLs es), .mp skC (gCh es os)]
theorem c0a {h : Hs} (hok : h.Ok) (hev : h.events.length < 2 ^ 40) (hw : ¬b5x h) : b4z prog false n_a8a [h.av] [] (.iv (.v (.pointer none))) [] := by
 refine d9m a8a_is (by simp) (by decide) ?_
 have hck := b3T (h := h) (fun hc => hw ((c6k h).1 hc))
 simp -dsimp [a8a, Hs.av]
 refine a1G (b4T hok hev) (by simp [Hs.av]) (by simp [Hs.av]) ?_
 simp -dsimp [hck]
 exact ⟨[1], by simp [EndV, AV.ivc]⟩
set_option maxHeartbeats 40000000 in
theorem c1a {h : Hs} (hok : h.Ok) (hev : h.events.length < 2 ^ 40) (hw : b5x h) (hrow : b9Z h.events) (htx : ∀ o, o ∈ h.order → o.txns.length < 2 ^ 40) : b4z prog false n_a8a [h.av] [] (.iv (bkIV h.events h.order)) [] := by
 refine d9m a8a_is (by simp) (by decide) ?_
 have hck := b2T ((c6k h).2 hw)
 simp -dsimp [a8a, Hs.av]
 refine a1G (b4T hok hev) (by simp [Hs.av]) (by simp [Hs.av]) ?_
 simp -dsimp [hck]
 refine b2l [5, 6, 55] h.events.length (fun i => ⟨[(25, vi i), (24, vi h.events.length), (23, .iv (.lst 22 (evsC h.events))), (3, .ptr 21 0), (1, .ptr 1 0)],
   [(900, .list 1 (c6Z (c4r (h.events.take i)))), (21, .box [.mpr 16, .sl 900 1 0 (c4r (h.events.take i)).length, .mpr 17, .mpr 18, .mpr 19]), (16, .map skL (gLv (h.events.take i))), (17, .map skR (gRw (h.events.take i))), (18, .map skR (gLs (h.events.take i))), (19, .map skC (fun _ => none)),
    (1, .box [.iv (.lst 1 (tbsC h.tables)), .iv (.lst 22 (evsC h.events)), .iv (.lst 5 (insC h.order))])]⟩) (fun _ => True) ?_ trivial ?_
 · refine (b1l (j := 21) (i := 1) (id := 900) (sz := 1) rfl rfl rfl (by decide)).trans (LeTo.le (D := []) ?_)
   simp -dsimp [St.add, c2q, c3q, c4q, c5r, c6Z]
 · intro i hi _
   by_cases hil : i < h.events.length
   · obtain ⟨e, he⟩ := c3Z hil
     have hwi := c4Z (n := (i : Int) + 1) (by omega)
     have htn : h.events.take (i + 1) = h.events.take i ++ [e] := by rw [List.take_add_one, he]; rfl
     have hcl := c7r (h.events.take i)
     have htl : (h.events.take i).length ≤ h.events.length := by simp; omega
     by_cases k1 : e.kind = 1
     · have hg1 := c6q (es := h.events.take i) k1
       have hg2 := c0r (es := h.events.take i) (e := e) (by omega)
       have hg3 := c2r (es := h.events.take i) (e := e) (by omega)
       have hg4 : c4r (h.events.take i ++ [e]) = c4r (h.events.take i) := by rw [c6r, if_neg (by omega)]; simp
       rw [htn, hg2, hg3, hg4]
       simp -dsimp [a8a_l17, he, c2d, k1, hg1, hwi]
       exact fun h => absurd h (by omega)
     · by_cases k5 : e.kind = 5
       · have hg1 := c7q (es := h.events.take i) (e := e) k1
         have hg2 := c0r (es := h.events.take i) (e := e) (by omega)
         have hg3 := c2r (es := h.events.take i) (e := e) (by omega)
         have hg4 : c4r (h.events.take i ++ [e]) = c4r (h.events.take i) ++ [e.txn] := by rw [c6r, if_pos k5]
         rw [htn, hg1, hg2, hg3, hg4]
         simp -dsimp [a8a_l17, he, c2d, k5, hwi]
         exact ⟨fun _ => ⟨by omega, by omega, hil, by simp [c6Z]⟩, fun h => absurd h (by omega)⟩
       · have hg1 := c7q (es := h.events.take i) (e := e) k1
         have hg4 : c4r (h.events.take i ++ [e]) = c4r (h.events.take i) := by rw [c6r, if_neg (by omega)]; simp
         by_cases k3 : e.kind = 3
         · have hg2 := c9q (es := h.events.take i) k3
           have hg3 := c1r (es := h.events.take i) k3
           rw [htn, hg1, hg4]
           simp -dsimp [a8a_l17, he, c2d, k3]
           refine ⟨fun _ => ?_, fun h => absurd h (by omega)⟩
           have hre := hrow e (List.mem_of_getElem? he) k3
           have hcl2 : b4z prog false n_a0c [.iv (.lst 3 (rowC e.row))] [] (.iv (.lst 3 (rowC e.row))) [] := b0m (by simpa using hre)
           repeat' first
             | (refine And.intro ?_ ?_)
             | (refine d8s hcl2 rfl (by simp) (by simp) (by simp) (by simp) ?_; simp -dsimp [c2d, hg2, hg3, hwi])
           all_goals exact hil
         · have hg2 := c0r (es := h.events.take i) (e := e) k3
           have hg3 := c2r (es := h.events.take i) (e := e) k3
           rw [htn, hg1, hg2, hg3, hg4]
           simp -dsimp [a8a_l17, he, c2d, k1, k3, k5, hwi]
           exact fun h => absurd h (by omega)
   · have hie : i = h.events.length := by omega
     subst hie
     rw [List.take_length]
     have hcl := c7r h.events
     simp -dsimp [a8a_l17]
     refine a4K (b4Z (c4r h.events) (by omega)) rfl (by simp) (by simp) (by simp) (by simp) (by simp) (by simp only [a5J, a4J, and_true]; exact ⟨_, rfl, Ob.le_of rfl rfl (by simp [b2Z])⟩) (by simp) ?_
     simp -dsimp
     have hol := hok.order
     refine a8H [1] [9, 105]  h.order.length (fun i => ⟨[(95, vi i), (94, vi h.order.length), (93, .iv (.lst 5 (insC h.order))), (3, .ptr 21 0)],
       [(900, .list 1 (c6Z (b6T (c4r h.events)))), (21, .box [.mpr 16, .sl 900 1 0 (c4r h.events).length, .mpr 17, .mpr 18, .mpr 19]), (16, .map skL (gLv h.events)), (17, .map skR (gRw h.events)), (18, .map skR (gLs h.events)), (19, .map skC (gCh h.events (h.order.take i)))]⟩) (fun _ => True) ?_ trivial ?_
     · simp [c5q]
     · intro i hi _
       by_cases hil : i < h.order.length
       · obtain ⟨o, ho⟩ := c3Z hil
         have hwi := c4Z (n := (i : Int) + 1) (by omega)
         have htn : h.order.take (i + 1) = h.order.take i ++ [o] := by rw [List.take_add_one, ho]; rfl
         have hot := htx o (List.mem_of_getElem? ho)
         have hgc := c3r h.events (h.order.take i) o
         rw [htn]
         simp -dsimp [a8a_l32, ho, Ins.cells, c2d]
         refine ⟨fun _ => ?_, fun hh => absurd hh (by omega)⟩
         refine a8H [8] [125] o.txns.length (fun k => ⟨[(109, vi k), (108, vi o.txns.length), (107, .iv (.lst 1 (c6Z o.txns))), (10, .sl 105 2 0 (k + 1)), (9, .ptr 9 0), (95, vi i), (94, vi h.order.length), (93, .iv (.lst 5 (insC h.order))), (3, .ptr 21 0)],
           [(105, .list 2 (vsC (chT h.events o k))), (9, .box [vi o.table, vb o.key.text, vi o.key.n, .iv (.v (.string o.key.s))]), (900, .list 1 (c6Z (b6T (c4r h.events)))), (21, .box [.mpr 16, .sl 900 1 0 (c4r h.events).length, .mpr 17, .mpr 18, .mpr 19]), (16, .map skL (gLv h.events)), (17, .map skR (gRw h.events)), (18, .map skR (gLs h.events)), (19, .map skC (gCh h.events (h.order.take i)))]⟩) (fun _ => True) ?_ trivial ?_
         · simp [b5Z, vsC]
         · intro k hk _
           by_cases hkl : k < o.txns.length
           · obtain ⟨txn, htxn⟩ := c3Z hkl
             have hwk := c4Z (n := (k : Int) + 1) (by omega)
             have hcn := b6Z (es := h.events) htxn
             have hcl := b8Z (es := h.events) (o := o) (k := k) (by omega)
             have hvs : vsC (chT h.events o k) ++ [[ci txn, ci (c1q h.events txn o.table o.key)]] = vsC (chT h.events o (k + 1)) := by rw [hcn]; simp [vsC]
             simp -dsimp [a8a_l29, htxn, hwk, hcl, hvs]
             exact ⟨fun _ => ⟨by omega, by omega, hkl⟩, fun h => absurd h (by omega)⟩
           · have hke : k = o.txns.length := by omega
             subst hke
             rw [b7Z]
             have hcl := b8Z (es := h.events) (o := o) (k := o.txns.length) (by omega)
             rw [b7Z] at hcl
             have htk : List.take (o.txns.length + 1) (vsC (chnI h.events o)) = vsC (chnI h.events o) := List.take_of_length_le (by simp [hcl])
             simp -dsimp [a8a_l29, htk, hgc, hwi]
             exact hil
       · have hie : i = h.order.length := by omega
         subst hie
         rw [List.take_length]
         simp -dsimp [a8a_l32]
         have htk : List.take (c4r h.events).length (c6Z (b6T (c4r h.events))) = c6Z (b6T (c4r h.events)) := List.take_of_length_le (by simp [b2Z])
         exact ⟨[16, 17, 18, 19, 900, 21], by simp [EndV, AV.ivc, bkIV, htk]⟩
end Go.Rt
end

section
namespace Go.Rt
open Go.Vm
def rowB (es : List Ev) (table : Int) (k : Vl) (v : Vs) : Option (List Vl) := if v = ⟨0, 0⟩ then some [] else (c4p (Ev.isN v.txn table k v.n) es).map Ev.row
def chaB (es : List Ev) (os : List Ins) (table : Int) (k : Vl) : List Vs := match c4p (Ins.isO table k) os with
 | some o => chnI es o
 | none => [⟨0, 0⟩]
def plaB (es : List Ev) (os : List Ins) (table : Int) (k : Vl) (v : Vs) : Int := if (rowB es table k v).isNone then -1 else ixP (fun x => decide (x.txn = v.txn)) (chaB es os table k)
def hldB (es : List Ev) (table : Int) (k : Vl) (p : Pd) (v : Vs) : Bool := !((rowB es table k v).getD []).isEmpty && p.holds ((rowB es table k v).getD [])
def chgB (es : List Ev) (os : List Ins) (table : Int) (k : Vl) (b2M : Int) (p : Pd) : Bool :=
 if b2M < 1 ∨ (chaB es os table k).length ≤ b2M then false else hldB es table k p (((chaB es os table k)[(b2M - 1).toNat]?).getD ⟨0, 0⟩) != hldB es table k p (((chaB es os table k)[b2M.toNat]?).getD ⟨0, 0⟩)
theorem b1p {txn table : Int} {k : Vl} {m : Int} {e : Ev} (h : e.isN txn table k m = true) : e.kind = 3 := by
 simp only [Ev.isN, Bool.and_eq_true, Ev.isW_iff] at h
 exact h.1.1
section
variable (es : List Ev) (os : List Ins)
theorem b2p (hev : es.length < 2 ^ 40) : b4z prog false n_a9a [.iv (bkIV es os)] [] (.iv (c7Z (b6T (c4r es)))) [] := by
 refine d9m a9a_is (by simp) (by decide) ?_
 have := c7r es
 simp -dsimp [a9a, bkIV]
 refine d8s (b8l (xs := c6Z (b6T (c4r es))) (by simp [b2Z]; omega)) rfl (by simp) (by simp) (by simp) (by simp) ?_
 simp -dsimp
 exact ⟨[2], by simp [EndV, AV.ivc, c7Z]⟩
theorem b3p (table : Int) (k : Vl) (v : Vs) (hrow : b9Z es) : b4z prog false n_a7b [.iv (bkIV es os), vi table, k.av, v.av] [] (.tup [.iv (.lst 3 (rowC ((rowB es table k v).getD []))), vb (rowB es table k v).isSome]) [] := by
 refine d0t (by decide) a7b_is (by simp) (by decide) ?_
 by_cases h0 : v = ⟨0, 0⟩
 · subst h0
   simp -dsimp [a7b, bkIV, rowB]
   exact ⟨[8, 6, 7], by simp [d9s, AV.ivc, rowC]⟩
 · have h1 : v.txn = 0 → ¬v.n = 0 := fun h h' => h0 (Vs.eq_iff.2 ⟨h, h'⟩)
   have h2 : rowB es table k v = (c4p (Ev.isN v.txn table k v.n) es).map Ev.row := by unfold rowB; rw [if_neg h0]
   rw [h2]
   simp -dsimp [a7b, bkIV, gRw]
   refine ⟨fun a b => absurd b (h1 a), fun _ => ?_⟩
   cases hl : c4p (Ev.isN v.txn table k v.n) es with
   | none =>
     simp -dsimp
     have hc : b4z prog false n_a0c [.iv (.lst 3 [])] [] (.iv (.lst 3 [])) [] := b0m (by simp)
     refine d8s hc rfl (by simp) (by simp) (by simp) (by simp) ?_
     simp -dsimp
     exact ⟨[6, 7], by simp [d9s, AV.ivc, rowC]⟩
   | some e =>
     have hc : b4z prog false n_a0c [.iv (.lst 3 (rowC e.row))] [] (.iv (.lst 3 (rowC e.row))) [] := b0m (by simpa using hrow e (c9p hl).1 (b1p (c9p hl).2))
     simp -dsimp
     refine d8s hc rfl (by simp) (by simp) (by simp) (by simp) ?_
     simp -dsimp
     exact ⟨[6, 7], by simp [d9s, AV.ivc]⟩
theorem b4p (table : Int) (k : Vl) : b4z prog false n_a5e [.iv (bkIV es os), vi table, k.av] [] (.iv (.lst 2 (vsC (chaB es os table k)))) [] := by
 refine d9m a5e_is (by simp) (by decide) ?_
 simp -dsimp [a6e_chain, bkIV, gCh, chaB]
 cases c4p (Ins.isO table k) os with
 | none =>
   simp -dsimp
   exact ⟨[23, 5], by simp [EndV, AV.ivc, vsC]⟩
 | some o =>
   simp -dsimp
   exact ⟨[5], by simp [EndV, AV.ivc]⟩
theorem b5p (table : Int) (k : Vl) (hc : (chaB es os table k).length < 2 ^ 42) : b4z prog false n_a4c [.iv (bkIV es os), vi table, k.av] [] (.iv (.lst 2 (vsC (chaB es os table k)))) [] := by
 refine d9m a4c_is (by simp) (by decide) ?_
 simp -dsimp [a4c, bkIV]
 refine d8s (b4p es os table k) rfl (by simp [bkIV]) (by simp) (by simp) (by simp) ?_
 simp -dsimp
 refine ⟨by omega, by omega, ?_⟩
 have ht : List.take (chaB es os table k).length (vsC (chaB es os table k)) = vsC (chaB es os table k) := List.take_of_length_le (by simp)
 refine ⟨?_, [17], by simp [EndV, AV.ivc, ht]⟩
 unfold chaB
 cases c4p (Ins.isO table k) os <;> simp [chnI]
theorem b6p : okFn prog n_a7e = true := by kernel_rfl
theorem b7p (x v : Vs) : b4z prog true n_a7e [x.av, .iv (.pt v.cells)] [] (vb (decide (x.txn = v.txn))) [] := by
 refine a5H a7e_is (by simp) (by decide) rfl ?_
 simp -dsimp [a7e]
 rfl
theorem b8p (l : List Vs) (hl : l.length < 2 ^ 63) (v : Vs) : b4z prog true n_a4e [.iv (.lst 2 (vsC l)), .fn n_a7e [] [.val (.pt v.cells)]] [] (vi (ixP (fun x => decide (x.txn = v.txn)) l)) [] := by
 refine a5H a4e_is (by simp) (by decide) rfl ?_
 simp -dsimp [a4e]
 refine a8H [] [] l.length (fun i => ⟨[(8, vi i), (7, vi l.length), (0, .iv (.lst 2 (vsC l))), (1, .fn n_a7e [] [.val (.pt v.cells)])], []⟩) (fun i => Upto i fun j => ∀ e, l[j]? = some e → decide (e.txn = v.txn) = false) ?_ c2Z ?_
 · simp -dsimp
 · intro i hi hq
   simp -dsimp [a4e_l7]
   refine ⟨fun hlt => ?_, fun hge => ?_⟩
   · obtain ⟨e, he⟩ := c3Z hlt
     have hw := c4Z (n := (i : Int) + 1) (by omega)
     simp -dsimp [he, c2d]
     refine ⟨b6p, a5K (b7p e v) (by simp) (by simp) (by simp) ?_⟩
     by_cases hf : e.txn = v.txn
     · have := b7L (p := fun x : Vs => decide (x.txn = v.txn)) he (by simpa using hf) hq
       simp -dsimp [hf, this]
     · simp -dsimp [hf, hw]
       exact ⟨hlt, Upto.succ (fun j hj y hy => by simpa using hq j hj y hy) fun y hy => by rw [he] at hy; cases hy; exact hf⟩
   · rw [b8L (b9L hge hq)]
theorem b9p (table : Int) (k : Vl) (v : Vs) (hrow : b9Z es) (hc : (chaB es os table k).length < 2 ^ 42) : b4z prog true n_a3c [.iv (bkIV es os), vi table, k.av, v.av] [] (vi (plaB es os table k v)) [] := by
 refine a5H a3c_is (by simp) (by decide) rfl ?_
 simp -dsimp [a3c]
 refine d8s (b3p es os table k v hrow) rfl (by simp) (by simp) (by simp) (by simp) ?_
 unfold plaB
 cases hr : rowB es table k v with
 | none => simp -dsimp
 | some r =>
   simp -dsimp
   refine d8s (b4p es os table k) rfl (by simp) (by simp) (by simp) (by simp) ?_
   simp -dsimp
   refine a1G (b8p (chaB es os table k) (by omega) v) (by simp) (by simp) ?_
   simp -dsimp
end
end Go.Rt
end

section
namespace Go.Rt
open Go.Vm
theorem b2w : okFn prog n_a8e = true := by kernel_rfl
theorem b3w {es : List Ev} {table : Int} {k : Vl} {v : Vs} (hrow : b9Z es) : ((rowB es table k v).getD []).length < 2 ^ 40 := by
 unfold rowB
 split
 · simp
 · cases h : c4p (Ev.isN v.txn table k v.n) es with
   | none => simp
   | some e => exact hrow e (c9p h).1 (b1p (c9p h).2)
set_option maxHeartbeats 4000000 in
theorem b4w (es : List Ev) (os : List Ins) (table : Int) (k : Vl) {p : Pd} (hp : p.Ok) (v : Vs) (hrow : b9Z es) :
   b4z prog true n_a8e [v.av, .iv (.pt [bkIV es os]), .iv (.pt [ci table]), .iv (.pt k.cells), .iv (.pt p.cells)] [] (vb (hldB es table k p v)) [] := by
 refine a5H a8e_is (by simp) (by decide) rfl ?_
 simp -dsimp [a8e]
 refine d8s (b3p es os table k v hrow) rfl (by simp) (by simp) (by simp) (by simp) ?_
 have hl := b3w (table := table) (k := k) (v := v) hrow
 have hp9 : p.cells.length = 9 := by rw [Pd.cells_eq]; rfl
 unfold hldB
 generalize (rowB es table k v).getD [] = r at *
 cases r with
 | nil =>
   simp -dsimp [rowC]
 | cons a b =>
   have hne : 0 < (rowC (a :: b)).length := by simp
   simp -dsimp
   have ht : List.take 9 (p.cells.map AV.iv) = p.cells.map AV.iv := List.take_of_length_le (by simp [hp9])
   refine ⟨by omega, ?_⟩
   refine a1G (c0i hp (a :: b) (by omega)) (by simp [ht, Pd.av]) (by simp [Pd.av]) ?_
   simp -dsimp
theorem b5w (es : List Ev) (os : List Ins) (table : Int) (k : Vl) : 0 < (chaB es os table k).length := by
 unfold chaB; split <;> simp [chnI]
set_option maxHeartbeats 8000000 in
theorem b6w (es : List Ev) (os : List Ins) (table : Int) (k : Vl) (b2M : Int) {p : Pd} (hp : p.Ok) (hrow : b9Z es) (hc : (chaB es os table k).length < 2 ^ 42) :
   b4z prog true n_a5c [.iv (bkIV es os), vi table, k.av, vi b2M, p.av] [] (vb (chgB es os table k b2M p)) [] := by
 refine a5H a5c_is (by simp) (by decide) rfl ?_
 have h1 := fun v => b4w es os table k hp v hrow
 have hch := b4p es os table k
 have hres : chgB es os table k b2M p = if b2M < 1 ∨ (chaB es os table k).length ≤ b2M then false else hldB es table k p (((chaB es os table k)[(b2M - 1).toNat]?).getD ⟨0, 0⟩) != hldB es table k p (((chaB es os table k)[b2M.toNat]?).getD ⟨0, 0⟩) := rfl
 generalize chgB es os table k b2M p = res at *
 generalize chaB es os table k = l at *
 simp -dsimp [a5c, Pd.av_eq, bkIV]
 refine d8s hch rfl (by simp [bkIV]) (by simp) (by simp) (by simp) ?_
 by_cases p1 : b2M < 1
 · rw [if_pos (.inl p1)] at hres
   subst hres
   simp -dsimp [p1]
 · by_cases p2 : (l.length : Int) ≤ b2M
   · rw [if_pos (.inr p2)] at hres
     subst hres
     simp -dsimp [p1, p2]
   · obtain ⟨q, rfl⟩ : ∃ q : Nat, b2M = ((q + 1 : Nat) : Int) := ⟨(b2M - 1).toNat, by omega⟩
     obtain ⟨x, hx⟩ : ∃ x, l[q]? = some x := c3Z (by omega)
     obtain ⟨y, hy⟩ : ∃ y, l[q + 1]? = some y := c3Z (by omega)
     have hw := c4Z (n := ((q + 1 : Nat) : Int) - 1) (by omega)
     have hq : ((q + 1 : Nat) : Int) - 1 = q := by omega
     rw [if_neg (by omega), hq, Int.toNat_natCast, Int.toNat_natCast, hx, hy] at hres
     rw [hq] at hw
     subst hres
     have p1' : ¬((q : Int) + 1 < 1) := by omega
     have p2' : ¬((l.length : Int) ≤ (q : Int) + 1) := by omega
     have p0 : (0 : Int) ≤ (q : Int) + 1 := by omega
     have hw' : IntKind.i64.wrap (q : Int) = q := hw
     simp -dsimp [p1', p2', p0, hw', hx, hy, c2d]
     refine ⟨⟨b2w, a5K (h1 x) (by simp) (by simp [bkIV, Pd.cells_eq]) (by simp) ?_⟩, ?_⟩
     · simp -dsimp [c2d]
       refine ⟨b2w, a5K (h1 y) (by simp) (by simp [bkIV, Pd.cells_eq]) (by simp) ?_⟩
       simp -dsimp
     · refine ⟨b2w, a5K (h1 x) (by simp) (by simp [bkIV, Pd.cells_eq]) (by simp) ?_⟩
       simp -dsimp
       refine ⟨b2w, a5K (h1 y) (by simp) (by simp [bkIV, Pd.cells_eq]) (by simp) ?_⟩
       simp -dsimp
end Go.Rt
end

section
namespace Go.Rt
open Go.Vm
theorem c5f {α : Type} [DecidableEq α] : ∀ {l r : List α}, l.Nodup → (∀ x, x ∈ l → x ∈ r) → l.length ≤ r.length
 | [], _, _, _ => Nat.zero_le _
 | a :: l, r, hn, h => by
   have hn := List.nodup_cons.1 hn
   have ha := h a List.mem_cons_self
   have := c5f (l := l) (r := r.erase a) hn.2 fun x hx => by
     refine (List.mem_erase_of_ne ?_).2 (h x (List.mem_cons_of_mem _ hx))
     rintro rfl; exact hn.1 hx
   rw [List.length_erase_of_mem ha] at this
   have := List.length_pos_of_mem ha
   simp only [List.length_cons]; omega
theorem c6f {α : Type} {l : List α} (h : ∀ (i : Nat) (t : α), l[i]? = some t → t ∉ l.take i) : l.Nodup := by
 unfold List.Nodup
 rw [List.pairwise_iff_getElem]
 intro i j hi hj hij he
 refine h j l[j] (List.getElem?_eq_getElem hj) (List.mem_of_getElem? (i := i) ?_)
 rw [List.getElem?_take_of_lt hij, List.getElem?_eq_getElem hi, he]
section
variable {h : Hs}
theorem c7f {es : List Ev} {txn table : Int} {k : Vl} (hw : c2S es txn table k ≠ 0) : ∃ e, e ∈ es ∧ e.isW txn table k = true := by
 unfold c2S at hw
 obtain ⟨e, he⟩ := List.exists_mem_of_length_pos (Nat.pos_of_ne_zero hw)
 rw [List.mem_filter] at he
 exact ⟨e, he.1, he.2⟩
theorem c8f (hw : b5x h) {o : Ins} (ho : o ∈ h.order) : o.txns.Nodup := by
 obtain ⟨i, hi⟩ := List.getElem?_of_mem ho
 exact c6f fun j t hj => ((b5F hw hi).2.1 j (List.getElem?_eq_some_iff.1 hj).1 t hj).2.2
theorem c9f (hw : b5x h) {o : Ins} (ho : o ∈ h.order) {t : Int} (ht : t ∈ o.txns) : b4k h.events t = 5 ∧ c2S h.events t o.table o.key ≠ 0 := by
 obtain ⟨i, hi⟩ := List.getElem?_of_mem ho
 obtain ⟨j, hj⟩ := List.getElem?_of_mem ht
 have := (b5F hw hi).2.1 j (List.getElem?_eq_some_iff.1 hj).1 t hj
 exact ⟨this.1, this.2.1⟩
theorem c0g (hw : b5x h) {o : Ins} (ho : o ∈ h.order) : o.txns.length ≤ h.events.length := by
 have := c5f (l := o.txns) (r := h.events.map Ev.txn) (c8f hw ho) fun t ht => by
   obtain ⟨e, he, hk⟩ := c7f (c9f hw ho ht).2
   exact List.mem_map.2 ⟨e, he, (b7F hk).2.1⟩
 simpa using this
theorem c1g (hw : b5x h) {e : Ev} (he : e ∈ h.events) : 1 ≤ e.txn := by
 obtain ⟨i, hi⟩ := List.getElem?_of_mem he
 exact (b4F hw hi).1.1.1
theorem c2g {table : Int} {k : Vl} {o : Ins} : o.isO table k = true ↔ o.isOf table k := by
 unfold Ins.isO Ins.isOf
 rw [Bool.and_eq_true, decide_eq_true_eq, decide_eq_true_eq]
theorem c3g (hw : b5x h) {table : Int} {k : Vl} : ∀ (i j : Nat) (a b : Ins), h.order[i]? = some a → h.order[j]? = some b → a.isO table k = true → b.isO table k = true → i = j := by
 have key : ∀ (i j : Nat) (a b : Ins), i < j → h.order[i]? = some a → h.order[j]? = some b → a.isO table k = true → b.isO table k = true → False := by
   intro i j a b hij hi hj ha hb
   rw [c2g] at ha hb
   refine (b5F hw hj).1 a (List.mem_of_getElem? (i := i) ?_) ⟨ha.1.trans hb.1.symm, ha.2.trans hb.2.symm⟩
   rw [List.getElem?_take_of_lt hij]; exact hi
 intro i j a b hi hj ha hb
 rcases Nat.lt_trichotomy i j with g | g | g
 · exact (key i j a b g hi hj ha hb).elim
 · exact g
 · exact (key j i b a g hj hi hb ha).elim
theorem c4g (hw : b5x h) (table : Int) (k : Vl) : (chaB h.events h.order table k).length ≤ h.events.length + 1 := by
 unfold chaB
 cases ho : c4p (Ins.isO table k) h.order with
 | none => simp
 | some o =>
   have := c0g hw (c9p ho).1
   simp [chnI]; omega
end
end Go.Rt
end

section
namespace Go.Rt
open Go.Vm
section
variable {h : Hs}
theorem b0q {α : Type} {p : α → Bool} {l : List α} (hu : ∀ (i j : Nat) (a b : α), l[i]? = some a → l[j]? = some b → p a = true → p b = true → i = j) {e : α} (he : e ∈ l) (hp : p e = true) : c4p p l = some e := by
 cases hl : c4p p l with
 | none => rw [c8p] at hl; rw [hl e he] at hp; cases hp
 | some a =>
   obtain ⟨h1, h2⟩ := c9p hl
   obtain ⟨i, hi⟩ := List.getElem?_of_mem h1
   obtain ⟨j, hj⟩ := List.getElem?_of_mem he
   have := hu i j a e hi hj h2 hp
   subst this
   rw [hi] at hj; exact hj
end
end Go.Rt
end

section
namespace Go.Rt
open Go.Vm
theorem a9z : ∀ {es : List Ev} {t : Int}, b4k es t = 5 → ∃ e, e ∈ es ∧ e.txn = t ∧ e.kind = 5
 | [], _, h => by simp [b4k] at h
 | x :: r, t, h => by
   rw [b4k] at h
   by_cases hx : x.ends t
   · rw [if_pos hx] at h
     exact ⟨x, List.mem_cons_self, hx.1, h⟩
   · rw [if_neg hx] at h
     obtain ⟨e, h1, h2⟩ := a9z h
     exact ⟨e, List.mem_cons_of_mem _ h1, h2⟩
section
variable {h : Hs}
theorem a0A (hw : b5x h) {t : Int} (ht : t ∈ c4r h.events) : b4k h.events t = 5 := by
 unfold c4r at ht
 obtain ⟨e, he, rfl⟩ := List.mem_map.1 ht
 rw [List.mem_filter, decide_eq_true_eq] at he
 obtain ⟨i, hi⟩ := List.getElem?_of_mem he.1
 rw [b6k (i := i) (e := e) ?_ hi ⟨rfl, .inl he.2⟩, he.2]
 intro j hj x hx hxe
 have := (b4F hw hi).1.1.2.2.2.1 x (List.mem_of_getElem? (i := j) (by rw [List.getElem?_take_of_lt hj]; exact hx)) hxe.1
 rcases hxe.2 with g | g
 · exact this.1 g
 · exact this.2 g
theorem a1A {t : Int} (h5 : b4k h.events t = 5) : t ∈ c4r h.events := by
 obtain ⟨e, h1, h2, h3⟩ := a9z h5
 unfold c4r
 exact List.mem_map.2 ⟨e, List.mem_filter.2 ⟨h1, by simpa using h3⟩, h2⟩
def tsB (h : Hs) (table : Int) (k : Vl) : List Int := match c4p (Ins.isO table k) h.order with
 | some o => o.txns
 | none => []
variable {table : Int} {k : Vl}
theorem a2A (hw : b5x h) : chaB h.events h.order table k = ⟨0, 0⟩ :: (tsB h table k).map fun t => ⟨t, (c2S h.events t table k : Int)⟩ := by
 unfold chaB tsB
 cases ho : c4p (Ins.isO table k) h.order with
 | none => rfl
 | some o =>
   obtain ⟨h1, h2⟩ := c9p ho
   rw [c2g] at h2
   obtain ⟨h2, h3⟩ := h2
   simp only [chnI, b0G hw, h2, h3]
theorem a3A (hw : b5x h) : (tsB h table k).Nodup := by
 unfold tsB
 cases ho : c4p (Ins.isO table k) h.order with
 | none => exact List.nodup_nil
 | some o => exact c8f hw (c9p ho).1
theorem a4A (hw : b5x h) {t : Int} : t ∈ tsB h table k ↔ t ∈ c4r h.events ∧ 1 ≤ c2S h.events t table k := by
 constructor
 · intro ht
   unfold tsB at ht
   cases ho : c4p (Ins.isO table k) h.order with
   | none => rw [ho] at ht; cases ht
   | some o =>
     rw [ho] at ht
     obtain ⟨h1, h2⟩ := c9p ho
     rw [c2g] at h2
     obtain ⟨h2, h3⟩ := h2
     obtain ⟨g1, g2⟩ := c9f hw h1 ht
     rw [h2, h3] at g2
     exact ⟨a1A g1, by omega⟩
 · rintro ⟨h1, h2⟩
   obtain ⟨e, he, hk⟩ := c7f (es := h.events) (txn := t) (table := table) (k := k) (by omega)
   obtain ⟨k3, rfl, rfl, rfl⟩ := b7F hk
   obtain ⟨i, hi⟩ := List.getElem?_of_mem he
   obtain ⟨o, ho, hof, hot⟩ := (b4F hw hi).2 k3 (a0A hw h1)
   unfold tsB
   rw [b0q (c3g hw) ho (c2g.2 hof)]
   exact hot
theorem a5A (hw : b5x h) {t : Int} (ht : t ∈ tsB h table k) : 1 ≤ t := by
 obtain ⟨_, h2⟩ := (a4A hw).1 ht
 obtain ⟨e, he, hk⟩ := c7f (es := h.events) (txn := t) (table := table) (k := k) (by omega)
 obtain ⟨_, rfl, _⟩ := b7F hk
 exact c1g hw he
end
end Go.Rt
end

section
namespace Go.Rt
open Go.Vm
instance decAt {α : Type} {l : List α} {i : Nat} {p : α → Prop} [∀ x, Decidable (p x)] : Decidable (∀ x, l[i]? = some x → p x) :=
 match h : l[i]? with
 | none => .isTrue fun x hx => by cases hx
 | some y => if hp : p y then .isTrue fun x hx => by cases hx; exact hp else .isFalse fun g => hp (g y rfl)
instance decEx {α : Type} {l : List α} {i : Nat} {p : α → Prop} [∀ x, Decidable (p x)] : Decidable (∃ x, l[i]? = some x ∧ p x) :=
 match h : l[i]? with
 | none => .isFalse fun ⟨x, hx, _⟩ => by cases hx
 | some y => if hp : p y then .isTrue ⟨y, rfl, hp⟩ else .isFalse fun ⟨x, hx, g⟩ => by cases hx; exact hp g
instance decUpto {n : Nat} {p : Nat → Prop} [∀ j, Decidable (p j)] : Decidable (Upto n p) := by unfold Upto; infer_instance
instance {es : List Ev} {t : Int} : Decidable (c9S es t) := by unfold c9S; infer_instance
instance {es : List Ev} {t : Int} : Decidable (c8S es t) := by unfold c8S; infer_instance
instance {es : List Ev} {e : Ev} : Decidable (c4T es e) := by unfold c4T; infer_instance
instance {t : Tb} : Decidable (TbOk t) := by unfold TbOk; infer_instance
instance {h : Hs} {table : Int} {k : Vl} : Decidable (b8k h table k) := by unfold b8k; infer_instance
instance {es : List Ev} {table : Int} {k : Vl} {v : Vs} : Decidable (b9k es table k v) := by unfold b9k; infer_instance
instance {t : Tb} {r : List Vl} {i : Nat} : Decidable (∀ (v : Vl) (c : Bool), r[i]? = some v → t[i]? = some c → v.text = c ∧ v.right = true) :=
 decidable_of_iff (∀ v, r[i]? = some v → ∀ c, t[i]? = some c → v.text = c ∧ v.right = true) ⟨fun h v c a b => h v a c b, fun h v a c b => h v c a b⟩
instance {t : Tb} {r : List Vl} {i : Nat} : Decidable (d9c t r i) := by unfold d9c; infer_instance
instance {t : Tb} {r : List Vl} : Decidable (Fits t r) := by unfold Fits; infer_instance
instance {h : Hs} {es : List Ev} {e : Ev} : Decidable (c4w h es e) := by unfold c4w; infer_instance
instance {h : Hs} {es : List Ev} {e : Ev} : Decidable (c5w h es e) := by unfold c5w; infer_instance
noncomputable instance {h : Hs} {es : List Ev} {e : Ev} : Decidable (c8w h es e) := Classical.propDecidable _
noncomputable instance {h : Hs} {es : List Ev} {e : Ev} : Decidable (b0x h es e) := by unfold b0x; infer_instance
instance {table : Int} {k : Vl} {o : Ins} : Decidable (o.isOf table k) := by unfold Ins.isOf; infer_instance
instance {h : Hs} {e : Ev} : Decidable (b2x h e) := by unfold b2x; infer_instance
instance {h : Hs} {a : Nat} {o : Ins} : Decidable (b3x h a o) := by unfold b3x; infer_instance
instance {h : Hs} : Decidable (h.TbsOk) := by unfold Hs.TbsOk; infer_instance
instance {h : Hs} : Decidable (b4x h) := by unfold b4x; infer_instance
noncomputable instance {h : Hs} : Decidable (b5x h) := by unfold b5x; infer_instance
def k5 : Vl := ⟨false, 5, ⟨#[]⟩⟩
def noPd : Pd := .mk 0 0 Vl.zero Vl.zero []
def exB (t l : Int) : Ev := ⟨t, 1, l, 0, Vl.zero, ⟨0, 0⟩, 0, [], noPd, [], false⟩
def exW (t n : Int) (r : List Vl) : Ev := ⟨t, 3, 0, 0, k5, ⟨0, 0⟩, n, r, noPd, [], false⟩
def exC (t : Int) : Ev := ⟨t, 5, 0, 0, Vl.zero, ⟨0, 0⟩, 0, [], noPd, [], false⟩
end Go.Rt
end

section
namespace Go.Rt
open Go.Vm
def a7K (l : List Rf) (k : Vl) : Vs := ((c4p (fun r : Rf => decide (r.key = k)) l).map Rf.frm).getD ⟨0, 0⟩
def wwE (o : Ins) : List Eg := (o.txns.zip o.txns.tail).map fun p => ⟨p.1, p.2, 1, o.table, o.key, false⟩
section
variable (h : Hs) (e : Ev)
def rd1 (p : Int) : List Eg := if 0 < p then [⟨e.frm.txn, e.txn, 2, e.table, e.key, e.cur⟩] else []
def rd2 (p : Int) (c : List Vs) : List Eg := if 0 ≤ p ∧ p + 1 < c.length ∧ e.frm.txn ≠ e.txn then [⟨e.txn, ((c[(p + 1).toNat]?).getD ⟨0, 0⟩).txn, 4, e.table, e.key, e.cur⟩] else []
def a8K : List Eg := rd1 e (plaB h.events h.order e.table e.key e.frm) ++ rd2 e (plaB h.events h.order e.table e.key e.frm) (chaB h.events h.order e.table e.key)
def a9K (k : Vl) (p : Int) (i : Nat) : List Eg := if chgB h.events h.order e.table k i e.pred = true then
 [if (i : Int) ≤ p then ⟨(((chaB h.events h.order e.table k)[i]?).getD ⟨0, 0⟩).txn, e.txn, 3, e.table, k, false⟩ else ⟨e.txn, (((chaB h.events h.order e.table k)[i]?).getD ⟨0, 0⟩).txn, 5, e.table, k, false⟩] else []
def a0L (k : Vl) : List Eg := if plaB h.events h.order e.table k (a7K e.refs k) < 0 ∨ (a7K e.refs k).txn = e.txn then [] else
 (List.range (chaB h.events h.order e.table k).length).flatMap (a9K h e k (plaB h.events h.order e.table k (a7K e.refs k)))
def a1L (o : Ins) : List Eg := if o.table = e.table then a0L h e o.key else []
def a2L : List Eg := h.order.flatMap (a1L h e)
def evE : List Eg := if b4k h.events e.txn = 5 then (if e.kind = 2 then a8K h e else if e.kind = 4 then a2L h e else []) else []
def a3L : List Eg := h.order.flatMap wwE ++ h.events.flatMap (evE h)
noncomputable def a4L : List Eg := if b5x h then (a3L h).foldl putE [] else []
end
theorem a5L {h : Hs} (hw : b5x h) {m : Eg} : m ∈ a4L h ↔ m ∈ a3L h ∧ m.frm ≠ m.to := by
 unfold a4L; rw [if_pos hw, b0I]; simp
theorem a6L {h : Hs} (hw : ¬b5x h) : a4L h = [] := by unfold a4L; rw [if_neg hw]
theorem a7L {o : Ins} {m : Eg} : m ∈ wwE o ↔ ∃ i a b, o.txns[i]? = some a ∧ o.txns[i + 1]? = some b ∧ m = ⟨a, b, 1, o.table, o.key, false⟩ := by
 unfold wwE
 rw [List.mem_map]
 constructor
 · rintro ⟨p, hp, rfl⟩
   obtain ⟨i, hi⟩ := List.getElem?_of_mem hp
   rw [List.getElem?_zip_eq_some] at hi
   rw [List.getElem?_tail] at hi
   exact ⟨i, p.1, p.2, hi.1, hi.2, rfl⟩
 · rintro ⟨i, a, b, h1, h2, rfl⟩
   refine ⟨(a, b), List.mem_of_getElem? (i := i) ?_, rfl⟩
   rw [List.getElem?_zip_eq_some, List.getElem?_tail]
   exact ⟨h1, h2⟩
/-! what is known of the ends and of the keys -/
section
variable {h : Hs}
def Hs.Rg (h : Hs) : Prop := ∀ e, e ∈ h.events → -(2 ^ 63) ≤ e.txn ∧ e.txn < 2 ^ 63
theorem a8L {table : Int} {k : Vl} (hk : b8k h table k) : k.right = true := by
 obtain ⟨_, t, _, h1, _⟩ := hk; exact h1
theorem a9L {table : Int} {k : Vl} (hw : b5x h) (hk : b8k h table k) : 0 ≤ table ∧ table < 3 := by
 obtain ⟨h0, t, h1, _⟩ := hk
 have h2 := (List.getElem?_eq_some_iff.1 h1).1
 have h3 := hw.1.1.2
 omega
theorem a0M (hw : b5x h) {table : Int} {k : Vl} {i : Nat} {v : Vs} (hv : (chaB h.events h.order table k)[i]? = some v) (hi : 0 < i) :
   v.txn ∈ c4r h.events ∧ 1 ≤ v.txn ∧ ∃ e, e ∈ h.events ∧ e.txn = v.txn ∧ e.kind = 3 ∧ e.table = table ∧ e.key = k := by
 rw [a2A hw] at hv
 cases i with
 | zero => omega
 | succ i =>
   rw [List.getElem?_cons_succ, List.getElem?_map, Option.map_eq_some_iff] at hv
   obtain ⟨t, ht, rfl⟩ := hv
   have hm := List.mem_of_getElem? ht
   have h1 := (a4A hw).1 hm
   refine ⟨h1.1, a5A hw hm, ?_⟩
   obtain ⟨e, he, hk⟩ := c7f (es := h.events) (txn := t) (table := table) (k := k) (by omega)
   obtain ⟨k3, g1, g2, g3⟩ := b7F hk
   exact ⟨e, he, g1, k3, g2, g3⟩
end
end Go.Rt
end

section
namespace Go.Vm
@[simp] theorem inns_gh {ks : List Nat} {Z : GZ} {vs : List Value} {cs : List AV} : Ob.inns ks (.gh Z vs cs) = cs.all (AV.inn ks) := rfl
theorem a7R {s : St} {id g i m : Nat} {cs : List AV} (ho : look s.hp id = some (.box cs)) (hi : cs[i]? = some (.mpr m)) (hg : look s.hp g = none) (hgl : g < 1000) :
   LeX s fun s' => ∃ x : Value, s' = (s.add id (.box (cs.set i (.iv (.v x))))).add g (.gh ZT [x] [.mpr m]) := by
 rintro E n a w ⟨ψ, h⟩
 obtain ⟨b, c, e, q1, q2, q3, q4⟩ := h.obs id _ ho
 have hm := q4 i _ hi
 obtain ⟨mb, hx⟩ : ∃ mb, c.getD i undef = .map (some mb) := by
   generalize c.getD i undef = v at hm
   cases hm; exact ⟨_, rfl⟩
 have h1 := h.chg (o' := .box (cs.set i (.iv (.v (c.getD i undef))))) (k := (0, c.size)) ho (Ob.le_none rfl) rfl (by simp [Ob.multi]) q1 (fun _ _ => rfl) rfl ⟨rfl, rfl, rfl, Nat.le_refl _⟩ fun tr _ => ⟨b, c, e, q1, q2, by simpa using q3, fun k y hy => by
   rw [List.getElem?_set] at hy
   split at hy
   · rename_i e1
     subst e1
     split at hy
     · cases hy
       rw [hx]; exact d4e rfl
     · cases hy
   · exact tr _ _ (q4 k y hy)⟩
 have hgi : id ≠ g := fun e => by subst e; rw [ho] at hg; cases hg
 have hno : look (s.add id (.box (cs.set i (.iv (.v (c.getD i undef)))))).hp g = none := by rw [d2m, if_neg hgi]; exact hg
 have h2 := h1.new (o := .gh ZT [c.getD i undef] [.mpr m]) (p := none) (w' := w) hgl hno (Ext.refl w) (fun b k e => by cases e) ⟨by simp [upd], fun _ _ _ _ _ _ _ => trivial, rfl, fun j y hy => by
   cases j with
   | succ j => simp at hy
   | zero =>
     simp only [List.getElem?_cons_zero, Option.some.injEq] at hy
     subst hy
     simp only [List.getD_cons_zero]
     generalize hv : c.getD i undef = v at hm
     cases hm with
     | mpr _ b' k' o' ho' hb' =>
       have hgm : g ≠ m := fun e => by subst e; rw [hg] at ho'; cases ho'
       have : ∃ o2, look (s.add id (.box (cs.set i (.iv (.v (.map (some b'))))))).hp m = some o2 := by
         rw [d2m]; split
         · exact ⟨_, rfl⟩
         · exact ⟨_, ho'⟩
       obtain ⟨o2, ho2⟩ := this
       refine .mpr m b' k' o2 (by rw [d2m, if_neg hgm]; exact ho2) (by simp only [upd]; rw [if_neg (Ne.symm hgm)]; exact hb')⟩
 exact ⟨_, ⟨_, rfl⟩, _, h2⟩
theorem a8R {s : St} {t g i : Nat} {x : Value} {Z : GZ} {vs : List Value} {cs : List AV} {y : AV} (ht : s.get t = .iv (.v x)) (hg : look s.hp g = some (.gh Z vs cs)) (hv : vs[i]? = some x) (hc : cs[i]? = some y) : Le s (s.set t y) := by
 rintro E n a w ⟨ψ, hs⟩
 refine ⟨ψ, { hs with frame := fun u => ?_ }⟩
 rw [St.get_set]
 split
 · rename_i e; subst e
   have h1 := hs.frame t
   rw [ht] at h1
   have h2 := b2A h1
   have h3 := (hs.obs g _ hg).2.2.2 i _ hc
   rw [List.getD_eq_getElem?_getD, hv] at h3
   rw [h2]; exact h3
 · exact hs.frame u
theorem LeX.to {s : St} {F G : St → Prop} (h : LeX s F) (k : ∀ s', F s' → LeX s' G) : LeX s G := fun E n a w hs => by
 obtain ⟨s', h1, h2⟩ := h E n a w hs
 exact k s' h1 E n a w h2
end Go.Vm
end

section
namespace Go.Rt
open Go.Vm
abbrev skE : Sk := (true, [.i .i64, .i .i64, .i .i64, .i .i64, .b, .i .i64, .s, .b], false)
open Classical in
noncomputable def gE (S : Eg → Prop) : List Value → Option (List IV)
 | [.int .i64 f, .int .i64 t, .int .i64 k, .int .i64 tb, .bool x, .int .i64 n, .string s, .bool c] => if S ⟨f, t, k, tb, ⟨x, n, s⟩, c⟩ then some [ci 1] else none
 | _ => none
theorem c9Q : gE (fun _ => False) = fun _ => none := by
 funext q; unfold gE; split
 · rw [if_neg]; exact fun h => h
 · rfl
theorem c0R (S : Eg → Prop) (e : Eg) : gset (gE S) [.int .i64 e.frm, .int .i64 e.to, .int .i64 e.kind, .int .i64 e.table, .bool e.key.text, .int .i64 e.key.n, .string e.key.s, .bool e.cursor] (some [ci 1]) = gE (fun x => S x ∨ x = e) := by
 funext q
 simp only [gset]
 split
 · rename_i h; subst h
   simp only [gE]
   rw [if_pos]
   exact .inr rfl
 · rename_i hne
   unfold gE
   split
   · rename_i f t k tb x n s c
     have hn : ¬((⟨f, t, k, tb, ⟨x, n, s⟩, c⟩ : Eg) = e) := by rintro rfl; exact hne rfl
     by_cases hp : S ⟨f, t, k, tb, ⟨x, n, s⟩, c⟩
     · rw [if_pos hp, if_pos (.inl hp)]
     · rw [if_neg hp, if_neg fun g => g.elim hp hn]
   · rfl
def grIV (h : Hs) (x : Value) : IV := .pt [.lst 1 (tbsC h.tables), .lst 22 (evsC h.events), .lst 5 (insC h.order), bkIV h.events h.order, .v x]
noncomputable abbrev grH (S : Eg → Prop) (x : Value) : Hp := [(1001, .map skE (gE S)), (1002, .gh ZT [x] [.mpr 1001])]
def addE (S : Eg → Prop) (e : Eg) (m : Eg) : Prop := S m ∨ (m = e ∧ e.frm ≠ e.to)
set_option maxHeartbeats 4000000 in
theorem c1R (h : Hs) (S : Eg → Prop) (x : Value) (e : Eg) : b4z prog false n_a6k [.iv (grIV h x), e.av] (grH S x) (.tup []) (grH (addE S e) x) := by
 refine a1J a6k_is (by simp) (by decide) (by simp) (by simp [Ob.isLent]) ?_
 by_cases hft : e.frm = e.to
 · have hS : addE S e = S := by funext m; exact propext ⟨fun g => g.elim id fun g => absurd hft g.2, .inl⟩
   rw [hS]
   simp -dsimp [a4j_put, Eg.av, Eg.cells, hft]
 · have hS : addE S e = fun m => S m ∨ m = e := by funext m; exact propext ⟨fun g => g.elim .inl fun g => .inr g.1, fun g => g.elim .inl fun g => .inr ⟨g, hft⟩⟩
   have hge := (c0R S e).symm
   rw [hS]
   simp -dsimp [a4j_put, Eg.av, Eg.cells, hft, grIV, hge, St.unr, c1c, c0c]
def addL (S : Eg → Prop) (f : Nat → List Eg) (i : Nat) (m : Eg) : Prop := S m ∨ (m.frm ≠ m.to ∧ ∃ j, j < i ∧ m ∈ f j)
def addK {κ : Type} (S : Eg → Prop) (F : κ → List Eg) (ks : List κ) (m : Eg) : Prop := S m ∨ (m.frm ≠ m.to ∧ ∃ k, k ∈ ks ∧ m ∈ F k)
theorem c2R (S : Eg → Prop) (f : Nat → List Eg) : addL S f 0 = S := by
 funext m; exact propext ⟨fun g => g.elim id fun ⟨_, j, hj, _⟩ => absurd hj (Nat.not_lt_zero _), .inl⟩
theorem c3R {S : Eg → Prop} {f : Nat → List Eg} {i : Nat} (h : f i = []) : addL S f (i + 1) = addL S f i := by
 funext m
 refine propext ⟨fun g => g.imp id fun ⟨h1, j, hj, hm⟩ => ⟨h1, j, ?_, hm⟩, fun g => g.imp id fun ⟨h1, j, hj, hm⟩ => ⟨h1, j, by omega, hm⟩⟩
 rcases Nat.lt_or_ge j i with g | g
 · exact g
 · have : j = i := by omega
   subst this; rw [h] at hm; cases hm
theorem c4R {S : Eg → Prop} {f : Nat → List Eg} {i : Nat} {e : Eg} (h : f i = [e]) : addL S f (i + 1) = addE (addL S f i) e := by
 funext m
 refine propext ⟨fun g => ?_, fun g => ?_⟩
 · rcases g with g | ⟨h1, j, hj, hm⟩
   · exact .inl (.inl g)
   · rcases Nat.lt_or_ge j i with g | g
     · exact .inl (.inr ⟨h1, j, g, hm⟩)
     · have : j = i := by omega
       subst this
       rw [h, List.mem_singleton] at hm
       subst hm; exact .inr ⟨rfl, h1⟩
 · rcases g with (g | ⟨h1, j, hj, hm⟩) | ⟨rfl, h1⟩
   · exact .inl g
   · exact .inr ⟨h1, j, by omega, hm⟩
   · exact .inr ⟨h1, i, by omega, by rw [h]; exact List.mem_singleton.2 rfl⟩
theorem c5R {κ : Type} (S : Eg → Prop) (F : κ → List Eg) : addK S F [] = S := by
 funext m; exact propext ⟨fun g => g.elim id fun ⟨_, k, hk, _⟩ => (by cases hk), .inl⟩
theorem c6R {κ : Type} (S : Eg → Prop) (F : κ → List Eg) (ks : List κ) (k : κ) (f : Nat → List Eg) (n : Nat) (hf : ∀ m, m ∈ F k ↔ ∃ j, j < n ∧ m ∈ f j) : addK S F (ks ++ [k]) = addL (addK S F ks) f n := by
 funext m
 refine propext ⟨fun g => ?_, fun g => ?_⟩
 · rcases g with g | ⟨h1, k', hk, hm⟩
   · exact .inl (.inl g)
   · rcases List.mem_append.1 hk with g | g
     · exact .inl (.inr ⟨h1, k', g, hm⟩)
     · rw [List.mem_singleton.1 g] at hm
       exact .inr ⟨h1, (hf m).1 hm⟩
 · rcases g with (g | ⟨h1, k', hk, hm⟩) | ⟨h1, hm⟩
   · exact .inl g
   · exact .inr ⟨h1, k', List.mem_append_left _ hk, hm⟩
   · exact .inr ⟨h1, k, by simp, (hf m).2 hm⟩
theorem c7R {κ : Type} (S : Eg → Prop) (F : κ → List Eg) (ks : List κ) (k : κ) (hf : F k = []) : addK S F (ks ++ [k]) = addK S F ks := by
 rw [c6R S F ks k (fun _ => []) 0 (fun m => by rw [hf]; simp), c2R]
end Go.Rt
end

section
namespace Go.Rt
open Go.Vm
def rowO (h : Hs) (o : Ins) : List AV := [o.key.av, .iv (.lst 2 (vsC (chaB h.events h.order o.table o.key)))]
def b0J (h : Hs) (l : List Ins) : List (List AV) := l.map (rowO h)
def ofT (table : Int) (o : Ins) : Bool := decide (o.table = table)
def PreC (h : Hs) (table : Int) (pre : List (List AV)) (x : List AV) : Prop := ∃ (i : Nat) (o : Ins), h.order[i]? = some o ∧ o.table = table ∧ pre = b0J h ((h.order.take i).filter (ofT table)) ∧ x = rowO h o
def AllC (h : Hs) (table : Int) (xs : List (List AV)) : Prop := xs = b0J h (h.order.filter (ofT table))
theorem b1J {table : Int} {l : List Ins} {i : Nat} {o : Ins} (ho : l[i]? = some o) : (l.take (i + 1)).filter (ofT table) = (l.take i).filter (ofT table) ++ if o.table = table then [o] else [] := by
 rw [show l.take (i + 1) = l.take i ++ [o] by rw [List.take_add_one, ho]; rfl, List.filter_append]
 congr 1
 unfold ofT
 by_cases h : o.table = table <;> simp [h]
set_option maxHeartbeats 4000000 in
theorem b2J {h : Hs} (hol : h.order.length < 2 ^ 62) (table : Int) (x : Value) (hc : ∀ k, (chaB h.events h.order table k).length < 2 ^ 42) :
   b5o prog n_a0l [.pt [grIV h x], .pt [ci table]] (PreC h table) (AllC h table) := by
 intro l Zs Zx cont hy
 refine b6E a0l_is (by simp) (by decide) ?_
 simp -dsimp [a0l, grIV]
 refine a8H [] [5] h.order.length (fun i => ⟨[(12, vi i), (11, vi h.order.length), (10, .iv (.lst 5 (insC h.order))), (0, .iv (.v (.func (.yield l) #[] #[]))), (1, .iv (.pt [grIV h x])), (2, .iv (.pt [ci table]))],
   [(1000, .gh (Zs (b0J h ((h.order.take i).filter (ofT table)))) [] [])]⟩) (fun _ => True) ?_ trivial ?_
 · simp -dsimp [grIV, b0J]
 · intro i hi _
   simp -dsimp [a0l_l5]
   refine ⟨fun hlt => ?_, fun hge => ?_⟩
   · obtain ⟨o, ho⟩ := c3Z hlt
     have hw := c4Z (n := (i : Int) + 1) (by omega)
     have hst := b1J (table := table) ho
     by_cases ht : o.table = table
     · simp -dsimp [ho, Ins.cells_eq o, ht, grIV]
       rw [if_pos ht] at hst
       have hp : PreC h table (b0J h ((h.order.take i).filter (ofT table))) (rowO h o) := ⟨i, o, ho, ht, rfl, rfl⟩
       have hrow : b0J h ((h.order.take i).filter (ofT table)) ++ [rowO h o] = b0J h ((h.order.take (i + 1)).filter (ofT table)) := by
         rw [hst]; simp [b0J]
       have hro : rowO h o = [o.key.av, .iv (.lst 2 (vsC (chaB h.events h.order table o.key)))] := by unfold rowO; rw [ht]
       constructor
       all_goals refine d8s (b5p h.events h.order table o.key (hc o.key)) rfl (by simp) (by simp) (by simp) (by simp) ?_
       all_goals simp -dsimp
       all_goals refine b7E (g := 1000) (hy _ _ hp) (by simp) (by rw [hro]; simp) (by rw [hro]; rfl) ?_
       all_goals (
         cases hcn : cont (b0J h ((h.order.take i).filter (ofT table))) (rowO h o) with
         | true =>
           simp -dsimp [hcn, hrow, hw]
           exact ⟨hlt, rfl⟩
         | false =>
           simp -dsimp [hcn]
           exact ⟨Zx (b0J h ((h.order.take i).filter (ofT table))) (rowO h o), by simp, fun A B w hz => .inr ⟨_, _, hz⟩, by simp⟩)
     · rw [if_neg ht, List.append_nil] at hst
       simp -dsimp [ho, Ins.cells_eq o, ht, hw, grIV, hst]
       exact hlt
   · have : (h.order.take i) = h.order := List.take_of_length_le (by omega)
     rw [this]
     exact ⟨Zs (b0J h (h.order.filter (ofT table))), by simp, fun A B w hz => .inl ⟨_, rfl, hz⟩, by simp⟩
theorem b3J (h : Hs) (table : Int) (x : Value) : b5z prog false n_a5k [.iv (grIV h x), vi table] [] (fun r K => r = .fn n_a0l [] [.ptr 2 0, .ptr 3 0] ∧ K = [(3, .box [vi table]), (2, .box [.iv (grIV h x)])]) := by
 refine b9E _ a5k_is (by simp) (by decide) (fun x H' h => by
   obtain ⟨rfl, rfl⟩ := h
   refine ⟨fun id o ho => ?_, by simp⟩
   simp only [Vm.look] at ho
   split at ho
   · cases ho; rfl
   · split at ho
     · cases ho; rfl
     · cases ho) ?_
 simp -dsimp [a4j_chains]
 exact ⟨[], _, _, ⟨rfl, rfl⟩, by simp -dsimp⟩
theorem b4J (h : Hs) (table : Int) (x : Value) : b4z prog false n_a5k [.iv (grIV h x), vi table] [] (.fn n_a0l [] [.ptr 902 0, .ptr 903 0]) [(903, .box [vi table]), (902, .box [.iv (grIV h x)])] :=
 ((b3J h table x).one (fun _ _ e => e) (fun id o ho => by
   simp only [Vm.look] at ho
   split at ho
   · cases ho; rfl
   · split at ho
     · cases ho; rfl
     · cases ho)).ren (Ren.swaps [(2, 902), (3, 903)]) rfl
theorem b5J : okFn prog n_a0l = true := by kernel_rfl
end Go.Rt
end

section
namespace Go.Rt
open Go.Vm
def keyOfA : List AV → Vl
 | [.agg [.iv (.v (.bool t)), .iv (.v (.int _ n)), .iv (.v (.string s))], _] => ⟨t, n, s⟩
 | _ => Vl.zero
def c4t (p : List (List AV)) : List Vl := p.map keyOfA
theorem c5t (h : Hs) (l : List Ins) : c4t (b0J h l) = l.map Ins.key := by
 unfold c4t b0J
 rw [List.map_map]
 rfl
def wwAt (h : Hs) (table : Int) (k : Vl) (i : Nat) : List Eg := if 2 ≤ i then [⟨(((chaB h.events h.order table k)[i - 1]?).getD ⟨0, 0⟩).txn, (((chaB h.events h.order table k)[i]?).getD ⟨0, 0⟩).txn, 1, table, k, false⟩] else []
def wwK (h : Hs) (table : Int) (k : Vl) : List Eg := (List.range (chaB h.events h.order table k).length).flatMap (wwAt h table k)
theorem mem_range {n : Nat} {f : Nat → List Eg} {m : Eg} : m ∈ (List.range n).flatMap f ↔ ∃ j, j < n ∧ m ∈ f j := by
 rw [List.mem_flatMap]
 simp
set_option maxHeartbeats 8000000 in
theorem c6t {h : Hs} (hol : h.order.length < 2 ^ 62) (table : Int) (x : Value) (hc : ∀ k, (chaB h.events h.order table k).length < 2 ^ 42) (S : Eg → Prop) :
   b4z prog false n_a3j [.iv (grIV h x), vi table] (grH S x) (.tup []) (grH (addK S (wwK h table) ((h.order.filter (ofT table)).map Ins.key)) x) := by
 refine a1J a3j_is (by simp) (by decide) (by simp) (by simp [Ob.isLent]) ?_
 simp -dsimp [a4j_writes]
 refine d8s (b4J h table x) rfl (by simp) (by simp) (by simp) (by simp) ?_
 simp -dsimp
 refine b8E [902, 903] [4] 990 [(9, .fn n_a0l [] [.val (.pt [grIV h x]), .val (.pt [ci table])]), (3, .ptr 3 0), (2, .ptr 2 0)] (fun p => ∃ i, p = b0J h ((h.order.take i).filter (ofT table)))
   (fun p => (3, .box [vi table]) :: (2, .box [.iv (grIV h x)]) :: grH (addK S (wwK h table) (c4t p)) x) (b2J hol table x hc) ?_ (by simp) b5J (by decide) (by simp) (by simp) ?_ ⟨0, rfl⟩ ?_ ?_
 · simp -dsimp [c4t, c5R]
 · rintro pre _ ⟨i, o, _, _, _, rfl⟩
   rfl
 · rintro vs _ _ ⟨j, rfl⟩ ⟨i, o, ho, ht, hpre, rfl⟩
   have hst := b1J (table := table) ho
   rw [if_pos ht] at hst
   rw [hpre]
   have hrow : b0J h ((h.order.take i).filter (ofT table)) ++ [rowO h o] = b0J h ((h.order.take (i + 1)).filter (ofT table)) := by
     rw [hst]; simp [b0J]
   refine ⟨⟨i + 1, hrow⟩, ?_⟩
   have hks : c4t (b0J h ((h.order.take i).filter (ofT table)) ++ [rowO h o]) = c4t (b0J h ((h.order.take i).filter (ofT table))) ++ [o.key] := by
     unfold c4t; rw [List.map_append]; rfl
   have hro : rowO h o = [o.key.av, .iv (.lst 2 (vsC (chaB h.events h.order table o.key)))] := by unfold rowO; rw [ht]
   have hlen := hc o.key
   have hnext := c6R S (wwK h table) (c4t (b0J h ((h.order.take i).filter (ofT table)))) o.key (wwAt h table o.key) (chaB h.events h.order table o.key).length (fun m => mem_range)
   have hf : ∀ q, wwAt h table o.key q = if 2 ≤ q then [⟨(((chaB h.events h.order table o.key)[q - 1]?).getD ⟨0, 0⟩).txn, (((chaB h.events h.order table o.key)[q]?).getD ⟨0, 0⟩).txn, 1, table, o.key, false⟩] else [] := fun q => rfl
   rw [hks, hnext, hro]
   generalize addK S (wwK h table) (c4t (b0J h ((h.order.take i).filter (ofT table)))) = S0
   generalize wwAt h table o.key = f at hf ⊢
   generalize chaB h.events h.order table o.key = c at hf hlen ⊢
   simp -dsimp [a3j_a9, a3j_b10, parS, St.set_mk, frCs]
   have f0 : f 0 = [] := by rw [hf, if_neg (by omega)]
   have f1 : f 1 = [] := by rw [hf, if_neg (by omega)]
   refine a8H [] [] (c.length - 2) (fun q => ⟨[(6, vi ((q + 2 : Nat) : Int)), (5, .iv (.lst 2 (vsC c))), (4, .ptr 4 0), (3, .ptr 3 0), (2, .ptr 2 0)],
     [(4, .box (o.key.cells.map .iv)), (990, .gh ZT vs [.fn n_a0l [] [.val (.pt [grIV h x]), .val (.pt [ci table])], .ptr 3 0, .ptr 2 0]), (3, .box [vi table]), (2, .box [.iv (grIV h x)])] ++ grH (addL S0 f (q + 2)) x⟩) (fun _ => True) ?_ trivial ?_
   · have : addL S0 f (0 + 2) = S0 := by rw [c3R f1, c3R f0, c2R]
     simp -dsimp [this]
   · intro q hq _
     simp -dsimp [a3j_l8]
     refine ⟨fun hlt => ?_, fun hge => ?_⟩
     · obtain ⟨v, hv⟩ : ∃ v, c[q + 2]? = some v := c3Z (by omega)
       obtain ⟨u, hu⟩ : ∃ u, c[q + 1]? = some u := c3Z (by omega)
       have w1 : IntKind.i64.wrap ((q : Int) + 2 - 1) = ((q + 1 : Nat) : Int) := by rw [c4Z (by omega)]; omega
       have w2 : IntKind.i64.wrap ((q : Int) + 2 + 1) = (q : Int) + 1 + 2 := by rw [c4Z (by omega)]; omega
       have t1 : ((q : Int) + 2).toNat = q + 2 := by omega
       have p1 : (0 : Int) ≤ (q : Int) + 2 := by omega
       have hfq : f (q + 2) = [⟨u.txn, v.txn, 1, table, o.key, false⟩] := by
         rw [hf, if_pos (by omega), show q + 2 - 1 = q + 1 from rfl, hu, hv]; rfl
       have hadd := c4R (S := S0) hfq
       simp -dsimp [w1, t1, p1, hv, hu, c2d]
       refine ⟨by omega, ?_⟩
       refine a4K (c1R h (addL S0 f (q + 2)) x ⟨u.txn, v.txn, 1, table, o.key, false⟩) rfl (by simp) (by simp [Eg.av, Eg.cells]) (by simp [Eg.av, Eg.cells]) (by simp) (by simp) (by simp) (by simp) ?_
       rw [← hadd]
       simp -dsimp [w2]
       omega
     · have hend : addL S0 f (q + 2) = addL S0 f c.length := by
         rcases Nat.lt_or_ge c.length 2 with g | g
         · have hq0 : q = 0 := by omega
           have h2 : addL S0 f (0 + 2) = S0 := by rw [c3R f1, c3R f0, c2R]
           rw [hq0, h2]
           have : c.length = 0 ∨ c.length = 1 := by omega
           rcases this with e | e <;> rw [e]
           · rw [c2R]
           · rw [c3R f0, c2R]
         · rw [show q + 2 = c.length by omega]
       rw [hend]
 · rintro vs _ _ hS
   rw [hS, c5t]
   simp -dsimp [frCs]
end Go.Rt
end

section
namespace Go.Rt
open Go.Vm
theorem c7g (es : List Ev) (os : List Ins) (table : Int) (k : Vl) (v : Vs) : plaB es os table k v < (chaB es os table k).length ∧ -1 ≤ plaB es os table k v := by
 unfold plaB
 split
 · have := b5w es os table k; omega
 · rcases b0M (fun x : Vs => decide (x.txn = v.txn)) (chaB es os table k) with ⟨i, x, g1, _, g3, _⟩ | ⟨_, g⟩
   · have := (List.getElem?_eq_some_iff.1 g1).1
     rw [g3]; omega
   · rw [g]; omega
def rdT (e : Ev) (p : Int) (c : List Vs) (S : Eg → Prop) (m : Eg) : Prop := S m ∨ (m.frm ≠ m.to ∧ m ∈ rd1 e p ++ rd2 e p c)
def rdU (e : Ev) (p : Int) (c : List Vs) (S : Eg → Prop) (m : Eg) : Prop := S m ∨ (m.frm ≠ m.to ∧ m ∈ rd2 e p c)
set_option maxHeartbeats 8000000 in
theorem c8g {h : Hs} (x : Value) (e : Ev) (hrow : b9Z h.events) (hc : (chaB h.events h.order e.table e.key).length < 2 ^ 42) (S : Eg → Prop) :
   b4z prog false n_a5j [.iv (grIV h x), e.av] (grH S x) (.tup []) (grH (addK S (fun _ : Unit => a8K h e) [()]) x) := by
 have hP := b9p h.events h.order e.table e.key e.frm hrow hc
 have hC := b5p h.events h.order e.table e.key hc
 have hlt := c7g h.events h.order e.table e.key e.frm
 have hS : addK S (fun _ : Unit => a8K h e) [()] = rdT e (plaB h.events h.order e.table e.key e.frm) (chaB h.events h.order e.table e.key) S := by
   funext m; unfold addK a8K rdT; simp
 rw [hS]
 generalize plaB h.events h.order e.table e.key e.frm = p at *
 generalize chaB h.events h.order e.table e.key = c at *
 refine a1J a5j_is (by simp) (by decide) (by simp) (by simp [Ob.isLent]) ?_
 simp -dsimp [a4j_read, grIV, Ev.av, Ev.cells_eq e]
 refine a1G hP (by simp) (by simp) ?_
 simp -dsimp
 refine d8s hC rfl (by simp) (by simp) (by simp) (by simp) ?_
 simp -dsimp
 have hT1 : 0 < p → rdT e p c S = rdU e p c (addE S ⟨e.frm.txn, e.txn, 2, e.table, e.key, e.cur⟩) := by
   intro h1
   funext m
   unfold rdT rdU rd1 addE
   rw [if_pos h1]
   simp only [List.cons_append, List.nil_append, List.mem_cons, or_assoc, eq_iff_iff]
   constructor
   · rintro (g | ⟨g1, rfl | g2⟩)
     · exact .inl g
     · exact .inr (.inl ⟨rfl, g1⟩)
     · exact .inr (.inr ⟨g1, g2⟩)
   · rintro (g | ⟨rfl, g1⟩ | ⟨g1, g2⟩)
     · exact .inl g
     · exact .inr ⟨g1, .inl rfl⟩
     · exact .inr ⟨g1, .inr g2⟩
 have hT0 : ¬0 < p → rdT e p c S = rdU e p c S := by
   intro h1
   funext m
   unfold rdT rdU rd1
   rw [if_neg h1, List.nil_append]
 have hU1 : ∀ (S : Eg → Prop) (v : Vs), 0 ≤ p → c[(p + 1).toNat]? = some v → p + 1 < c.length → e.frm.txn ≠ e.txn → rdU e p c S = addE S ⟨e.txn, v.txn, 4, e.table, e.key, e.cur⟩ := by
   intro S v g1 g2 g3 g4
   funext m
   unfold rdU rd2 addE
   rw [if_pos ⟨g1, g3, g4⟩, g2, List.mem_singleton, eq_iff_iff]
   constructor
   · rintro (g | ⟨g1, rfl⟩)
     · exact .inl g
     · exact .inr ⟨rfl, g1⟩
   · rintro (g | ⟨rfl, g1⟩)
     · exact .inl g
     · exact .inr ⟨g1, rfl⟩
 have hU0 : ∀ (S : Eg → Prop), ¬(0 ≤ p ∧ p + 1 < c.length ∧ e.frm.txn ≠ e.txn) → rdU e p c S = S := by
   intro S g
   funext m
   unfold rdU rd2
   rw [if_neg g]; simp
 have hw : IntKind.i64.wrap (p + 1) = p + 1 := c4Z (by omega)
 by_cases h1 : 0 < p
 · rw [hT1 h1]
   have h1' : ¬p ≤ 0 := by omega
   simp -dsimp [h1, h1']
   refine a4K (c1R h S x ⟨e.frm.txn, e.txn, 2, e.table, e.key, e.cur⟩) rfl (by simp) (by simp [Eg.av, Eg.cells, grIV]) (by simp [Eg.av, Eg.cells]) (by simp) (by simp) (by simp) (by simp) ?_
   generalize addE S ⟨e.frm.txn, e.txn, 2, e.table, e.key, e.cur⟩ = S1
   have h0 : 0 ≤ p := by omega
   by_cases h2 : p + 1 < c.length
   · by_cases h3 : e.frm.txn = e.txn
     · rw [hU0 S1 fun g => g.2.2 h3]
       simp -dsimp [h0, hw, h2, h3]
     · obtain ⟨v, hv⟩ : ∃ v, c[(p + 1).toNat]? = some v := c3Z (by omega)
       rw [hU1 S1 v h0 hv h2 h3]
       have h4 : 0 ≤ p + 1 := by omega
       have hv' : ∀ hh, (vsC c)[(p + 1).toNat]'hh = v.cells := fun hh => (List.getElem?_eq_some_iff.1 (show (vsC c)[(p + 1).toNat]? = some v.cells by rw [c0q, hv]; rfl)).2
       simp -dsimp [h0, hw, h2, h3, hv', h4, c2d]
       refine a4K (c1R h S1 x ⟨e.txn, v.txn, 4, e.table, e.key, e.cur⟩) rfl (by simp) (by simp [Eg.av, Eg.cells, grIV]) (by simp [Eg.av, Eg.cells]) (by simp) (by simp) (by simp) (by simp) ?_
       simp -dsimp
   · rw [hU0 S1 fun g => h2 g.2.1]
     simp -dsimp [h0, hw, h2]
 · rw [hT0 h1]
   have h1' : p ≤ 0 := by omega
   simp -dsimp [h1, h1']
   by_cases h0 : 0 ≤ p
   · obtain rfl : p = 0 := by omega
     have hw1 : IntKind.i64.wrap 1 = 1 := c4Z (by omega)
     by_cases h2 : 1 < c.length
     · have h2' : (1 : Int) < c.length := by omega
       have h2n : ¬(c.length : Int) ≤ 1 := by omega
       by_cases h3 : e.frm.txn = e.txn
       · rw [hU0 S fun g => g.2.2 h3]
         simp -dsimp [hw1, h2, h2', h2n, h3]
       · obtain ⟨v, hv⟩ : ∃ v, c[1]? = some v := c3Z h2
         rw [hU1 S v (by omega) (by simpa using hv) (by omega) h3]
         have hv' : ∀ hh, c[1]'hh = v := fun hh => (List.getElem?_eq_some_iff.1 hv).2
         simp -dsimp [hw1, h2, h2', h2n, h3, hv', c2d]
         refine a4K (c1R h S x ⟨e.txn, v.txn, 4, e.table, e.key, e.cur⟩) rfl (by simp) (by simp [Eg.av, Eg.cells, grIV]) (by simp [Eg.av, Eg.cells]) (by simp) (by simp) (by simp) (by simp) ?_
         simp -dsimp
     · have h2' : ¬(1 : Int) < c.length := by omega
       rw [hU0 S fun g => h2' (by simpa using g.2.1)]
       simp -dsimp [hw1, h2, h2']
   · rw [hU0 S fun g => h0 g.1]
     simp -dsimp [h0]
end Go.Rt
end

section
namespace Go.Rt
open Go.Vm
abbrev skRf : Sk := (true, [.b, .i .i64, .s], true)
def c4A (l : List Rf) (k : Vl) : Option Rf := c4p (fun r : Rf => decide (r.key = k)) l
def gRf (l : List Rf) : List Value → Option (List IV)
 | [.bool t, .int .i64 n, .string s] => (c4A l ⟨t, n, s⟩).map fun r => r.frm.cells
 | _ => none
theorem c5A : gRf [] = fun _ => none := by
 funext q; unfold gRf; split
 · rfl
 · rfl
theorem c6A (l : List Rf) (r : Rf) : gset (gRf l) [.bool r.key.text, .int .i64 r.key.n, .string r.key.s] (some [ci r.frm.txn, ci r.frm.n]) = gRf (l ++ [r]) := by
 funext q
 simp only [gset]
 split
 · rename_i h; subst h
   simp only [gRf, c4A, c5p]
   rw [if_pos (by simp)]
   rfl
 · rename_i hne
   unfold gRf
   split
   · rename_i t n s
     simp only [c4A, c5p]
     rw [if_neg]
     intro hk
     rw [decide_eq_true_eq] at hk
     exact hne (by rw [hk])
   · rfl
theorem c7A (l : List Rf) (t : Bool) (n : Int) (s : ByteArray) :
   lkR [.iv (.v (.int .i64 0)), .iv (.v (.int .i64 0))] true false (gRf l [Value.bool t, Value.int .i64 n, Value.string s]) = (a7K l ⟨t, n, s⟩).av := by
 simp only [gRf, a7K]
 unfold c4A
 cases c4p (fun r : Rf => decide (r.key = ⟨t, n, s⟩)) l with
 | none => rfl
 | some r => rfl
set_option maxHeartbeats 8000000 in
theorem c8A {h : Hs} (hol : h.order.length < 2 ^ 62) (x : Value) (e : Ev) (heok : e.Ok) (hrow : b9Z h.events) (hc : ∀ k, (chaB h.events h.order e.table k).length < 2 ^ 42) (S : Eg → Prop) :
   b4z prog false n_a6j [.iv (grIV h x), e.av] (grH S x) (.tup []) (grH (addK S (a0L h e) ((h.order.filter (ofT e.table)).map Ins.key)) x) := by
 refine a1J a6j_is (by simp) (by decide) (by simp) (by simp [Ob.isLent]) ?_
 simp -dsimp [a4j_saw, Ev.av, Ev.cells_eq e]
 refine a8H [] [6] e.refs.length (fun i => ⟨[(16, vi i), (15, vi e.refs.length), (14, .iv (.lst 5 (c8R e.refs))), (4, .ptr 4 0), (3, .ptr 3 0), (2, .ptr 2 0)],
   [(4, .box [.mpr 12]), (12, .map skRf (gRf (e.refs.take i))), (3, .box (e.cells.map .iv)), (2, .box [.iv (grIV h x)])] ++ grH S x⟩) (fun _ => True) ?_ trivial ?_
 · simp -dsimp [c5A, Ev.cells_eq e]
 · intro i hi _
   simp -dsimp [a6j_l7]
   have hrl := heok.refs
   refine ⟨fun hlt => ?_, fun hge => ?_⟩
   · obtain ⟨r, hr⟩ := c3Z hlt
     have hw := c4Z (n := (i : Int) + 1) (by omega)
     have hst : e.refs.take (i + 1) = e.refs.take i ++ [r] := by rw [List.take_add_one, hr]; rfl
     simp -dsimp [hr, hw, Rf.cells_eq r, c6A, hst]
     exact hlt
   · rw [List.take_of_length_le hge]
     simp -dsimp [Ev.cells_eq e]
     refine d8s (b4J h e.table x) rfl (by simp) (by simp) (by simp) (by simp) ?_
     simp -dsimp
     have hev : Ob.box [AV.iv (ci e.txn), AV.iv (ci e.kind), AV.iv (ci e.level), AV.iv (ci e.table), AV.iv (cb e.key.text), AV.iv (ci e.key.n), AV.iv (IV.v (Value.string e.key.s)),
                       AV.iv (ci e.frm.txn), AV.iv (ci e.frm.n), AV.iv (ci e.n), AV.iv (IV.lst 3 (rowC e.row)),
                       AV.iv (ci e.pred.op), AV.iv (ci e.pred.col), AV.iv (cb e.pred.v.text), AV.iv (ci e.pred.v.n),
                       AV.iv (IV.v (Value.string e.pred.v.s)), AV.iv (cb e.pred.w.text), AV.iv (ci e.pred.w.n),
                       AV.iv (IV.v (Value.string e.pred.w.s)), AV.iv (IV.lst 9 (List.map Pd.cells e.pred.l)),
                       AV.iv (IV.lst 5 (c8R e.refs)), AV.iv (cb e.cur)] = .box (e.cells.map .iv) := by rw [Ev.cells_eq e]; rfl
     rw [hev]
     refine b8E [902, 903] [7, 9] 990 [(29, .fn n_a0l [] [.val (.pt [grIV h x]), .val (.pt [ci e.table])]), (4, .ptr 4 0), (3, .ptr 3 0), (2, .ptr 2 0)] (fun p => ∃ i, p = b0J h ((h.order.take i).filter (ofT e.table)))
       (fun p => (4, .box [.mpr 12]) :: (12, .map skRf (gRf e.refs)) :: (3, .box (e.cells.map .iv)) :: (2, .box [.iv (grIV h x)]) :: grH (addK S (a0L h e) (c4t p)) x) (b2J hol e.table x hc) ?_ (by simp) b5J (by decide) (by simp) (by simp) ?_ ⟨0, rfl⟩ ?_ ?_
     · simp -dsimp [c4t, c5R]
     · rintro pre _ ⟨i, o, _, _, _, rfl⟩
       rfl
     · rintro vs _ _ ⟨j, rfl⟩ ⟨i, o, ho, ht, hpre, rfl⟩
       have hst := b1J (table := e.table) ho
       rw [if_pos ht] at hst
       rw [hpre]
       have hrw : b0J h ((h.order.take i).filter (ofT e.table)) ++ [rowO h o] = b0J h ((h.order.take (i + 1)).filter (ofT e.table)) := by
         rw [hst]; simp [b0J]
       refine ⟨⟨i + 1, hrw⟩, ?_⟩
       have hks : c4t (b0J h ((h.order.take i).filter (ofT e.table)) ++ [rowO h o]) = c4t (b0J h ((h.order.take i).filter (ofT e.table))) ++ [o.key] := by
         unfold c4t; rw [List.map_append]; rfl
       have hro : rowO h o = [o.key.av, .iv (.lst 2 (vsC (chaB h.events h.order e.table o.key)))] := by unfold rowO; rw [ht]
       have hlen := hc o.key
       have hP := b9p h.events h.order e.table o.key (a7K e.refs o.key) hrow hlen
       have hCh : ∀ n : Int, b4z prog true n_a5c [.iv (bkIV h.events h.order), vi e.table, o.key.av, vi n, e.pred.av] [] (vb (chgB h.events h.order e.table o.key n e.pred)) [] := fun n => b6w h.events h.order e.table o.key n heok.pred hrow hlen
       rw [hks, hro]
       simp -dsimp [a6j_a23, a6j_b24, parS, St.set_mk, frCs, c7A, Ev.cells_eq e]
       simp -dsimp [grIV]
       refine a1G hP (by simp) (by simp) ?_
       by_cases hskip : plaB h.events h.order e.table o.key (a7K e.refs o.key) < 0 ∨ (a7K e.refs o.key).txn = e.txn
       · have hK : a0L h e o.key = [] := by unfold a0L; rw [if_pos hskip]
         rw [c7R _ _ _ _ hK]
         by_cases h0 : plaB h.events h.order e.table o.key (a7K e.refs o.key) < 0
         · simp -dsimp [h0]
           rfl
         · have h1 := hskip.resolve_left h0
           simp -dsimp [h0, h1]
           rfl
       · have h0 : ¬plaB h.events h.order e.table o.key (a7K e.refs o.key) < 0 := fun g => hskip (.inl g)
         have h1 : ¬(a7K e.refs o.key).txn = e.txn := fun g => hskip (.inr g)
         have hK : a0L h e o.key = (List.range (chaB h.events h.order e.table o.key).length).flatMap (a9K h e o.key (plaB h.events h.order e.table o.key (a7K e.refs o.key))) := by unfold a0L; rw [if_neg hskip]
         rw [c6R _ (a0L h e) _ o.key (a9K h e o.key (plaB h.events h.order e.table o.key (a7K e.refs o.key))) (chaB h.events h.order e.table o.key).length (fun m => by rw [hK]; exact mem_range)]
         have hf : ∀ q, a9K h e o.key (plaB h.events h.order e.table o.key (a7K e.refs o.key)) q = if chgB h.events h.order e.table o.key q e.pred = true then
             [if (q : Int) ≤ plaB h.events h.order e.table o.key (a7K e.refs o.key) then ⟨(((chaB h.events h.order e.table o.key)[q]?).getD ⟨0, 0⟩).txn, e.txn, 3, e.table, o.key, false⟩ else ⟨e.txn, (((chaB h.events h.order e.table o.key)[q]?).getD ⟨0, 0⟩).txn, 5, e.table, o.key, false⟩] else [] := fun q => rfl
         generalize a9K h e o.key (plaB h.events h.order e.table o.key (a7K e.refs o.key)) = f at hf ⊢
         generalize plaB h.events h.order e.table o.key (a7K e.refs o.key) = p at *
         generalize addK S (a0L h e) (c4t (b0J h ((h.order.take i).filter (ofT e.table)))) = S0
         generalize chaB h.events h.order e.table o.key = c at *
         simp -dsimp [h0, h1]
         refine a8H [] [] c.length (fun q => ⟨[(55, vi q), (54, vi c.length), (10, vi p), (8, .iv (.lst 2 (vsC c))), (7, .ptr 7 0), (3, .ptr 3 0), (2, .ptr 2 0)],
           [(9, .box ((a7K e.refs o.key).cells.map .iv)), (7, .box (o.key.cells.map .iv)), (990, .gh ZT vs [.fn n_a0l [] [.val (.pt [grIV h x]), .val (.pt [ci e.table])], .ptr 4 0, .ptr 3 0, .ptr 2 0]),
             (4, .box [.mpr 12]), (12, .map skRf (gRf e.refs)), (3, .box (e.cells.map .iv)), (2, .box [.iv (grIV h x)])] ++ grH (addL S0 f q) x⟩) (fun _ => True) ?_ trivial ?_
         · simp -dsimp [c2R, Ev.cells_eq e, grIV]
         · intro q hq _
           have hP9 : List.take 9 (List.drop 11 (e.cells.map AV.iv)) = e.pred.cells.map AV.iv := Ev.pred_at e
           simp -dsimp [a6j_l22, Ev.cells_eq e]
           simp -dsimp [grIV]
           refine ⟨fun hlt => ?_, fun hge => ?_⟩
           · obtain ⟨v, hv⟩ := c3Z hlt
             have hw := c4Z (n := (q : Int) + 1) (by omega)
             refine a1G (hCh q) (by simp [Pd.av_eq]) (by simp [Pd.av_eq]) ?_
             have hfq := hf q
             rw [hv] at hfq
             cases hchg : chgB h.events h.order e.table o.key q e.pred with
             | false =>
               rw [hchg, if_neg (by simp)] at hfq
               have hadd := c3R (S := S0) hfq
               simp -dsimp [hchg, hw, hadd]
               exact ⟨hlt, rfl⟩
             | true =>
               rw [hchg, if_pos rfl] at hfq
               by_cases hle : (q : Int) ≤ p
               · rw [if_pos hle] at hfq
                 have hadd := c4R (S := S0) hfq
                 simp -dsimp [hchg, hle, hv]
                 refine a4K (c1R h (addL S0 f q) x ⟨v.txn, e.txn, 3, e.table, o.key, false⟩) rfl (by simp) (by simp [Eg.av, Eg.cells, grIV]) (by simp [Eg.av, Eg.cells]) (by simp) (by simp) (by simp) (by simp) ?_
                 have hadd' : addE (addL S0 f q) ⟨v.txn, e.txn, 3, e.table, o.key, false⟩ = addL S0 f (q + 1) := hadd.symm
                 rw [hadd']
                 simp -dsimp [hw]
                 exact ⟨hlt, rfl⟩
               · rw [if_neg hle] at hfq
                 have hadd := c4R (S := S0) hfq
                 simp -dsimp [hchg, hle, hv]
                 refine a4K (c1R h (addL S0 f q) x ⟨e.txn, v.txn, 5, e.table, o.key, false⟩) rfl (by simp) (by simp [Eg.av, Eg.cells, grIV]) (by simp [Eg.av, Eg.cells]) (by simp) (by simp) (by simp) (by simp) ?_
                 have hadd' : addE (addL S0 f q) ⟨e.txn, v.txn, 5, e.table, o.key, false⟩ = addL S0 f (q + 1) := hadd.symm
                 rw [hadd']
                 simp -dsimp [hw]
                 exact ⟨hlt, rfl⟩
           · rw [show q = c.length by omega]
     · rintro vs _ _ hS
       rw [hS, c5t]
       simp -dsimp [frCs]
end Go.Rt
end

section
namespace Go.Rt
open Go.Vm
def c6e : List Int → Int → Int
 | [], z => z
 | d :: r, z => if d ≠ 0 then d else c6e r z
set_option maxHeartbeats 4000000 in
theorem c7e (a b : Eg) : b4z prog true n_a1k [a.av, b.av] [] (vi (a.cmp0 b)) [] := by
 have hc : a.cmp0 b = c6e [IntKind.i64.wrap (a.frm - b.frm), IntKind.i64.wrap (a.to - b.to), IntKind.i64.wrap (a.kind - b.kind), IntKind.i64.wrap (a.table - b.table)] (a.key.cmp b.key) := rfl
 rw [hc]
 refine a5H a1k_is (by simp [Eg.av]) (by decide) rfl ?_
 simp -dsimp [c9m, Eg.av, Eg.cells, c2d]
 generalize IntKind.i64.wrap (a.frm - b.frm) = d0
 generalize IntKind.i64.wrap (a.to - b.to) = d1
 generalize IntKind.i64.wrap (a.kind - b.kind) = d2
 generalize IntKind.i64.wrap (a.table - b.table) = d3
 refine a8H [] [] 4 (fun i => ⟨[(28, vi i), (27, .agg [vi d0, vi d1, vi d2, vi d3]), (2, .ptr 2 0), (3, .ptr 3 0)], [(2, .box (a.cells.map .iv)), (3, .box (b.cells.map .iv))]⟩)
   (fun i => (0 < i → d0 = 0) ∧ (1 < i → d1 = 0) ∧ (2 < i → d2 = 0) ∧ (3 < i → d3 = 0)) ?_ (by omega) ?_
 · simp -dsimp [Eg.cells]
 · intro i hi ⟨q0, q1, q2, q3⟩
   have w1 : IntKind.i64.wrap 1 = 1 := c4Z (by omega)
   have w2 : IntKind.i64.wrap 2 = 2 := c4Z (by omega)
   have w3 : IntKind.i64.wrap 3 = 3 := c4Z (by omega)
   have w4 : IntKind.i64.wrap 4 = 4 := c4Z (by omega)
   have hcase : i = 0 ∨ i = 1 ∨ i = 2 ∨ i = 3 ∨ i = 4 := by omega
   rcases hcase with rfl | rfl | rfl | rfl | rfl
   · by_cases h0 : d0 = 0
     · simp -dsimp [a1k_l7, h0, Eg.cells, w1]
     · simp -dsimp [a1k_l7, h0, c6e]
   · have q0 := q0 (by omega)
     by_cases h0 : d1 = 0
     · simp -dsimp [a1k_l7, h0, q0, Eg.cells, w2]
     · simp -dsimp [a1k_l7, h0, c6e, q0]
   · have q0 := q0 (by omega)
     have q1 := q1 (by omega)
     by_cases h0 : d2 = 0
     · simp -dsimp [a1k_l7, h0, q0, q1, Eg.cells, w3]
     · simp -dsimp [a1k_l7, h0, c6e, q0, q1]
   · have q0 := q0 (by omega)
     have q1 := q1 (by omega)
     have q2 := q2 (by omega)
     by_cases h0 : d3 = 0
     · simp -dsimp [a1k_l7, h0, q0, q1, q2, Eg.cells, w4]
     · simp -dsimp [a1k_l7, h0, c6e, q0, q1, q2]
   · have q0 := q0 (by omega)
     have q1 := q1 (by omega)
     have q2 := q2 (by omega)
     have q3 := q3 (by omega)
     simp -dsimp [a1k_l7, q0, q1, q2, q3, c6e, Eg.cells]
     refine a1G (b2n a.key b.key) (by simp) (by simp) ?_
     simp -dsimp [c6e, q0, q1, q2, q3]
set_option maxHeartbeats 4000000 in
theorem c8e (a b : Eg) : b4z prog true n_a0k [a.av, b.av] [] (vi (a.cmp b)) [] := by
 refine a5H a0k_is (by simp [Eg.av]) (by decide) rfl ?_
 have hc : a.cmp b = if a.cmp0 b ≠ 0 ∨ a.cursor = b.cursor then a.cmp0 b else if b.cursor = true then -1 else 1 := rfl
 have hs := c7e a b
 rw [hc]
 generalize a.cmp0 b = c at *
 simp -dsimp [a0k, Eg.av, Eg.cells]
 refine a1G hs (by simp [Eg.av, Eg.cells]) (by simp [Eg.av, Eg.cells]) ?_
 by_cases h0 : c = 0
 · cases hca : a.cursor <;> cases hcb : b.cursor <;> simp -dsimp [h0]
 · simp -dsimp [h0]
end Go.Rt
end

section
namespace Go.Vm
open Go.Sort (Holds HoldsK putRow putRowK flatK grow putCells mapBlock)
open Go.Proofs (sortWorldK)
set_option linter.unusedSectionVars false
section
variable {α : Type} [Inhabited α]
def c2a (enc : α → List Value) (x : α) : List IV := (enc x).map IV.v
theorem c3a {enc : α → List Value} {xs : List α} {i j : Nat} {c : IV} (h : at2 (xs.map (c2a enc)) i j = some c) : ∃ x v, xs[i]? = some x ∧ (enc x)[j]? = some v ∧ c = .v v := by
 unfold at2 at h
 rw [List.getElem?_map] at h
 cases hx : xs[i]? with
 | none => rw [hx] at h; simp at h
 | some x =>
   rw [hx] at h
   simp only [Option.map_some, Option.bind_some, c2a, List.getElem?_map] at h
   cases hv : (enc x)[j]? with
   | none => rw [hv] at h; simp at h
   | some v => rw [hv] at h; simp at h; exact ⟨x, v, rfl, hv, h.symm⟩
theorem c4a {enc : α → List Value} {xs : List α} {i j : Nat} {x : α} {v : Value} (hx : xs[i]? = some x) (hv : (enc x)[j]? = some v) : at2 (xs.map (c2a enc)) i j = some (.v v) := by
 unfold at2
 rw [List.getElem?_map, hx]
 simp [c2a, hv]
theorem c5a {A : Nat → Prop} {w : World} {u v : Value} (h : RIV A w (.v u) v) : v = u := by cases h; rfl
theorem c6a {l : List α} {i : Nat} {x : α} (h : l[i]? = some x) : l.toArray[i]! = x := by
 obtain ⟨h1, h2⟩ := List.getElem?_eq_some_iff.1 h
 simp [h1, h2]
theorem c7a {l : List Value} {i : Nat} {x : Value} (h : l[i]? = some x) : l[i]! = x := by
 obtain ⟨h1, h2⟩ := List.getElem?_eq_some_iff.1 h
 simp [h1, h2]
theorem c8a {P : Program} {f g : FuncId} (k : Nat) (hk0 : 0 < k) (enc : α → List Value) (hk : ∀ x, (enc x).length = k) (h1 : ∀ x, ∀ v ∈ enc x, v.oneCell' = true) (F : List α → List α) (hF : ∀ l, (F l).length = l.length)
   (hs : ∀ (blk off cap : Nat) (zs : List α) (w : World), HoldsK enc k w blk off zs.toArray → blk < w.heap.size → zs.length < 4611686018427387904 →
     Calls P f #[.slice (some ⟨blk, off, none⟩) zs.length cap, .func (.func g) #[] #[]] w fun e w' => e = .returned (.tuple #[]) ∧ ∃ n os, w' = sortWorldK enc k w blk off n (F zs).toArray os)
   (hn : ∀ (p : Option Addr) (cap : Nat) (fv : Value) (w : World), Calls P f #[.slice p 0 cap, fv] w fun e w' => e = .returned (.tuple #[]) ∧ w' = w)
   (xs : List α) (hl : xs.length < 2 ^ 62) : b4z P false f [.sl 1000 k 0 xs.length, .fn g [] []] [(1000, .list k (xs.map (c2a enc)))] (.tup []) [(1000, .list k ((F xs).map (c2a enc)))] := by
 have hlen : (F xs).length = xs.length := hF xs
 have look1 : ∀ {o : Ob} {id : Nat} {q : Ob}, look [(1000, o)] id = some q → id = 1000 ∧ q = o := by
   intro o id q h
   simp only [look] at h
   split at h
   · exact ⟨by omega, by cases h; rfl⟩
   · cases h
 refine ⟨⟨fun id o h => by obtain ⟨_, rfl⟩ := look1 h; rfl, fun id o h => by obtain ⟨_, rfl⟩ := look1 h; rfl⟩, ?_⟩
 intro A ψ w vs hA hob hinj hsubs hheld hvl hrav
 have ho := hob 1000 (.list k (xs.map (c2a enc))) rfl
 have hr := hrav 0 _ rfl
 have hg := hrav 1 _ rfl
 obtain ⟨v, fv, rfl⟩ : ∃ v fv, vs = [v, fv] := by
   match vs, hvl with
   | [v, fv], _ => exact ⟨v, fv, rfl⟩
 simp only [List.getD_eq_getElem?_getD, List.getElem?_cons_zero, List.getElem?_cons_succ, Option.getD_some] at hr hg
 obtain rfl : fv = .func (.func g) #[] #[] := by
   cases hg with
   | fn _ _ _ vf vc hf hc _ _ =>
     obtain rfl : vf = #[] := Array.eq_empty_of_size_eq_zero (by simpa using hf)
     obtain rfl : vc = #[] := Array.eq_empty_of_size_eq_zero (by simpa using hc)
     rfl
 have key : ∀ (w' : World), w.heap.size ≤ w'.heap.size → Same w w' → (∀ b, b < w.heap.size → ¬Held ψ [(1000, .list k (xs.map (c2a enc)))] b → w'.heap[b]? = w.heap[b]?) →
     ROb (fun b => ((false = false ∧ A b) ∨ w.heap.size ≤ b) ∧ ¬Held ψ [(1000, .list k ((F xs).map (c2a enc)))] b) ψ [(1000, .list k ((F xs).map (c2a enc)))] w' 1000 (.list k ((F xs).map (c2a enc))) →
     ∃ v ψ', (Ending.returned (.tuple #[]) : Ending) = .returned v ∧
     (∀ b, b < w.heap.size → ¬Held ψ [(1000, .list k (xs.map (c2a enc)))] b → w'.heap[b]? = w.heap[b]?) ∧ w.heap.size ≤ w'.heap.size ∧ Same w w' ∧
     (∀ id o, look [(1000, Ob.list k (xs.map (c2a enc)))] id = some o → ψ'.main id = ψ id) ∧
     (∀ id o b, look [(1000, Ob.list k ((F xs).map (c2a enc)))] id = some o → Owns ψ' id b → (∃ o0, look [(1000, Ob.list k (xs.map (c2a enc)))] id = some o0 ∧ Owns ψ id b) ∨ w.heap.size ≤ b) ∧
     (∀ id id' o o' b, look [(1000, Ob.list k ((F xs).map (c2a enc)))] id = some o → look [(1000, Ob.list k ((F xs).map (c2a enc)))] id' = some o' → Owns ψ' id b → Owns ψ' id' b → id = id') ∧ Subs ψ' [(1000, .list k ((F xs).map (c2a enc)))] w' ∧
     (∀ id o, look [(1000, Ob.list k ((F xs).map (c2a enc)))] id = some o → ROb (fun b => ((false = false ∧ A b) ∨ w.heap.size ≤ b) ∧ ¬Held ψ' [(1000, .list k ((F xs).map (c2a enc)))] b) ψ' [(1000, .list k ((F xs).map (c2a enc)))] w' id o) ∧
     RAV (fun b => ((false = false ∧ A b) ∨ w.heap.size ≤ b) ∧ ¬Held ψ' [(1000, .list k ((F xs).map (c2a enc)))] b) ψ' [(1000, .list k ((F xs).map (c2a enc)))] w' (.tup []) v := by
   intro w' h1 h2 h3 h4
   refine ⟨.tuple #[], ψ, rfl, h3, h1, h2, fun _ _ _ => rfl, fun id o b h hb => .inl ?_, fun id id' o o' b h h' _ _ => ?_, fun id o b h hb => ?_, fun id o h => ?_, .tup [] #[] rfl (fun i c h => by simp at h)⟩
   · obtain ⟨rfl, rfl⟩ := look1 h; exact ⟨.list k (xs.map (c2a enc)), rfl, hb⟩
   · obtain ⟨rfl, _⟩ := look1 h; obtain ⟨rfl, _⟩ := look1 h'; rfl
   · obtain ⟨rfl, rfl⟩ := look1 h
     have := (hsubs 1000 (.list k (xs.map (c2a enc))) b rfl hb).1
     cases this
   · obtain ⟨rfl, rfl⟩ := look1 h; exact h4
 obtain ⟨hw1, ho⟩ := ho
 have hwF : ∀ x ∈ (F xs).map (c2a enc), x.length = k := by
   intro x hx
   obtain ⟨y, _, rfl⟩ := List.mem_map.1 hx
   simp [c2a, hk]
 by_cases hx : xs = []
 · subst hx
   have hv : ∃ p cap, v = .slice p 0 cap := by
     cases hr with
     | sl0 => exact ⟨_, _, rfl⟩
     | sl => exact ⟨_, _, rfl⟩
   obtain ⟨p, cap, rfl⟩ := hv
   refine (hn p cap _ w).mono ?_
   rintro e w' ⟨rfl, rfl⟩
   refine key w' (Nat.le_refl _) ⟨rfl, rfl, rfl, Nat.le_refl _⟩ (fun _ _ _ => rfl) ?_
   have hso : F [] = [] := List.eq_nil_of_length_eq_zero (by simpa using hF [])
   rw [hso]
   refine ⟨hw1, ?_⟩
   rcases ho with ⟨g1, g2⟩ | ⟨b, k', c, e, g1, g2, g3, g4, g5⟩
   · exact .inl ⟨g1, g2⟩
   · exact .inr ⟨b, k', c, e, g1, g2, g3, g4, fun i j x h => by simp [at2] at h⟩
 · have hpos := List.length_pos_iff.2 hx
   rcases ho with ⟨_, g2⟩ | ⟨b, q, c, e, g1, g2, g3, g4, g5⟩
   · exact absurd (by simpa using g2) hx
   · obtain ⟨cap, rfl⟩ : ∃ cap, v = .slice (some ⟨b, q.1, none⟩) xs.length cap := by
       generalize hlx : xs.length = n at hr hpos
       cases hr with
       | sl0 => omega
       | sl id sz lo len b' k' cap a o n' ho' he hxx hb ha hlc hk' hm =>
         rw [g1] at hb; cases hb
         have := ha (by omega)
         rw [Nat.zero_mul, Nat.add_zero] at this
         subst this
         exact ⟨cap, rfl⟩
     have hbl : b < w.heap.size := c3V g2
     have hB : Held ψ [(1000, .list k (xs.map (c2a enc)))] b := ⟨1000, .list k (xs.map (c2a enc)), rfl, .inl ⟨q, g1⟩⟩
     rw [List.length_map] at g4
     have hH : HoldsK enc k w b q.1 xs.toArray := by
       intro t ht
       rw [Go.Sort.size_flatK, List.size_toArray] at ht
       rw [Go.Sort.get_flatK _ _ _ _ (by simpa using ht)]
       have hi : t / k < xs.length := Nat.div_lt_of_lt_mul (by rw [Nat.mul_comm]; exact ht)
       have hj : t % k < k := Nat.mod_lt _ hk0
       obtain ⟨x, hxx⟩ : ∃ x, xs[t / k]? = some x := ⟨_, List.getElem?_eq_getElem hi⟩
       obtain ⟨u, hu⟩ : ∃ u, (enc x)[t % k]? = some u := ⟨_, List.getElem?_eq_getElem (by rw [hk]; exact hj)⟩
       rw [c6a hxx, c7a hu]
       have h5 := c5a (g5 _ _ _ (c4a hxx hu))
       have hts : t / k * k + t % k = t := by rw [Nat.mul_comm]; exact Nat.div_add_mod t k
       rw [hts] at h5
       have hcs : q.1 + t < c.size := by omega
       rw [Array.getD_eq_getD_getElem?, Array.getElem?_eq_getElem hcs] at h5
       constructor
       · simp only [World.cell?, g2]
         rw [Array.getElem?_eq_getElem hcs]
         simpa using h5
       · simp only [World.frozen?, g2]
         simp
     refine (hs b q.1 cap xs w hH hbl (by omega)).mono ?_
     rintro ex w' ⟨rfl, n, os, rfl⟩
     have hfl : (flatK enc k (F xs).toArray).size = xs.length * k := by rw [Go.Sort.size_flatK, List.size_toArray, hlen]
     unfold sortWorldK putRowK
     have hsz : (putRow id (Go.Sort.ahead w n) b q.1 (flatK enc k (F xs).toArray)).heap.size = w.heap.size := by simp [putRow, mapBlock, Go.Sort.ahead]
     have hother : ∀ i, i ≠ b → i < w.heap.size → (grow (putRow id (Go.Sort.ahead w n) b q.1 (flatK enc k (F xs).toArray)) os).heap[i]? = w.heap[i]? := by
       intro i hi hlt
       rw [Go.Sort.heap_grow_old _ _ (by rw [hsz]; exact hlt)]
       simp only [putRow, mapBlock, Go.Sort.ahead, Array.getElem?_modify]
       rw [if_neg (Ne.symm hi)]
     have hmine : (grow (putRow id (Go.Sort.ahead w n) b q.1 (flatK enc k (F xs).toArray)) os).heap[b]? = some (.cells (putCells id q.1 (flatK enc k (F xs).toArray) c) e (0, 0)) := by
       rw [Go.Sort.heap_grow_old _ _ (by rw [hsz]; exact hbl)]
       simp only [putRow, mapBlock, Go.Sort.ahead, Array.getElem?_modify, if_true]
       rw [g2]; rfl
     refine key _ (by rw [Go.Sort.size_grow, hsz]; omega) ⟨rfl, rfl, rfl, Nat.le_add_right _ _⟩ (fun i hi hh => hother i (fun e => hh (e ▸ hB)) hi) ?_
     refine ⟨hwF, .inr ⟨b, q, _, e, g1, hmine, ?_, ?_, fun i j x h => ?_⟩⟩
     · simp only [putCells, Array.size_mapIdx]; exact g3
     · rw [List.length_map, hlen]; exact g4
     · obtain ⟨y, u, hy, hu, rfl⟩ := c3a h
       have hil := (List.getElem?_eq_some_iff.1 hy).1
       have hjl := (List.getElem?_eq_some_iff.1 hu).1
       rw [hlen] at hil
       rw [hk] at hjl
       have hin : i * k + j < xs.length * k := by
         have := Nat.mul_le_mul_right k (show i + 1 ≤ xs.length from hil)
         rw [Nat.add_mul, Nat.one_mul] at this; omega
       have hlt : q.1 + (i * k + j) < (putCells id q.1 (flatK enc k (F xs).toArray) c).size := by simp only [putCells, Array.size_mapIdx]; omega
       have e1 : (i * k + j) / k = i := (Go.Sort.blk_iff k i _ hk0).1 ⟨by omega, by omega⟩
       have e2 : (i * k + j) % k = j := by rw [Nat.mod_eq_sub_div_mul, e1]; omega
       have : (putCells id q.1 (flatK enc k (F xs).toArray) c).getD (q.1 + (i * k + j)) undef = u := by
         rw [Array.getD_eq_getD_getElem?, Array.getElem?_eq_getElem hlt, Option.getD_some]
         simp only [putCells, Array.getElem_mapIdx]
         rw [if_pos (by rw [hfl]; omega)]
         have e3 : q.1 + (i * k + j) - q.1 = i * k + j := by omega
         rw [e3, Go.Sort.get_flatK _ _ _ _ (by rw [List.size_toArray, hlen]; exact hin), e1, e2, c6a hy, c7a hu]
         rfl
       rw [this]
       exact .v _ (h1 y u (List.mem_of_getElem? hu))
end
theorem c9a {P : Program} {f g : FuncId} (k : Nat)
   (hn : ∀ (p : Option Addr) (cap : Nat) (fv : Value) (w : World), Calls P f #[.slice p 0 cap, fv] w fun e w' => e = .returned (.tuple #[]) ∧ w' = w) : b4z P true f [.iv (.lst k []), .fn g [] []] [] (.tup []) [] := by
 refine ⟨⟨fun id o h => (by cases h), fun id o h => by cases h⟩, ?_⟩
 intro A ψ w vs hA hob hinj hsubs hheld hvl hrav
 have hr := hrav 0 _ rfl
 obtain ⟨v, fv, rfl⟩ : ∃ v fv, vs = [v, fv] := by
   match vs, hvl with
   | [v, fv], _ => exact ⟨v, fv, rfl⟩
 simp only [List.getD_eq_getElem?_getD, List.getElem?_cons_zero, Option.getD_some] at hr
 have hv : ∃ p cap, v = .slice p 0 cap := by
   cases hr with
   | iv _ _ h =>
     generalize hx : IV.lst k [] = x at h
     cases h <;> try cases hx
     · exact ⟨_, _, rfl⟩
     · exact ⟨_, _, rfl⟩
 obtain ⟨p, cap, rfl⟩ := hv
 refine (hn p cap fv w).mono ?_
 rintro e w' ⟨rfl, rfl⟩
 refine ⟨.tuple #[], ψ, rfl, fun _ _ _ => rfl, Nat.le_refl _, ⟨rfl, rfl, rfl, Nat.le_refl _⟩, fun _ _ _ => rfl, fun id o b h => (by cases h), fun id id' o o' b h => (by cases h), fun id o b h => (by cases h), fun id o h => (by cases h), .tup [] #[] rfl (fun i c h => by simp at h)⟩
end Go.Vm
end

section
namespace Go.Rt
open Go.Vm
def egV (e : Eg) : List Value := [.int .i64 e.frm, .int .i64 e.to, .int .i64 e.kind, .int .i64 e.table, .bool e.key.text, .int .i64 e.key.n, .string e.key.s, .bool e.cursor]
abbrev EgD := { e : Eg // e.D }
instance : Inhabited EgD := ⟨⟨⟨0, 0, 0, 0, Vl.zero, false⟩, ⟨by unfold Eg.Rt Vl.right Vl.zero; decide, by decide, by decide, by decide, by decide⟩⟩⟩
theorem c0o {w w' : World} (h1 : ∀ b, b < w.heap.size → w'.heap[b]? = w.heap[b]?) (h2 : w.heap.size ≤ w'.heap.size) (h3 : Same w w') : ∃ q os, w' = Go.Sort.grow (w.drewN q) os := by
 refine ⟨w'.drawn - w.drawn, w'.heap.extract w.heap.size w'.heap.size, ?_⟩
 obtain ⟨heap, tape, drawn, os, output⟩ := w
 obtain ⟨heap', tape', drawn', os', output'⟩ := w'
 obtain ⟨e1, e2, e3, e4⟩ := h3
 simp only at e1 e2 e3 e4 h1 h2
 subst e1 e2 e3
 have hh : heap' = heap ++ heap'.extract heap.size heap'.size := by
   apply Array.ext_getElem?
   intro i
   by_cases hi : i < heap.size
   · rw [h1 i hi, Array.getElem?_append_left hi]
   · rw [Array.getElem?_append_right (by omega), Array.getElem?_extract]
     by_cases hi2 : i < heap'.size
     · rw [if_pos (by omega)]
       congr 1; omega
     · rw [if_neg (by omega), Array.getElem?_eq_none (by omega)]
 unfold Go.Sort.grow World.drewN
 simp only [World.mk.injEq, true_and, and_true]
 exact ⟨hh, by omega⟩
theorem c1o (blk off size : Nat) (w : World) : Go.Proofs.CmpLays prog n_a0k #[] (fun e : EgD => egV e.1) 8 (fun a b => a.1.cmp b.1) blk off size w := by
 intro m os dk _ x y
 generalize Go.Proofs.sortWorldK (fun e : EgD => egV e.1) 8 w blk off m dk os = W
 have hav : ∀ e : Eg, RAV (fun _ => False) pl0 [] W e.av (.agg (egV e).toArray) := by
   intro e
   refine .agg _ _ rfl fun i c hc => ?_
   have : ∃ u, (egV e)[i]? = some u ∧ c = .iv (.v u) ∧ u.oneCell' = true := by
     match i, hc with
     | 0, hc => cases hc; exact ⟨_, rfl, rfl, rfl⟩
     | 1, hc => cases hc; exact ⟨_, rfl, rfl, rfl⟩
     | 2, hc => cases hc; exact ⟨_, rfl, rfl, rfl⟩
     | 3, hc => cases hc; exact ⟨_, rfl, rfl, rfl⟩
     | 4, hc => cases hc; exact ⟨_, rfl, rfl, rfl⟩
     | 5, hc => cases hc; exact ⟨_, rfl, rfl, rfl⟩
     | 6, hc => cases hc; exact ⟨_, rfl, rfl, rfl⟩
     | 7, hc => cases hc; exact ⟨_, rfl, rfl, rfl⟩
     | i + 8, hc => cases hc
   obtain ⟨u, h1, rfl, h2⟩ := this
   have : (egV e).toArray.getD i undef = u := by
     rw [Array.getD_eq_getD_getElem?, List.getElem?_toArray, h1]; rfl
   rw [this]
   exact d4e h2
 have h := (c8e x.1 y.1).2 (fun _ => False) pl0 W [.agg (egV x.1).toArray, .agg (egV y.1).toArray] (fun _ h => h.elim) (fun _ _ h => by cases h) (fun _ _ _ _ _ h => by cases h) (fun _ _ _ h => by cases h)
   (fun b ⟨_, _, h, _⟩ => by cases h) rfl (fun i c hc => by
     match i, hc with
     | 0, hc => cases hc; exact hav x.1
     | 1, hc => cases hc; exact hav y.1
     | i + 2, hc => cases hc)
 refine Calls.mono h ?_
 rintro e w' ⟨v, ψ', rfl, k1, k2, k3, _, _, _, _, _, k8⟩
 refine ⟨by rw [b2A k8], c0o (fun b hb => k1 b hb fun ⟨_, _, h, _⟩ => by cases h) k2 k3⟩
theorem c2o (a b : EgD) : a.1.cmp b.1 = a.1.cmpN b.1 := cmp_N a.2 b.2
theorem c3o (a b : EgD) : Go.Proofs.ltOf (fun a b : EgD => a.1.cmp b.1) a b = a.1.lss b.1 := by
 show decide (a.1.cmp b.1 < 0) = _
 rw [c2o, Bool.eq_iff_iff, decide_eq_true_eq, b2H]
theorem c4o : Go.Sort.SWO (Go.Proofs.ltOf fun a b : EgD => a.1.cmp b.1) where
 irrefl := fun x => by rw [c3o]; exact b5H _
 trans := fun x y z => by rw [c3o, c3o, c3o]; exact b3H
 ntrans := fun x y z h1 h2 => by
   rw [c3o] at *
   cases h : x.1.lss z.1 with
   | false => rfl
   | true =>
     cases h3 : y.1.lss x.1 with
     | true => have := b3H h3 h; rw [this] at h2; cases h2
     | false => rw [← b6H x.2.rt y.2.rt h1 h3] at h2; rw [h2] at h; cases h
theorem c5o (x y : EgD) (h1 : Go.Proofs.ltOf (fun a b : EgD => a.1.cmp b.1) x y = false) (h2 : Go.Proofs.ltOf (fun a b : EgD => a.1.cmp b.1) y x = false) : x = y := by
 rw [c3o] at *
 exact Subtype.ext (b6H x.2.rt y.2.rt h1 h2)
theorem c6o : okFn prog n_a0k = true := by kernel_rfl
theorem t24 : Go.Proofs.Tryz.sortF_ren.t 24 = 37 := rfl
theorem und37 : (prog.underlying 37).isSome = true := by kernel_rfl
theorem c7o : c4b prog 37 = true := by kernel_rfl
theorem sz37 : c0b prog 37 = some 8 := by kernel_rfl
theorem c8o {P : Program} {t : TypeId} {k : Nat} (h : c0b P t = some k) (w : World) : (Go.sizeOf t).run P w = .ok k w := Go.Vm.run_sizeOf w h
theorem agg37 (w : World) : (isAgg (Go.Proofs.Tryz.sortF_ren.t 24)).run prog w = .ok true w := by
 obtain ⟨d, hd⟩ := Option.isSome_iff_exists.1 und37
 rw [t24, d5e w hd, c7o]
theorem c9o (w : World) : (Go.sizeOf (Go.Proofs.Tryz.sortF_ren.t 24)).run prog w = .ok 8 w := by
 rw [t24, c8o sz37 w]
def c0p (l : List EgD) : List EgD := l.mergeSort fun x y => !(Go.Proofs.ltOf (fun a b : EgD => a.1.cmp b.1) y x)
theorem c1p (l : List EgD) (hl : l.length < 2 ^ 62) : b4z prog false n_a3p [.sl 1000 8 0 l.length, .fn n_a0k [] []] [(1000, .list 8 (l.map (c2a fun e : EgD => egV e.1)))] (.tup []) [(1000, .list 8 ((c0p l).map (c2a fun e : EgD => egV e.1)))] := by
 refine c8a 8 (by decide) (fun e : EgD => egV e.1) (fun _ => rfl) (fun x v hv => ?_) c0p (fun l => List.length_mergeSort l) ?_ (fun p cap fv w => Go.Proofs.Tryz.slices_SortFunc_none p cap fv w) l hl
 · simp only [egV, List.mem_cons, List.not_mem_nil, or_false] at hv
   rcases hv with rfl | rfl | rfl | rfl | rfl | rfl | rfl | rfl <;> rfl
 · intro blk off cap zs w hH hb hs
   have := Go.Proofs.AnyQ.slices_SortFunc_total Go.Proofs.Tryz.sortF 8 agg37 c9o (fun e : EgD => egV e.1) (fun _ => rfl) (fun x v hv => by
     simp only [egV, List.mem_cons, List.not_mem_nil, or_false] at hv
     rcases hv with rfl | rfl | rfl | rfl | rfl | rfl | rfl | rfl <;> rfl) (fun a b => a.1.cmp b.1) c4o n_a0k #[] blk off cap zs.toArray w (c1Y c6o) (c1o blk off _ w) hH hb (by simpa using hs) c5o
   rw [List.size_toArray] at this
   exact this
theorem c2p {l : List Eg} (hD : ∀ e, e ∈ l → e.D) (hnd : l.Nodup) (hl : l.length < 2 ^ 62) : ∃ r, Rise r ∧ (∀ e, e ∈ r ↔ e ∈ l) ∧ r.length = l.length ∧
   b4z prog false n_a3p [.sl 1000 8 0 l.length, .fn n_a0k [] []] [(1000, .list 8 (egsC l))] (.tup []) [(1000, .list 8 (egsC r))] := by
 let L : List EgD := l.attach.map fun e => ⟨e.1, hD e.1 e.2⟩
 have hL : L.map Subtype.val = l := by simp [L, List.map_map, Function.comp_def]
 have hlen : L.length = l.length := by simp [L]
 have hp : (c0p L).Perm L := List.mergeSort_perm _ _
 have hp2 : ((c0p L).map Subtype.val).Perm l := by have := hp.map Subtype.val; rw [hL] at this; exact this
 have hiv : ∀ q : List EgD, q.map (c2a fun e : EgD => egV e.1) = egsC (q.map Subtype.val) := fun q => by unfold egsC; rw [List.map_map]; rfl
 have hs := c1p L (by omega)
 rw [hiv, hiv, hL, hlen] at hs
 refine ⟨(c0p L).map Subtype.val, ?_, fun e => hp2.mem_iff, by rw [hp2.length_eq], hs⟩
 have h1 : (c0p L).Pairwise fun x y => (!(Go.Proofs.ltOf (fun a b : EgD => a.1.cmp b.1) y x)) = true := by
   refine List.pairwise_mergeSort (fun a b c h1 h2 => ?_) (fun a b => ?_) L
   · rw [Bool.not_eq_true'] at *
     exact c4o.ntrans _ _ _ h2 h1
   · rw [Bool.or_eq_true, Bool.not_eq_true', Bool.not_eq_true']
     cases h : Go.Proofs.ltOf (fun a b : EgD => a.1.cmp b.1) b a with
     | false => exact .inl rfl
     | true =>
       right
       rw [c3o] at *
       exact b4H h
 have h2 : ((c0p L).map Subtype.val).Nodup := hp2.nodup_iff.2 hnd
 unfold Rise
 rw [List.pairwise_map]
 unfold List.Nodup at h2
 rw [List.pairwise_map] at h2
 refine (h1.and h2).imp ?_
 rintro a b ⟨g1, g2⟩
 rw [Bool.not_eq_true', c3o] at g1
 cases h : a.1.lss b.1 with
 | true => rfl
 | false => exact absurd (b6H a.2.rt b.2.rt h g1) g2
theorem c3p : b4z prog true n_a3p [.iv (.lst 8 []), .fn n_a0k [] []] [] (.tup []) [] :=
 c9a 8 fun p cap fv w => Go.Proofs.Tryz.slices_SortFunc_none p cap fv w
end Go.Rt
end

section
namespace Go.Rt
open Go.Vm
theorem d8m {s : St} {t : Nat} {y : IV} (h : (s.get t).ivc = some y) : Le s (s.set t (.iv y)) := by
 rintro E n a w ⟨ψ, hs⟩
 refine ⟨ψ, { hs with frame := fun u => ?_ }⟩
 rw [St.get_set]
 split
 · rename_i e; subst e
   exact .iv _ _ (c9B (hs.frame t) h (fun _ _ h => h))
 · exact hs.frame u
def EndV (D : List Nat) (t : Nat) (x : IV) (s : St) : Prop := D.all (· < 1000) = true ∧ ((s.drops D).get t).ivc = some x ∧ a2G s.hp = true
theorem d9m {P : Program} {f : FuncId} {args : List AV} {x : IV} {n t : Nat} {c : VCode} (hf : fnV P f = some (n, c, [.tmp t]))
   (hargs : args.length ≤ n) (hn : n ≤ 999) (h : wpV P c ⟨c8l 0 args, []⟩ ⟨fun s => ∃ D, EndV D t x s, fun _ _ => False, fun s => ∃ D, EndV D t x s, fun _ _ => False⟩) : b4z P false f args [] (.iv x) [] :=
 d8a hf hargs rfl rfl (a4H (c8u hn _ _ _ h) fun s h => by
   obtain ⟨D, h1, h2, h3⟩ := h
   have hk : (((s.drops D).set t (.iv x)).hp.map (·.1)).all (· < 1000) = true := by
     show ((s.drops D).hp.map (·.1)).all (· < 1000) = true
     rw [List.all_eq_true]
     intro k hk
     exact List.all_eq_true.1 (a5G h3) k (d6p D hk)
   refine ⟨((s.drops D).set t (.iv x)).drops (((s.drops D).set t (.iv x)).hp.map (·.1)), [.iv x], ((c8v D h1 s).trans (d8m h2)).trans (c8v _ hk _), ?_, rfl, fun id => ?_, fun h => by cases h⟩
   · simp [resV, a7F _ (show ((s.drops D).set t (.iv x)).get t = .iv x by rw [St.get_set, if_pos rfl])]
   · refine a9F _ ?_
     cases hl : Vm.look ((s.drops D).set t (.iv x)).hp id with
     | none => exact .inr rfl
     | some o => exact .inl (List.contains_iff_mem.1 (b8z hl)))
theorem d0n {s : St} {t sz id : Nat} (h : s.get t = .nil sz) (hno : Vm.look s.hp id = none) (hid : id < 1000) : Le s ((s.add id (.list sz [])).set t (.sl id sz 0 0)) := by
 rintro E n a w ⟨ψ, hs⟩
 have h1 := hs.new (o := .list sz []) (p := none) (w' := w) hid hno (Ext.refl w) (fun b k e => by cases e) ⟨fun _ h => (by cases h), .inl ⟨by simp [upd], rfl⟩⟩
 have hψ : upd ψ id none id = none := by simp [upd]
 refine ⟨_, { h1 with frame := fun u => ?_ }⟩
 have hf := h1.frame u
 rw [St.get_set]
 split
 · rename_i e; subst e
   rw [show (s.add id (.list sz [])).get t = .nil sz from h] at hf
   generalize a.tmps.getD t undef = v at hf
   cases hf
   exact .sl0 id sz (.list sz []) 0 (by rw [show ((s.add id (.list sz [])).set t (.sl id sz 0 0)).hp = (s.add id (.list sz [])).hp from rfl, d2m, if_pos rfl]) rfl hψ
 · exact hf
def EndRL (t : Nat) (R : AV → Hp → Prop) (s : St) : Prop := ∃ s1, Le s s1 ∧ EndR t R s1
theorem d1n {P : Program} {f : FuncId} {args : List AV} {n t : Nat} {c : VCode} (R : AV → Hp → Prop) (hf : fnV P f = some (n, c, [.tmp t])) (hargs : args.length ≤ n) (hn : n ≤ 999)
   (hR : ∀ x H', R x H' → (∀ id o, Vm.look H' id = some o → o.isLent = false ∧ o.flat) ∧ x.flat = true)
   (h : wpV P c ⟨c8l 0 args, []⟩ ⟨EndRL t R, fun _ _ => False, EndRL t R, fun _ _ => False⟩) : b5z P true f args [] R :=
 d7a hf hargs rfl rfl (fun x H' h id o ho => ((hR x H' h).1 id o ho).1) (a4H (c8u hn _ _ _ h) fun s h => by
   obtain ⟨s1, h0, D, x, H', h1, h2⟩ := h
   exact ⟨⟨[(t, x)], H'⟩, [x], H', h0.trans h2.le, by simp [resV, St.get, Vm.look], h1, fun _ => rfl, fun _ => ⟨(hR x H' h1).2, fun id o ho => ((hR x H' h1).1 id o ho).2⟩⟩)
end Go.Rt
end

section
namespace Go.Rt
open Go.Vm
def c5T (e : Eg) : List AV := [e.av]
def c6T (ks : List Eg) : List (List AV) := ks.map c5T
def PreKE (S : Eg → Prop) (pre : List (List AV)) (x : List AV) : Prop := ∃ ks k, pre = c6T ks ∧ x = c5T k ∧ (ks ++ [k]).Nodup ∧ ∀ j ∈ ks ++ [k], S j
def AllKE (S : Eg → Prop) (xs : List (List AV)) : Prop := ∃ ks : List Eg, xs = c6T ks ∧ ks.Nodup ∧ ∀ j, j ∈ ks ↔ S j
theorem gE_at (S : Eg → Prop) (e : Eg) : gE S (egV e) ≠ none ↔ S e := by
 unfold egV
 simp only [gE]
 split
 · rename_i h; exact ⟨fun _ => h, fun _ h => by cases h⟩
 · rename_i h; exact ⟨fun g => absurd rfl g, fun g => absurd g h⟩
theorem c7T {S : Eg → Prop} {q : List Value} (h : gE S q ≠ none) : ∃ e, S e ∧ q = egV e := by
 unfold gE at h
 split at h
 · rename_i f t k tb x n s c
   split at h
   · rename_i hs; exact ⟨_, hs, rfl⟩
   · exact absurd rfl h
 · exact absurd rfl h
theorem c8T {a b : Eg} (h : egV a = egV b) : a = b := by
 unfold egV at h
 simp only [List.cons.injEq, Value.int.injEq, Value.bool.injEq, Value.string.injEq, true_and, and_true] at h
 obtain ⟨h1, h2, h3, h4, h5, h6, h7, h8⟩ := h
 exact Eg.eq_iff.2 ⟨h1, h2, h3, h4, Vl.eq_iff.2 ⟨h5, h6, h7⟩, h8⟩
theorem c9T {S : Eg → Prop} {q : List Value} {c : List IV} (h : gE S q = some c) : c = [ci 1] := by
 unfold gE at h
 split at h
 · split at h
   · cases h; rfl
   · cases h
 · cases h
set_option maxRecDepth 8000 in
set_option maxHeartbeats 4000000 in
theorem c0U (S : Eg → Prop) : b5o prog n_a8k [.pt [.mp skE (gE S)]] (PreKE S) (AllKE S) := by
 intro l Zs Zx cont hy
 refine b6E a8k_is (by simp) (by decide) ?_
 simp -dsimp [a8k]
 intro L0 hn0 hL0 _
 refine a6H (fun n s => ∃ (left : List (List Value)) (last : Option (List Value)) (ks : List Eg), n = left.length ∧ s = ⟨[(5, .ptr 5 0), (0, .iv (.v (.func (.yield l) #[] #[])))], [(5, .iter skE (gE S) left last), (1000, .gh (Zs (c6T ks)) [] [])]⟩ ∧
   ks.Nodup ∧ (∀ q ∈ left, ∃ k, S k ∧ q = egV k ∧ k ∉ ks) ∧ (∀ k ∈ ks, S k) ∧ ∀ k, S k → k ∈ ks ∨ egV k ∈ left) ⟨_, _, LeTo.le (D := []) (s' := ⟨[(5, .ptr 5 0), (0, .iv (.v (.func (.yield l) #[] #[])))], [(5, .iter skE (gE S) L0 none), (1000, .gh (Zs (c6T [])) [] [])]⟩) ?_, L0, none, [], rfl, rfl, by simp, ?_, by simp, ?_⟩ ?_
 · simp -dsimp [c6T]
 · intro q hq
   obtain ⟨k, h1, h2⟩ := c7T ((hL0 q).1 hq)
   exact ⟨k, h1, h2, by simp⟩
 · intro k hkL
   exact .inr ((hL0 _).2 ((gE_at S k).2 hkL))
 · rintro n s ⟨left, last, ks, rfl, rfl, h1, h2, h3, h4⟩
   simp -dsimp [a8k_l4]
   refine ⟨?_, ?_⟩
   · rintro rfl
     refine ⟨Zs (c6T ks), by simp, fun A B w hz => .inl ⟨_, ⟨ks, rfl, h1, fun j => ⟨h3 j, fun hj => (h4 j hj).resolve_right (by simp)⟩⟩, hz⟩, by simp⟩
   · intro q c hq hg
     obtain ⟨k, q1, rfl, q3⟩ := h2 q hq
     obtain rfl := c9T hg
     simp -dsimp [hg, egV]
     have hp : PreKE S (c6T ks) (c5T k) := ⟨ks, k, rfl, rfl, by
       refine List.nodup_append.2 ⟨h1, by simp, ?_⟩
       rintro a ha b hb rfl
       rw [List.mem_singleton.1 hb] at ha
       exact q3 ha, fun j hj => by
       rcases List.mem_append.1 hj with h | h
       · exact h3 j h
       · rw [List.mem_singleton.1 h]; exact q1⟩
     intro c' _
     have hr1 : Value.int .i64 k.frm :: Value.int .i64 k.to :: Value.int .i64 k.kind :: Value.int .i64 k.table :: Value.bool k.key.text :: Value.int .i64 k.key.n :: Value.string k.key.s :: Value.bool k.cursor :: [] = egV k := rfl
     refine b7E (g := 1000) (hy _ _ hp) (by simp) (by simp [c5T, Eg.av, Eg.cells]) (by simp [c5T, Eg.av, Eg.cells, AV.plain, AV.isIv]) ?_
     cases hcn : cont (c6T ks) (c5T k) with
     | true =>
       have hkr : c6T ks ++ [c5T k] = c6T (ks ++ [k]) := by simp [c6T]
       simp -dsimp [hcn, hkr, hr1]
       refine ⟨_, b0E hq, _, LeTo.le (D := [3]) (s' := ⟨[(5, .ptr 5 0), (0, .iv (.v (.func (.yield l) #[] #[])))], [(5, .iter skE (gE S) (rmk (egV k) left) (some (egV k))), (1000, .gh (Zs (c6T (ks ++ [k]))) [] [])]⟩) ?_, _, rfl, _, _, rfl, ?_⟩
       · simp -dsimp
       · refine ⟨List.nodup_append.2 ⟨h1, by simp, fun a ha b hb => by rintro rfl; rw [List.mem_singleton.1 hb] at ha; exact q3 ha⟩, fun q hq' => ?_, fun j hj => ?_, fun j hj => ?_⟩
         · obtain ⟨hq1, hq2⟩ := b6Y.1 hq'
           obtain ⟨k', p1, rfl, p3⟩ := h2 q hq1
           refine ⟨k', p1, rfl, fun hm => ?_⟩
           rcases List.mem_append.1 hm with h | h
           · exact p3 h
           · rw [List.mem_singleton.1 h] at hq2; exact hq2 rfl
         · rcases List.mem_append.1 hj with h | h
           · exact h3 j h
           · rw [List.mem_singleton.1 h]; exact q1
         · rcases h4 j hj with h | h
           · exact .inl (List.mem_append_left _ h)
           · by_cases e : j = k
             · exact .inl (List.mem_append_right _ (by simp [e]))
             · exact .inr (b6Y.2 ⟨h, fun g => e (c8T g)⟩)
     | false =>
       simp -dsimp [hcn]
       exact ⟨Zx (c6T ks) (c5T k), by simp, fun A B w hz => .inr ⟨_, _, hz⟩, by simp⟩
theorem c1U (g : List Value → Option (List IV)) : b5z prog false n_a8j [.iv (.mp skE g)] [] (fun r K => r = .fn n_a8k [] [.ptr 1 0] ∧ K = [(1, .box [.iv (.mp skE g)])]) := by
 refine b9E _ a8j_is (by simp) (by decide) (fun x H' h => by
   obtain ⟨rfl, rfl⟩ := h
   refine ⟨fun id o ho => ?_, by simp⟩
   simp only [Vm.look] at ho
   split at ho
   · cases ho; rfl
   · cases ho) ?_
 simp -dsimp [a9j_int]
 exact ⟨[], _, _, ⟨rfl, rfl⟩, by simp -dsimp⟩
theorem c2U (g : List Value → Option (List IV)) : b4z prog false n_a8j [.iv (.mp skE g)] [] (.fn n_a8k [] [.ptr 901 0]) [(901, .box [.iv (.mp skE g)])] :=
 ((c1U g).one (fun _ _ e => e) (fun id o ho => by
   simp only [Vm.look] at ho
   split at ho
   · cases ho; rfl
   · cases ho)).ren (Ren.swaps [(1, 901)]) rfl
theorem c3U : okFn prog n_a8k = true := by kernel_rfl
def RowE (j : Nat) (S : List Eg → Prop) (r : AV) (K : Hp) : Prop := ∃ ks : List Eg, S ks ∧ ((ks = [] ∧ r = .nil 8 ∧ K = []) ∨ (ks ≠ [] ∧ r = .sl j 8 0 ks.length ∧ K = [(j, .list 8 (egsC ks))]))
def egOfA : List AV → Eg
 | [.agg [.iv (.v (.int _ a)), .iv (.v (.int _ b)), .iv (.v (.int _ c)), .iv (.v (.int _ d)), .iv (.v (.bool t)), .iv (.v (.int _ n)), .iv (.v (.string s)), .iv (.v (.bool u))]] => ⟨a, b, c, d, ⟨t, n, s⟩, u⟩
 | _ => ⟨0, 0, 0, 0, Vl.zero, false⟩
def c4U (p : List (List AV)) : List Eg := p.map egOfA
theorem c5U (ks : List Eg) : c4U (c6T ks) = ks := by
 unfold c4U c6T
 rw [List.map_map]
 exact (List.map_congr_left fun e _ => rfl).trans (List.map_id _)
def appE : List Eg → Hp
 | [] => [(2, .box [.nil 8])]
 | k :: ks => [(2, .box [.sl 11 8 0 (k :: ks).length]), (11, .list 8 (egsC (k :: ks)))]
theorem c6U {ks : List Eg} (h : ks ≠ []) : appE ks = [(2, .box [.sl 11 8 0 ks.length]), (11, .list 8 (egsC ks))] := by
 cases ks with
 | nil => exact absurd rfl h
 | cons k ks => rfl
theorem c7U (l : List Eg) : ∀ x ∈ egsC l, ∀ y ∈ x, y.flat = true := by
 intro x hx y hy
 obtain ⟨e, _, rfl⟩ := List.mem_map.1 hx
 simp only [Eg.cells, List.mem_cons, List.not_mem_nil, or_false] at hy
 rcases hy with rfl | rfl | rfl | rfl | rfl | rfl | rfl | rfl <;> rfl
theorem c8U {j : Nat} {S : List Eg → Prop} {r : AV} {K : Hp} (h : RowE j S r K) : (∀ id o, Vm.look K id = some o → o.isLent = false ∧ o.flat) ∧ r.flat = true := by
 obtain ⟨ks, _, ⟨_, rfl, rfl⟩ | ⟨_, rfl, rfl⟩⟩ := h
 · exact ⟨fun id o h => (by cases h), rfl⟩
 · refine ⟨fun id o ho => ?_, rfl⟩
   simp only [Vm.look] at ho
   split at ho
   · cases ho
     exact ⟨rfl, c7U ks⟩
   · cases ho
set_option maxRecDepth 8000 in
set_option maxHeartbeats 4000000 in
theorem c9U {f : FuncId} {caps : List IV} {Pre : List (List AV) → List AV → Prop} {S : List (List AV) → Prop} (hi : b5o prog f caps Pre S) (hok : okFn prog f = true)
   (hp : ∀ pre x, Pre pre x → ∃ ks k, pre = c6T ks ∧ x = c5T k ∧ ks.length < 2 ^ 32) :
   b5z prog true n_a7k [.nil 8, .fn f [] (caps.map CapV.val)] [] (RowE 11 fun ks => S (c6T ks)) := by
 refine b0F _ a7k_is (by simp) (by decide) (fun x H' h => c8U h) ?_
 simp -dsimp [a7k]
 refine b8E [4] [5, 10] 990 [(2, .ptr 2 0), (6, .fn f [] (caps.map CapV.val))] (fun p => ∃ ks, p = c6T ks) (fun p => appE (c4U p)) hi ?_ (by simp) hok (by decide) (by simp [c4U, appE]) (by simp) ?_ ⟨[], rfl⟩ ?_ ?_
 · simp -dsimp [c4U, appE]
 · intro pre x hx
   obtain ⟨ks, k, _, rfl, _⟩ := hp pre x hx
   rfl
 · rintro vs _ x ⟨ks, rfl⟩ hx
   obtain ⟨ks', k, hks, rfl, hlen⟩ := hp _ x hx
   have hks : ks = ks' := by have := congrArg c4U hks; rwa [c5U, c5U] at this
   subst hks
   have hkr : c6T ks ++ [c5T k] = c6T (ks ++ [k]) := by simp [c6T]
   refine ⟨⟨ks ++ [k], hkr⟩, ?_⟩
   rw [hkr, c5U, c5U, c6U (by simp : ks ++ [k] ≠ [])]
   cases ks with
   | nil =>
     simp -dsimp [a7k_a4, a7k_b5, parS, St.set_mk, c5T, appE, frCs, Eg.av, Eg.cells]
     rfl
   | cons k0 ks =>
     simp -dsimp [a7k_a4, a7k_b5, parS, St.set_mk, c5T, appE, frCs, Eg.av, Eg.cells]
     simp only [List.length_cons] at hlen
     refine ⟨by omega, by omega, by simp [egsC, Eg.cells]⟩
 · rintro vs _ ⟨ks, rfl⟩ hS
   rw [c5U]
   cases ks with
   | nil =>
     simp -dsimp [appE, frCs]
     exact ⟨[2, 990], _, _, ⟨_, hS, .inl ⟨rfl, rfl, rfl⟩⟩, by simp -dsimp⟩
   | cons k0 ks =>
     simp -dsimp [appE, frCs]
     exact ⟨[2, 990], _, _, ⟨_, hS, .inr ⟨by simp, rfl, rfl⟩⟩, by simp -dsimp⟩
theorem c0V {f : FuncId} {caps : List IV} {Pre : List (List AV) → List AV → Prop} {S : List (List AV) → Prop} (hi : b5o prog f caps Pre S) (hok : okFn prog f = true)
   (hp : ∀ pre x, Pre pre x → ∃ ks k, pre = c6T ks ∧ x = c5T k ∧ ks.length < 2 ^ 32) :
   b5z prog true n_a7j [.fn f [] (caps.map CapV.val)] [] (RowE 11 fun ks => S (c6T ks)) := by
 refine b0F _ a7j_is (by simp) (by decide) (fun x H' h => c8U h) ?_
 simp -dsimp [a7j]
 refine b1F (c9U hi hok hp) ?_ (by simp) ?_ ?_
 · simp
 · intro x H' h id o ho
   simp -dsimp
   obtain ⟨ks, hS, ⟨rfl, rfl, rfl⟩ | ⟨hne, rfl, rfl⟩⟩ := h
   · cases ho
   · simp only [Vm.look] at ho
     split at ho
     · omega
     · cases ho
 · rintro x H' ⟨ks, hS, ⟨rfl, rfl, rfl⟩ | ⟨hne, rfl, rfl⟩⟩
   · simp -dsimp
     exact ⟨[2], _, _, ⟨_, hS, .inl ⟨rfl, rfl, rfl⟩⟩, by simp -dsimp⟩
   · simp -dsimp
     exact ⟨[2], _, _, ⟨_, hS, .inr ⟨hne, rfl, rfl⟩⟩, by simp -dsimp⟩
end Go.Rt
end

section
namespace Go.Rt
open Go.Vm
theorem c2y : noPd.Ok := .mk _ (by decide) (by decide) (by decide) fun q hq => by cases hq
theorem c3y {h : Hs} (hw : b5x h) : b9Z h.events := fun _ he hk => (b2G hw he hk).1
theorem exB_c (t l : Int) : (exB t l).cells = [ci t, ci 1, ci l, ci 0, cb false, ci 0, .v (.string ⟨#[]⟩), ci 0, ci 0, ci 0, .lst 3 [], ci 0, ci 0, cb false, ci 0, .v (.string ⟨#[]⟩), cb false, ci 0, .v (.string ⟨#[]⟩), .lst 9 [], .lst 5 [], cb false] := by rw [Ev.cells_eq]; rfl
theorem exC_c (t : Int) : (exC t).cells = [ci t, ci 5, ci 0, ci 0, cb false, ci 0, .v (.string ⟨#[]⟩), ci 0, ci 0, ci 0, .lst 3 [], ci 0, ci 0, cb false, ci 0, .v (.string ⟨#[]⟩), cb false, ci 0, .v (.string ⟨#[]⟩), .lst 9 [], .lst 5 [], cb false] := by rw [Ev.cells_eq]; rfl
theorem exW_c (t n : Int) (r : List Vl) : (exW t n r).cells = [ci t, ci 3, ci 0, ci 0, cb false, ci 5, .v (.string ⟨#[]⟩), ci 0, ci 0, ci n, .lst 3 (rowC r), ci 0, ci 0, cb false, ci 0, .v (.string ⟨#[]⟩), cb false, ci 0, .v (.string ⟨#[]⟩), .lst 9 [], .lst 5 [], cb false] := by rw [Ev.cells_eq]; rfl
end Go.Rt
end

section
namespace Go.Rt
open Go.Vm
end Go.Rt
end

section
namespace Go.Rt
open Go.Vm
def addS (S : Eg → Prop) (es : List Eg) (m : Eg) : Prop := S m ∨ (m.frm ≠ m.to ∧ m ∈ es)
theorem c4y {κ : Type} (S : Eg → Prop) (F : κ → List Eg) (ks : List κ) : addK S F ks = addS S (ks.flatMap F) := by
 funext m; unfold addK addS; simp [List.mem_flatMap]
theorem c5y (S : Eg → Prop) (f : Nat → List Eg) (i : Nat) : addL S f (i + 1) = addS (addL S f i) (f i) := by
 funext m
 refine propext ⟨fun g => ?_, fun g => ?_⟩
 · rcases g with g | ⟨h1, j, hj, hm⟩
   · exact .inl (.inl g)
   · rcases Nat.lt_or_ge j i with g | g
     · exact .inl (.inr ⟨h1, j, g, hm⟩)
     · have : j = i := by omega
       subst this; exact .inr ⟨h1, hm⟩
 · rcases g with (g | ⟨h1, j, hj, hm⟩) | ⟨h1, hm⟩
   · exact .inl g
   · exact .inr ⟨h1, j, by omega, hm⟩
   · exact .inr ⟨h1, i, by omega, hm⟩
theorem c6y (S : Eg → Prop) : addS S [] = S := by funext m; unfold addS; simp
def Hs.Mid (h : Hs) : Prop := h.events.length ≤ 100 ∧ h.order.length ≤ 100
def wwT (h : Hs) (j : Nat) : List Eg := ((h.order.filter (ofT j)).map Ins.key).flatMap (wwK h j)
def evT (h : Hs) (i : Nat) : List Eg := (h.events[i]?).elim [] (evE h)
section
variable {h : Hs}
theorem c7y (hw : b5x h) {e : Ev} (he : e ∈ h.events) (hk : e.kind = 3) : b8k h e.table e.key := by
 obtain ⟨i, hi⟩ := List.getElem?_of_mem he
 exact (b6F hw hi hk).1
theorem c8y (hw : b5x h) {o : Ins} (ho : o ∈ h.order) : b8k h o.table o.key := by
 obtain ⟨i, hi⟩ := List.getElem?_of_mem ho
 obtain ⟨t, ht⟩ := c3Z (b5F hw hi).2.2
 obtain ⟨e, he, hk⟩ := c7f (c9f hw ho (List.mem_of_getElem? ht)).2
 obtain ⟨k3, _, g1, g2⟩ := b7F hk
 rw [← g1, ← g2]
 exact c7y hw he k3
theorem c9y (hw : b5x h) {o : Ins} (ho : o ∈ h.order) : tsB h o.table o.key = o.txns := by
 unfold tsB
 rw [b0q (c3g hw) ho (c2g.2 ⟨rfl, rfl⟩)]
theorem c0z (hw : b5x h) {o : Ins} (ho : o ∈ h.order) {m : Eg} : m ∈ wwK h o.table o.key ↔ m ∈ wwE o := by
 unfold wwK
 rw [mem_range, a7L]
 have hch := a2A hw (table := o.table) (k := o.key)
 rw [c9y hw ho] at hch
 rw [hch]
 constructor
 · rintro ⟨j, hj, hm⟩
   unfold wwAt at hm
   rw [hch] at hm
   split at hm
   · rename_i h2
     obtain ⟨i, rfl⟩ : ∃ i, j = i + 2 := ⟨j - 2, by omega⟩
     rw [List.length_cons, List.length_map] at hj
     obtain ⟨a, ha⟩ : ∃ a, o.txns[i]? = some a := c3Z (by omega)
     obtain ⟨b, hb⟩ : ∃ b, o.txns[i + 1]? = some b := c3Z (by omega)
     rw [show i + 2 - 1 = i + 1 from rfl, List.getElem?_cons_succ, List.getElem?_cons_succ, List.getElem?_map, List.getElem?_map, ha, hb] at hm
     exact ⟨i, a, b, ha, hb, by simpa using hm⟩
   · cases hm
 · rintro ⟨i, a, b, ha, hb, rfl⟩
   refine ⟨i + 2, ?_, ?_⟩
   · rw [List.length_cons, List.length_map]
     have := (List.getElem?_eq_some_iff.1 hb).1; omega
   · unfold wwAt
     rw [hch, if_pos (by omega), show i + 2 - 1 = i + 1 from rfl, List.getElem?_cons_succ, List.getElem?_cons_succ, List.getElem?_map, List.getElem?_map, ha, hb]
     simp
theorem c1z (hw : b5x h) {m : Eg} : (∃ j, j < h.tables.length ∧ m ∈ wwT h j) ↔ m ∈ h.order.flatMap wwE := by
 rw [List.mem_flatMap]
 constructor
 · rintro ⟨j, _, hm⟩
   unfold wwT at hm
   rw [List.mem_flatMap] at hm
   obtain ⟨k, hk, hm⟩ := hm
   obtain ⟨o, ho, rfl⟩ := List.mem_map.1 hk
   rw [List.mem_filter] at ho
   have ht : o.table = j := by simpa [ofT] using ho.2
   exact ⟨o, ho.1, (c0z hw ho.1).1 (by rw [ht]; exact hm)⟩
 · rintro ⟨o, ho, hm⟩
   obtain ⟨h0, t, ht, _⟩ := c8y hw ho
   refine ⟨o.table.toNat, (List.getElem?_eq_some_iff.1 ht).1, ?_⟩
   unfold wwT
   rw [List.mem_flatMap]
   have hn : ((o.table.toNat : Nat) : Int) = o.table := by omega
   exact ⟨o.key, List.mem_map.2 ⟨o, List.mem_filter.2 ⟨ho, by simp [ofT, hn]⟩, rfl⟩, by rw [hn]; exact (c0z hw ho).2 hm⟩
theorem c2z {m : Eg} : (∃ i, i < h.events.length ∧ m ∈ evT h i) ↔ m ∈ h.events.flatMap (evE h) := by
 rw [List.mem_flatMap]
 constructor
 · rintro ⟨i, hi, hm⟩
   obtain ⟨e, he⟩ := c3Z hi
   unfold evT at hm
   rw [he] at hm
   exact ⟨e, List.mem_of_getElem? he, hm⟩
 · rintro ⟨e, he, hm⟩
   obtain ⟨i, hi⟩ := List.getElem?_of_mem he
   refine ⟨i, (List.getElem?_eq_some_iff.1 hi).1, ?_⟩
   unfold evT
   rw [hi]; exact hm
theorem c3z (hw : b5x h) (m : Eg) : addL (addL (fun _ => False) (wwT h) h.tables.length) (evT h) h.events.length m ↔ m ∈ a4L h := by
 rw [a5L hw]
 unfold addL a3L
 rw [c1z hw, c2z, List.mem_append]
 constructor
 · rintro ((h1 | ⟨h1, h2⟩) | ⟨h1, h2⟩)
   · exact h1.elim
   · exact ⟨.inl h2, h1⟩
   · exact ⟨.inr h2, h1⟩
 · rintro ⟨h1 | h1, h2⟩
   · exact .inl (.inr ⟨h2, h1⟩)
   · exact .inr ⟨h2, h1⟩
structure EgOf (h : Hs) (m : Eg) : Prop where
 frm : m.frm ∈ c4r h.events
 to : m.to ∈ c4r h.events
 kind : 1 ≤ m.kind ∧ m.kind ≤ 5
 key : b8k h m.table m.key
 cur : m.cursor = true → m.kind = 2 ∨ m.kind = 4
theorem c4z (hw : b5x h) {e : Ev} (he : e ∈ h.events) (hk : e.kind = 2) : b8k h e.table e.key := by
 obtain ⟨i, hi⟩ := List.getElem?_of_mem he
 exact ((b4F hw hi).1.2.1 hk).1
theorem c5z (hw : b5x h) {table : Int} {k : Vl} {i : Nat} {v : Vs} (hv : (chaB h.events h.order table k)[i]? = some v) (hi : 0 < i) : v.txn ∈ c4r h.events := (a0M hw hv hi).1
theorem c6z (hw : b5x h) {table : Int} {k : Vl} {v : Vs} (hp : 0 < plaB h.events h.order table k v) : v.txn ∈ c4r h.events := by
 unfold plaB at hp
 split at hp
 · omega
 · rcases b0M (fun x : Vs => decide (x.txn = v.txn)) (chaB h.events h.order table k) with ⟨i, x, g1, g2, g3, _⟩ | ⟨_, g⟩
   · rw [g3] at hp
     rw [decide_eq_true_eq] at g2
     rw [← g2]
     exact c5z hw g1 (by omega)
   · omega
theorem c7z (hw : b5x h) {m : Eg} (hm : m ∈ a3L h) : EgOf h m := by
 unfold a3L at hm
 rw [List.mem_append, List.mem_flatMap, List.mem_flatMap] at hm
 rcases hm with ⟨o, ho, hm⟩ | ⟨e, he, hm⟩
 · obtain ⟨i, a, b, ha, hb, rfl⟩ := a7L.1 hm
   exact ⟨a1A (c9f hw ho (List.mem_of_getElem? ha)).1, a1A (c9f hw ho (List.mem_of_getElem? hb)).1, by simp, c8y hw ho, fun h => by cases h⟩
 · unfold evE at hm
   split at hm
   · rename_i h5
     have hc := a1A h5
     split at hm
     · rename_i k2
       unfold a8K at hm
       rw [List.mem_append] at hm
       rcases hm with hm | hm
       · unfold rd1 at hm
         split at hm
         · rename_i hp
           rw [List.mem_singleton] at hm
           subst hm
           exact ⟨c6z hw hp, hc, by simp, c4z hw he k2, fun _ => .inl rfl⟩
         · cases hm
       · unfold rd2 at hm
         split at hm
         · rename_i hp
           rw [List.mem_singleton] at hm
           subst hm
           obtain ⟨v, hv⟩ : ∃ v, (chaB h.events h.order e.table e.key)[(plaB h.events h.order e.table e.key e.frm + 1).toNat]? = some v := c3Z (by omega)
           refine ⟨hc, ?_, by simp, c4z hw he k2, fun _ => .inr rfl⟩
           rw [hv]
           exact c5z hw hv (by omega)
         · cases hm
     · split at hm
       · unfold a2L at hm
         rw [List.mem_flatMap] at hm
         obtain ⟨o, ho, hm⟩ := hm
         unfold a1L at hm
         split at hm
         · rename_i ht
           unfold a0L at hm
           split at hm
           · cases hm
           · rw [mem_range] at hm
             obtain ⟨j, hj, hm⟩ := hm
             unfold a9K at hm
             split at hm
             · rename_i hch
               have hj0 : 0 < j := by
                 rcases Nat.eq_zero_or_pos j with g | g
                 · subst g
                   unfold chgB at hch
                   rw [if_pos (.inl (by decide))] at hch
                   cases hch
                 · exact g
               obtain ⟨v, hv⟩ := c3Z hj
               have hcv := c5z hw hv hj0
               have hk : b8k h e.table o.key := by rw [← ht]; exact c8y hw ho
               rw [List.mem_singleton, hv] at hm
               split at hm
               · subst hm
                 exact ⟨hcv, hc, by simp, hk, fun h => by cases h⟩
               · subst hm
                 exact ⟨hc, hcv, by simp, hk, fun h => by cases h⟩
             · cases hm
         · cases hm
       · cases hm
   · cases hm
theorem c8z (hw : b5x h) (hrg : h.Rg) {t : Int} (ht : t ∈ c4r h.events) : 1 ≤ t ∧ t < 2 ^ 63 := by
 unfold c4r at ht
 obtain ⟨e, he, rfl⟩ := List.mem_map.1 ht
 have hm := (List.mem_filter.1 he).1
 exact ⟨c1g hw hm, (hrg e hm).2⟩
theorem c9z (hw : b5x h) (hrg : h.Rg) {m : Eg} (hm : m ∈ a3L h) : m.D := by
 obtain ⟨h1, h2, h3, h4, _⟩ := c7z hw hm
 have g1 := c8z hw hrg h1
 have g2 := c8z hw hrg h2
 have g3 := a9L hw h4
 exact ⟨a8L h4, by omega, by omega, by omega, by omega⟩
theorem c0A (h : Hs) : Rise (a4L h) := by
 by_cases hw : b5x h
 · unfold a4L
   rw [if_pos hw]
   exact b1I (fun x hx => by cases hx) (fun x hx => a8L (c7z hw hx).key) List.Pairwise.nil
 · rw [a6L hw]; exact List.Pairwise.nil
theorem c1A {α β : Type} {f : α → List β} {B : Nat} : ∀ {l : List α}, (∀ x, x ∈ l → (f x).length ≤ B) → (l.flatMap f).length ≤ l.length * B
 | [], _ => by simp
 | x :: r, h => by
   rw [List.flatMap_cons, List.length_append, List.length_cons, Nat.add_mul, Nat.one_mul]
   have h1 := h x List.mem_cons_self
   have h2 := c1A (l := r) fun y hy => h y (List.mem_cons_of_mem _ hy)
   omega
theorem c2A (hw : b5x h) (hm : h.Mid) : (a3L h).length < 2 ^ 31 := by
 unfold a3L
 rw [List.length_append]
 have h1 : (h.order.flatMap wwE).length ≤ h.order.length * 100 := c1A fun o ho => by
   have := c0g hw ho
   unfold wwE
   rw [List.length_map, List.length_zip]
   have := hm.1
   omega
 have h2 : (h.events.flatMap (evE h)).length ≤ h.events.length * 20000 := c1A fun e _ => by
   unfold evE
   split
   · split
     · unfold a8K rd1 rd2
       rw [List.length_append]
       split <;> split <;> simp
     · split
       · unfold a2L
         have := c1A (f := a1L h e) (B := 200) (l := h.order) fun o _ => by
           unfold a1L
           split
           · unfold a0L
             split
             · simp
             · have := c1A (f := a9K h e o.key (plaB h.events h.order e.table o.key (a7K e.refs o.key))) (B := 1) (l := List.range (chaB h.events h.order e.table o.key).length) fun j _ => by
                 unfold a9K
                 split <;> simp
               rw [List.length_range] at this
               have := c4g hw e.table o.key
               have := hm.1
               omega
           · simp
         have := Nat.mul_le_mul_right 200 hm.2
         omega
       · simp
   · simp
 have := Nat.mul_le_mul_right 100 hm.2
 have := Nat.mul_le_mul_right 20000 hm.1
 omega
theorem c3A (hm : h.Mid) : (a4L h).length < 2 ^ 31 := by
 by_cases hw : b5x h
 · unfold a4L
   rw [if_pos hw]
   have h1 := b2I (es := a3L h) (l := [])
   have h2 := c2A hw hm
   rw [List.length_nil] at h1
   omega
 · rw [a6L hw]; decide
end
end Go.Rt
end

section
namespace Go.Rt
open Go.Vm
def gIn (l : List Int) : List Value → Option (List IV)
 | [.int .i64 t] => if t ∈ l then some [ci 1] else none
 | _ => none
theorem b1q : gIn [] = fun _ => none := by
 funext q; unfold gIn; split
 · rw [if_neg (by simp)]
 · rfl
theorem b2q (l : List Int) (t : Int) : gset (gIn l) [.int .i64 t] (some [ci 1]) = gIn (l ++ [t]) := by
 funext q
 simp only [gset]
 split
 · rename_i h; subst h
   simp only [gIn]
   rw [if_pos (by simp)]
 · rename_i hne
   unfold gIn
   split
   · rename_i u
     by_cases hu : u ∈ l
     · rw [if_pos hu, if_pos (by simp [hu])]
     · rw [if_neg hu, if_neg]
       intro g
       rcases List.mem_append.1 g with g | g
       · exact hu g
       · rw [List.mem_singleton.1 g] at hne; exact hne rfl
   · rfl
theorem b3q (l : List Int) (t : Int) : lkR [.iv (.v (.int .i64 0))] false false (gIn l [Value.int .i64 t]) = vi (if t ∈ l then 1 else 0) := by
 simp only [gIn]
 split <;> rfl
set_option maxHeartbeats 8000000 in
theorem b4q {h : Hs} (hok : h.Ok) (hm : h.Mid) (hw : ¬b5x h) : b4z prog true n_a0j [h.av] [] (.sl 2 8 0 0) [(2, .list 8 [])] := by
 have hR := c0a hok (by have := hm.1; omega) hw
 refine d1q 2 8 [] a0j_is (by simp) (by decide) (by simp) ?_
 simp -dsimp [a0j, Hs.av]
 refine d8s hR rfl (by simp [Hs.av]) (by simp [Hs.av]) (by simp) (by simp) ?_
 simp -dsimp
noncomputable abbrev grL (S : Eg → Prop) (x : Value) : Hp := [(18, .map skE (gE S)), (991, .gh ZT [x] [.mpr 18])]
theorem b5q {h : Hs} (hol : h.order.length < 2 ^ 62) (i : Nat) (x : Value) (hc : ∀ k, (chaB h.events h.order i k).length < 2 ^ 42) (S : Eg → Prop) :
   b4z prog false n_a3j [.iv (grIV h x), vi i] (grL S x) (.tup []) (grL (addS S (wwT h i)) x) := by
 have := (c6t hol i x hc S).ren (Ren.swaps [(1001, 18), (1002, 991)]) rfl
 rw [c4y] at this
 exact this
theorem b6q {h : Hs} (x : Value) (e : Ev) (hrow : b9Z h.events) (hc : (chaB h.events h.order e.table e.key).length < 2 ^ 42) (S : Eg → Prop) :
   b4z prog false n_a5j [.iv (grIV h x), e.av] (grL S x) (.tup []) (grL (addS S (a8K h e)) x) := by
 have hs := c8g x e hrow hc S
 rw [c4y, Ev.av_eq, show [()].flatMap (fun _ : Unit => a8K h e) = a8K h e by simp] at hs
 rw [Ev.av_eq]
 exact hs.ren (Ren.swaps [(1001, 18), (1002, 991)]) rfl
theorem b7q (h : Hs) (e : Ev) : a2L h e = ((h.order.filter (ofT e.table)).map Ins.key).flatMap (a0L h e) := by
 unfold a2L
 induction h.order with
 | nil => rfl
 | cons o r ih =>
   rw [List.flatMap_cons, ih, List.filter_cons]
   unfold a1L ofT
   by_cases ht : o.table = e.table
   · rw [if_pos ht, if_pos (by simpa using ht), List.map_cons, List.flatMap_cons]
   · rw [if_neg ht, if_neg (by simpa using ht), List.nil_append]
theorem b8q {h : Hs} (hol : h.order.length < 2 ^ 62) (x : Value) (e : Ev) (heok : e.Ok) (hrow : b9Z h.events) (hc : ∀ k, (chaB h.events h.order e.table k).length < 2 ^ 42) (S : Eg → Prop) :
   b4z prog false n_a6j [.iv (grIV h x), e.av] (grL S x) (.tup []) (grL (addS S (a2L h e)) x) := by
 have hs := c8A hol x e heok hrow hc S
 rw [c4y, ← b7q, Ev.av_eq] at hs
 rw [Ev.av_eq]
 exact hs.ren (Ren.swaps [(1001, 18), (1002, 991)]) rfl
noncomputable def edS (h : Hs) (x : Value) (S : Eg → Prop) (fr : List (Nat × AV)) (hp : Hp) : St :=
 ⟨fr ++ [(4, .iv (grIV h x)), (1, .ptr 1 0), (3, .iv (bkIV h.events h.order))], hp ++ [(1, .box [.iv (.lst 1 (tbsC h.tables)), .iv (.lst 22 (evsC h.events)), .iv (.lst 5 (insC h.order))]), (18, .map skE (gE S)), (991, .gh ZT [x] [.mpr 18])]⟩
set_option maxHeartbeats 8000000 in
theorem b9q {h : Hs} (hok : h.Ok) (hrg : h.Rg) (hm : h.Mid) (hw : b5x h) : b4z prog true n_a0j [h.av] [] (.sl 11 8 0 (a4L h).length) [(11, .list 8 (egsC (a4L h)))] := by
 refine (d1n (fun r K => r = .sl 11 8 0 (a4L h).length ∧ K = [(11, .list 8 (egsC (a4L h)))]) a0j_is (by simp) (by decide) (fun x H' h => ?_) ?_).one (fun _ _ h => h) (fun id o ho => ?_)
 · obtain ⟨rfl, rfl⟩ := h
   refine ⟨fun id o ho => ?_, rfl⟩
   simp only [Vm.look] at ho
   split at ho
   · cases ho
     exact ⟨rfl, c7U _⟩
   · cases ho
 rotate_left
 · simp only [Vm.look] at ho
   split at ho
   · cases ho; rfl
   · cases ho
 have hol : h.order.length < 2 ^ 62 := by have := hm.2; omega
 have hc : ∀ table k, (chaB h.events h.order table k).length < 2 ^ 42 := fun table k => by
   have := c4g hw table k; have := hm.1; omega
 have hrow := c3y hw
 have hR := c1a hok (by have := hm.1; omega) hw hrow fun o ho => Nat.lt_of_le_of_lt (c0g hw ho) (by have := hm.1; omega)
 simp -dsimp [a0j, Hs.av]
 refine d8s hR rfl (by simp [Hs.av]) (by simp [Hs.av]) (by simp) (by simp) ?_
 have hbk : ∀ {P : Program} {s : St} {K : St → AV → Prop}, True := trivial
 simp -dsimp [bkIV, c2d]
 refine a7H (fun k s => ∃ (x : Value) (i : Nat), i ≤ h.tables.length ∧ k = h.tables.length - i ∧ s = edS h x (addL (fun _ => False) (wwT h) i) [(24, vi i), (23, vi h.tables.length)] []) ?_ ?_
 · refine (a7R (id := 20) (g := 991) (i := 4) (m := 18) (cs := [.iv (.lst 1 (tbsC h.tables)), .iv (.lst 22 (evsC h.events)), .iv (.lst 5 (insC h.order)), .iv (bkIV h.events h.order), .mpr 18]) (by simp [bkIV]) rfl (by simp) (by decide)).to ?_
   rintro s' ⟨x, rfl⟩
   refine (LeTo.le (D := [20, 2]) (s' := edS h x (addL (fun _ => False) (wwT h) 0) [(24, vi (0 : Nat)), (23, vi h.tables.length)] []) ?_).x ⟨_, x, 0, Nat.zero_le _, rfl, rfl⟩
   simp -dsimp [edS, c2R, c9Q, grIV, bkIV, St.add, St.set_mk]
 · rintro k s' ⟨x, i, hi, rfl, rfl⟩
   simp -dsimp [edS, a0j_l10]
   refine ⟨fun hlt => ?_, fun hge => ?_⟩
   · have hwr := c4Z (n := (i : Int) + 1) (by have := hok.tables; omega)
     refine a4K (b5q hol i x (fun k => hc i k) (addL (fun _ => False) (wwT h) i)) rfl (by simp) (by simp) (by simp) (by simp) (by simp) (by simp) (by simp) ?_
     rw [← c5y]
     simp -dsimp [hwr]
     exact ⟨h.tables.length - (i + 1), by omega, edS h x (addL (fun _ => False) (wwT h) (i + 1)) [(24, vi (i + 1 : Nat)), (23, vi h.tables.length)] [], LeTo.le (D := []) (by simp -dsimp [edS]), x, i + 1, hlt, rfl, rfl⟩
   · have hin : i = h.tables.length := by omega
     subst hin
     simp -dsimp
     have hlen : (b6T (c4r h.events)).length ≤ 100 := by
       rw [b2Z]; exact Nat.le_trans (c7r _) hm.1
     refine d8s (b2p h.events h.order (by have := hm.1; omega)) rfl (by simp) (by simp) (by simp) (by simp) ?_
     simp -dsimp [c7Z]
     generalize hS0 : addL (fun _ => False) (wwT h) h.tables.length = S0
     generalize hcl : b6T (c4r h.events) = cl at hlen
     refine a8H [] [] cl.length (fun q => edS h x S0 [(35, vi q), (34, vi cl.length), (33, .iv (.lst 1 (c6Z cl))), (6, .mpr 31)] [(31, .map (false, [.i .i64], false) (gIn (cl.take q)))]) (fun _ => True) ?_ trivial ?_
     · simp -dsimp [edS, b1q]
     · intro q hq _
       simp -dsimp [edS, a0j_l17]
       refine ⟨fun hlt => ?_, fun hge => ?_⟩
       · obtain ⟨t, ht⟩ := c3Z hlt
         have hwr := c4Z (n := (q : Int) + 1) (by omega)
         have hst : cl.take (q + 1) = cl.take q ++ [t] := by rw [List.take_add_one, ht]; rfl
         simp -dsimp [ht, hwr, b2q, hst]
         exact hlt
       · rw [List.take_of_length_le hge]
         refine a8H [31] [10] h.events.length (fun q => edS h x (addL S0 (evT h) q) [(45, vi q), (44, vi h.events.length), (43, .iv (.lst 22 (evsC h.events))), (6, .iv (.mp (false, [.i .i64], false) (gIn cl)))] []) (fun _ => True) ?_ trivial ?_
         · simp -dsimp [edS, c2R]
         · intro q hq _
           simp -dsimp [edS, a0j_l27]
           refine ⟨fun hlt => ?_, fun hge => ?_⟩
           · obtain ⟨e, he⟩ := c3Z hlt
             have hwr := c4Z (n := (q : Int) + 1) (by have := hm.1; omega)
             have hadd := c5y S0 (evT h) q
             have hev : evT h q = evE h e := by unfold evT; rw [he]; rfl
             have hmem : e.txn ∈ cl ↔ b4k h.events e.txn = 5 := by
               rw [← hcl]
               exact ⟨fun g => a0A hw ((List.mergeSort_perm _ _).mem_iff.1 g), fun g => (List.mergeSort_perm _ _).mem_iff.2 (a1A g)⟩
             have heok := hok.ev e (List.mem_of_getElem? he)
             rw [hev] at hadd
             rw [hadd]
             unfold evE
             by_cases h5 : e.txn ∈ cl
             · rw [if_pos (hmem.1 h5)]
               by_cases k2 : e.kind = 2
               · rw [if_pos k2]
                 simp -dsimp [he, b3q, Ev.cells_eq e, h5, k2]
                 refine a4K (b6q x e hrow (hc e.table e.key) (addL S0 (evT h) q)) rfl (by simp) (by simp [Ev.av_eq, k2]) (by simp [Ev.av_eq]) (by simp) (by simp) (by simp) (by simp) ?_
                 simp -dsimp [hwr]
                 exact hlt
               · rw [if_neg k2]
                 by_cases k4 : e.kind = 4
                 · rw [if_pos k4]
                   simp -dsimp [he, b3q, Ev.cells_eq e, h5, k4]
                   refine a4K (b8q hol x e heok hrow (hc e.table) (addL S0 (evT h) q)) rfl (by simp) (by simp [Ev.av_eq, k4]) (by simp [Ev.av_eq]) (by simp) (by simp) (by simp) (by simp) ?_
                   simp -dsimp [hwr]
                   exact hlt
                 · rw [if_neg k4, c6y]
                   simp -dsimp [he, b3q, Ev.cells_eq e, h5, k2, k4, hwr]
                   exact hlt
             · rw [if_neg fun g => h5 (hmem.2 g), c6y]
               simp -dsimp [he, b3q, Ev.cells_eq e, h5, hwr]
               exact hlt
           · have hqn : q = h.events.length := by omega
             subst hqn
             have hfin : ∀ m, addL S0 (evT h) h.events.length m ↔ m ∈ a4L h := fun m => by rw [← hS0]; exact c3z hw m
             generalize addL S0 (evT h) h.events.length = SF at hfin ⊢
             have hSL : ∀ m, SF m → m ∈ a3L h := fun m g => ((a5L hw).1 ((hfin m).1 g)).1
             have hEl := c2A hw hm
             have hnd : ∀ {ks : List Eg}, ks.Nodup → (∀ j ∈ ks, SF j) → ks.length ≤ (a3L h).length := fun g1 g2 => c5f g1 fun j hj => hSL j (g2 j hj)
             simp -dsimp [grIV]
             refine c2x (a8R (t := 73) (g := 991) (i := 0) (x := x) (y := .mpr 18) (Z := ZT) (vs := [x]) (cs := [.mpr 18]) (by simp) (by simp) rfl rfl) ?_
             refine d8s (c2U (gE SF)) rfl (by simp [St.set_mk]) (by simp) (by simp) (by simp [St.set_mk]) ?_
             simp -dsimp [St.set_mk]
             refine b1F (c0V (caps := [.pt [.mp skE (gE SF)]]) (c0U SF) c3U (fun pre x hp => ?_)) ?_ (by simp) ?_ ?_
             · obtain ⟨ks, k, h1, h2, h3, h4⟩ := hp
               refine ⟨ks, k, h1, h2, ?_⟩
               have := hnd h3 h4
               rw [List.length_append] at this
               omega
             · simp
             · rintro r K ⟨ks, hS, ⟨rfl, rfl, rfl⟩ | ⟨hne, rfl, rfl⟩⟩ id o ho
               · cases ho
               · simp only [Vm.look] at ho
                 split at ho
                 · rename_i e; subst e
                   refine ⟨?_, by decide⟩
                   simp -dsimp
                 · cases ho
             · rintro r K ⟨ks, ⟨ks', hk1, hk2, hk3⟩, hcase⟩
               have hks : ks = ks' := by have := congrArg c4U hk1; rwa [c5U, c5U] at this
               subst hks
               obtain ⟨r0, hr1, hr2, hr3, hr4⟩ := c2p (l := ks) (fun e he => c9z hw hrg (hSL e ((hk3 e).1 he))) hk2 (by
                 have := hnd hk2 fun j hj => (hk3 j).1 hj
                 omega)
               obtain rfl : r0 = a4L h := b7H hr1 (c0A h) fun e => by rw [hr2, hk3, hfin]
               rcases hcase with ⟨rfl, rfl, rfl⟩ | ⟨hne, rfl, rfl⟩
               · have hE : a4L h = [] := List.eq_nil_of_length_eq_zero hr3
                 rw [hE]
                 simp -dsimp
                 refine a1G c3p (by simp) (by simp) ?_
                 simp -dsimp
                 refine ⟨_, d0n (t := 2) (sz := 8) (id := 11) (by simp) (by simp) (by decide), [1, 901, 991], _, _, ⟨rfl, rfl⟩, ?_⟩
                 simp -dsimp [St.add, St.set_mk, egsC]
               · simp -dsimp
                 have hr5 : b4z prog false n_a3p [.sl 11 8 0 ks.length, .fn n_a0k [] []] [(11, .list 8 (egsC ks))] (.tup []) [(11, .list 8 (egsC (a4L h)))] := hr4.ren (Ren.swaps [(1000, 11)]) rfl
                 refine a4K hr5 rfl (by simp) (by simp) (by simp) (by simp) (by simp) (by simp [Ob.le, Ob.dim, hr3]) (by simp) ?_
                 simp -dsimp
                 refine ⟨_, Le.refl _, [1, 901, 991], _, _, ⟨rfl, rfl⟩, ?_⟩
                 simp -dsimp [hr3]
theorem b0r {h : Hs} (hok : h.Ok) (hrg : h.Rg) (hm : h.Mid) (d : Nat) : b4z prog true n_a0j [h.av] [] (.sl d 8 0 (a4L h).length) [(d, .list 8 (egsC (a4L h)))] := by
 by_cases hw : b5x h
 · exact (b9q hok hrg hm hw).fresh d (by simp [Hs.av, AV.shal, AV.shal2, AV.shal1]) (fun ρ => rfl)
 · have := (b4q hok hm hw).fresh d (by simp [Hs.av, AV.shal, AV.shal2, AV.shal1]) (fun ρ => rfl)
   rw [a6L hw]
   exact this
end Go.Rt
end

section
namespace Go.Rt
open Go.Vm
end Go.Rt
end

section
namespace Go.Rt
open Go.Vm
def posU (t : Int) : List Int → Nat
 | [] => 0
 | a :: r => if a < t then posU t r + 1 else 0
def insU (l : List Int) (t : Int) : List Int := if l[posU t l]? = some t then l else l.take (posU t l) ++ t :: l.drop (posU t l)
def stepT (out : List Int) (e : Ev) : List Int := if e.kind = 1 then insU out e.txn else out
def txns (es : List Ev) : List Int := es.foldl stepT []
end Go.Rt
end

section
namespace Go.Rt
open Go.Vm
end Go.Rt
end

section
namespace Go.Rt
open Go.Vm
end Go.Rt
end

section
namespace Go.Rt
open Go.Vm
theorem b7W {α : Type} {p : α → Bool} : ∀ {l : List α}, (∀ (i j : Nat) (a b : α), l[i]? = some a → l[j]? = some b → p a = true → p b = true → i = j) → ∀ {e : α}, e ∈ l → p e = true → l.filter p = [e]
 | [], _, _, he, _ => by cases he
 | x :: r, hu, e, he, hp => by
   by_cases hx : p x = true
   · have hr : r.filter p = [] := by
       rw [List.filter_eq_nil_iff]
       intro y hy hpy
       obtain ⟨j, hj⟩ := List.getElem?_of_mem hy
       have := hu 0 (j + 1) x y rfl hj hx hpy
       omega
     rw [List.filter_cons_of_pos hx, hr]
     rcases List.mem_cons.1 he with rfl | he
     · rfl
     · have : e ∈ r.filter p := List.mem_filter.2 ⟨he, hp⟩
       rw [hr] at this; cases this
   · rw [List.filter_cons_of_neg hx]
     rcases List.mem_cons.1 he with rfl | he
     · exact (hx hp).elim
     · exact b7W (fun i j a b ha hb => by
         intro h1 h2
         have := hu (i + 1) (j + 1) a b ha hb h1 h2
         omega) he hp
def verO (es : List Ev) (table : Int) (k : Vl) (o : Ins) : List Vs := o.txns.map fun t => ⟨t, (c2S es t table k : Int)⟩
def chaF (es : List Ev) (os : List Ins) (table : Int) (k : Vl) : List Vs := ⟨0, 0⟩ :: ((os.filter (Ins.isO table k)).map (verO es table k)).flatten
theorem b8W {es : List Ev} {os : List Ins} {table : Int} {k : Vl} {i : Nat} {o : Ins} (ho : os[i]? = some o) : chaF es (os.take (i + 1)) table k = if Ins.isO table k o = true then chaF es (os.take i) table k ++ verO es table k o else chaF es (os.take i) table k := by
 unfold chaF
 rw [show os.take (i + 1) = os.take i ++ [o] by rw [List.take_add_one, ho]; rfl, List.filter_append]
 by_cases hb : Ins.isO table k o = true
 · rw [if_pos hb, List.filter_cons_of_pos hb]; simp
 · rw [if_neg hb, List.filter_cons_of_neg hb]; simp
theorem b9W {h : Hs} (hw : b5x h) (table : Int) (k : Vl) : chaF h.events h.order table k = chaB h.events h.order table k := by
 rw [a2A hw]
 unfold chaF tsB
 cases ho : c4p (Ins.isO table k) h.order with
 | none =>
   have : h.order.filter (Ins.isO table k) = [] := by
     rw [List.filter_eq_nil_iff]
     intro o hm
     rw [c8p] at ho
     rw [ho o hm]; simp
   rw [this]; rfl
 | some o =>
   obtain ⟨h1, h2⟩ := c9p ho
   rw [b7W (c3g hw) h1 h2]
   simp [verO]
theorem b0X {es : List Ev} {os : List Ins} {table : Int} {k : Vl} (i : Nat) : (chaF es (os.take i) table k).length ≤ (chaF es os table k).length := by
 unfold chaF
 have h1 : (os.take i).filter (Ins.isO table k) <+: os.filter (Ins.isO table k) := (List.take_prefix i os).filter _
 obtain ⟨r, hr⟩ := h1
 rw [← hr]
 simp
set_option maxHeartbeats 16000000 in
theorem b1X {h : Hs} (hok : h.Ok) (hw : b5x h) (hev : h.events.length < 2 ^ 40) (table : Int) (k : Vl) : b4z prog false n_a2a [h.av, vi table, k.av] [] (.iv (.lst 2 (vsC (chaB h.events h.order table k)))) [] := by
 rw [← b9W hw]
 have hlen : (chaF h.events h.order table k).length ≤ h.events.length + 1 := by rw [b9W hw]; exact c4g hw table k
 have hord := hok.order
 refine d9m a2a_is (by simp [Hs.av]) (by decide) ?_
 simp -dsimp [a2a, Hs.av]
 refine a8H [6] [9] h.order.length (fun i => ⟨[(8, vi i), (7, .sl 13 2 0 (chaF h.events (h.order.take i) table k).length), (5, .ptr 5 0), (3, .ptr 3 0), (1, vi table)],
   [(13, .list 2 (vsC (chaF h.events (h.order.take i) table k))), (5, .box (k.cells.map .iv)), (3, .box (h.cells.map .iv))]⟩) (fun _ => True) ?_ trivial ?_
 · simp [Hs.cells, chaF, vsC, Vs.cells]
 · intro i hi _
   by_cases hil : i < h.order.length
   · obtain ⟨o, ho⟩ := c3Z hil
     have hwi := c4Z (n := (i : Int) + 1) (by omega)
     have hst := b8W (es := h.events) (table := table) (k := k) ho
     have hl0 := b0X (es := h.events) (os := h.order) (table := table) (k := k) (i + 1)
     by_cases hb : Ins.isO table k o = true
     · rw [if_pos hb] at hst
       rw [hst] at hl0 ⊢
       obtain ⟨g1, g2⟩ := c2g.1 hb
       have g3 := Vl.eq_iff.1 g2
       generalize chaF h.events (h.order.take i) table k = l0 at *
       simp -dsimp [a2a_l13, Hs.cells, ho, Ins.cells_eq o, g1, g3]
       refine ⟨fun _ => ?_, fun hx => absurd hil (by omega)⟩
       have hvl : (verO h.events table k o).length = o.txns.length := by simp [verO]
       have hl1 := hl0
       rw [List.length_append, hvl] at hl1
       refine a8H [] [63] o.txns.length (fun j => ⟨[(10, vi j), (9, .ptr 9 0), (8, vi i), (7, .sl 13 2 0 (l0 ++ (verO h.events table k o).take j).length), (5, .ptr 5 0), (3, .ptr 3 0), (1, vi table)],
         [(9, .box (o.cells.map .iv)), (13, .list 2 (vsC (l0 ++ (verO h.events table k o).take j))), (5, .box (k.cells.map .iv)), (3, .box (h.cells.map .iv))]⟩) (fun _ => True) ?_ trivial ?_
       · simp [Hs.cells, Ins.cells_eq o, g1, g3]
       · intro j hj _
         by_cases hjl : j < o.txns.length
         · obtain ⟨t, ht⟩ := c3Z hjl
           have hwj := c4Z (n := (j : Int) + 1) (by omega)
           have hvt : (verO h.events table k o)[j]? = some ⟨t, (c2S h.events t table k : Int)⟩ := by
             unfold verO; rw [List.getElem?_map, ht]; rfl
           simp -dsimp [a2a_l11, Hs.cells, Ins.cells_eq o, ht, c2d]
           refine ⟨fun _ => ?_, fun hx => absurd hjl (by omega)⟩
           refine a1G (b3k hok h.events.length t table k) (by simp [Hs.av]) (by simp [Hs.av]) ?_
           rw [List.take_length]
           rw [show List.take (j + 1) (verO h.events table k o) = List.take j (verO h.events table k o) ++ [⟨t, (c2S h.events t table k : Int)⟩] by rw [List.take_add_one, hvt]; rfl]
           generalize verO h.events table k o = w at *
           simp -dsimp [Ins.cells_eq o, ht, hwj]
           exact ⟨by omega, by omega, hjl, by omega, by simp [vsC, Vs.cells]⟩
         · have hje : j = o.txns.length := by omega
           subst hje
           rw [show List.take o.txns.length (verO h.events table k o) = verO h.events table k o by rw [← hvl]; exact List.take_length]
           simp -dsimp [a2a_l11, Hs.cells, Ins.cells_eq o, hwi, hil]
     · rw [if_neg hb] at hst
       rw [hst]
       have hb2 : ¬(o.table = table ∧ o.key.text = k.text ∧ o.key.n = k.n ∧ o.key.s = k.s) := by
         intro g
         exact hb (c2g.2 ⟨g.1, Vl.eq_iff.2 g.2⟩)
       generalize chaF h.events (h.order.take i) table k = l0 at *
       by_cases g1 : o.table = table
       · simp -dsimp [a2a_l13, Hs.cells, ho, Ins.cells_eq o, g1, hwi]
         refine ⟨fun _ => ⟨fun _ => hil, fun a b c => (hb2 ⟨g1, a, b, c⟩).elim⟩, fun hx => absurd hil (by omega)⟩
       · simp -dsimp [a2a_l13, Hs.cells, ho, Ins.cells_eq o, g1, hwi]
         exact fun hx => absurd hil (by omega)
   · have hie : i = h.order.length := by omega
     subst hie
     rw [List.take_length]
     simp -dsimp [a2a_l13, Hs.cells]
     exact ⟨[3, 5, 13], by simp [EndV, AV.ivc]; exact List.take_of_length_le (by simp)⟩
end Go.Rt
end

section
namespace Go.Rt
open Go.Vm
end Go.Rt
end

section
namespace Go.Rt
open Go.Vm
end Go.Rt
end

section
namespace Go.Rt
open Go.Vm
end Go.Rt
end

section
namespace Go.Rt
open Go.Vm
theorem b8M (v : Vl) : b4z prog true n_a2h [v.av] [] (vb v.right) [] := by
 refine a5H a2h_is (by simp) (by decide) rfl ?_
 simp -dsimp [a2h, Vl.right]
 grind
theorem b9M (t : Tb) : b4z prog true n_a9c [tbAV t] [] (vb (ofP (TbOk t))) [] := by
 refine a5H a9c_is (by simp) (by decide) rfl ?_
 simp -dsimp [a9c, tbAV, tbIV, c9Y, TbOk, -List.length_eq_zero_iff]
 omega
theorem b0N (t : Tb) (r : List Vl) : b4z prog true n_a8f [tbAV t, .iv (c8Z r)] [] (vb (ofP (Fits t r))) [] := by
 refine a5H a8f_is (by simp) (by decide) rfl ?_
 simp -dsimp [a8f, tbAV]
 refine a1G (b9M t) (by simp [tbAV]) rfl ?_
 simp -dsimp [tbIV, c8Z, -List.length_eq_zero_iff]
 refine ⟨fun h1 => ⟨fun h3 h => by have := h.2.1; omega, fun h3 => ?_⟩, fun h h' => h h'.1⟩
 refine a8H [] [] r.length (fun i => ⟨[(6, vi i), (1, .iv (.lst 3 (r.map Vl.cells))), (2, .ptr 2 0)], [(2, .box [.iv (.lst 1 (c5Z t))])]⟩)
   (fun i => Upto i (d9c t r)) ?_ ?_ ?_
 · simp
 · simp
 · intro i hi hq
   have h2 := h1.2
   simp -dsimp [a8f_l10]
   refine ⟨fun hlt => ?_, fun hge => ?_⟩
   · obtain ⟨v, hv⟩ := c3Z hlt
     obtain ⟨c, hc⟩ : ∃ c, t[i]? = some c := c3Z (by omega)
     simp -dsimp [hv, hc]
     refine a1G (b8M v) (by simp) rfl ?_
     simp -dsimp [hv, hc]
     exact ⟨fun e2 => ⟨fun e => d0d hv hc fun h => e h.1, fun e => ⟨hlt, c4Z (by omega), hq.succ (d1d hv hc ⟨e, e2⟩)⟩⟩, fun e2 => d0d hv hc (by simp [e2])⟩
   · exact ⟨h1, by omega, fun j hj => hq j (by omega)⟩
theorem b1N (t : Tb) (i : Int) (v : Vl) : b4z prog true n_a1i [tbAV t, vi i, v.av] [] (vb (ofP (b3y t i v))) [] := by
 refine a5H a1i_is (by simp) (by decide) rfl ?_
 simp -dsimp [b6W, tbAV]
 refine a1G (b8M v) (by simp) rfl ?_
 simp -dsimp [tbIV]
 refine ⟨fun h1 => ⟨fun h2 => ?_, fun h2 h => by have := h.2.1; omega⟩, fun h1 h => by have := h.1; omega⟩
 obtain ⟨k, rfl⟩ := Int.eq_ofNat_of_zero_le h1
 obtain ⟨c, hc⟩ : ∃ c, t[k]? = some c := c3Z (by omega)
 refine ⟨fun h3 => ⟨h1, ?_⟩, fun h3 h => by have := h.2.2.2; rw [h3] at this; cases this⟩
 simp -dsimp [hc, c9Y, b4y hc, h3]
theorem Pd.allOk_eq (t : Tb) (p : Pd) : p.AllOk t ↔ b6y t p ∧ Pd.AllOkL t p.l := by cases p; rw [Pd.AllOk]; rfl
theorem Pd.allOkL_iff (t : Tb) : ∀ l : List Pd, Pd.AllOkL t l ↔ ∀ p, p ∈ l → p.AllOk t
 | [] => by simp [Pd.AllOkL]
 | p :: r => by simp [Pd.AllOkL, Pd.allOkL_iff t r]
theorem b2N {t : Tb} {p : Pd} {i : Nat} {q : Pd} (h : p.l[i]? = some q) (hq : ¬q.AllOk t) : ¬p.AllOk t := fun g =>
 hq ((Pd.allOkL_iff t p.l).1 ((Pd.allOk_eq t p).1 g).2 q (List.mem_of_getElem? h))
theorem b3N (t : Tb) {p : Pd} (h : p.Ok) : b4z prog true n_a3h [tbAV t, p.av] [] (vb (ofP (p.AllOk t))) [] := by
 induction h with
 | mk p hl _ _ hq ih =>
 refine a5H a3h_is (by simp) (by decide) rfl ?_
 simp -dsimp [b4W, Pd.av_eq, tbAV]
 refine a8H [] [] p.l.length (fun i => ⟨[(5, vi i), (2, .ptr 2 0), (3, .ptr 3 0)], [(3, p.box), (2, .box [.iv (tbIV t)])]⟩)
   (fun i => Upto i fun j => ∀ q, p.l[j]? = some q → q.AllOk t) ?_ ?_ ?_
 · simp [Pd.box]
 · simp
 · intro i hi hqq
   have len0 : ((p.l.length : Int) == 0) = ofP (p.l.length = 0) := by rw [c9Y, beq_iff_eq]; omega
   have len1 : ((p.l.length : Int) == 1) = ofP (p.l.length = 1) := by rw [c9Y, beq_iff_eq]; omega
   have lenp : (decide (0 < (p.l.length : Int))) = ofP (0 < p.l.length) := by rw [c9Y, decide_eq_true_eq]; omega
   by_cases hlt : i < p.l.length
   · obtain ⟨q, hqi⟩ := c3Z hlt
     have hw : IntKind.i64.wrap ((i : Int) + 1) = (i : Int) + 1 := c4Z (by omega)
     have hqe := (List.getElem?_eq_some_iff.1 hqi).2
     simp -dsimp [a3h_l7, Pd.box, hlt, hqe, Pd.cells_eq q]
     refine a1G (ih q (List.mem_of_getElem? hqi)) (by simp [Pd.av_eq, tbAV]) (by simp [Pd.av_eq, tbAV]) ?_
     simp -dsimp [hw]
     refine ⟨fun e => b2N hqi e, fun e => hqq.succ fun q' h' => by rw [hqi] at h'; cases h'; exact e⟩
   · have e0 : p.AllOk t ↔ b6y t p := by
       rw [Pd.allOk_eq, Pd.allOkL_iff]
       refine ⟨fun h => h.1, fun h => ⟨h, fun q hq => ?_⟩⟩
       obtain ⟨j, hj⟩ := List.getElem?_of_mem hq
       exact hqq j (by have := (List.getElem?_eq_some_iff.1 hj).1; omega) q hj
     have hop : (p.op = 1 ∨ p.op = 2) ∨ (p.op = 3 ∨ p.op = 4 ∨ p.op = 5 ∨ p.op = 6 ∨ p.op = 7 ∨ p.op = 8) ∨ p.op = 9 ∨ p.op = 10 ∨ (p.op = 11 ∨ p.op = 12) ∨ (p.op < 1 ∨ 12 < p.op) := by omega
     rcases hop with h | h | h | h | h | h
     · have e : b6y t p ↔ p.l.length = 0 := by unfold b6y; rw [if_pos h]
       rcases h with h | h <;> simp -dsimp [a3h_l7, Pd.box, hlt, h, len0, e, e0]
     · have e : b6y t p ↔ p.l.length = 0 ∧ b3y t p.col p.v := by
         unfold b6y; rw [if_neg (by omega), if_pos (by omega)]
       rcases h with h | h | h | h | h | h
       all_goals
         simp -dsimp [a3h_l7, Pd.box, hlt, h, len0, e, e0]
         refine ⟨fun h0 => ?_, fun h0 => ?_⟩
         · refine a1G (b1N t p.col p.v) (by simp [tbAV]) (by simp [tbAV]) ?_
           simp -dsimp [h0, e, e0]
         · simp -dsimp [h0, e, e0]
     · have e : b6y t p ↔ p.l.length = 0 ∧ b3y t p.col p.v ∧ b3y t p.col p.w := by
         unfold b6y; rw [if_neg (by omega), if_neg (by omega), if_pos (by omega)]
       simp -dsimp [a3h_l7, Pd.box, hlt, h, len0, e, e0]
       refine ⟨fun h0 => ?_, fun h0 => ?_⟩
       · refine a1G (b1N t p.col p.v) (by simp [tbAV]) (by simp [tbAV]) ?_
         simp -dsimp
         refine ⟨fun h1 => ?_, fun h1 => ?_⟩
         · refine a1G (b1N t p.col p.w) (by simp [tbAV]) (by simp [tbAV]) ?_
           simp -dsimp [h0, h1, e, e0]
         · simp -dsimp [h0, h1, e, e0]
       · simp -dsimp [h0, e, e0]
     · have e : b6y t p ↔ p.l.length = 1 := by
         unfold b6y; rw [if_neg (by omega), if_neg (by omega), if_neg (by omega), if_pos h]
       simp -dsimp [a3h_l7, Pd.box, hlt, h, len1, e, e0]
     · have e : b6y t p ↔ 0 < p.l.length := by
         unfold b6y; rw [if_neg (by omega), if_neg (by omega), if_neg (by omega), if_neg (by omega), if_pos h]
       rcases h with h | h <;> simp -dsimp [a3h_l7, Pd.box, hlt, h, lenp, e, e0, c9Y]
     · have e : ¬b6y t p := by
         unfold b6y; rw [if_neg (by omega), if_neg (by omega), if_neg (by omega), if_neg (by omega), if_neg (by omega)]; exact id
       have ne : ∀ k : Int, 1 ≤ k → k ≤ 12 → (p.op == k) = false := fun k h1 h2 => by rw [beq_eq_false_iff_ne]; omega
       simp -dsimp [a3h_l7, Pd.box, hlt, e, e0, ne]
theorem b4N (t : Tb) {p : Pd} (h : p.Ok) : b4z prog true n_a9f [tbAV t, p.av] [] (vb (ofP (PdOk t p))) [] := by
 refine a5H a9f_is (by simp) (by decide) rfl ?_
 simp -dsimp [a9f, Pd.av_eq, tbAV]
 refine a1G (b9M t) (by simp [tbAV]) (by simp [tbAV]) ?_
 simp -dsimp
 refine ⟨fun h1 => ?_, fun h1 h => h1 h.1⟩
 refine a1G (b6x h) (by simp [Pd.av_eq]) (by simp [Pd.av_eq]) ?_
 simp -dsimp
 refine ⟨fun h2 => ?_, fun h2 h => by have := h.2.1; omega⟩
 refine a1G (b3N t h) (by simp [Pd.av_eq, tbAV]) (by simp [Pd.av_eq, tbAV]) ?_
 simp -dsimp [c9Y, PdOk, h1, h2]
theorem b5N {h : Hs} (ht : h.TbsOk) (table : Int) (k : Vl) : b4z prog true n_a6f [h.av, vi table, k.av] [] (vb (ofP (b8k h table k))) [] := by
 refine a5H a6f_is (by simp) (by decide) rfl ?_
 simp -dsimp [b1W, Hs.av]
 refine ⟨fun h1 => ⟨fun h2 => ?_, fun h2 => ?_⟩, fun h1 h => absurd h.1 (by omega)⟩
 · rintro ⟨_, t, h3, _⟩
   have := (List.getElem?_eq_some_iff.1 h3).1
   omega
 · obtain ⟨n, rfl⟩ := Int.eq_ofNat_of_zero_le h1
   obtain ⟨t, htn⟩ : ∃ t, h.tables[n]? = some t := c3Z (by omega)
   have hT := ht t (List.mem_of_getElem? htn)
   obtain ⟨c, hc⟩ : ∃ c, t[0]? = some c := c3Z hT.1
   have hK : b8k h n k ↔ k.right = true ∧ k.text = c := by
     unfold b8k
     constructor
     · rintro ⟨_, t', h3, h4, h5⟩
       rw [show ((n : Int)).toNat = n from rfl, htn] at h3; cases h3
       rw [hc] at h5; cases h5
       exact ⟨h4, rfl⟩
     · rintro ⟨h4, h5⟩; exact ⟨h1, t, by simpa using htn, h4, by rw [hc, h5]⟩
   refine a1G (b8M k) (by simp) (by simp) ?_
   simp -dsimp [htn, hc, tbIV, c9Y, hK]
   grind
theorem b6N {h : Hs} (hok : h.Ok) (a : Nat) (table : Int) (k : Vl) (v : Vs) : b4z prog true n_a7f [h.av, vi a, vi table, k.av, v.av] [] (vb (ofP (b9k (h.events.take a) table k v))) [] := by
 refine a5H a7f_is (by simp) (by decide) rfl ?_
 simp -dsimp [b2W, Hs.av]
 refine a1G (b3k hok a v.txn table k) (by simp [Hs.av]) (by simp [Hs.av]) ?_
 simp -dsimp [c9Y, b9k]
 grind
theorem b7N {h : Hs} (hok : h.Ok) {a : Nat} {e : Ev} (ha : h.events[a]? = some e) : b4z prog true n_a0d [h.av, vi a] [] (vb (ofP (c4T (h.events.take a) e))) [] := by
 refine a5H a0d_is (by simp) (by decide) rfl ?_
 have hlen := (List.getElem?_eq_some_iff.1 ha).1
 have hev := hok.events
 simp -dsimp [b7V, Hs.av, ha]
 refine ⟨fun h1 => ⟨fun h2 => ⟨fun h3 g => absurd g.2.2.1 (by omega), fun h3 => ?_⟩, fun h2 g => absurd g.2.1 (by omega)⟩, fun h1 g => absurd g.1 (by omega)⟩
 refine a8H [] [8] a (fun i => ⟨[(7, vi i), (6, vb (ofP (c8S (h.events.take i) e.txn))), (1, vi a), (5, .ptr 5 0), (2, .ptr 2 0)],
     [(5, .box (e.cells.map .iv)), (2, .box [.iv (.lst 1 (tbsC h.tables)), .iv (.lst 22 (evsC h.events)), .iv (.lst 5 (insC h.order))])]⟩)
   (fun i => c9S (h.events.take i) e.txn) ?_ ?_ ?_
 · simp -dsimp
 · simp
 · intro i hi hq
   by_cases hlt : i < a
   · obtain ⟨x, hx⟩ : ∃ x, h.events[i]? = some x := c3Z (by omega)
     have hw := c4Z (n := (i : Int) + 1) (by omega)
     simp -dsimp [a0d_l13, hlt, hx, c7S hx, c2T, c3T, c5S]
     rw [hw]
     have hN : x.txn = e.txn → (x.kind = 5 ∨ x.kind = 6) → ¬c4T (h.events.take a) e := fun g1 g2 g => by
       have := g.2.2.2.1 x (List.mem_of_getElem? (by rw [List.getElem?_take, if_pos hlt]; exact hx)) g1
       omega
     grind
   · have hia : i = a := by omega
     subst hia
     simp -dsimp [a0d_l13, c5S, c6S]
     unfold c4T
     grind
theorem b8N {h : Hs} (hok : h.Ok) (ht : h.TbsOk) {a : Nat} {e : Ev} (ha : h.events[a]? = some e) : b4z prog true n_a2d [h.av, vi a] [] (vb (ofP (c4w h (h.events.take a) e))) [] := by
 refine a5H a2d_is (by simp) (by decide) rfl ?_
 have hlen := (List.getElem?_eq_some_iff.1 ha).1
 have hev := hok.events
 simp -dsimp [b9V, Hs.av, ha]
 refine a1G (b5N ht e.table e.key) (by simp [Hs.av]) (by simp [Hs.av]) ?_
 simp -dsimp
 refine ⟨fun h1 => ?_, fun h1 g => h1 g.1⟩
 have hw := c4Z (n := (c2S (h.events.take a) e.txn e.table e.key : Int) + 1) (by have := c4S (h.events.take a) e.txn e.table e.key; rw [List.length_take] at this; omega)
 obtain ⟨h0, t, htt, hr, hc⟩ := id h1
 constructor
 all_goals
   refine a1G (b3k hok a e.txn e.table e.key) (by simp [Hs.av]) (by simp [Hs.av]) ?_
   simp -dsimp [hw]
   refine ⟨fun g1 g => g1 g.2.1, fun g1 => ⟨h0, ?_⟩⟩
   simp -dsimp [htt]
   refine a1G (b0N t e.row) (by simp [tbAV, c8Z, rowC]) (by simp [tbAV]) ?_
   have hWO : c4w h (h.events.take a) e ↔ e.row = [] ∨ (Fits t e.row ∧ e.row[0]? = some e.key) := by
     unfold c4w
     constructor
     · rintro ⟨_, _, g | ⟨t', g2, g3, g4⟩⟩
       · exact .inl g
       · rw [htt] at g2; cases g2; exact .inr ⟨g3, g4⟩
     · rintro (g | ⟨g3, g4⟩)
       · exact ⟨h1, g1, .inl g⟩
       · exact ⟨h1, g1, .inr ⟨t, htt, g3, g4⟩⟩
   by_cases hrow : e.row = []
   · simp -dsimp [hWO, hrow]
   · obtain ⟨v, hv⟩ : ∃ v, e.row[0]? = some v := c3Z (List.length_pos_iff.2 hrow)
     simp -dsimp [hrow]
     refine ⟨fun g3 => ?_, fun g3 g => ?_⟩
     · simp -dsimp [hv, hWO, hrow, g3, c9Y, Vl.eq_iff]
       try grind
     · exact g3 ((hWO.1 g).resolve_left hrow).1
theorem b9N {h : Hs} (hok : h.Ok) (ht : h.TbsOk) {a : Nat} {e : Ev} (ha : h.events[a]? = some e) : b4z prog true n_a1d [h.av, vi a] [] (vb (ofP (c5w h (h.events.take a) e))) [] := by
 refine a5H a1d_is (by simp) (by decide) rfl ?_
 have hlen := (List.getElem?_eq_some_iff.1 ha).1
 have hev := hok.events
 simp -dsimp [b8V, Hs.av, ha]
 refine a1G (b5N ht e.table e.key) (by simp [Hs.av]) (by simp [Hs.av]) ?_
 simp -dsimp
 refine ⟨fun h1 g => h1 g.1, fun h1 => ?_⟩
 refine a1G (b3k hok a e.txn e.table e.key) (by simp [Hs.av]) (by simp [Hs.av]) ?_
 simp -dsimp
 have hRO : c5w h (h.events.take a) e ↔ if 0 < c2S (h.events.take a) e.txn e.table e.key then e.frm.txn = e.txn ∧ e.frm.n = c2S (h.events.take a) e.txn e.table e.key
     else (e.frm.txn = 0 ∧ e.frm.n = 0) ∨ b9k (h.events.take a) e.table e.key e.frm := by
   unfold c5w
   split <;> simp [h1, Vs.eq_iff]
 refine ⟨fun h2 => ?_, fun h2 => ?_⟩
 · rw [c9Y, hRO, if_pos h2]; simp
 · rw [if_neg (by omega)] at hRO
   constructor
   · intro h3
     refine a1G (b6N hok a e.table e.key e.frm) (by simp [Hs.av]) (by simp [Hs.av]) ?_
     simp -dsimp [c5S, hRO]
     grind
   · simp [hRO]
     try grind
set_option maxHeartbeats 4000000 in
theorem b0O {h : Hs} (hok : h.Ok) (ht : h.TbsOk) {a : Nat} {e : Ev} (ha : h.events[a]? = some e) : b4z prog true n_a3d [h.av, vi a] [] (vb (ofP (c8w h (h.events.take a) e))) [] := by
 refine a5H a3d_is (by simp) (by decide) rfl ?_
 have hlen := (List.getElem?_eq_some_iff.1 ha).1
 have hev := hok.events
 have heok := hok.ev e (List.mem_of_getElem? ha)
 simp -dsimp [b0W, Hs.av, ha]
 refine ⟨fun h0 => ⟨fun h1 => ⟨h0, ?_⟩, fun h1 => ?_⟩, fun h0 g => absurd g.1.1 (by omega)⟩
 · obtain ⟨t, htt⟩ : ∃ t, h.tables[e.table.toNat]? = some t := c3Z (by omega)
   simp -dsimp [htt]
   refine a1G (b4N t heok.pred) (by simp [tbAV, Pd.av]) (by simp [tbAV, Pd.av]) ?_
   simp -dsimp
   refine ⟨fun h2 g => ?_, fun h2 => ?_⟩
   · obtain ⟨⟨_, t', g1, g2⟩, _⟩ := g
     rw [htt] at g1; cases g1; exact h2 g2
   · refine a8H [] [7] e.refs.length (fun i => ⟨[(6, vi i), (1, vi a), (2, .ptr 2 0), (5, .ptr 5 0)],
         [(5, .box (e.cells.map .iv)), (2, .box [.iv (.lst 1 (tbsC h.tables)), .iv (.lst 22 (evsC h.events)), .iv (.lst 5 (insC h.order))])]⟩)
       (fun i => Upto i (c6w h (h.events.take a) e)) ?_ ?_ ?_
     · simp -dsimp
     · simp
     · intro i hi hq
       simp -dsimp [a3d_l13]
       refine ⟨fun hlt => ?_, fun hge => ?_⟩
       · obtain ⟨q, hqi⟩ := c3Z hlt
         have hre := heok.refs
         have hw := c4Z (n := (i : Int) + 1) (by omega)
         have hw1 := c4Z (n := (i : Int) - 1) (by omega)
         have hno : ¬c6w h (h.events.take a) e i → ¬c8w h (h.events.take a) e := fun g1 g => g1 (g.2.1 i hlt)
         have hat : c6w h (h.events.take a) e i ↔ b8k h e.table q.key ∧ b9k (h.events.take a) e.table q.key q.frm ∧ (∀ p, 0 < i → e.refs[i - 1]? = some p → p.key.cmp q.key < 0) := by
           unfold c6w; rw [hqi]
           exact ⟨fun g => g q rfl, fun g r hr => by cases hr; exact g⟩
         simp -dsimp [hqi, Rf.cells_eq q]
         refine a1G (b5N ht e.table q.key) (by simp [Hs.av]) (by simp [Hs.av]) ?_
         simp -dsimp
         refine ⟨fun k1 => ?_, fun k1 => hno fun g => k1 (hat.1 g).1⟩
         refine a1G (b6N hok a e.table q.key q.frm) (by simp [Hs.av]) (by simp [Hs.av]) ?_
         simp -dsimp
         by_cases k2 : b9k (h.events.take a) e.table q.key q.frm
         · by_cases hi0 : 0 < i
           · obtain ⟨p, hp⟩ : ∃ p, e.refs[i - 1]? = some p := c3Z (by omega)
             have e1 : ((i : Int) - 1).toNat = i - 1 := by omega
             have e2 : (0 : Int) ≤ (i : Int) - 1 := by omega
             simp -dsimp [k2, hi0, hw1, e1, e2, hp, Rf.cells_eq p]
             refine ⟨⟨by omega, a1G (b9n p.key q.key (heok.rkey p (List.mem_of_getElem? hp))) (by simp) (by simp) ?_⟩, fun g => absurd g (by omega)⟩
             simp -dsimp [hw]
             refine ⟨fun k3 => hno fun g => absurd ((hat.1 g).2.2 p hi0 hp) (by omega), fun k3 => ⟨hlt, hq.succ (hat.2 ⟨k1, k2, fun p' _ hp' => by rw [hp] at hp'; cases hp'; exact k3⟩)⟩⟩
           · simp -dsimp [k2, hi0, hw]
             exact fun _ => ⟨hlt, hq.succ (hat.2 ⟨k1, k2, fun p h => absurd h hi0⟩)⟩
         · simp -dsimp [k2]
           exact hno fun g => k2 (hat.1 g).2.1
       · have hall : Upto e.refs.length (c6w h (h.events.take a) e) := fun j hj => hq j (by omega)
         refine a8H [] [10, 11] a (fun i => ⟨[(9, vi i), (1, vi a), (2, .ptr 2 0), (5, .ptr 5 0)],
             [(5, .box (e.cells.map .iv)), (2, .box [.iv (.lst 1 (tbsC h.tables)), .iv (.lst 22 (evsC h.events)), .iv (.lst 5 (insC h.order))])]⟩)
           (fun i => ∀ x, x ∈ h.events.take i → c7w (h.events.take a) e x) ?_ ?_ ?_
         · simp -dsimp
         · simp
         · intro j hj hs
           simp -dsimp [a3d_l28]
           refine ⟨fun hjlt => ?_, fun hjge => ?_⟩
           · obtain ⟨x, hx⟩ : ∃ x, h.events[j]? = some x := c3Z (by omega)
             have hwj := c4Z (n := (j : Int) + 1) (by omega)
             have hnext : c7w (h.events.take a) e x → ∀ y, y ∈ h.events.take (j + 1) → c7w (h.events.take a) e y := fun g y hy => by
               rw [c7S hx] at hy
               rcases List.mem_append.1 hy with hy | hy
               · exact hs y hy
               · simp only [List.mem_singleton] at hy; subst hy; exact g
             by_cases c1 : x.kind = 3
             · by_cases c2 : x.txn = e.txn
               · by_cases c3 : x.table = e.table
                 · simp -dsimp [hx, c1, c2, c3]
                   refine ⟨⟨?_, ?_⟩, ?_, ?_, ?_⟩
                   all_goals
                     refine a1G (b3k hok a e.txn e.table x.key) (by simp [Hs.av]) (by simp [Hs.av]) ?_
                     simp -dsimp
                   all_goals
                     refine a8H [] [] e.refs.length (fun k => ⟨[(13, vi k), (12, vb (ofP (c9w (e.refs.take k) x.key ⟨e.txn, c2S (h.events.take a) e.txn e.table x.key⟩))), (9, vi j), (1, vi a), (2, .ptr 2 0), (5, .ptr 5 0), (10, .ptr 10 0), (11, .ptr 11 0)],
                         [(11, .box [.iv (ci e.txn), .iv (ci (c2S (h.events.take a) e.txn e.table x.key))]), (10, .box (x.cells.map .iv)), (5, .box (e.cells.map .iv)), (2, .box [.iv (.lst 1 (tbsC h.tables)), .iv (.lst 22 (evsC h.events)), .iv (.lst 5 (insC h.order))])]⟩)
                       (fun _ => True) ?_ trivial ?_
                     · simp -dsimp
                     · intro k hk _
                       simp -dsimp [a3d_l24]
                       refine ⟨fun hklt => ?_, fun hkge => ?_⟩
                       · obtain ⟨q, hqk⟩ := c3Z hklt
                         have hrl := heok.refs
                         have hwk := c4Z (n := (k : Int) + 1) (by omega)
                         simp -dsimp [hqk, Rf.cells_eq q, c7S hqk, c1x, c9Y, hwk]
                         grind
                       · rw [List.take_of_length_le hkge]
                         simp -dsimp [hwj]
                         refine ⟨fun g g2 => ?_, fun g => ⟨hjlt, hnext fun _ _ _ => ?_⟩⟩
                         · exact g (by obtain ⟨r, g3, g4, g5⟩ := g2.2.2 x (List.mem_of_getElem? (by rw [List.getElem?_take, if_pos hjlt]; exact hx)) c1 c2 c3; exact ⟨r, g3, g4, g5⟩)
                         · obtain ⟨r, g3, g4, g5⟩ := g; exact ⟨r, g3, g4, g5⟩
                 · simp -dsimp [hx, c1, c2, c3, hwj]
                   exact ⟨hjlt, hnext fun _ _ g => absurd g c3⟩
               · simp -dsimp [hx, c1, c2, hwj]
                 exact ⟨hjlt, hnext fun _ g => absurd g c2⟩
             · simp -dsimp [hx, c1, hwj]
               exact ⟨hjlt, hnext fun g => absurd g c1⟩
           · have hja : j = a := by omega
             subst hja
             exact ⟨⟨h0, t, htt, h2⟩, hall, hs⟩
 · rintro ⟨⟨_, t, g, _⟩, _⟩
   have := (List.getElem?_eq_some_iff.1 g).1
   omega
theorem b1O {h : Hs} (hok : h.Ok) (ht : h.TbsOk) {a : Nat} {e : Ev} (ha : h.events[a]? = some e) : b4z prog true n_a1b [h.av, vi a] [] (vb (ofP (b0x h (h.events.take a) e))) [] := by
 refine a5H a1b_is (by simp) (by decide) rfl ?_
 simp -dsimp [b4V, Hs.av]
 refine a1G (b7N hok ha) (by simp [Hs.av]) (by simp [Hs.av]) ?_
 simp -dsimp
 by_cases h1 : c4T (h.events.take a) e
 · by_cases k2 : e.kind = 2
   · simp -dsimp [ha, h1, k2]
     refine a1G (b9N hok ht ha) (by simp [Hs.av]) (by simp [Hs.av]) ?_
     simp -dsimp [b0x, h1, k2]
   · by_cases k3 : e.kind = 3
     · simp -dsimp [ha, h1, k3]
       refine a1G (b8N hok ht ha) (by simp [Hs.av]) (by simp [Hs.av]) ?_
       simp -dsimp [b0x, h1, k3]
     · by_cases k4 : e.kind = 4
       · simp -dsimp [ha, h1, k4]
         refine a1G (b0O hok ht ha) (by simp [Hs.av]) (by simp [Hs.av]) ?_
         simp -dsimp [b0x, h1, k4]
       · simp -dsimp [ha, h1, k2, k3, k4, b0x]
 · simp -dsimp [ha, h1, b0x]
def NoIns (h : Hs) (e : Ev) (i : Nat) : Prop := Upto i fun j => ∀ o, h.order[j]? = some o → ¬(o.isOf e.table e.key ∧ e.txn ∈ o.txns)
theorem b2O {h : Hs} (hok : h.Ok) {a : Nat} {e : Ev} (ha : h.events[a]? = some e) : b4z prog true n_a2b [h.av, vi a] [] (vb (ofP (b2x h e))) [] := by
 refine a5H a2b_is (by simp) (by decide) rfl ?_
 simp -dsimp [b5V, Hs.av, ha]
 refine a1G (b1x hok e.txn) (by simp [Hs.av]) (by simp [Hs.av]) ?_
 simp -dsimp
 by_cases k3 : e.kind = 3
 · by_cases k5 : b4k h.events e.txn = 5
   · simp -dsimp [k3, k5]
     refine a8H [] [8] h.order.length (fun i => ⟨[(7, vi i), (2, .ptr 2 0), (5, .ptr 5 0)],
         [(5, .box (e.cells.map .iv)), (2, .box [.iv (.lst 1 (tbsC h.tables)), .iv (.lst 22 (evsC h.events)), .iv (.lst 5 (insC h.order))])]⟩)
       (fun i => NoIns h e i) ?_ ?_ ?_
     · simp -dsimp
     · exact c2Z
     · intro i hi hq
       have hol := hok.order
       simp -dsimp [a2b_l16]
       refine ⟨fun hlt => ?_, fun hge => ?_⟩
       · obtain ⟨o, ho⟩ := c3Z hlt
         have hw := c4Z (n := (i : Int) + 1) (by omega)
         have hno : ¬(o.isOf e.table e.key ∧ e.txn ∈ o.txns) → NoIns h e (i + 1) := fun g => Upto.succ hq fun o' ho' => by rw [ho] at ho'; cases ho'; exact g
         by_cases c : o.isOf e.table e.key
         · obtain ⟨c1, c2⟩ := id c
           have hol2 := hok.txns o (List.mem_of_getElem? ho)
           simp -dsimp [ho, Ins.cells_eq o, c1, c2]
           refine a8H [] [] o.txns.length (fun k => ⟨[(9, vi k), (7, vi i), (2, .ptr 2 0), (5, .ptr 5 0), (8, .ptr 8 0)],
               [(8, .box [.iv (ci o.table), .iv (cb o.key.text), .iv (ci o.key.n), .iv (.v (.string o.key.s)), .iv (.lst 1 (c6Z o.txns))]), (5, .box (e.cells.map .iv)), (2, .box [.iv (.lst 1 (tbsC h.tables)), .iv (.lst 22 (evsC h.events)), .iv (.lst 5 (insC h.order))])]⟩)
             (fun k => e.txn ∉ o.txns.take k) ?_ ?_ ?_
           · simp -dsimp [c1, c2]
           · simp
           · intro k hk hn
             simp -dsimp [a2b_l14]
             refine ⟨fun hklt => ?_, fun hkge => ?_⟩
             · obtain ⟨x, hx⟩ := c3Z hklt
               have hwk := c4Z (n := (k : Int) + 1) (by omega)
               simp -dsimp [hx, hwk, c7S hx]
               refine ⟨fun g _ _ => ⟨o, List.mem_of_getElem? ho, c, by rw [← g]; exact List.mem_of_getElem? hx⟩, fun g => ⟨hklt, hn, fun g2 => g g2.symm⟩⟩
             · rw [List.take_of_length_le hkge] at hn
               exact ⟨hlt, hw, hno fun g => hn g.2⟩
         · have c' : ¬(o.table = e.table ∧ o.key.text = e.key.text ∧ o.key.n = e.key.n ∧ o.key.s = e.key.s) := fun g => c ⟨g.1, Vl.eq_iff.2 g.2⟩
           have hU := hno fun g => c g.1
           simp -dsimp [ho, Ins.cells_eq o, hw]
           have hC : ∀ {p : Prop}, (o.table = e.table) → (o.key.text = e.key.text) → (o.key.n = e.key.n) → (o.key.s = e.key.s) → p := fun a1 a2 a3 a4 => (c' ⟨a1, a2, a3, a4⟩).elim
           refine ⟨fun g1 => ⟨fun _ => ⟨hlt, hU⟩, fun g2 g3 g4 => hC g1 g2 g3 g4⟩, fun _ => ⟨hlt, hU⟩⟩
       · intro g
         obtain ⟨o, g1, g2, g3⟩ := g k3 k5
         obtain ⟨j, hj⟩ := List.getElem?_of_mem g1
         exact hq j (by have := (List.getElem?_eq_some_iff.1 hj).1; omega) o hj ⟨g2, g3⟩
   · simp -dsimp [k3, k5, b2x]
 · simp -dsimp [k3, b2x]
set_option maxHeartbeats 1000000 in
theorem b3O {h : Hs} (hok : h.Ok) {a : Nat} {o : Ins} (ha : h.order[a]? = some o) : b4z prog true n_a3b [h.av, vi a] [] (vb (ofP (b3x h a o))) [] := by
 refine a5H a3b_is (by simp) (by decide) rfl ?_
 have hlen := (List.getElem?_eq_some_iff.1 ha).1
 have hol := hok.order
 have hol2 := hok.txns o (List.mem_of_getElem? ha)
 simp -dsimp [b6V, Hs.av, ha, Ins.cells_eq o]
 refine a8H [] [] a (fun i => ⟨[(6, vi i), (1, vi a), (2, .ptr 2 0), (5, .ptr 5 0)],
     [(5, .box [.iv (ci o.table), .iv (cb o.key.text), .iv (ci o.key.n), .iv (.v (.string o.key.s)), .iv (.lst 1 (c6Z o.txns))]), (2, .box [.iv (.lst 1 (tbsC h.tables)), .iv (.lst 22 (evsC h.events)), .iv (.lst 5 (insC h.order))])]⟩)
   (fun i => ∀ x, x ∈ h.order.take i → ¬x.isOf o.table o.key) ?_ ?_ ?_
 · simp -dsimp
 · simp
 · intro i hi hq
   simp -dsimp [a3b_l7]
   refine ⟨fun hlt => ?_, fun hge => ?_⟩
   · obtain ⟨x, hx⟩ : ∃ x, h.order[i]? = some x := c3Z (by omega)
     have hw := c4Z (n := (i : Int) + 1) (by omega)
     simp -dsimp [hx, Ins.cells_eq x, hw]
     have hno : x.isOf o.table o.key → ¬b3x h a o := fun g g2 => g2.1 x (List.mem_of_getElem? (by rw [List.getElem?_take, if_pos hlt]; exact hx)) g
     have hyes : ¬x.isOf o.table o.key → ∀ y, y ∈ h.order.take (i + 1) → ¬y.isOf o.table o.key := fun g y hy => by
       rw [c7S hx] at hy
       rcases List.mem_append.1 hy with hy | hy
       · exact hq y hy
       · simp only [List.mem_singleton] at hy; subst hy; exact g
     refine ⟨fun g1 => ⟨fun g2 g3 g4 => hno ⟨g1, Vl.eq_iff.2 ⟨g2, g3, g4⟩⟩, fun g2 => ⟨hlt, hyes fun g => ?_⟩⟩, fun g1 => ⟨hlt, hyes fun g => g1 g.1⟩⟩
     have g3 := Vl.eq_iff.1 g.2
     exact g2 g3.1 g3.2.1 g3.2.2
   · have hia : i = a := by omega
     subst hia
     refine a8H [] [] o.txns.length (fun k => ⟨[(7, vi k), (2, .ptr 2 0), (5, .ptr 5 0)],
         [(5, .box [.iv (ci o.table), .iv (cb o.key.text), .iv (ci o.key.n), .iv (.v (.string o.key.s)), .iv (.lst 1 (c6Z o.txns))]), (2, .box [.iv (.lst 1 (tbsC h.tables)), .iv (.lst 22 (evsC h.events)), .iv (.lst 5 (insC h.order))])]⟩)
       (fun k => Upto k fun i => ∀ t, o.txns[i]? = some t → b4k h.events t = 5 ∧ c2S h.events t o.table o.key ≠ 0 ∧ t ∉ o.txns.take i) ?_ ?_ ?_
     · simp -dsimp
     · exact c2Z
     · intro k hk hqk
       simp -dsimp [a3b_l20]
       refine ⟨fun hklt => ?_, fun hkge => ?_⟩
       · obtain ⟨t, htx⟩ := c3Z hklt
         have hwk := c4Z (n := (k : Int) + 1) (by omega)
         have hno : ¬(b4k h.events t = 5 ∧ c2S h.events t o.table o.key ≠ 0 ∧ t ∉ o.txns.take k) → ¬b3x h i o := fun g g2 => g (g2.2.1 k hklt t htx)
         have htk : h.events.take h.events.length = h.events := List.take_length
         simp -dsimp [htx]
         refine a1G (b1x hok t) (by simp [Hs.av]) (by simp [Hs.av]) ?_
         simp -dsimp [htx]
         refine ⟨fun g1 => ?_, fun g1 => hno fun g => g1 g.1⟩
         refine a1G (b3k hok h.events.length t o.table o.key) (by simp [Hs.av]) (by simp [Hs.av]) ?_
         simp -dsimp [htx, htk]
         refine ⟨fun g2 => hno fun g => g.2.1 g2, fun g2 => ?_⟩
         refine a8H [] [] k (fun j => ⟨[(9, vi j), (7, vi k), (2, .ptr 2 0), (5, .ptr 5 0)],
             [(5, .box [.iv (ci o.table), .iv (cb o.key.text), .iv (ci o.key.n), .iv (.v (.string o.key.s)), .iv (.lst 1 (c6Z o.txns))]), (2, .box [.iv (.lst 1 (tbsC h.tables)), .iv (.lst 22 (evsC h.events)), .iv (.lst 5 (insC h.order))])]⟩)
           (fun j => t ∉ o.txns.take j) ?_ ?_ ?_
         · simp -dsimp
         · simp
         · intro j hj hnj
           simp -dsimp [a3b_l18]
           refine ⟨fun hjlt => ?_, fun hjge => ?_⟩
           · obtain ⟨u, hu⟩ : ∃ u, o.txns[j]? = some u := c3Z (by omega)
             have hwj := c4Z (n := (j : Int) + 1) (by omega)
             simp -dsimp [hu, htx, hwj, c7S hu]
             refine ⟨fun g => hno fun g3 => g3.2.2 ?_, fun g => ⟨hjlt, hnj, fun g3 => g g3.symm⟩⟩
             rw [← g]
             exact List.mem_of_getElem? (by rw [List.getElem?_take, if_pos hjlt]; exact hu)
           · have hjk : j = k := by omega
             subst hjk
             simp -dsimp [hwk]
             exact ⟨hklt, hqk.succ fun t' ht' => by rw [htx] at ht'; cases ht'; exact ⟨g1, g2, hnj⟩⟩
       · have hall : Upto o.txns.length fun i => ∀ t, o.txns[i]? = some t → b4k h.events t = 5 ∧ c2S h.events t o.table o.key ≠ 0 ∧ t ∉ o.txns.take i := fun j hj => hqk j (by omega)
         rw [c9Y, decide_eq_true_eq]
         exact ⟨fun g => ⟨hq, hall, g⟩, fun g => g.2.2⟩
theorem b4O {h : Hs} (hok : h.Ok) : b4z prog true n_a0b [h.av] [] (vb (ofP (b4x h))) [] := by
 refine a5H a0b_is (by simp) (by decide) rfl ?_
 by_cases hn : 1 ≤ h.tables.length ∧ h.tables.length ≤ 3
 · have n1 : ¬(h.tables.length : Int) < 1 := by omega
   have n2 : ¬(3 : Int) < h.tables.length := by omega
   simp -dsimp [b3V, Hs.av, n1, n2]
   refine a8H [] [] h.tables.length (fun i => ⟨[(3, vi i), (1, .ptr 1 0)], [(1, .box [.iv (.lst 1 (tbsC h.tables)), .iv (.lst 22 (evsC h.events)), .iv (.lst 5 (insC h.order))])]⟩)
     (fun i => Upto i fun j => ∀ t, h.tables[j]? = some t → TbOk t) ?_ ?_ ?_
   · simp -dsimp
   · exact c2Z
   · intro i hi hq
     simp -dsimp [a0b_l9]
     refine ⟨fun hlt => ?_, fun hge => ?_⟩
     · obtain ⟨t, ht⟩ := c3Z hlt
       have hw := c4Z (n := (i : Int) + 1) (by omega)
       simp -dsimp [ht]
       refine a1G (b9M t) (by simp [tbAV]) (by simp [tbAV]) ?_
       simp -dsimp [hw]
       refine ⟨fun g g2 => g (g2.2 t (List.mem_of_getElem? ht)), fun g => ⟨hlt, hq.succ fun t' ht' => by rw [ht] at ht'; cases ht'; exact g⟩⟩
     · refine ⟨hn, fun t ht => ?_⟩
       obtain ⟨j, hj⟩ := List.getElem?_of_mem ht
       exact hq j (by have := (List.getElem?_eq_some_iff.1 hj).1; omega) t hj
 · have : ¬b4x h := fun g => hn g.1
   by_cases n1 : (h.tables.length : Int) < 1
   · simp -dsimp [b3V, Hs.av, n1, this]
   · have n2 : (3 : Int) < h.tables.length := by omega
     simp -dsimp [b3V, Hs.av, n1, n2, this]
theorem b5O {h : Hs} (hok : h.Ok) : b4z prog true n_a1a [h.av] [] (vb (ofP (b5x h))) [] := by
 refine a5H a1a_is (by simp) (by decide) rfl ?_
 simp -dsimp [a1a, Hs.av]
 refine a1G (b4O hok) (by simp [Hs.av]) (by simp [Hs.av]) ?_
 simp -dsimp
 refine ⟨fun g1 g2 => g1 g2.1, fun hT => ?_⟩
 refine a8H [] [] h.events.length (fun i => ⟨[(4, vi i), (1, .ptr 1 0)], [(1, .box [.iv (.lst 1 (tbsC h.tables)), .iv (.lst 22 (evsC h.events)), .iv (.lst 5 (insC h.order))])]⟩)
   (fun i => Upto i fun i => ∀ e, h.events[i]? = some e → b0x h (h.events.take i) e ∧ b2x h e) ?_ ?_ ?_
 · simp -dsimp
 · exact c2Z
 · intro i hi hq
   have hev := hok.events
   simp -dsimp [a1a_l11]
   refine ⟨fun hlt => ?_, fun hge => ?_⟩
   · obtain ⟨e, he⟩ := c3Z hlt
     have hw := c4Z (n := (i : Int) + 1) (by omega)
     refine a1G (b1O hok hT.2 he) (by simp [Hs.av]) (by simp [Hs.av]) ?_
     simp -dsimp
     refine a1G (b2O hok he) (by simp [Hs.av]) (by simp [Hs.av]) ?_
     simp -dsimp [hw]
     refine ⟨fun g1 => ⟨fun g2 g3 => g2 (g3.2.1 i hlt e he).2, fun g2 => ⟨hlt, hq.succ fun e' he' => by rw [he] at he'; cases he'; exact ⟨g1, g2⟩⟩⟩, fun g1 g3 => g1 (g3.2.1 i hlt e he).1⟩
   · refine a8H [] [] h.order.length (fun i => ⟨[(7, vi i), (1, .ptr 1 0)], [(1, .box [.iv (.lst 1 (tbsC h.tables)), .iv (.lst 22 (evsC h.events)), .iv (.lst 5 (insC h.order))])]⟩)
       (fun i => Upto i fun i => ∀ o, h.order[i]? = some o → b3x h i o) ?_ ?_ ?_
     · simp -dsimp
     · exact c2Z
     · intro j hj hqj
       have hol := hok.order
       simp -dsimp [a1a_l18]
       refine ⟨fun hjlt => ?_, fun hjge => ?_⟩
       · obtain ⟨o, ho⟩ := c3Z hjlt
         have hwj := c4Z (n := (j : Int) + 1) (by omega)
         refine a1G (b3O hok ho) (by simp [Hs.av]) (by simp [Hs.av]) ?_
         simp -dsimp [hwj]
         exact ⟨fun g1 g2 => g1 (g2.2.2 j hjlt o ho), fun g => ⟨hjlt, hqj.succ fun o' ho' => by rw [ho] at ho'; cases ho'; exact g⟩⟩
       · exact ⟨hT, fun k hk => hq k (by omega), fun k hk => hqj k (by omega)⟩
end Go.Rt
end

section
namespace Go.Rt
open Go.Vm
end Go.Rt
end

section
namespace Go.Rt
open Go.Vm
set_option maxHeartbeats 4000000 in
theorem c7C (a b : List Eg) (hl : a.length < 2 ^ 62) : b4z prog true n_a9i [.iv (b7v a), .iv (b7v b)] [] (vb (decide (a = b))) [] := by
 refine a5H a9i_is (by simp) (by decide) rfl ?_
 by_cases hlen : a.length = b.length
 · have hlen' : (a.length : Int) = b.length := by omega
   simp -dsimp [a9i, b7v, hlen']
   refine a8H [] [] b.length (fun i => ⟨[(5, vi i), (0, .iv (.lst 8 (egsC a))), (1, .iv (.lst 8 (egsC b)))], []⟩) (fun i => a.take i = b.take i) ?_ ?_ ?_
   · simp -dsimp
   · simp
   · intro i hi hq
     simp -dsimp [a9i_l8, hlen']
     refine ⟨fun hlt => ?_, fun hge => ?_⟩
     · obtain ⟨x, hx⟩ : ∃ x, a[i]? = some x := c3Z (by omega)
       obtain ⟨y, hy⟩ := c3Z hlt
       have hw := c4Z (n := (i : Int) + 1) (by omega)
       have htn : ∀ {l : List Eg} {z : Eg}, l[i]? = some z → l.take (i + 1) = l.take i ++ [z] := fun h => by rw [List.take_add_one, h]; rfl
       simp -dsimp [hx, hy, hw, Eg.cells, c2d]
       refine ⟨fun g => ?_, fun g1 g2 g3 g4 g5 g6 g7 g8 => ⟨hlt, ?_⟩⟩
       · rintro rfl
         rw [hx] at hy; cases hy; simp at g
       · rw [htn hx, htn hy, hq, Eg.eq_iff.2 ⟨g1, g2, g3, g4, Vl.eq_iff.2 ⟨g5, g6, g7⟩, g8⟩]
     · rw [List.take_of_length_le (by omega), List.take_of_length_le hge] at hq
       simpa using hq
 · have hne : ¬a = b := fun g => hlen (by rw [g])
   have hlen' : ¬(a.length : Int) = b.length := by omega
   simp -dsimp [a9i, b7v, hlen', hne]
@[simp] theorem c8C (l : List Eg) : (egsC l).take l.length = egsC l := List.take_of_length_le (by simp)
def exR (t : Int) (v : Vs) : Ev := ⟨t, 2, 0, 0, k5, v, 0, [], noPd, [], false⟩
def exG : Hs := ⟨[[false]], [exB 1 1, exW 1 1 [k5], exC 1, exB 2 1, exR 2 ⟨1, 1⟩, exC 2, exB 3 1, exW 3 1 [], exC 3], [⟨0, k5, [1, 3]⟩]⟩
theorem c9C : b5x exG := by decide
theorem c0D : a4L exG = [⟨1, 2, 2, 0, k5, false⟩, ⟨1, 3, 1, 0, k5, false⟩, ⟨2, 3, 4, 0, k5, false⟩] := by
 unfold a4L
 rw [if_pos c9C]
 decide
theorem c1D {h : Hs} {e : Ev} (h1 : e.row.length ≤ 1) (h2 : e.refs = []) (h3 : e.pred = noPd) (h4 : e.key.s = ⟨#[]⟩) : e.Ok :=
 ⟨by omega, by rw [h2]; decide, by rw [h3]; exact c2y, by rw [h4]; decide, fun r hr => by rw [h2] at hr; cases hr⟩
theorem c2D : exG.Ok := by
 refine ⟨by decide, by decide, by decide, fun e he => ?_, fun o ho => ?_, fun t ht => ?_, fun o ho => ?_⟩
 · simp only [exG, List.mem_cons, List.not_mem_nil, or_false] at he
   rcases he with rfl | rfl | rfl | rfl | rfl | rfl | rfl | rfl | rfl <;> exact c1D (h := exG) (by decide) rfl rfl rfl
 · simp only [exG, List.mem_singleton] at ho; subst ho; decide
 · simp only [exG, List.mem_singleton] at ht; subst ht; decide
 · simp only [exG, List.mem_singleton] at ho; subst ho; decide
theorem c3D : exG.Rg := by
 intro e he
 simp only [exG, List.mem_cons, List.not_mem_nil, or_false] at he
 rcases he with rfl | rfl | rfl | rfl | rfl | rfl | rfl | rfl | rfl <;> exact ⟨by decide, by decide⟩
theorem c4D : exG.Mid := ⟨by decide, by decide⟩
theorem c5D : exG.av = .agg [.iv (.lst 1 [[.lst 1 [[cb false]]]]), .iv (.lst 22 [(exB 1 1).cells, (exW 1 1 [k5]).cells, (exC 1).cells, (exB 2 1).cells, (exR 2 ⟨1, 1⟩).cells, (exC 2).cells, (exB 3 1).cells, (exW 3 1 []).cells, (exC 3).cells]), .iv (.lst 5 [[ci 0, cb false, ci 5, .v (.string ⟨#[]⟩), .lst 1 [[ci 1], [ci 3]]]])] := rfl
theorem exR_c (t : Int) (v : Vs) : (exR t v).cells = [ci t, ci 2, ci 0, ci 0, cb false, ci 5, .v (.string ⟨#[]⟩), ci v.txn, ci v.n, ci 0, .lst 3 [], ci 0, ci 0, cb false, ci 0, .v (.string ⟨#[]⟩), cb false, ci 0, .v (.string ⟨#[]⟩), .lst 9 [], .lst 5 [], cb false] := rfl
theorem c6D (d : Nat) : b4z prog true n_a0j [exG.av] [] (.sl d 8 0 3) [(d, .list 8 (egsC [⟨1, 2, 2, 0, k5, false⟩, ⟨1, 3, 1, 0, k5, false⟩, ⟨2, 3, 4, 0, k5, false⟩]))] := by
 have := b0r c2D c3D c4D d
 rw [c0D] at this
 exact this
set_option maxHeartbeats 8000000 in
theorem c7D : b4z prog true n_a8i [] [] (vb true) [] := by
 refine a5H a8i_is (by simp) (by decide) rfl ?_
 simp -dsimp [c7m]
 refine d2q (c6D 38) (by decide) (by rw [c5D]; simp [exB_c, exC_c, exW_c, exR_c, rowC, k5]) (by simp [c5D]) ?_
 simp -dsimp [egsC, Eg.cells, k5]
end Go.Rt
end

section
namespace Go.Rt
open Go.Vm
theorem c4n {h : Hs} (hs : SmallP h) : h.Mid := ⟨by have := hs.events; omega, by have := hs.order; omega⟩
end Go.Rt
end

section
namespace Go.Rt
open Go.Vm
section
variable {h : Hs}
def wwB (k : Vl) (m : Eg) : Bool := decide (m.kind = 1 ∧ m.table = 0 ∧ m.key = k)
theorem b1L {e : Ev} {m : Eg} (hm : m ∈ evE h e) : m.kind ≠ 1 := by
 unfold evE at hm
 split at hm
 · split at hm
   · unfold a8K at hm
     rw [List.mem_append] at hm
     rcases hm with hm | hm
     · unfold rd1 at hm
       split at hm
       · rw [List.mem_singleton] at hm; subst hm; simp
       · cases hm
     · unfold rd2 at hm
       split at hm
       · rw [List.mem_singleton] at hm; subst hm; simp
       · cases hm
   · split at hm
     · unfold a2L at hm
       rw [List.mem_flatMap] at hm
       obtain ⟨o, ho, hm⟩ := hm
       unfold a1L at hm
       split at hm
       · unfold a0L at hm
         split at hm
         · cases hm
         · rw [mem_range] at hm
           obtain ⟨j, hj, hm⟩ := hm
           unfold a9K at hm
           split at hm
           · rw [List.mem_singleton] at hm
             split at hm <;> (subst hm; simp)
           · cases hm
       · cases hm
     · cases hm
 · cases hm
def b2L (k : Vl) (l : List Int) : List Eg := (l.zip l.tail).map fun p => ⟨p.1, p.2, 1, 0, k, false⟩
theorem b3L {α : Type} {l : List α} (hn : l.Nodup) : (l.zip l.tail).Nodup := by
 rw [List.Nodup, List.pairwise_iff_getElem]
 intro i j hi hj hij he
 rw [List.getElem_zip, List.getElem_zip] at he
 have h1 := (Prod.mk.injEq _ _ _ _ ▸ he).1
 rw [List.length_zip] at hi hj
 have := (List.getElem_inj hn).1 h1
 omega
theorem b4L {k : Vl} (hw : b5x h) (m : Eg) : m ∈ (a4L h).filter (wwB k) ↔ m ∈ b2L k (tsB h 0 k) := by
 rw [List.mem_filter, a5L hw]
 unfold wwB a3L
 rw [decide_eq_true_eq, List.mem_append]
 constructor
 · rintro ⟨⟨hm, hne⟩, k1, t0, hk⟩
   rcases hm with hm | hm
   · rw [List.mem_flatMap] at hm
     obtain ⟨o, ho, hm⟩ := hm
     have hm0 := hm
     obtain ⟨i, a, b, ha, hb, rfl⟩ := a7L.1 hm
     simp only at t0 hk
     have := c9y hw ho
     rw [t0, hk] at this
     unfold b2L
     rw [this]
     unfold wwE at hm0
     rw [t0, hk] at hm0
     rw [t0, hk]
     exact hm0
   · rw [List.mem_flatMap] at hm
     obtain ⟨e, _, hm⟩ := hm
     exact (b1L hm k1).elim
 · intro hm
   have hnd := a3A hw (table := 0) (k := k)
   unfold b2L at hm
   obtain ⟨p, hp, rfl⟩ := List.mem_map.1 hm
   unfold tsB at hp hnd
   cases ho : c4p (Ins.isO 0 k) h.order with
   | none => rw [ho] at hp; simp at hp
   | some o =>
     obtain ⟨h1, h2⟩ := c9p ho
     obtain ⟨g1, g2⟩ := c2g.1 h2
     rw [ho] at hp hnd
     simp only at hp hnd
     refine ⟨⟨.inl ?_, ?_⟩, rfl, rfl, rfl⟩
     · rw [List.mem_flatMap]
       refine ⟨o, h1, ?_⟩
       unfold wwE
       rw [g1, g2]
       exact List.mem_map.2 ⟨p, hp, rfl⟩
     · obtain ⟨i, hi⟩ := List.getElem?_of_mem hp
       rw [List.getElem?_zip_eq_some, List.getElem?_tail] at hi
       obtain ⟨hi1, e1⟩ := List.getElem?_eq_some_iff.1 hi.1
       obtain ⟨hi2, e2⟩ := List.getElem?_eq_some_iff.1 hi.2
       intro he
       simp only at he
       rw [← e1, ← e2] at he
       have := (List.getElem_inj hnd).1 he
       omega
theorem b5L (hw : b5x h) (k : Vl) : ((a4L h).filter (wwB k)).length = (chaB h.events h.order 0 k).length - 2 := by
 have h1 : ((a4L h).filter (wwB k)).Nodup := (c0A h).nodup.filter _
 have h2 : (b2L k (tsB h 0 k)).Nodup := by
   unfold b2L
   refine List.Pairwise.map _ (fun a b hab he => hab ?_) (b3L (a3A hw))
   rw [Eg.eq_iff] at he
   exact Prod.ext he.1 he.2.1
 rw [((List.perm_ext_iff_of_nodup h1 h2).2 (b4L hw)).length_eq, a2A hw]
 unfold b2L
 simp
theorem b6L (hw : b5x h) {k : Vl} {m : Eg} (hm : m ∈ a4L h) (hb : wwB k m = true) : ∃ (q : Nat) (u v : Vs), (chaB h.events h.order 0 k)[q + 1]? = some u ∧ (chaB h.events h.order 0 k)[q + 2]? = some v ∧ u.txn = m.frm ∧ v.txn = m.to := by
 have := (b4L hw (k := k) m).1 (List.mem_filter.2 ⟨hm, hb⟩)
 unfold b2L at this
 obtain ⟨p, hp, rfl⟩ := List.mem_map.1 this
 obtain ⟨i, hi⟩ := List.getElem?_of_mem hp
 rw [List.getElem?_zip_eq_some, List.getElem?_tail] at hi
 rw [a2A hw]
 refine ⟨i, _, _, by rw [List.getElem?_cons_succ, List.getElem?_map, hi.1]; rfl, by rw [List.getElem?_cons_succ, List.getElem?_map, hi.2]; rfl, rfl, rfl⟩
end
end Go.Rt
end

section
namespace Go.Rt
open Go.Vm
theorem c8r {P : Program} {f : Nat} {t : TypeId} {cs : List IV} {k : IntKind} (hu : P.underlying t = some (.int k)) (h : WfT P f t cs) : ∃ n, cs = [.v (.int k n)] ∧ (Lit.int k n).wf = true := by
 cases f with
 | zero => exact h.elim
 | succ f => simpa only [WfT, hu] using h
theorem c9r {P : Program} {f : Nat} {t : TypeId} {cs : List IV} (hu : P.underlying t = some .bool) (h : WfT P f t cs) : ∃ b, cs = [.v (.bool b)] := by
 cases f with
 | zero => exact h.elim
 | succ f => simpa only [WfT, hu] using h
theorem c0s {P : Program} {f : Nat} {t : TypeId} {cs : List IV} (hu : P.underlying t = some .string) (h : WfT P f t cs) : ∃ s : ByteArray, cs = [.v (.string s)] ∧ s.size < 2 ^ 63 := by
 cases f with
 | zero => exact h.elim
 | succ f =>
   simp only [WfT, hu] at h
   obtain ⟨s, h1, h2⟩ := h
   refine ⟨s, h1, Nat.lt_of_le_of_lt h2 (by decide)⟩
theorem c1s {P : Program} {f : Nat} {t e n : Nat} {cs : List IV} (hu : P.underlying t = some (.slice e)) (hn : P.cellsOf e = n) (h : WfT P f t cs) : ∃ f', f = f' + 1 ∧ ∃ xs, cs = [.lst n xs] ∧ xs.length < 2 ^ 63 ∧ ∀ x ∈ xs, WfT P f' e x := by
 cases f with
 | zero => exact h.elim
 | succ f =>
   simp only [WfT, hu, hn] at h
   obtain ⟨xs, h1, h2, h3⟩ := h
   exact ⟨f, rfl, xs, h1, Nat.lt_of_le_of_lt h2 (by decide), h3⟩
def fieldsOf (P : Program) (t : TypeId) : Option (List (Nat × Nat × Nat)) := match P.underlying t with
 | some (.struct fs) => some (fs.toList.map fun f => (f.type, f.offset, P.cellsOf f.type))
 | _ => none
theorem c2s {P : Program} {f : Nat} {t n : Nat} {l : List (Nat × Nat × Nat)} {cs : List IV} (hu : fieldsOf P t = some l) (hn : P.cellsOf t = n) (h : WfT P f t cs) :
   ∃ f', f = f' + 1 ∧ cs.length = n ∧ ∀ p ∈ l, WfT P f' p.1 ((cs.drop p.2.1).take p.2.2) := by
 unfold fieldsOf at hu
 split at hu
 · rename_i fs hu'
   cases f with
   | zero => exact h.elim
   | succ f =>
     simp only [WfT, hu', hn] at h
     refine ⟨f, rfl, h.1, fun p hp => ?_⟩
     cases hu
     obtain ⟨fld, h1, rfl⟩ := List.mem_map.1 hp
     exact h.2 fld h1
 · cases hu
theorem c3s {α : Type} (cs : List α) (o n : Nat) {x : List α} (h : (cs.drop o).take n = x) : cs.drop o = x ++ cs.drop (o + n) := by
 rw [← h, ← List.drop_drop, List.take_append_drop]
theorem c4s {α : Type} {cs : List α} {o : Nat} (h : cs.length = o) : cs.drop o = [] := List.drop_eq_nil_of_le (by omega)
theorem c5s {α β : Type} {f : α → β} {Q : α → Prop} : ∀ {xs : List β}, (∀ x, x ∈ xs → ∃ p, Q p ∧ x = f p) → ∃ ps : List α, xs = ps.map f ∧ ∀ p, p ∈ ps → Q p
 | [], _ => ⟨[], rfl, fun _ h => by cases h⟩
 | x :: r, h => by
   obtain ⟨p, h1, rfl⟩ := h x List.mem_cons_self
   obtain ⟨ps, rfl, h3⟩ := c5s (xs := r) fun y hy => h y (List.mem_cons_of_mem _ hy)
   exact ⟨p :: ps, rfl, fun q hq => by
     rcases List.mem_cons.1 hq with rfl | hq
     · exact h1
     · exact h3 q hq⟩
section
theorem u4 : prog.underlying 4 = some .bool := by kernel_rfl
theorem u2 : prog.underlying 2 = some (.int .i64) := by kernel_rfl
theorem u3 : prog.underlying 3 = some (.int .i64) := by kernel_rfl
theorem u9 : prog.underlying 9 = some .string := by kernel_rfl
theorem c6s {f : Nat} {cs : List IV} (h : WfT prog f 33 cs) : ∃ v : Vl, cs = v.cells ∧ v.s.size < 2 ^ 63 := by
 obtain ⟨f, rfl, hl, hf⟩ := c2s (P := prog) (t := 33) (n := 3) (l := [(4, 0, 1), (2, 1, 1), (9, 2, 1)]) (by kernel_rfl) (by kernel_rfl) h
 obtain ⟨b, h1⟩ := c9r u4 (hf (4, 0, 1) (by decide))
 obtain ⟨n, h2, _⟩ := c8r u2 (hf (2, 1, 1) (by decide))
 obtain ⟨s, h3, h4⟩ := c0s u9 (hf (9, 2, 1) (by decide))
 refine ⟨⟨b, n, s⟩, ?_, h4⟩
 have e := c3s cs 0 1 h1
 rw [c3s cs 1 1 h2, c3s cs 2 1 h3, c4s hl] at e
 exact e
theorem c7s {f : Nat} {cs : List IV} (h : WfT prog f 39 cs) : ∃ v : Vs, cs = v.cells := by
 obtain ⟨f, rfl, hl, hf⟩ := c2s (P := prog) (t := 39) (n := 2) (l := [(3, 0, 1), (3, 1, 1)]) (by kernel_rfl) (by kernel_rfl) h
 obtain ⟨b, h1, _⟩ := c8r u3 (hf (3, 0, 1) (by decide))
 obtain ⟨n, h2, _⟩ := c8r u3 (hf (3, 1, 1) (by decide))
 refine ⟨⟨b, n⟩, ?_⟩
 have e := c3s cs 0 1 h1
 rw [c3s cs 1 1 h2, c4s hl] at e
 exact e
theorem c8s {f : Nat} {cs : List IV} (h : WfT prog f 42 cs) : ∃ r : List Vl, cs = [.lst 3 (rowC r)] ∧ r.length < 2 ^ 63 := by
 obtain ⟨f, rfl, xs, rfl, hl, hx⟩ := c1s (P := prog) (t := 42) (e := 33) (n := 3) (by kernel_rfl) (by kernel_rfl) h
 obtain ⟨r, rfl, _⟩ := c5s (f := Vl.cells) (Q := fun _ => True) (xs := xs) fun x hm => by
   obtain ⟨v, h1, _⟩ := c6s (hx x hm); exact ⟨v, trivial, h1⟩
 exact ⟨r, rfl, by simpa using hl⟩
theorem wf_pd : ∀ {f : Nat} {cs : List IV}, WfT prog f 45 cs → ∃ p : Pd, cs = p.cells ∧ p.Ok := by
 intro f
 induction f using Nat.strongRecOn with
 | ind f ih =>
   intro cs h
   obtain ⟨f1, rfl, hl, hf⟩ := c2s (P := prog) (t := 45) (n := 9) (l := [(3, 0, 1), (3, 1, 1), (33, 2, 3), (33, 5, 3), (43, 8, 1)]) (by kernel_rfl) (by kernel_rfl) h
   obtain ⟨o, h1, _⟩ := c8r u3 (hf (3, 0, 1) (by decide))
   obtain ⟨c, h2, _⟩ := c8r u3 (hf (3, 1, 1) (by decide))
   obtain ⟨v, h3, hv⟩ := c6s (hf (33, 2, 3) (by decide))
   obtain ⟨w, h4, hw⟩ := c6s (hf (33, 5, 3) (by decide))
   obtain ⟨f2, rfl, xs, h5, hxl, hx⟩ := c1s (P := prog) (t := 43) (e := 45) (n := 9) (by kernel_rfl) (by kernel_rfl) (hf (43, 8, 1) (by decide))
   obtain ⟨ps, rfl, hps⟩ := c5s (f := Pd.cells) (Q := Pd.Ok) (xs := xs) fun x hm => by
     obtain ⟨p, g1, g2⟩ := ih f2 (by omega) (hx x hm); exact ⟨p, g2, g1⟩
   refine ⟨.mk o c v w ps, ?_, .mk _ (by rw [List.length_map] at hxl; exact hxl) hv hw hps⟩
   have e := c3s cs 0 1 h1
   rw [c3s cs 1 1 h2, c3s cs 2 3 h3, c3s cs 5 3 h4, c3s cs 8 1 h5, c4s hl] at e
   rw [Pd.cells_eq]
   exact e
theorem wf_rf {f : Nat} {cs : List IV} (h : WfT prog f 54 cs) : ∃ r : Rf, cs = r.cells ∧ r.key.s.size < 2 ^ 63 := by
 obtain ⟨f, rfl, hl, hf⟩ := c2s (P := prog) (t := 54) (n := 5) (l := [(33, 0, 3), (39, 3, 2)]) (by kernel_rfl) (by kernel_rfl) h
 obtain ⟨v, h1, hv⟩ := c6s (hf (33, 0, 3) (by decide))
 obtain ⟨n, h2⟩ := c7s (hf (39, 3, 2) (by decide))
 refine ⟨⟨v, n⟩, ?_, hv⟩
 have e := c3s cs 0 3 h1
 rw [c3s cs 3 2 h2, c4s hl] at e
 exact e
set_option maxRecDepth 10000 in
theorem c9s {n : Int} (h : (Lit.int .i64 n).wf = true) : -(2 ^ 63) ≤ n ∧ n < 2 ^ 63 := by
 unfold Lit.wf at h
 rw [Bool.and_eq_true, decide_eq_true_eq, decide_eq_true_eq] at h
 have h1 : IntKind.min .i64 = -(2 ^ 63) := by decide
 have h2 : IntKind.max .i64 = 2 ^ 63 - 1 := by decide
 rw [h1, h2] at h
 omega
set_option maxRecDepth 10000 in
theorem wf_ev {f : Nat} {cs : List IV} (h : WfT prog f 48 cs) : ∃ e : Ev, cs = e.cells ∧ e.Ok ∧ (-(2 ^ 63) ≤ e.txn ∧ e.txn < 2 ^ 63) := by
 obtain ⟨f, rfl, hl, hf⟩ := c2s (P := prog) (t := 48) (n := 22) (l := [(3, 0, 1), (3, 1, 1), (3, 2, 1), (3, 3, 1), (33, 4, 3), (39, 7, 2), (3, 9, 1), (42, 10, 1), (45, 11, 9), (46, 20, 1), (4, 21, 1)]) (by kernel_rfl) (by kernel_rfl) h
 obtain ⟨a1, h1, r1⟩ := c8r u3 (hf (3, 0, 1) (by decide))
 obtain ⟨a2, h2, _⟩ := c8r u3 (hf (3, 1, 1) (by decide))
 obtain ⟨a3, h3, _⟩ := c8r u3 (hf (3, 2, 1) (by decide))
 obtain ⟨a4, h4, _⟩ := c8r u3 (hf (3, 3, 1) (by decide))
 obtain ⟨k, h5, hk⟩ := c6s (hf (33, 4, 3) (by decide))
 obtain ⟨v, h6⟩ := c7s (hf (39, 7, 2) (by decide))
 obtain ⟨n, h7, _⟩ := c8r u3 (hf (3, 9, 1) (by decide))
 obtain ⟨r, h8, hr⟩ := c8s (hf (42, 10, 1) (by decide))
 obtain ⟨p, h9, hp⟩ := wf_pd (hf (45, 11, 9) (by decide))
 obtain ⟨f2, rfl, xs, h10, hxl, hx⟩ := c1s (P := prog) (t := 46) (e := 54) (n := 5) (by kernel_rfl) (by kernel_rfl) (hf (46, 20, 1) (by decide))
 obtain ⟨b, h11⟩ := c9r u4 (hf (4, 21, 1) (by decide))
 obtain ⟨rs, rfl, hrs⟩ := c5s (f := Rf.cells) (Q := fun r => r.key.s.size < 2 ^ 63) (xs := xs) fun x hm => by
   obtain ⟨p, g1, g2⟩ := wf_rf (hx x hm); exact ⟨p, g2, g1⟩
 refine ⟨⟨a1, a2, a3, a4, k, v, n, r, p, rs, b⟩, ?_, ⟨hr, by simpa using hxl, hp, hk, hrs⟩, c9s r1⟩
 have e := c3s cs 0 1 h1
 rw [c3s cs 1 1 h2, c3s cs 2 1 h3, c3s cs 3 1 h4, c3s cs 4 3 h5, c3s cs 7 2 h6, c3s cs 9 1 h7, c3s cs 10 1 h8, c3s cs 11 9 h9, c3s cs 20 1 h10, c3s cs 21 1 h11, c4s hl] at e
 rw [Ev.cells_eq]
 rw [Pd.cells_eq] at e
 exact e
theorem c0t {f : Nat} {cs : List IV} (h : WfT prog f 49 cs) : ∃ r : List Int, cs = [.lst 1 (c6Z r)] ∧ r.length < 2 ^ 63 := by
 obtain ⟨f, rfl, xs, rfl, hl, hx⟩ := c1s (P := prog) (t := 49) (e := 3) (n := 1) (by kernel_rfl) (by kernel_rfl) h
 obtain ⟨r, rfl, _⟩ := c5s (f := fun i => [ci i]) (Q := fun _ => True) (xs := xs) fun x hm => by
   obtain ⟨v, h1, _⟩ := c8r u3 (hx x hm); exact ⟨v, trivial, h1⟩
 exact ⟨r, rfl, by simpa using hl⟩
theorem c1t {f : Nat} {cs : List IV} (h : WfT prog f 67 cs) : ∃ r : List Bool, cs = [.lst 1 (c5Z r)] ∧ r.length < 2 ^ 63 := by
 obtain ⟨f, rfl, xs, rfl, hl, hx⟩ := c1s (P := prog) (t := 67) (e := 4) (n := 1) (by kernel_rfl) (by kernel_rfl) h
 obtain ⟨r, rfl, _⟩ := c5s (f := fun b => [cb b]) (Q := fun _ => True) (xs := xs) fun x hm => by
   obtain ⟨v, h1⟩ := c9r u4 (hx x hm); exact ⟨v, trivial, h1⟩
 exact ⟨r, rfl, by simpa using hl⟩
theorem c2t {f : Nat} {cs : List IV} (h : WfT prog f 51 cs) : ∃ o : Ins, cs = o.cells ∧ (o.txns.length < 2 ^ 63 ∧ o.key.s.size < 2 ^ 63) := by
 obtain ⟨f, rfl, hl, hf⟩ := c2s (P := prog) (t := 51) (n := 5) (l := [(3, 0, 1), (33, 1, 3), (49, 4, 1)]) (by kernel_rfl) (by kernel_rfl) h
 obtain ⟨a, h1, _⟩ := c8r u3 (hf (3, 0, 1) (by decide))
 obtain ⟨k, h2, hk⟩ := c6s (hf (33, 1, 3) (by decide))
 obtain ⟨r, h3, hr⟩ := c0t (hf (49, 4, 1) (by decide))
 refine ⟨⟨a, k, r⟩, ?_, hr, hk⟩
 have e := c3s cs 0 1 h1
 rw [c3s cs 1 3 h2, c3s cs 4 1 h3, c4s hl] at e
 exact e
theorem wf_tb {f : Nat} {cs : List IV} (h : WfT prog f 69 cs) : ∃ t : Tb, cs = [tbIV t] ∧ t.length < 2 ^ 63 := by
 obtain ⟨f, rfl, hl, hf⟩ := c2s (P := prog) (t := 69) (n := 1) (l := [(67, 0, 1)]) (by kernel_rfl) (by kernel_rfl) h
 obtain ⟨r, h1, hr⟩ := c1t (hf (67, 0, 1) (by decide))
 refine ⟨r, ?_, hr⟩
 have e := c3s cs 0 1 h1
 rw [c4s hl] at e
 exact e
theorem c3t {f : Nat} {cs : List IV} (h : WfT prog f 26 cs) : ∃ h : Hs, cs = h.cells ∧ h.Ok ∧ h.Rg := by
 obtain ⟨f, rfl, hl, hf⟩ := c2s (P := prog) (t := 26) (n := 3) (l := [(22, 0, 1), (23, 1, 1), (24, 2, 1)]) (by kernel_rfl) (by kernel_rfl) h
 obtain ⟨f1, e1, xs1, h1, l1, g1⟩ := c1s (P := prog) (t := 22) (e := 69) (n := 1) (by kernel_rfl) (by kernel_rfl) (hf (22, 0, 1) (by decide))
 obtain ⟨f2, e2, xs2, h2, l2, g2⟩ := c1s (P := prog) (t := 23) (e := 48) (n := 22) (by kernel_rfl) (by kernel_rfl) (hf (23, 1, 1) (by decide))
 obtain ⟨f3, e3, xs3, h3, l3, g3⟩ := c1s (P := prog) (t := 24) (e := 51) (n := 5) (by kernel_rfl) (by kernel_rfl) (hf (24, 2, 1) (by decide))
 obtain ⟨ts, rfl, ht⟩ := c5s (f := fun t : Tb => [tbIV t]) (Q := fun t => t.length < 2 ^ 63) (xs := xs1) fun x hm => by
   obtain ⟨p, a1, a2⟩ := wf_tb (g1 x hm); exact ⟨p, a2, a1⟩
 obtain ⟨es, rfl, he⟩ := c5s (f := Ev.cells) (Q := fun e => e.Ok ∧ (-(2 ^ 63) ≤ e.txn ∧ e.txn < 2 ^ 63)) (xs := xs2) fun x hm => by
   obtain ⟨p, a1, a2⟩ := wf_ev (g2 x hm); exact ⟨p, a2, a1⟩
 obtain ⟨os, rfl, ho⟩ := c5s (f := Ins.cells) (Q := fun o => o.txns.length < 2 ^ 63 ∧ o.key.s.size < 2 ^ 63) (xs := xs3) fun x hm => by
   obtain ⟨p, a1, a2⟩ := c2t (g3 x hm); exact ⟨p, a2, a1⟩
 refine ⟨⟨ts, es, os⟩, ?_, ⟨by simpa using l1, by simpa using l2, by simpa using l3, fun e h => (he e h).1, fun o h => (ho o h).1, ht, fun o h => (ho o h).2⟩, fun e h => (he e h).2⟩
 have e := c3s cs 0 1 h1
 rw [c3s cs 1 1 h2, c3s cs 2 1 h3, c4s hl] at e
 exact e
end
end Go.Rt
end

section
namespace Go.Proofs.YthkdpdpgmhmgoaaGreat
open Go.ChangeShapes Go.WideShapes Go.ChangeAt Go.RowKit Go.Vm Go.Rt
open Go.Proofs (Tryz.prog)
theorem own : ownKnob Tryz.prog.godebug = none := by kernel_rfl
theorem d6b : laidOutB Tryz.prog = true := by kernel_rfl
def tset : List TypeId := [26, 22, 23, 24, 69, 67, 4, 48, 3, 33, 2, 9, 39, 42, 45, 43, 46, 54, 51, 49]
theorem d7b : c0u Tryz.prog tset = true := by kernel_rfl
theorem d8b : ∀ t ∈ [26, 33, 3, 4], Tryz.prog.readableRec t = true ∧ t < Tryz.prog.types.size := by
 intro t ht
 simp only [List.mem_cons, List.not_mem_nil, or_false] at ht
 rcases ht with rfl | rfl | rfl | rfl
 · exact ⟨by kernel_rfl, of_decide_eq_true (by kernel_rfl)⟩
 · exact ⟨by kernel_rfl, of_decide_eq_true (by kernel_rfl)⟩
 · exact ⟨by kernel_rfl, of_decide_eq_true (by kernel_rfl)⟩
 · exact ⟨by kernel_rfl, of_decide_eq_true (by kernel_rfl)⟩
theorem d9b : c4b Tryz.prog 26 = true := by kernel_rfl
theorem agg33 : c4b Tryz.prog 33 = true := by kernel_rfl
theorem d0c {css : List (List IV)} (h : c4x Tryz.prog [26] css) : ∃ h : Hs, h.Ok ∧ h.Rg ∧ c3x Tryz.prog [26] css = [h.av] := by
 match css, h with
 | [cs], ⟨⟨f, h1⟩, _⟩ =>
   obtain ⟨h, rfl, hok, hrg⟩ := c3t h1
   exact ⟨h, hok, hrg, by simp only [c3x, d9b]; rfl⟩
theorem d1c {css : List (List IV)} (h : c4x Tryz.prog [26, 33] css) : ∃ (h : Hs) (k : Vl), h.Ok ∧ h.Rg ∧ k.s.size < 2 ^ 63 ∧ c3x Tryz.prog [26, 33] css = [h.av, k.av] := by
 match css, h with
 | [cs, ds], ⟨⟨f, h1⟩, ⟨i, h2⟩, _⟩ =>
   obtain ⟨h, rfl, hok, hrg⟩ := c3t h1
   obtain ⟨k, rfl, hk⟩ := c6s h2
   exact ⟨h, k, hok, hrg, hk, by simp only [c3x, d9b, agg33]; rfl⟩
end Go.Proofs.YthkdpdpgmhmgoaaGreat
end
