import Derived.Calls
import Derived.Laws.CopyRow
import Derived.Orders
namespace Go.Hem
inductive Sc where
  | int (k : IntKind) (n : Int)
  | bool (b : Bool)
  | str (s : ByteArray)
  | nilp | nils | nilm | nilf | nili | undef
  | glob (g : Nat)
  | flt (k : FloatKind) (bits : Nat)
  deriving DecidableEq
def Sc.val : Sc→Value
  | .int k n => .int k n
  | .bool b => .bool b
  | .str s => .string s
  | .nilp => .pointer none
  | .nils => .slice none 0 0
  | .nilm => .map none
  | .nilf => .nilFunc
  | .nili => .nilIface
  | .undef => .tuple #[]
  | .glob g => .pointer (some ⟨g,0,none⟩)
  | .flt k b => .float k b
inductive AV where
  | sc (s : Sc)
  | ptr (b off : Nat)
  | iptr (cs : List AV)
  | slice (b off len cap n : Nat)
  | imm (l : List AV)
  | agg (cs : List AV)
  | tup (vs : List AV)
  | func (fn : Fn) (first captured : List AV)
  | iface (t : TypeId) (v : AV)
  | map (b : Nat)
  | yield (b : Nat)
  | poison
  | sym
  deriving Inhabited
def AV.cells : AV→List AV
  | .agg cs => cs
  | v => [v]
def AV.one : AV→Bool
  | .agg _ | .tup _ | .poison | .sc .undef => false
  | _ => true
def AV.ones (l : List AV) : Bool:=l.all AV.one
mutual
def AV.beq : AV→AV→Bool
  | .sc a,.sc b => decide (a = b)
  | .ptr a b,.ptr c d => a == c && b == d
  | .iptr a,.iptr b => AV.beqs a b
  | .slice a b c d e,.slice a' b' c' d' e' => a == a' && b == b' && c == c' && d == d' && e == e'
  | .imm a,.imm b => AV.beqs a b
  | .agg a,.agg b => AV.beqs a b
  | .tup a,.tup b => AV.beqs a b
  | .func f a b,.func g c d => decide (f = g) && AV.beqs a c && AV.beqs b d
  | .iface t a,.iface u b => t == u && AV.beq a b
  | .map a,.map b => a == b
  | .yield a,.yield b => a == b
  | .poison,.poison => true
  | .sym,.sym => true
  | _,_ => false
def AV.beqs : List AV→List AV→Bool
  | [],[] => true
  | a :: l,b :: m => AV.beq a b && AV.beqs l m
  | _,_ => false
end
mutual
theorem AV.beq_refl : ∀ a : AV,AV.beq a a = true
  | .sc a => by simp [AV.beq]
  | .ptr .. => by simp [AV.beq]
  | .iptr a => by simp [AV.beq,AV.beqs_refl a]
  | .slice .. => by simp [AV.beq]
  | .imm a => by simp [AV.beq,AV.beqs_refl a]
  | .agg a => by simp [AV.beq,AV.beqs_refl a]
  | .tup a => by simp [AV.beq,AV.beqs_refl a]
  | .func f a b => by simp [AV.beq,AV.beqs_refl a,AV.beqs_refl b]
  | .iface t a => by simp [AV.beq,AV.beq_refl a]
  | .map .. => by simp [AV.beq]
  | .yield .. => by simp [AV.beq]
  | .poison => by simp [AV.beq]
  | .sym => by simp [AV.beq]
theorem AV.beqs_refl : ∀ a : List AV,AV.beqs a a = true
  | [] => by simp [AV.beqs]
  | a :: l => by simp [AV.beqs,AV.beq_refl a,AV.beqs_refl l]
end
mutual
theorem AV.eq_of_beq : ∀ a b : AV,AV.beq a b = true→a = b
  | .sc a,b,h => by cases b <;> simp_all [AV.beq]
  | .ptr ..,b,h => by cases b <;> simp_all [AV.beq]
  | .iptr a,b,h => by
      cases b <;> simp [AV.beq] at h
      rw [AV.eq_of_beqs a _ h]
  | .slice ..,b,h => by cases b <;> simp_all [AV.beq]
  | .imm a,b,h => by
      cases b <;> simp [AV.beq] at h
      rw [AV.eq_of_beqs a _ h]
  | .agg a,b,h => by
      cases b <;> simp [AV.beq] at h
      rw [AV.eq_of_beqs a _ h]
  | .tup a,b,h => by
      cases b <;> simp [AV.beq] at h
      rw [AV.eq_of_beqs a _ h]
  | .func f a c,b,h => by
      cases b <;> simp [AV.beq] at h
      rw [AV.eq_of_beqs a _ h.1.2,AV.eq_of_beqs c _ h.2,h.1.1]
  | .iface t a,b,h => by
      cases b <;> simp [AV.beq] at h
      rw [AV.eq_of_beq a _ h.2,h.1]
  | .map ..,b,h => by cases b <;> simp_all [AV.beq]
  | .yield ..,b,h => by cases b <;> simp_all [AV.beq]
  | .poison,b,h => by cases b <;> simp_all [AV.beq]
  | .sym,b,h => by cases b <;> simp_all [AV.beq]
theorem AV.eq_of_beqs : ∀ a b : List AV,AV.beqs a b = true→a = b
  | [],b,h => by cases b <;> simp_all [AV.beqs]
  | a :: l,b,h => by
      cases b <;> simp [AV.beqs] at h
      rw [AV.eq_of_beq a _ h.1,AV.eq_of_beqs l _ h.2]
end
def AV.scalar? : AV→Option Value
  | .sc s => some s.val
  | _ => none
def AV.closed? : AV→Option Value
  | .sc s => some s.val
  | .agg cs => (cs.mapM AV.scalar?).map fun vs => .agg vs.toArray
  | .tup cs => (cs.mapM AV.scalar?).map fun vs => .tuple vs.toArray
  | _ => none
def Sc.of? : Value→Option Sc
  | .int k n => some (.int k n)
  | .bool b => some (.bool b)
  | .string s => some (.str s)
  | .pointer none => some .nilp
  | .slice none 0 0 => some .nils
  | .map none => some .nilm
  | .nilFunc => some .nilf
  | .nilIface => some .nili
  | .float k b => some (.flt k b)
  | _ => none
def AV.ofCell? (v : Value) : Option AV:=(Sc.of? v).map .sc
def AV.of? : Value→Option AV
  | .agg cs => (cs.toList.mapM AV.ofCell?).map .agg
  | .tuple cs => if cs.size = 0 then some (.sc .undef) else (cs.toList.mapM AV.ofCell?).map .tup
  | v => AV.ofCell? v
inductive Blk where
  | cells (cs : List AV)
  | map (es : List (AV × AV))
  | loop (state : LoopState) (pending : Option Code) (tmps : List AV) (params : List Tmp) (assign body : Code)
  deriving Inhabited
structure Fr where
  l : List (Nat × List AV):=[]
  tg : List (Nat × Nat × TypeId):=[]
structure AHeap where
  next : Nat:=0
  bl : List (Option Blk):=[]
  /-- Blocks that are frozen: what may still be read there. -/
  fr : Fr:={}
def AHeap.get (H : AHeap) (b : Nat) : Option Blk:=if b < H.next then (H.bl[H.next - 1 - b]?).join else none
def AHeap.alloc (H : AHeap) (x : Blk) : AHeap:=⟨H.next + 1,some x :: H.bl,H.fr⟩
def AHeap.put (H : AHeap) (b : Nat) (x : Option Blk) : AHeap:=if b < H.next then ⟨H.next,H.bl.set (H.next - 1 - b) x,H.fr⟩ else H
theorem AHeap.get_lt {H : AHeap} {b : Nat} {x : Blk} (h : H.get b = some x) : b < H.next:=by
  unfold AHeap.get at h
  split at h
  · assumption
  · cases h
theorem AHeap.get_ge {H : AHeap} {b : Nat} (h : H.next ≤ b) : H.get b = none:=by
  unfold AHeap.get; rw [if_neg (by omega)]
@[simp] theorem AHeap.next_alloc (H : AHeap) (x : Blk) : (H.alloc x).next = H.next + 1:=rfl
@[simp] theorem AHeap.next_put (H : AHeap) (b : Nat) (x : Option Blk) : (H.put b x).next = H.next:=by
  unfold AHeap.put; split <;> rfl
theorem AHeap.get_alloc_self (H : AHeap) (x : Blk) : (H.alloc x).get H.next = some x:=by
  simp [AHeap.get,AHeap.alloc]
theorem AHeap.get_alloc_lt (H : AHeap) (x : Blk) {b : Nat} (h : b < H.next) : (H.alloc x).get b = H.get b:=by
  unfold AHeap.get AHeap.alloc
  simp only
  rw [if_pos (by omega),if_pos h]
  have : H.next + 1 - 1 - b = (H.next - 1 - b) + 1:=by omega
  rw [this]; simp
theorem AHeap.get_alloc_ne (H : AHeap) (x : Blk) {b : Nat} (h : b ≠ H.next) : (H.alloc x).get b = H.get b:=by
  by_cases hb : b < H.next
  · exact AHeap.get_alloc_lt H x hb
  · rw [AHeap.get_ge (by simp; omega),AHeap.get_ge (by omega)]
theorem AHeap.get_put_self {H : AHeap} {b : Nat} {y : Blk} (x : Option Blk) (h : H.get b = some y) : (H.put b x).get b = x:=by
  have hb:=AHeap.get_lt h
  unfold AHeap.get AHeap.put at *
  rw [if_pos hb] at h ⊢
  simp only [if_pos hb]
  cases hq : H.bl[H.next - 1 - b]? with
  | none => rw [hq] at h; cases h
  | some z =>
    have hl : H.next - 1 - b < H.bl.length:=(List.getElem?_eq_some_iff.1 hq).1
    rw [List.getElem?_set_self hl]; rfl
theorem AHeap.get_put_ne (H : AHeap) {b b' : Nat} (x : Option Blk) (h : b' ≠ b) : (H.put b x).get b' = H.get b':=by
  unfold AHeap.get AHeap.put
  split
  · rename_i hb
    simp only
    split
    · rename_i hb'
      rw [List.getElem?_set_ne (by omega)]
    · rfl
  · rfl
def AHeap.cells (H : AHeap) (b : Nat) : Option (List AV) :=
  match H.get b with
  | some (.cells cs) => some cs
  | _ => none
def frGetL : List (Nat × List AV)→Nat→Option (List AV)
  | [],_ => none
  | r :: l,b => if r.1 = b then some r.2 else frGetL l b
def frGet (f : Fr) (b : Nat) : Option (List AV):=frGetL f.l b
def AHeap.frd (H : AHeap) (b : Nat) : Option (List AV):=if b < H.next then frGet H.fr b else none
theorem AHeap.frd_get {H : AHeap} {b : Nat} {cs : List AV} (h : H.frd b = some cs) : frGet H.fr b = some cs:=by
  unfold AHeap.frd at h
  split at h
  · exact h
  · cases h
def AHeap.rd (H : AHeap) (b : Nat) : Option (List AV):=(H.cells b).or (H.frd b)
def AHeap.addFr (H : AHeap) (b : Nat) (cs : List AV) : AHeap:=⟨H.next,H.bl,⟨(b,cs) :: H.fr.l,H.fr.tg⟩⟩
def AHeap.addTg (H : AHeap) (b : Nat) (T : Nat × TypeId) : AHeap:=⟨H.next,H.bl,⟨H.fr.l,(b,T) :: H.fr.tg⟩⟩
@[simp] theorem AHeap.next_addFr (H : AHeap) (b : Nat) (cs : List AV) : (H.addFr b cs).next = H.next:=rfl
theorem AHeap.get_addFr (H : AHeap) (b : Nat) (cs : List AV) (c : Nat) : (H.addFr b cs).get c = H.get c:=rfl
theorem AHeap.fr_addFr (H : AHeap) (b : Nat) (cs : List AV) : (H.addFr b cs).fr = ⟨(b,cs) :: H.fr.l,H.fr.tg⟩:=rfl
@[simp] theorem AHeap.next_addTg (H : AHeap) (b : Nat) (T : Nat × TypeId) : (H.addTg b T).next = H.next:=rfl
theorem AHeap.get_addTg (H : AHeap) (b : Nat) (T : Nat × TypeId) (c : Nat) : (H.addTg b T).get c = H.get c:=rfl
@[simp] theorem AHeap.fr_alloc (H : AHeap) (x : Blk) : (H.alloc x).fr = H.fr:=rfl
@[simp] theorem AHeap.fr_put (H : AHeap) (b : Nat) (x : Option Blk) : (H.put b x).fr = H.fr:=by unfold AHeap.put; split <;> rfl
theorem AHeap.rd_of_cells {H : AHeap} {b : Nat} {cs : List AV} (h : H.cells b = some cs) : H.rd b = some cs:=by unfold AHeap.rd; rw [h]; rfl
def pureSem {α : Type} (P : Program) : Sem α→Option α
  | .pure a => some a
  | .program k => pureSem P (k P)
  | .mark _ k => pureSem P k
  | _ => none
theorem run_of_pureSem {α : Type} {P : Program} : ∀ {s : Sem α} {a : α},pureSem P s = some a→∀ w,s.run P w = .ok a w
  | .pure _,_,h,w => by simp [pureSem] at h; simp [Sem.run,h]
  | .program k,_,h,w => by simp only [pureSem] at h; simpa [Sem.run] using run_of_pureSem h w
  | .mark _ k,_,h,w => by simp only [pureSem] at h; simpa [Sem.run] using run_of_pureSem h w
  | .load ..,_,h,_ => by simp [pureSem] at h
  | .store ..,_,h,_ => by simp [pureSem] at h
  | .new ..,_,h,_ => by simp [pureSem] at h
  | .shape ..,_,h,_ => by simp [pureSem] at h
  | .freeze ..,_,h,_ => by simp [pureSem] at h
  | .frozen ..,_,h,_ => by simp [pureSem] at h
  | .getObj ..,_,h,_ => by simp [pureSem] at h
  | .setObj ..,_,h,_ => by simp [pureSem] at h
  | .choose ..,_,h,_ => by simp [pureSem] at h
  | .sys ..,_,h,_ => by simp [pureSem] at h
  | .halt ..,_,h,_ => by simp [pureSem] at h
def szOf (P : Program) (t : TypeId) : Option Nat:=(P.info? t).map (·.size)
def isAggB (P : Program) (t : TypeId) : Option Bool:=(P.underlying t).map fun | .struct _ => true | .array _ _ => true | _ => false
end Go.Hem
