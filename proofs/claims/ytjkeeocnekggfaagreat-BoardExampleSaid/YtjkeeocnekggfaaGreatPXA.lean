
import Derived.Test.YtjkeeocnekggfaaGreatProg
import Derived.WalkKit
import Derived.Below
import Derived.Orders
import Derived.Deep.MidRow
import Derived.Laws.MakeOwn
import Derived.Deep.AppendSrc
import Derived.Deep.Upon
import Derived.Laws.Tables
import Derived.Laws.IdiomStrings
import Derived.MapKept
import Derived.WideKeyRuns
import Derived.Tactics
import Derived.Lib.Hide
import Derived.Outline
import Derived.LoopTactic
import Derived.RowKit3
import Derived.Deep.QuietTactic
import Derived.BigQuiet
import Derived.Maps.Own
import Derived.Deep.OwnRows
import Derived.Deep.AppendLies
import Derived.StillTail
import Derived.Deep.Quiet
import Derived.RegionTactic
import Derived.ChangeAlike
import Derived.Deep.RegionLaw
import Derived.Maps.OwnOps
import Derived.Maps.Views
import Derived.StringKeys
import Derived.Lib.AppendZeros
import Derived.Lib.AppendZerosOnto
import Derived.Lib.Overlaps
import Derived.WideShapes
import Derived.OpenShut
set_option linter.unusedVariables false
set_option linter.unusedSimpArgs false
set_option maxRecDepth 4000
set_option maxHeartbeats 4000000
namespace Go.Proofs.YtjkeeocnekggfaaGreat.Av
inductive ag where
 |v (x:Value)
 |nils
 |row (cs:List ag) (len:Nat)
 |ip (cs:List ag) (off:Nat)
inductive aa where
 |f (x:ag)
 |ptr (b off:Nat)
 |arr (b off len cap:Nat)
 |bg (q:Bool) (sz:Nat) (cs:List ag) (len:Nat)
 |und
 |any
 |mh (b:Nat)
 |mp (q:Bool) (es:List (List Int×List ag))
abbrev aa.ip (cs:List ag) (off:Nat):aa:= .f (.ip cs off)
inductive bj where
 |c (x:aa)
 |agg (cs:List aa)
inductive ad where
 |c (x:aa)
 |agg (cs:List aa)
 |cC (l:List bj)
inductive Loc where
 |slot (i:Nat)
 |cell (b i:Nat)
inductive BK where
 |lock (n:Option Nat)
 |bg (n:Nat) (l:Loc)
 |wr (b:Nat)
def BK.fits:BK->Nat->Prop
 | .lock none,_=>True
 | .lock (some m),n=>n<=m
 | .bg m _,n=>n<=m
 | .wr _,n=>n<=0
theorem BK.tt {k:BK} {m n:Nat} (h:k.fits n) (hm:m<=n):k.fits m:=by
 cases k with
 |lock o=>cases o<;>simp[BK.fits] at*;omega
 |bg a l=>simp[BK.fits] at*;omega
 |wr b=>simp[BK.fits] at*;omega
inductive cy (w:World) (κ:Nat->BK):ag->Value->Prop
 |v (x:Value) (h:x.oneCell'=true):cy w κ (.v x) x
 |nils:cy w κ .nils (.slice none 0 0)
 |row (cs:List ag) (len g o cap:Nat) (xs:Nat->Value) (hc: ∀ i,i<cs.length->w.cell? ⟨g,o+i,none⟩=some (xs i))
  (hr: ∀ i (h:i<cs.length),cy w κ cs[i] (xs i)) (hf:cs≠[]->g<w.heap.size/\(κ g).fits (o+cs.length)) (hl:len<=cap):
  cy w κ (.row cs len) (.slice (some ⟨g,o,none⟩) len cap)
 |nil0 (A:Option Addr):cy w κ (.row [] 0) (.slice A 0 0)
 |ip (cs:List ag) (off g o:Nat) (xs:Nat->Value) (hc: ∀ i,i<cs.length->w.cell? ⟨g,o+i,none⟩=some (xs i))
  (hr: ∀ i (h:i<cs.length),cy w κ cs[i] (xs i)) (hf:cs≠[]->g<w.heap.size/\(κ g).fits (o+cs.length)):
  cy w κ (.ip cs off) (.pointer (some ⟨g,o+off,none⟩))
structure gH (w:World) (κ:Nat->BK) (g o:Nat) (cs:List ag):Prop where
 cell: ∀ i (h:i<cs.length),∃ x,w.cell? ⟨g,o+i,none⟩=some x/\cy w κ cs[i] x
 fits:cs≠[]->g<w.heap.size/\(κ g).fits (o+cs.length)
theorem vD {w:World} {κ:Nat->BK} {cs:List ag} {len:Nat} {v:Value}:cy w κ (.row cs len) v↔(∃ g o cap,v= .slice (some ⟨g,o,none⟩) len cap/\len<=cap/\gH w κ g o cs)\/(cs=[]/\len=0/\ ∃ A,v= .slice A 0 0):=by
 constructor
 ·intro h
  cases h with
  |row _ _ g o cap xs hc hr hf hl=>exact .inl ⟨g,o,cap,rfl,hl,fun i h=>⟨xs i,hc i h,hr i h⟩,hf⟩
  |nil0 A=>exact .inr ⟨rfl,rfl,A,rfl⟩
 ·rintro (⟨g,o,cap,rfl,hl,hc,hf⟩|⟨rfl,rfl,A,rfl⟩)
  rotate_left
  ·exact .nil0 A
  refine .row cs len g o cap (fun i=>if h:i<cs.length then (hc i h).choose else default) (fun i h=> ?_) (fun i h=> ?_) hf hl
  ·simp only[h,dite_true];exact (hc i h).choose_spec.1
  ·simp only[h,dite_true];exact (hc i h).choose_spec.2
theorem iy {w:World} {κ:Nat->BK} {cs:List ag} {len:Nat} {v:Value} (h: ∃ g o cap,v= .slice (some ⟨g,o,none⟩) len cap/\len<=cap/\gH w κ g o cs):cy w κ (.row cs len) v:=vD.2 (.inl h)
theorem qw {w:World} {κ:Nat->BK} {cs:List ag} {off:Nat} {v:Value}:cy w κ (.ip cs off) v↔ ∃ g o,v= .pointer (some ⟨g,o+off,none⟩)/\gH w κ g o cs:=by
 constructor
 ·intro h
  cases h with
  |ip _ _ g o xs hc hr hf=>exact ⟨g,o,rfl,fun i h=>⟨xs i,hc i h,hr i h⟩,hf⟩
 ·rintro ⟨g,o,rfl,hc,hf⟩
  refine .ip cs off g o (fun i=>if h:i<cs.length then (hc i h).choose else default) (fun i h=> ?_) (fun i h=> ?_) hf
  ·simp only[h,dite_true];exact (hc i h).choose_spec.1
  ·simp only[h,dite_true];exact (hc i h).choose_spec.2
theorem eX {w:World} {κ:Nat->BK} {x v:Value}:cy w κ (.v x) v↔v=x/\x.oneCell'=true:=⟨fun h=>by cases h;exact ⟨rfl,‹_›⟩,fun h=>h.1▸ .v _ (h.1▸h.2)⟩
theorem dR {w:World} {κ:Nat->BK} {v:Value}:cy w κ .nils v↔v= .slice none 0 0:=⟨fun h=>by cases h;rfl,fun h=>h▸ .nils⟩
structure fu (w:World) (κ:Nat->BK) (w':World) (κ':Nat->BK):Prop where
 size:w.heap.size<=w'.heap.size
 cell: ∀ g o x,g<w.heap.size->(κ g).fits (o+1)->w.cell? ⟨g,o,none⟩=some x->w'.cell? ⟨g,o,none⟩=some x
 fits: ∀ g n,g<w.heap.size->(κ g).fits n->(κ' g).fits n
theorem fu.refl (w:World) (κ:Nat->BK):fu w κ w κ:=⟨Nat.le_refl _,fun _ _ _ _ _ h=>h,fun _ _ _ h=>h⟩
theorem fu.trans {a b c:World} {α β γ:Nat->BK} (h:fu a α b β) (k:fu b β c γ):fu a α c γ:=
  ⟨Nat.le_trans h.size k.size,fun g o x hg hf hx=>k.cell g o x (Nat.lt_of_lt_of_le hg h.size) (h.fits g _ hg hf) (h.cell g o x hg hf hx),
   fun g n hg hf=>k.fits g n (Nat.lt_of_lt_of_le hg h.size) (h.fits g n hg hf)⟩
theorem cy.grow {w w':World} {κ κ':Nat->BK} (G:fu w κ w' κ') {x:ag} {v:Value} (h:cy w κ x v):cy w' κ' x v:=by
 induction h with
 |v x hx=>exact .v x hx
 |nils=>exact .nils
 |nil0 A=>exact .nil0 A
 |row cs len g o cap xs hc hr hf hl ih=>
  refine .row cs len g o cap xs (fun i hi=> ?_) ih (fun hne=> ?_) hl
  ·obtain ⟨hg,hfit⟩:=hf (by intro e;rw[e] at hi;simp at hi)
   exact G.cell g (o+i) _ hg (BK.tt hfit (by omega)) (hc i hi)
  ·obtain ⟨hg,hfit⟩:=hf hne
   exact ⟨Nat.lt_of_lt_of_le hg G.size,G.fits g _ hg hfit⟩
 |ip cs off g o xs hc hr hf ih=>
  refine .ip cs off g o xs (fun i hi=> ?_) ih (fun hne=> ?_)
  ·obtain ⟨hg,hfit⟩:=hf (by intro e;rw[e] at hi;simp at hi)
   exact G.cell g (o+i) _ hg (BK.tt hfit (by omega)) (hc i hi)
  ·obtain ⟨hg,hfit⟩:=hf hne
   exact ⟨Nat.lt_of_lt_of_le hg G.size,G.fits g _ hg hfit⟩
theorem cy.one {w:World} {κ:Nat->BK} {x:ag} {v:Value} (h:cy w κ x v):v.oneCell'=true:=by
 cases h with
 |v x hx=>exact hx
 |nils=>rfl
 |row=>rfl
 |nil0=>rfl
 |ip=>rfl
theorem gH.take {w:World} {κ:Nat->BK} {g o:Nat} {cs:List ag} (h:gH w κ g o cs) (n:Nat):gH w κ g o (cs.take n):=by
 refine ⟨fun i hi=> ?_,fun hne=> ?_⟩
 ·rw[List.length_take] at hi
  obtain ⟨x,hx,hr⟩:=h.cell i (by omega);exact ⟨x,hx,by rw[List.getElem_take];exact hr⟩
 ·obtain ⟨hg,hfit⟩:=h.fits (by intro e;rw[e] at hne;simp at hne)
  exact ⟨hg,BK.tt hfit (by rw[List.length_take];omega)⟩
theorem gH.drop {w:World} {κ:Nat->BK} {g o:Nat} {cs:List ag} (h:gH w κ g o cs) (n:Nat) (hn:n<=cs.length):gH w κ g (o+n) (cs.drop n):=by
 refine ⟨fun i hi=> ?_,fun hne=> ?_⟩
 ·rw[List.length_drop] at hi
  obtain ⟨x,hx,hr⟩:=h.cell (n+i) (by omega);exact ⟨x,by rw[show o+n+i=o+(n+i) by omega];exact hx,by rw[List.getElem_drop];exact hr⟩
 ·obtain ⟨hg,hfit⟩:=h.fits (by intro e;rw[e] at hne;simp at hne)
  exact ⟨hg,BK.tt hfit (by rw[List.length_drop];omega)⟩
def tE (q:Bool) (n:Nat):Nat:=bif q then n else 0
theorem PC (q:Bool) (n:Nat):tE q n<=n:=by cases q<;>simp[tE]
structure j5 (w:World) (κ:Nat->BK) (l:Loc) (q:Bool) (sz:Nat) (cs:List ag) (len:Nat) (g cap:Nat):Prop where
 cell: ∀ i (h:i<cs.length),∃ x,w.cell? ⟨g,0+i,none⟩=some x/\cy w κ cs[i] x
 lt:g<w.heap.size
 cut:cs.length=len*sz
 own:κ g= .bg (tE q cs.length) l
 le:len<=cap
 dk: ∃ c e,w.heap[g]? =some (.cells c e (0,0))/\c.size=cap*sz
theorem j5.row {w:World} {κ:Nat->BK} {l:Loc} {sz:Nat} {cs:List ag} {len g cap:Nat} (h:j5 w κ l true sz cs len g cap):gH w κ g 0 cs:=
 ⟨h.cell,fun _=>⟨h.lt,by rw[h.own];simp[BK.fits,tE]⟩⟩
theorem j5.mv {w w':World} {κ κ':Nat->BK} {l l':Loc} {q:Bool} {sz:Nat} {cs:List ag} {len g cap:Nat} (h:j5 w κ l q sz cs len g cap) (K:fu w κ w' κ') (h1:κ' g= .bg (tE q cs.length) l') (h2:w'.heap[g]? =w.heap[g]?):j5 w' κ' l' q sz cs len g cap:=
 ⟨fun i hi=>by obtain ⟨x,hx,hr⟩:=h.cell i hi;exact ⟨x,(World.cell?_of_block (w:=w) h2).trans hx,hr.grow K⟩,Nat.lt_of_lt_of_le h.lt K.size,h.cut,h1,h.le,by rw[h2];exact h.dk⟩
def bx (w:World) (κ:Nat->BK) (ρ:Nat->Nat) (l:Loc):aa->Value->Prop
 | .f x,v=>cy w κ x v
 | .ptr b off,v=>v= .pointer (some ⟨ρ b,off,none⟩)
 | .arr b off len cap,v=>v= .slice (some ⟨ρ b,off,none⟩) len cap
 | .bg q sz cs len,v=>(∃ g cap,v= .slice (some ⟨g,0,none⟩) len cap/\j5 w κ l q sz cs len g cap)\/(cs=[]/\len=0/\v= .slice none 0 0)
 | .und,v=>v=undef
 | .any,_=>True
 | .mh b,v=>v= .map (some (ρ b))
 | .mp ..,_=>False
def aa.flat:aa->Bool
 | .bg .. =>false
 | .mp .. =>false
 |_=>true
def dN (w:World) (κ:Nat->BK) (ρ:Nat->Nat) (l:Loc):bj->Value->Prop
 | .c x,v=>x.flat=true/\bx w κ ρ l x v
 | .agg cs,v=> ∃ vs:Array Value,v= .agg vs/\vs.size=cs.length/\ ∀ i (h:i<cs.length) (h':i<vs.size),cs[i].flat=true/\bx w κ ρ l cs[i] vs[i]
def bM (w:World) (κ:Nat->BK) (ρ:Nat->Nat) (l:Loc):ad->Value->Prop
 | .c x,v=>bx w κ ρ l x v
 | .agg cs,v=>dN w κ ρ l (.agg cs) v
 | .cC ts,v=> ∃ vs:Array Value,v= .tuple vs/\vs.size=ts.length/\ ∀ i (h:i<ts.length) (h':i<vs.size),dN w κ ρ l ts[i] vs[i]
def aa.ok (n:Nat):aa->Bool
 | .ptr b _=>decide (b<n)
 | .arr b _ _ _=>decide (b<n)
 | .mh b=>decide (b<n)
 |_=>true
def bj.ok (n:Nat):bj->Bool
 | .c x=>x.ok n
 | .agg cs=>cs.all (aa.ok n)
def ad.ok (n:Nat):ad->Bool
 | .c x=>x.ok n
 | .agg cs=>cs.all (aa.ok n)
 | .cC ts=>ts.all (bj.ok n)
theorem aa.fT {n m:Nat} (h:n<=m): ∀ x:aa,x.ok n=true->x.ok m=true
 | .ptr b _,k=>by simp[aa.ok] at*;omega
 | .arr b _ _ _,k=>by simp[aa.ok] at*;omega
 | .f _,_=>rfl
 | .bg _ _ _ _,_=>rfl
 | .und,_=>rfl
 | .any,_=>rfl
 | .mh b,k=>by simp[aa.ok] at*;omega
 | .mp _ _,_=>rfl
theorem bj.fT {n m:Nat} (h:n<=m): ∀ x:bj,x.ok n=true->x.ok m=true
 | .c x,k=>x.fT h k
 | .agg cs,k=>by simp only[bj.ok,List.all_eq_true] at*;exact fun x hx=>x.fT h (k x hx)
theorem ad.fT {n m:Nat} (h:n<=m): ∀ x:ad,x.ok n=true->x.ok m=true
 | .c x,k=>x.fT h k
 | .agg cs,k=>by simp only[ad.ok,List.all_eq_true] at*;exact fun x hx=>x.fT h (k x hx)
 | .cC cs,k=>by simp only[ad.ok,List.all_eq_true] at*;exact fun x hx=>x.fT h (k x hx)
structure yd (w:World) (κ:Nat->BK) (w':World) (κ':Nat->BK) (l l':Loc):Prop where
 grow:fu w κ w' κ'
 bg: ∀ g n,g<w.heap.size->κ g= .bg n l->κ' g= .bg n l'/\w'.heap[g]? =w.heap[g]?
theorem bx.eC {w w':World} {κ κ':Nat->BK} {ρ ρ':Nat->Nat} {l l':Loc} {n:Nat} (K:fu w κ w' κ') (hρ: ∀ b,b<n->ρ' b=ρ b):
  ∀ {x:aa} {v:Value},x.ok n=true->(∀ q sz cs len,x= .bg q sz cs len->yd w κ w' κ' l l')->bx w κ ρ l x v->bx w' κ' ρ' l' x v
 | .f x,v,_,_,h=>cy.grow K h
 | .ptr b off,v,hn,_,h=>by
  have hb:b<n:=by simpa[aa.ok] using hn
  show v=_;rw[hρ b hb];exact h
 | .arr b off len cap,v,hn,_,h=>by
  have hb:b<n:=by simpa[aa.ok] using hn
  show v=_;rw[hρ b hb];exact h
 | .bg q sz cs len,v,_,ht,h=>by
  obtain ⟨g,cap,rfl,hT⟩|h:=h
  rotate_left
  ·exact .inr h
  left;have hk:=(ht _ _ _ _ rfl);obtain ⟨h1,h2⟩:=hk.bg g _ hT.lt hT.own;exact ⟨g,cap,rfl,hT.mv K h1 h2⟩
 | .und,_,_,_,h=>h
 | .any,_,_,_,_=>trivial
 | .mh b,v,hn,_,h=>by
  have hb:b<n:=by simpa[aa.ok] using hn
  show v=_;rw[hρ b hb];exact h
 | .mp ..,_,_,_,h=>h
theorem dN.eC {w w':World} {κ κ':Nat->BK} {ρ ρ':Nat->Nat} {l l':Loc} {n:Nat} (K:fu w κ w' κ') (hρ: ∀ b,b<n->ρ' b=ρ b):
  ∀ {x:bj} {v:Value},x.ok n=true->dN w κ ρ l x v->dN w' κ' ρ' l' x v
 | .c x,v,hn,h=>⟨h.1,bx.eC K hρ hn (fun _ _ _ _ e=>by rw[e] at h;cases h.1) h.2⟩
 | .agg cs,v,hn,h=>by
  obtain ⟨vs,rfl,hs,hi⟩:=h;refine ⟨vs,rfl,hs,fun i h h'=>⟨(hi i h h').1,bx.eC K hρ (List.all_eq_true.1 hn _ (List.getElem_mem h)) (fun _ _ _ _ e=> ?_) (hi i h h').2⟩⟩;have:=(hi i h h').1;rw[e] at this;cases this
theorem bM.eC {w w':World} {κ κ':Nat->BK} {ρ ρ':Nat->Nat} {l l':Loc} {n:Nat} (K:fu w κ w' κ') (hρ: ∀ b,b<n->ρ' b=ρ b):
  ∀ {x:ad} {v:Value},x.ok n=true->(∀ q sz cs len,x= .c (.bg q sz cs len)->yd w κ w' κ' l l')->bM w κ ρ l x v->bM w' κ' ρ' l' x v
 | .c x,v,hn,ht,h=>bx.eC K hρ hn (fun q sz cs len e=>ht q sz cs len (by rw[e])) h
 | .agg cs,v,hn,_,h=>dN.eC (x:= .agg cs) K hρ hn h
 | .cC ts,v,hn,_,h=>by
  obtain ⟨vs,rfl,hs,hi⟩:=h;exact ⟨vs,rfl,hs,fun i h h'=>dN.eC K hρ (List.all_eq_true.1 hn _ (List.getElem_mem h)) (hi i h h')⟩
def aa.aQ:aa->aa
 | .bg true _ cs len=> .f (.row cs len)
 | .bg false _ _ len=> .f (.row [] len)
 | .mp .. => .any
 |x=>x
def ad.aQ:ad->ad
 | .c x=> .c x.aQ
 |x=>x
theorem bx.aQ {w:World} {κ:Nat->BK} {ρ:Nat->Nat} {l l':Loc}: ∀ {x:aa} {v:Value},bx w κ ρ l x v->bx w κ ρ l' x.aQ v
 | .f x,v,h=>h
 | .ptr b off,v,h=>h
 | .arr b off len cap,v,h=>h
 | .bg true sz cs len,v,h=>by
  obtain ⟨g,cap,rfl,hT⟩|⟨rfl,rfl,rfl⟩:=h
  ·exact iy ⟨g,0,cap,rfl,hT.le,hT.row⟩
  ·exact .nil0 _
 | .bg false sz cs len,v,h=>by
  obtain ⟨g,cap,rfl,hT⟩|⟨rfl,rfl,rfl⟩:=h
  ·exact iy ⟨g,0,cap,rfl,hT.le,⟨fun i hi=>by simp at hi,fun e=>absurd rfl e⟩⟩
  ·exact .nil0 _
 | .und,_,h=>h
 | .any,_,_=>trivial
 | .mh b,_,h=>h
 | .mp ..,_,_=>trivial
theorem aa.yP (x:aa) (q:Bool) (sz:Nat) (cs:List ag) (len:Nat):x.aQ≠ .bg q sz cs len:=by
 cases x with
 |bg q'=>cases q'<;>(intro e;cases e)
 |_=>intro e;cases e
theorem ad.yP (x:ad) (q:Bool) (sz:Nat) (cs:List ag) (len:Nat):x.aQ≠ .c (.bg q sz cs len):=by
 cases x with
 |c x=>intro e;injection e with e;exact x.yP _ _ _ _ e
 |_=>intro e;cases e
theorem aa.gb (x:aa):x.aQ.flat=true:=by
 cases x with
 |bg q=>cases q<;>rfl
 |_=>rfl
theorem aa.tu {x:aa} (h:ad.aQ (.c x)= .c x):x.flat=true:=by
 have h:ad.c x.aQ= .c x:=h;injection h with h
 rw[← h];exact x.gb
theorem aa.fE {n:Nat} (x:aa) (h:x.ok n=true):x.aQ.ok n=true:=by
 cases x with
 |bg q=>cases q<;>rfl
 |_=>first|exact h|rfl
theorem aa.cG {x:aa} (h:x.flat=true):x.aQ=x:=by cases x<;>first|rfl|cases h
theorem bx.loc {w:World} {κ:Nat->BK} {ρ:Nat->Nat} {l l':Loc} {x:aa} {v:Value} (hx:x.flat=true) (h:bx w κ ρ l x v):bx w κ ρ l' x v:=by
 have:=bx.aQ (l':=l') h
 rwa [aa.cG hx] at this
theorem dN.loc {w:World} {κ:Nat->BK} {ρ:Nat->Nat} {l l':Loc}: ∀ {x:bj} {v:Value},dN w κ ρ l x v->dN w κ ρ l' x v
 | .c x,v,h=>⟨h.1,h.2.loc h.1⟩
 | .agg cs,v,h=>by
  obtain ⟨vs,rfl,hs,hi⟩:=h;exact ⟨vs,rfl,hs,fun i h h'=>⟨(hi i h h').1,(hi i h h').2.loc (hi i h h').1⟩⟩
theorem bM.aQ {w:World} {κ:Nat->BK} {ρ:Nat->Nat} {l l':Loc}: ∀ {x:ad} {v:Value},bM w κ ρ l x v->bM w κ ρ l' x.aQ v
 | .c x,v,h=>bx.aQ (l:=l) (l':=l') (x:=x) h
 | .agg cs,v,h=>dN.loc (x:= .agg cs) h
 | .cC ts,v,h=>by
  obtain ⟨vs,rfl,hs,hi⟩:=h;exact ⟨vs,rfl,hs,fun i h h'=>(hi i h h').loc⟩
theorem ad.fE {n:Nat} (x:ad) (h:x.ok n=true):x.aQ.ok n=true:=by
 cases x with
 |c x=>exact x.fE h
 |agg cs=>exact h
 |cC ts=>exact h
def aa.nz:aa->aa
 | .f .nils=> .f (.row [] 0)
 |x=>x
def bj.nz:bj->bj
 | .c x=> .c x.nz
 | .agg cs=> .agg (cs.map aa.nz)
def ad.nz:ad->ad
 | .c x=> .c x.nz
 | .agg cs=> .agg (cs.map aa.nz)
 | .cC ts=> .cC (ts.map bj.nz)
theorem aa.zp (x:aa):x.nz.flat=x.flat:=by
 cases x with
 |f y=>cases y<;>rfl
 |_=>rfl
theorem aa.BA {n:Nat} (x:aa):x.nz.ok n=x.ok n:=by
 cases x with
 |f y=>cases y<;>rfl
 |_=>rfl
theorem G1 {n:Nat} (l:List aa):(l.map aa.nz).all (aa.ok n)=l.all (aa.ok n):=by
 induction l with
 |nil=>rfl
 |cons x l ih=>simp only[List.map_cons,List.all_cons,ih,aa.BA]
theorem bj.BA {n:Nat} (x:bj):x.nz.ok n=x.ok n:=by
 cases x with
 |c x=>exact x.BA
 |agg cs=>exact G1 cs
theorem bx.nz {w:World} {κ:Nat->BK} {ρ:Nat->Nat} {l:Loc} {x:aa} {v:Value} (h:bx w κ ρ l x v):bx w κ ρ l x.nz v:=by
 cases x with
 |f y=>
  cases y with
  |nils=>have h:cy w κ .nils v:=h;show cy w κ (.row [] 0) v;rw[dR.1 h];exact .nil0 _
  |_=>exact h
 |_=>exact h
theorem dN.nz {w:World} {κ:Nat->BK} {ρ:Nat->Nat} {l:Loc} {x:bj} {v:Value} (h:dN w κ ρ l x v):dN w κ ρ l x.nz v:=by
 cases x with
 |c x=>exact ⟨by rw[aa.zp];exact h.1,h.2.nz⟩
 |agg cs=>
  obtain ⟨vs,rfl,hs,hi⟩:=h;refine ⟨vs,rfl,by simpa using hs,fun i h h'=> ?_⟩;have hi2:i<cs.length:=by simpa using h
  rw[List.getElem_map,aa.zp];exact ⟨(hi i hi2 h').1,(hi i hi2 h').2.nz⟩
theorem bM.nz {w:World} {κ:Nat->BK} {ρ:Nat->Nat} {l:Loc} {x:ad} {v:Value} (h:bM w κ ρ l x v):bM w κ ρ l x.nz v:=by
 cases x with
 |c x=>exact bx.nz (x:=x) h
 |agg cs=>exact dN.nz (x:= .agg cs) h
 |cC ts=>
  obtain ⟨vs,rfl,hs,hi⟩:=h;refine ⟨vs,rfl,by simpa using hs,fun i h h'=> ?_⟩;have hi2:i<ts.length:=by simpa using h
  rw[List.getElem_map];exact (hi i hi2 h').nz
theorem ad.Pp (x:ad):x.aQ.nz.aQ=x.aQ.nz:=by
 cases x with
 |c x=>
  show ad.c _=ad.c _;rw[aa.cG (by rw[aa.zp];exact aa.gb x)]
 |agg cs=>rfl
 |cC ts=>rfl
def ad.h (x:ad):ad:=x.aQ.nz
theorem ad.Fe (x:ad):x.h.aQ=x.h:=x.Pp
def dJ {α:Type} (f:Nat->α) (i:Nat) (x:α) (j:Nat):α:=if j=i then x else f j
theorem aG {α:Type} (f:Nat->α) (i:Nat) (x:α):dJ f i x i=x:=by unfold dJ;rw[if_pos rfl]
theorem aw {α:Type} (f:Nat->α) {i j:Nat} (x:α) (h:j≠i):dJ f i x j=f j:=by unfold dJ;rw[if_neg h]
structure St where
 sl:Nat->ad
 H:List (Option (List aa))
def eo:List Int->Value
 |[n]=> .int .i64 n
 |l=> .agg (l.map (Value.int .i64)).toArray
def lL (w:World) (κ:Nat->BK):Bool->List ag->Value->Prop
 |true,fs,v=> ∃ vs:Array Value,v= .agg vs/\vs.size=fs.length/\ ∀ i (h:i<fs.length) (h':i<vs.size),cy w κ fs[i] vs[i]
 |false,fs,v=> ∃ x,fs=[x]/\cy w κ x v
theorem lL.grow {w w':World} {κ κ':Nat->BK} (G:fu w κ w' κ') {q:Bool} {fs:List ag} {v:Value} (h:lL w κ q fs v):lL w' κ' q fs v:=by
 cases q with
 |true=>
  obtain ⟨vs,h1,h2,h3⟩:=h;exact ⟨vs,h1,h2,fun i k k'=>(h3 i k k').grow G⟩
 |false=>
  obtain ⟨x,h1,h2⟩:=h;exact ⟨x,h1,h2.grow G⟩
def qN (w:World) (κ:Nat->BK) (q:Bool) (es:List (List Int×List ag)) (en:Array MapEntry):Prop:=
 en.size=es.length/\ ∀ i (h:i<es.length) (h':i<en.size),en[i].key=eo es[i].1/\lL w κ q es[i].2 en[i].val
def iH (w:World) (κ:Nat->BK) (g:Nat) (cs:List aa):Prop:= ∃ q es en ck,cs=[.mp q es]/\w.heap[g]? =some (.map en ck)/\qN w κ q es en
theorem iH.mv {w w':World} {κ κ':Nat->BK} {g g':Nat} {cs:List aa} (G:fu w κ w' κ') (hg:w'.heap[g']? =w.heap[g]?) (h:iH w κ g cs):iH w' κ' g' cs:=by
 obtain ⟨q,es,en,ck,h1,h2,h3,h4⟩:=h;exact ⟨q,es,en,ck,h1,hg.trans h2,h3,fun i k k'=>⟨(h4 i k k').1,(h4 i k k').2.grow G⟩⟩
def nO (w:World) (κ:Nat->BK) (ρ:Nat->Nat) (b:Nat) (cs:List aa):Prop:=
 ∃ c e,w.heap[ρ b]? =some (.cells c e (0,0))/\c.size=cs.length/\ ∀ i (h:i<cs.length) (h':i<c.size),bx w κ ρ (.cell b i) cs[i] c[i]
structure qM (w:World) (κ:Nat->BK) (ρ:Nat->Nat) (b:Nat) (cs:List aa):Prop where
 own:κ (ρ b)= .wr b
 obj:nO w κ ρ b cs\/iH w κ (ρ b) cs
def gE:List aa->Bool
 | .mp .. ::_=>false
 |_=>true
theorem zr: ∀ l:List ag,gE (l.map aa.f)=true
 |[]=>rfl
 |_::_=>rfl
theorem iH.not {w:World} {κ:Nat->BK} {g:Nat} {cs:List aa} (h:iH w κ g cs):gE cs=false:=by
 obtain ⟨q,es,en,ck,rfl,_⟩:=h;rfl
theorem qM.JE {w:World} {κ:Nat->BK} {ρ:Nat->Nat} {b:Nat} {cs:List aa} (h:qM w κ ρ b cs) (hk:gE cs=true):nO w κ ρ b cs:=
 h.obj.resolve_right fun k=>by rw[k.not] at hk;cases hk
theorem qM.np {w:World} {κ:Nat->BK} {ρ:Nat->Nat} {b:Nat} {cs:List aa} (h:qM w κ ρ b cs) {i:Nat} {y:aa} (hi:cs[i]? =some y) (hy: ∀ q es,y≠ .mp q es):nO w κ ρ b cs:=
 h.obj.resolve_right fun k=>by
  obtain ⟨q,es,en,ck,rfl,_⟩:=k;have:=(List.getElem?_eq_some_iff.1 hi).1;rw[show i=0 by simp at this;omega] at hi;exact hy q es (by simpa using hi.symm)
theorem qM.tv {w:World} {κ:Nat->BK} {ρ:Nat->Nat} {b:Nat} {cs:List aa} (h:qM w κ ρ b cs):ρ b<w.heap.size:=by
 have key: ∀ {x:Obj},w.heap[ρ b]? =some x->ρ b<w.heap.size:=fun {x} hx=>by
  rcases Nat.lt_or_ge (ρ b) w.heap.size with h1|h1
  ·exact h1
  ·rw[Array.getElem?_eq_none h1] at hx;cases hx
 rcases h.obj with ⟨c,e,h1,_⟩|⟨q,es,en,ck,_,h1,_⟩
 ·exact key h1
 ·exact key h1
structure we (H:List (Option (List aa))) (w:World) (κ:Nat->BK) (ρ:Nat->Nat):Prop where
 dk: ∀ (b:Nat) (cs:List aa),H[b]? =some (some cs)->qM w κ ρ b cs
 ok: ∀ (b:Nat) (cs:List aa),H[b]? =some (some cs)-> ∀ x:aa,x∈cs->x.ok H.length=true
structure Rel (s:St) (a:Act) (w:World) (κ:Nat->BK) (ρ:Nat->Nat):Prop where
 defers:a.defers=[]
 slot: ∀ i (h':i<a.tmps.size),bM w κ ρ (.slot i) (s.sl i) a.tmps[i]
 out: ∀ i,a.tmps.size<=i->s.sl i= .c .any
 ok: ∀ i,(s.sl i).ok s.H.length=true
 heap:we s.H w κ ρ
structure Fr (w:World) (κ:Nat->BK) (w':World) (κ':Nat->BK):Prop where
 os:w'.os=w.os
 tape:w'.tape=w.tape
 output:w'.output=w.output
 size:w.heap.size<=w'.heap.size
 lock: ∀ g n,g<w.heap.size->κ g= .lock n->κ' g= .lock n/\w'.heap[g]? =w.heap[g]?
 grow:fu w κ w' κ'
theorem Fr.refl (w:World) (κ:Nat->BK):Fr w κ w κ:=⟨rfl,rfl,rfl,Nat.le_refl _,fun _ _ _ h=>⟨h,rfl⟩,fu.refl _ _⟩
theorem Fr.trans {a b c:World} {α β γ:Nat->BK} (h:Fr a α b β) (k:Fr b β c γ):Fr a α c γ:=
 ⟨k.os.trans h.os,k.tape.trans h.tape,k.output.trans h.output,Nat.le_trans h.size k.size,fun g n hg hl=>by
  obtain ⟨h1,h2⟩:=h.lock g n hg hl;obtain ⟨h3,h4⟩:=k.lock g n (Nat.lt_of_lt_of_le hg h.size) h1;exact ⟨h3,h4.trans h2⟩,h.grow.trans k.grow⟩
structure Mv (T:Nat->Prop) (n:Nat) (w:World) (κ:Nat->BK) (ρ:Nat->Nat) (w':World) (κ':Nat->BK) (ρ':Nat->Nat):Prop where
 os:w'.os=w.os
 tape:w'.tape=w.tape
 output:w'.output=w.output
 size:w.heap.size<=w'.heap.size
 rho: ∀ b,b<n->ρ' b=ρ b
 off: ∀ g,g<w.heap.size-> ¬ T g->w'.heap[g]? =w.heap[g]? /\κ' g=κ g
 cell: ∀ g o x,g<w.heap.size->T g->(κ g).fits (o+1)->w.cell? ⟨g,o,none⟩=some x->w'.cell? ⟨g,o,none⟩=some x
 fits: ∀ g n,g<w.heap.size->T g->(κ g).fits n->(κ' g).fits n
 free: ∀ g n,T g->κ g≠ .lock n
theorem yK {w w':World} {g o:Nat} (h:w'.heap[g]? =w.heap[g]?):w'.cell? ⟨g,o,none⟩=w.cell? ⟨g,o,none⟩:=World.cell?_of_block (w:=w) h
section
variable {T:Nat->Prop} {n:Nat} {w w':World} {κ κ':Nat->BK} {ρ ρ':Nat->Nat}
theorem Mv.grow (m:Mv T n w κ ρ w' κ' ρ'):fu w κ w' κ':=by
 refine ⟨m.size,fun g o x hg hf hx=> ?_,fun g k hg hf=> ?_⟩
 ·by_cases h:T g
  ·exact m.cell g o x hg h hf hx
  ·rw[yK (m.off g hg h).1];exact hx
 ·by_cases h:T g
  ·exact m.fits g k hg h hf
  ·rw[(m.off g hg h).2];exact hf
theorem Mv.fr (m:Mv T n w κ ρ w' κ' ρ'):Fr w κ w' κ':=
 ⟨m.os,m.tape,m.output,m.size,fun g k hg hl=>by
  have hT: ¬ T g:=fun h=>m.free g k h hl
  exact ⟨by rw[(m.off g hg hT).2];exact hl,(m.off g hg hT).1⟩,m.grow⟩
theorem Mv.eC (m:Mv T n w κ ρ w' κ' ρ') {l:Loc} (hl: ∀ g k,T g->κ g≠ .bg k l):yd w κ w' κ' l l:=
 ⟨m.grow,fun g k hg hk=>by
  have hT: ¬ T g:=fun h=>hl g k h hk
  exact ⟨by rw[(m.off g hg hT).2];exact hk,(m.off g hg hT).1⟩⟩
theorem jL {w:World} {g:Nat} {x:Obj} (h:w.heap[g]? =some x):g<w.heap.size:=by
 rcases Nat.lt_or_ge g w.heap.size with h1|h1
 ·exact h1
 ·rw[Array.getElem?_eq_none h1] at h;cases h
theorem qM.mv (m:Mv T n w κ ρ w' κ' ρ') {b:Nat} {cs:List aa} (hb:b<n) (hok: ∀ x∈cs,x.ok n=true) (hT: ¬ T (ρ b)) (hl: ∀ i g k,T g->κ g≠ .bg k (.cell b i)) (h:qM w κ ρ b cs):qM w' κ' ρ' b cs:=by
 obtain ⟨k1,k2⟩:=m.off _ h.tv hT;refine ⟨by rw[m.rho b hb,k2];exact h.own,?_⟩;rcases h.obj with ⟨c,e,h1,h2,h3⟩|h
 ·refine .inl ⟨c,e,by rw[m.rho b hb,k1];exact h1,h2,fun i hi hi'=> ?_⟩
  exact bx.eC m.grow m.rho (hok _ (List.getElem_mem hi)) (fun _ _ _ _ _=>m.eC (hl i)) (h3 i hi hi')
 ·exact .inr (h.mv m.grow (by rw[m.rho b hb,k1]))
theorem bM.mv (m:Mv T n w κ ρ w' κ' ρ') {l:Loc} {x:ad} {v:Value} (hok:x.ok n=true) (hl: ∀ g k,T g->κ g≠ .bg k l) (h:bM w κ ρ l x v):bM w' κ' ρ' l x v:=
 bM.eC m.grow m.rho hok (fun _ _ _ _ _=>m.eC hl) h
end
def St.put (s:St) (d:Option Tmp) (x:ad):St:=
 match d with
 |some d=>{ s with sl:=dJ s.sl d x }
 |none=>s
def St.aQ (s:St) (t:Tmp):St:={ s with sl:=dJ s.sl t (s.sl t).aQ }
theorem Rel.put {s:St} {a:Act} {w:World} {κ:Nat->BK} {ρ:Nat->Nat} (h:Rel s a w κ ρ) {d:Option Tmp} {x:ad} {v:Value} (hd: ∀ t,d=some t->t<a.tmps.size) (hx: ∀ t,d=some t->bM w κ ρ (.slot t) x v) (hok:x.ok s.H.length=true):
  Rel (s.put d x) (a.put d v) w κ ρ:=by
 cases d with
 |none=>exact h
 |some d=>
  refine ⟨h.defers,fun i hi'=> ?_,fun i hi=> ?_,fun i=> ?_,h.heap⟩
  ·simp only[St.put,Act.put] at hi'⊢
   rw[Array.getElem_setIfInBounds (by simpa using hi')];by_cases e:d=i
   ·subst e
    rw[aG,if_pos rfl];exact hx _ rfl
   ·rw[aw _ _ (fun h=>e h.symm),if_neg e]
    exact h.slot i (by simpa using hi')
  ·have hi2:a.tmps.size<=i:=by simpa[Act.put] using hi
   simp only[St.put];have hne:i≠d:=by
    intro e;subst e;exact absurd (hd i rfl) (Nat.not_lt.2 hi2)
   rw[aw _ _ hne];exact h.out i hi2
  ·simp only[St.put]
   by_cases e:i=d
   ·subst e;rw[aG];exact hok
   ·rw[aw _ _ e];exact h.ok i
theorem Rel.mv {T:Nat->Prop} {s:St} {a:Act} {w w':World} {κ κ':Nat->BK} {ρ ρ':Nat->Nat} (h:Rel s a w κ ρ) (m:Mv T s.H.length w κ ρ w' κ' ρ') (hT: ∀ g,T g->False):Rel s a w' κ' ρ':=
  ⟨h.defers,fun i hi'=>bM.mv m (h.ok i) (fun g _ hg=>(hT g hg).elim) (h.slot i hi'),h.out,h.ok,
   fun b cs hb=>qM.mv m (by rcases Nat.lt_or_ge b s.H.length with k|k;exact k;rw[List.getElem?_eq_none k] at hb;cases hb) (h.heap.ok b cs hb) (fun hg=>hT _ hg) (fun _ g _ hg=>(hT g hg).elim) (h.heap.dk b cs hb),h.heap.ok⟩
theorem Rel.zl {s:St} {a:Act} {w w':World} {κ κ':Nat->BK} {ρ ρ':Nat->Nat} {g0 t k0:Nat} (h:Rel s a w κ ρ) (m:Mv (· =g0) s.H.length w κ ρ w' κ' ρ') (hg:κ g0= .bg k0 (.slot t)):Rel (s.aQ t) a w' κ' ρ':=by
  refine ⟨h.defers,fun i hi'=> ?_,fun i hi=> ?_,fun i=> ?_,⟨fun b cs hb=> ?_,h.heap.ok⟩⟩
  · simp only[St.aQ]
    by_cases e:i=t
    · subst e
      rw[aG];have h1:=bM.aQ (l':= .slot i) (h.slot i hi');refine bM.eC m.grow m.rho (ad.fE _ (h.ok i)) (fun _ _ _ _ e=> ?_) h1;exact absurd e (ad.yP _ _ _ _ _)
    · rw[aw _ _ e]
      refine bM.mv m (h.ok i) (fun g k hgg=> ?_) (h.slot i hi');subst hgg;rw[hg];intro hh;injection hh with _ hh
      injection hh with hh;exact e hh.symm
  · simp only[St.aQ]
    by_cases e:i=t
    · subst e;rw[aG,h.out i hi];rfl
    · rw[aw _ _ e];exact h.out i hi
  · simp only[St.aQ]
    by_cases e:i=t
    · subst e;rw[aG];exact ad.fE _ (h.ok i)
    · rw[aw _ _ e];exact h.ok i
  · have hb':s.H[b]? =some (some cs):=hb
    refine qM.mv m (by rcases Nat.lt_or_ge b s.H.length with k|k;exact k;rw[List.getElem?_eq_none k] at hb';cases hb') (h.heap.ok b cs hb') (fun e=> ?_) (fun i g k hgg=> ?_) (h.heap.dk b cs hb')
    · have:=(h.heap.dk b cs hb').own
      rw[e,hg] at this;cases this
    · subst hgg
      rw[hg];intro hh;injection hh with _ hh;cases hh
def dT (H:List (Option (List aa))) (b:Nat) (cs:List aa):List (Option (List aa)):=H.set b (some cs)
theorem jJ {H:List (Option (List aa))} {b:Nat} {cs:List aa} {b':Nat} {cs':List aa} (h:(dT H b cs)[b']? =some (some cs')):(b'=b/\cs'=cs)\/(b'≠b/\H[b']? =some (some cs')):=by
 unfold dT at h;by_cases e:b=b'
 ·subst e
  rw[List.getElem?_set] at h;simp at h;exact .inl ⟨rfl,h.2.symm⟩
 ·rw[List.getElem?_set_ne e] at h
  exact .inr ⟨fun h=>e h.symm,h⟩
theorem Rel.rq {s:St} {a:Act} {w w':World} {κ κ':Nat->BK} {ρ ρ':Nat->Nat} {b0:Nat} {cs cs':List aa} (h:Rel s a w κ ρ) (hb0:s.H[b0]? =some (some cs)) (m:Mv (· =ρ b0) s.H.length w κ ρ w' κ' ρ') (hB:qM w' κ' ρ' b0 cs') (hok: ∀ x∈cs',x.ok s.H.length=true):
    Rel { s with H:=dT s.H b0 cs' } a w' κ' ρ':=by
  have hown:=(h.heap.dk b0 cs hb0).own;have hlen:(dT s.H b0 cs').length=s.H.length:=by simp[dT]
  have hno: ∀ l g k,g=ρ b0->κ g≠ .bg k l:=by intro l g k hg;subst hg;rw[hown];intro e;cases e
  refine ⟨h.defers,fun i hi'=>bM.mv m (h.ok i) (hno _) (h.slot i hi'),h.out,fun i=>by rw[hlen];exact h.ok i,⟨fun b ds hb=> ?_,fun b ds hb=> ?_⟩⟩
  · rcases jJ hb with ⟨rfl,rfl⟩|⟨hne,hb⟩
    · exact hB
    · refine qM.mv m (by rcases Nat.lt_or_ge b s.H.length with k|k;exact k;rw[List.getElem?_eq_none k] at hb;cases hb) (h.heap.ok b ds hb) (fun e=> ?_) (fun i=>hno _) (h.heap.dk b ds hb)
      have h1:=(h.heap.dk b ds hb).own;rw[e,hown] at h1
      injection h1 with h1;exact hne h1.symm
  · rw[hlen]
    rcases jJ hb with ⟨rfl,rfl⟩|⟨hne,hb⟩
    · exact hok
    · exact h.heap.ok b ds hb
theorem Rel.Fu {s:St} {a:Act} {w w':World} {κ κ':Nat->BK} {ρ ρ':Nat->Nat} {g0 b0 i0 k0:Nat} {cs:List aa} (h:Rel s a w κ ρ) (hb0:s.H[b0]? =some (some cs)) {y0:aa} (hy0:cs[i0]? =some y0) (hmp: ∀ q es,y0≠ .mp q es) (m:Mv (· =g0) s.H.length w κ ρ w' κ' ρ') (hg:κ g0= .bg k0 (.cell b0 i0)):
    Rel { s with H:=dT s.H b0 (cs.modify i0 aa.aQ) } a w' κ' ρ':=by
  have hlen:(dT s.H b0 (cs.modify i0 aa.aQ)).length=s.H.length:=by simp[dT]
  have hlt: ∀ {b ds},s.H[b]? =some (some ds)->b<s.H.length:=fun {b ds} hb=>by rcases Nat.lt_or_ge b s.H.length with k|k;exact k;rw[List.getElem?_eq_none k] at hb;cases hb
  have hne: ∀ b ds,s.H[b]? =some (some ds)-> ¬ ρ b=g0:=fun b ds hb e=>by
    have:=(h.heap.dk b ds hb).own;rw[e,hg] at this;cases this
  refine ⟨h.defers,fun i hi'=>bM.mv m (h.ok i) (fun g k hgg=> ?_) (h.slot i hi'),h.out,fun i=>by rw[hlen];exact h.ok i,⟨fun b ds hb=> ?_,fun b ds hb=> ?_⟩⟩
  · subst hgg;rw[hg];intro hh;injection hh with _ hh;cases hh
  · rcases jJ hb with ⟨rfl,rfl⟩|⟨hnb,hb⟩
    · have ho:=(h.heap.dk b cs hb0).own
      obtain ⟨c,e,h1,h2,h3⟩:=(h.heap.dk b cs hb0).np hy0 hmp;have hl1:=jL h1;obtain ⟨k1,k2⟩:=m.off _ hl1 (hne b cs hb0);refine ⟨by rw[m.rho b (hlt hb0),k2];exact ho,.inl ⟨c,e,by rw[m.rho b (hlt hb0),k1];exact h1,by simpa using h2,fun i hi hi'=> ?_⟩⟩;rw[List.length_modify] at hi;rw[List.getElem_modify];have hok:=h.heap.ok b cs hb0 _ (List.getElem_mem hi);by_cases e:i0=i
      · rw[if_pos e]
        refine bx.eC m.grow m.rho (aa.fE _ hok) (fun _ _ _ _ e=> ?_) (bx.aQ (l':= .cell b i) (h3 i hi hi'));have:=aa.gb cs[i];rw[e] at this;cases this
      · rw[if_neg e]
        refine bx.eC m.grow m.rho hok (fun _ _ _ _ _=>m.eC (fun g k hgg=> ?_)) (h3 i hi hi');subst hgg;rw[hg];intro hh;injection hh with _ hh;injection hh with _ hh;exact e hh
    · refine qM.mv m (hlt hb) (h.heap.ok b ds hb) (hne b ds hb) (fun i g k hgg=> ?_) (h.heap.dk b ds hb)
      subst hgg;rw[hg];intro hh;injection hh with _ hh;injection hh with hh _;exact hnb hh.symm
  · rw[hlen]
    rcases jJ hb with ⟨rfl,rfl⟩|⟨hnb,hb⟩
    · intro x hx
      obtain ⟨i,hi,rfl⟩:=List.mem_iff_getElem.1 hx;rw[List.getElem_modify];rw[List.length_modify] at hi;have hok:=h.heap.ok b cs hb0 _ (List.getElem_mem hi);by_cases e:i0=i
      · rw[if_pos e];exact aa.fE _ hok
      · rw[if_neg e];exact hok
    · exact h.heap.ok b ds hb
theorem Rel.Je {s:St} {a:Act} {w:World} {κ:Nat->BK} {ρ:Nat->Nat} {b0 i0:Nat} {cs:List aa} (h:Rel s a w κ ρ) (hb0:s.H[b0]? =some (some cs)) {y0:aa} (hy0:cs[i0]? =some y0) (hmp: ∀ q es,y0≠ .mp q es):Rel { s with H:=dT s.H b0 (cs.modify i0 aa.aQ) } a w κ ρ:=by
 have hlen:(dT s.H b0 (cs.modify i0 aa.aQ)).length=s.H.length:=by simp[dT]
 refine ⟨h.defers,h.slot,h.out,fun i=>by rw[hlen];exact h.ok i,⟨fun b ds hb=> ?_,fun b ds hb=> ?_⟩⟩
 ·rcases jJ hb with ⟨rfl,rfl⟩|⟨hnb,hb⟩
  ·have ho:=(h.heap.dk b cs hb0).own
   obtain ⟨c,e,h1,h2,h3⟩:=(h.heap.dk b cs hb0).np hy0 hmp;refine ⟨ho,.inl ⟨c,e,h1,by simpa using h2,fun i hi hi'=> ?_⟩⟩;rw[List.length_modify] at hi;rw[List.getElem_modify];by_cases e:i0=i
   ·rw[if_pos e];exact bx.aQ (h3 i hi hi')
   ·rw[if_neg e];exact h3 i hi hi'
  ·exact h.heap.dk b ds hb
 ·rw[hlen]
  rcases jJ hb with ⟨rfl,rfl⟩|⟨hnb,hb⟩
  ·intro x hx
   obtain ⟨i,hi,rfl⟩:=List.mem_iff_getElem.1 hx;rw[List.getElem_modify];rw[List.length_modify] at hi;have hok:=h.heap.ok b cs hb0 _ (List.getElem_mem hi);by_cases e:i0=i
   ·rw[if_pos e];exact aa.fE _ hok
   ·rw[if_neg e];exact hok
  ·exact h.heap.ok b ds hb
def qL:Value->aa
 | .slice none 0 0=> .f .nils
 | .agg _=> .any
 | .tuple _=> .any
 |x=> .f (.v x)
def wa:Value->ad
 | .agg vs=> .agg (vs.toList.map qL)
 |x=> .c (qL x)
section
variable {w w':World} {κ κ':Nat->BK} {ρ ρ':Nat->Nat} {l l':Loc} {s:St} {a:Act}
theorem lA (x:Value):bx w κ ρ l (qL x) x:=by
 unfold qL;split
 ·exact cy.nils
 ·trivial
 ·trivial
 ·rename_i h1 h2 h3
  refine cy.v _ ?_;cases x<;>first|rfl|exact absurd rfl (h2 _)|exact absurd rfl (h3 _)
theorem qk (x:Value):(qL x).flat=true:=by unfold qL;split<;>rfl
theorem DG (n:Nat) (x:Value):(qL x).ok n=true:=by unfold qL;split<;>rfl
theorem vC (x:Value):bM w κ ρ l (wa x) x:=by
 unfold wa;split
 ·rename_i vs
  exact ⟨vs,rfl,by simp,fun i h h'=>by
   rw[List.getElem_map,Array.getElem_toList];exact ⟨qk _,lA _⟩⟩
 ·exact lA x
theorem DH (n:Nat) (x:Value):(wa x).ok n=true:=by
 unfold wa;split
 ·simp only[ad.ok,List.all_eq_true]
  intro y hy;obtain ⟨z,_,rfl⟩:=List.mem_map.1 hy;exact DG n z
 ·exact DG n x
theorem MI (x:Value):(wa x).aQ=wa x:=by
 unfold wa;split
 ·rfl
 ·show ad.c (aa.aQ _)=_
  rw[aa.cG (qk _)]
def St.ev (s:St):Operand->ad
 | .tmp t=>s.sl t
 | .const v=>wa v
 |_=> .c .any
theorem Rel.y7 (h:Rel s a w κ ρ) (t:Tmp):bM w κ ρ (.slot t) (s.ev (.tmp t)) (a.eval (.tmp t)):=by
 simp only[St.ev,Act.eval];rcases Nat.lt_or_ge t a.tmps.size with hlt|hge
 ·simp only[Array.getD,hlt,dite_true]
  exact h.slot t hlt
 ·rw[h.out t hge]
  trivial
theorem Rel.ev (h:Rel s a w κ ρ) (x:Operand):bM w κ ρ l (s.ev x).aQ (a.eval x):=by
 cases x with
 |tmp t=>exact bM.aQ (h.y7 t)
 |const v=>show bM w κ ρ l (wa v).aQ v;rw[MI];exact vC v
 |global g=>trivial
 |func f=>trivial
theorem Rel.jF (h:Rel s a w κ ρ) (x:Operand):(s.ev x).ok s.H.length=true:=by
 cases x with
 |tmp t=>exact h.ok t
 |const v=>exact DH _ v
 |global g=>rfl
 |func f=>rfl
end
def ag.gp:ag->Option Value
 | .v x=>some x
 | .nils=>some (.slice none 0 0)
 | .row .. =>none
 | .ip .. =>none
def aa.gp:aa->Option Value
 | .f x=>x.gp
 |_=>none
def qF:List aa->Option (List Value)
 |[]=>some []
 |c::cs=>match c.gp,qF cs with
  |some v,some vs=>some (v::vs)
  |_,_=>none
def ad.gp:ad->Option Value
 | .c x=>x.gp
 | .agg cs=>match qF cs with
  |some vs=>some (.agg vs.toArray)
  |none=>none
 | .cC _=>none
section
variable {w w':World} {κ κ':Nat->BK} {ρ ρ':Nat->Nat} {l l':Loc} {s:St} {a:Act}
theorem aa.tK: ∀ {x:aa} {v y:Value},bx w κ ρ l x v->x.gp=some y->v=y
 | .f (.v x),v,y,h,e=>by
  have h1:=(eX.1 h).1;injection e with e
  exact h1.trans e
 | .f .nils,v,y,h,e=>by
  have h1:=dR.1 h;injection e with e
  exact h1.trans e
 | .f (.row ..),_,_,_,e=>by cases e
 | .f (.ip ..),_,_,_,e=>by cases e
 | .ptr ..,_,_,_,e=>by cases e
 | .arr ..,_,_,_,e=>by cases e
 | .bg ..,_,_,_,e=>by cases e
 | .und,_,_,_,e=>by cases e
 | .any,_,_,_,e=>by cases e
 | .mh ..,_,_,_,e=>by cases e
 | .mp ..,_,_,_,e=>by cases e
theorem Co: ∀ (cs:List aa) (vs:List Value),qF cs=some vs->vs.length=cs.length/\ ∀ i (h:i<cs.length) (h':i<vs.length),cs[i].gp=some vs[i]
 |[],vs,h=>by
  injection h with h;subst h;exact ⟨rfl,fun i h=>by simp at h⟩
 |c::cs,vs,h=>by
  unfold qF at h;split at h
  ·rename_i v us e1 e2
   injection h with h;subst h;obtain ⟨h1,h2⟩:=Co cs us e2;refine ⟨by simp[h1],fun i hi hi'=> ?_⟩;cases i with
   |zero=>exact e1
   |succ i=>exact h2 i (by simpa using hi) (by simpa using hi')
  ·cases h
theorem ad.tK {x:ad} {v y:Value} (h:bM w κ ρ l x v) (e:x.gp=some y):v=y:=by
 cases x with
 |c x=>exact aa.tK h e
 |agg cs=>
  obtain ⟨vs,rfl,hs,hi⟩:=h;simp only[ad.gp] at e;split at e
  ·rename_i us e1
   injection e with e;subst e;obtain ⟨h1,h2⟩:=Co cs us e1;congr 1;apply Array.ext
   ·simp[hs,h1]
   ·intro i hj hj'
    have hi1:i<cs.length:=by omega
    have hi2:i<us.length:=by omega
    have:=aa.tK (hi i hi1 hj).2 (h2 i hi1 hi2);simpa using this
  ·cases e
 |cC ts=>cases e
theorem ad.Nj {x:ad} {y:Value} (e:x.gp=some y):x.aQ=x:=by
 cases x with
 |c x=>
  show ad.c (aa.aQ _)=_;cases x<;>first|rfl|cases e
 |agg cs=>rfl
 |cC ts=>rfl
theorem Rel.gp (h:Rel s a w κ ρ) {x:Operand} {y:Value} (e:(s.ev x).gp=some y):a.eval x=y:=by
 have:=h.ev (l:= .slot 0) x;rw[ad.Nj e] at this
 exact ad.tK this e
end
def bA {α:Type} (P:Program):Sem α->Option α
 | .pure a=>some a
 | .program k=>bA P (k P)
 | .mark _ k=>bA P k
 |_=>none
theorem ny {α:Type} {P:Program}: ∀ {s:Sem α} {a:α},bA P s=some a-> ∀ w,s.run P w= .ok a w
 | .pure a,_,h,w=>by injection h with h;subst h;rfl
 | .program k,_,h,w=>by show (k P).run P w=_;exact ny (s:=k P) h w
 | .mark _ k,_,h,w=>by show k.run P w=_;exact ny (s:=k) h w
 | .load ..,_,h,_=>by cases h
 | .store ..,_,h,_=>by cases h
 | .new ..,_,h,_=>by cases h
 | .shape ..,_,h,_=>by cases h
 | .freeze ..,_,h,_=>by cases h
 | .frozen ..,_,h,_=>by cases h
 | .getObj ..,_,h,_=>by cases h
 | .setObj ..,_,h,_=>by cases h
 | .choose ..,_,h,_=>by cases h
 | .sys ..,_,h,_=>by cases h
 | .halt ..,_,h,_=>by cases h
structure eJ where
 aQ:Option Tmp:=none
 dk:Option (Nat×List aa):=none
 new:Option (List aa):=none
def St.fD (s:St):Option Tmp->St
 |some t=>s.aQ t
 |none=>s
def St.mW (s:St):Option (Nat×List aa)->St
 |some (b,cs)=>{ s with H:=dT s.H b cs }
 |none=>s
def St.nu (s:St):Option (List aa)->St
 |some cs=>{ s with H:=s.H++[some cs] }
 |none=>s
def St.nV (s:St) (c:eJ):St:=((s.fD c.aQ).mW c.dk).nu c.new
def Yields (P:Program) (o:Oper) (a:Act) (w:World) (v:Value) (w':World):Prop:=
 (execOp a.eval o).run P w= .ok (.value v) w'\/((execOp a.eval o).run P w= .ok .skip w'/\v=undef)
def hX (P:Program) (o:Oper) (s:St) (x:ad) (c:eJ):Prop:=
 ∀ a w κ ρ,Rel s a w κ ρ-> ∃ v w' κ' ρ',Yields P o a w v w'/\Rel (s.nV c) a w' κ' ρ'/\(∀ d,o.dst=some d->bM w' κ' ρ' (.slot d) x v)/\x.ok (s.nV c).H.length=true/\Fr w κ w' κ'/\(∀ b,b<s.H.length->ρ' b=ρ b)
theorem hX.still {P:Program} {o:Oper} {s:St} {x:ad}
  (h: ∀ a w κ ρ,Rel s a w κ ρ-> ∃ v,(execOp a.eval o).run P w= .ok (.value v) w/\(∀ d,bM w κ ρ (.slot d) x v)/\x.ok s.H.length=true):hX P o s x {}:=by
 intro a w κ ρ hR;obtain ⟨v,h1,h2,h3⟩:=h a w κ ρ hR;exact ⟨v,w,κ,ρ,.inl h1,hR,fun d _=>h2 d,h3,Fr.refl _ _,fun _ _=>rfl⟩
def St.env (s:St) (x:Operand):Value:=((s.ev x).gp).getD undef
def Bi:Op->Bool
 | .select .. =>true
 |_=>false
def cv (P:Program) (s:St) (o:Oper):Option (ad×eJ):=
 if o.op.operands.toList.all (fun x=>(s.ev x).gp.isSome)&& !Bi o.op then
  match bA P (execOp s.env o) with
  |some (.value v)=>some (wa v,{})
  |_=>none
 else none
theorem ir {P:Program} {s:St} {o:Oper} {x:ad} {c:eJ} (h:cv P s o=some (x,c)):hX P o s x c:=by
 unfold cv at h;split at h
 ·rename_i hc
  rw[Bool.and_eq_true] at hc;split at h
  ·rename_i v hv
   injection h with h;injection h with h1 h2;subst h1;subst h2;refine hX.still fun a w κ ρ hR=>⟨v,?_,fun d=>vC v,DH _ v⟩
   have he:execOp a.eval o=execOp s.env o:=execOp_congr o (fun cs b e=>by rw[e] at hc;simp[Bi] at hc) (fun y hy=>by
    have:=List.all_eq_true.1 hc.1 y (Array.mem_toList_iff.2 hy);obtain ⟨u,hu⟩:=Option.isSome_iff_exists.1 this;rw[hR.gp hu,St.env,hu];rfl)
   rw[he];exact ny hv w
  ·cases h
 ·cases h
section
variable {w w':World} {κ κ':Nat->BK} {ρ ρ':Nat->Nat} {l l':Loc} {s:St} {a:Act}
theorem vg {g k n:Nat} (h:κ g= .bg k l) (l':Loc):Mv (· =g) n w κ ρ w (dJ κ g (.bg k l')) ρ:=
  ⟨rfl,rfl,rfl,Nat.le_refl _,fun _ _=>rfl,fun j _ hj=>⟨rfl,aw _ _ hj⟩,fun _ _ _ _ _ _ hx=>hx,
   fun j m _ hj hf=>by subst hj;rw[aG];rw[h] at hf;exact hf,fun j m hj=>by subst hj;rw[h];intro e;cases e⟩
theorem j5.label {q:Bool} {sz:Nat} {cs:List ag} {len g cap:Nat} (h:j5 w κ l q sz cs len g cap) (l':Loc):j5 w (dJ κ g (.bg (tE q cs.length) l')) l' q sz cs len g cap:=
 ⟨fun i hi=>by obtain ⟨x,hx,hr⟩:=h.cell i hi;exact ⟨x,hx,hr.grow (vg (n:=0) (ρ:=id) h.own l').grow⟩,h.lt,h.cut,aG _ _ _,h.le,h.dk⟩
theorem Dd {s:St} {a:Act} {w:World} {κ:Nat->BK} {ρ:Nat->Nat} (h:Rel s a w κ ρ) (t:Nat):Rel (s.aQ t) a w κ ρ:=by
 refine ⟨h.defers,fun i hi'=> ?_,fun i hi=> ?_,fun i=> ?_,h.heap⟩
 ·simp only[St.aQ]
  by_cases e:i=t
  ·subst e;rw[aG];exact bM.aQ (h.slot i hi')
  ·rw[aw _ _ e];exact h.slot i hi'
 ·simp only[St.aQ]
  by_cases e:i=t
  ·subst e;rw[aG,h.out i hi];rfl
  ·rw[aw _ _ e];exact h.out i hi
 ·simp only[St.aQ]
  by_cases e:i=t
  ·subst e;rw[aG];exact ad.fE _ (h.ok i)
  ·rw[aw _ _ e];exact h.ok i
theorem Rel.Pc {t:Nat} {q:Bool} {sz:Nat} {cs:List ag} {len:Nat} (h:Rel s a w κ ρ) (ht:s.ev (.tmp t)= .c (.bg q sz cs len)) (l':Loc):
  ∃ κ',Rel (s.aQ t) a w κ' ρ/\bx w κ' ρ l' (.bg q sz cs len) (a.eval (.tmp t))/\Fr w κ w κ':=by
 have h1:=h.y7 t;rw[ht] at h1
 obtain ⟨g,cap,hv,hT⟩|hn:=h1
 rotate_left
 ·exact ⟨κ,Dd h t,.inr hn,Fr.refl _ _⟩
 have m:=vg (w:=w) (ρ:=ρ) (n:=s.H.length) hT.own l';exact ⟨_,h.zl m hT.own,.inl ⟨g,cap,hv,hT.label l'⟩,m.fr⟩
end
def fC (tr:Bool) (s:St) (x:Operand):ad×eJ:=
 match tr,x,s.ev x with
 |true,.tmp t,.c (.bg q sz cs len)=>(.c (.bg q sz cs len),{ aQ:=some t })
 |_,_,v=>(v.aQ,{})
theorem qT {P:Program} {s:St} {o:Oper} {tr:Bool} {x:Operand} (ho: ∀ (ρ:Operand->Value) w,(execOp ρ o).run P w= .ok (.value (ρ x)) w):hX P o s (fC tr s x).1 (fC tr s x).2:=by
 unfold fC;split
 ·rename_i t q sz cs len he
  intro a w κ ρ hR;cases hd:o.dst with
  |none=>
   obtain ⟨κ',h1,h2,h3⟩:=hR.Pc he (.slot 0);exact ⟨_,w,κ',ρ,.inl (ho _ _),h1,(fun d e=>by cases e),rfl,h3,fun _ _=>rfl⟩
  |some d=>
   obtain ⟨κ',h1,h2,h3⟩:=hR.Pc he (.slot d);exact ⟨_,w,κ',ρ,.inl (ho _ _),h1,(fun d' e=>by cases e;exact h2),rfl,h3,fun _ _=>rfl⟩
 ·exact hX.still fun a w κ ρ hR=>⟨_,ho _ _,fun d=>hR.ev _,ad.fE _ (hR.jF _)⟩
def rT (s:St) (c x y:Operand):Option (ad×eJ):=
 match s.ev c with
 | .c (.f (.v (.bool true)))=>some ((s.ev x).aQ,{})
 | .c (.f (.v (.bool false)))=>some ((s.ev y).aQ,{})
 |_=>none
theorem Gj {P:Program} {s:St} {o:Oper} {c x y:Operand} {r:ad} {ch:eJ} (ho:o.op= .pick c x y) (h:rT s c x y=some (r,ch)):hX P o s r ch:=by
 unfold rT at h;split at h
 ·rename_i he
  injection h with h;injection h with h1 h2;subst h1;subst h2;refine hX.still fun a w κ ρ hR=>⟨a.eval x,?_,fun d=>hR.ev x,ad.fE _ (hR.jF x)⟩
  have:a.eval c= .bool true:=hR.gp (by rw[he];rfl);simp[execOp,ho,this,asBool]
 ·rename_i he
  injection h with h;injection h with h1 h2;subst h1;subst h2;refine hX.still fun a w κ ρ hR=>⟨a.eval y,?_,fun d=>hR.ev y,ad.fE _ (hR.jF y)⟩
  have:a.eval c= .bool false:=hR.gp (by rw[he];rfl);simp[execOp,ho,this,asBool]
 ·cases h
def oe (P:Program) (t:TypeId):Option (Bool×Nat):=
 match P.underlying t,P.info? t with
 |some d,some i=>some (d.isRow,i.size)
 |_,_=>none
theorem zV {P:Program} {t:TypeId} {b:Bool} {n:Nat} (h:oe P t=some (b,n)): ∃ d i,P.underlying t=some d/\P.info? t=some i/\d.isRow=b/\i.size=n:=by
 unfold oe at h;split at h
 ·rename_i d i h1 h2
  injection h with h;injection h with h3 h4;exact ⟨d,i,h1,h2,h3,h4⟩
 ·cases h
theorem xK {P:Program} {t:TypeId} {d:TypeDesc} (h:P.underlying t=some d) (w:World):(isAgg t).run P w= .ok d.isRow w:=by
 unfold isAgg;rw[Sem.run_bind,run_underlying h w];cases d<;>rfl
theorem eu {P:Program} (w:World) (g o:Nat) (t:TypeId) {n:Nat} (ht:oe P t=some (false,n)) {v:Value} (hc:w.cell? ⟨g,o,none⟩=some v):
  (Instr.loadAt t (.pointer (some ⟨g,o,none⟩))).run P w= .ok v w:=by
 obtain ⟨d,i,h1,h2,h3,h4⟩:=zV ht;have:=xK h1 w;rw[h3] at this;simp only[Instr.loadAt,Instr.sureAddr,loadVar,Sem.run_bind,Sem.run_pure,Result.andThen_ok,this];simp[load,Sem.run,hc]
theorem gY {P:Program} (w:World) (g o:Nat) (t:TypeId) {n:Nat} (ht:oe P t=some (true,n)) {vs:List Value} (hn:vs.length=n) (hc:w.rangeAt g o vs):
  (Instr.loadAt t (.pointer (some ⟨g,o,none⟩))).run P w= .ok (.agg vs.toArray) w:=by
 obtain ⟨d,i,h1,h2,h3,h4⟩:=zV ht;exact run_loadAt_mid w g o t vs d hc h1 h3 (by rw[h2];simp[h4,hn])
section
variable {w w':World} {κ κ':Nat->BK} {ρ ρ':Nat->Nat} {l l':Loc} {s:St} {a:Act}
theorem uC {g o:Nat} {cs:List ag} (h: ∀ i (h:i<cs.length),∃ x,w.cell? ⟨g,o+i,none⟩=some x/\cy w κ cs[i] x) (off n:Nat) (hn:off+n<=cs.length):
  ∃ vs:List Value,vs.length=n/\w.rangeAt g (o+off) vs/\ ∀ i (hi:i<n) (h':i<vs.length),cy w κ (cs[off+i]'(by omega)) vs[i]:=by
 refine ⟨(List.range n).map fun i=>if hh:off+i<cs.length then (h (off+i) hh).choose else default,by simp,fun j v hv=> ?_,fun i hi hi'=> ?_⟩
 ·rw[List.getElem?_map] at hv
  rcases Nat.lt_or_ge j n with hj|hj
  ·rw[List.getElem?_range hj] at hv
   have hh:off+j<cs.length:=by omega
   simp only[Option.map_some,hh,dite_true,Option.some.injEq] at hv;rw[← hv,Nat.add_assoc];exact (h (off+j) hh).choose_spec.1
  ·rw[List.getElem?_eq_none (by simpa using hj)] at hv;cases hv
 ·have hh:off+i<cs.length:=by omega
  simp only[List.getElem_map,List.getElem_range,hh,dite_true];exact (h (off+i) hh).choose_spec.2
theorem gH.part {g o:Nat} {cs:List ag} (h:gH w κ g o cs) (off n:Nat) (hn:off+n<=cs.length):
  ∃ vs:List Value,vs.length=n/\w.rangeAt g (o+off) vs/\ ∀ i (hi:i<n) (h':i<vs.length),cy w κ (cs[off+i]'(by omega)) vs[i]:=uC h.cell off n hn
theorem qM.cell {b:Nat} {cs:List aa} (h:qM w κ ρ b cs) (hm:nO w κ ρ b cs) (i:Nat) (hi:i<cs.length): ∃ v,w.cell? ⟨ρ b,i,none⟩=some v/\bx w κ ρ (.cell b i) cs[i] v:=by
 obtain ⟨c,e,h1,h2,h3⟩:=hm;have hi':i<c.size:=by omega
 refine ⟨c[i],?_,h3 i hi hi'⟩;simp[World.cell?,h1,hi']
theorem qM.part {b:Nat} {cs:List aa} (off n:Nat) (h:qM w κ ρ b cs) (hm:n=0\/nO w κ ρ b cs) (hn:off+n<=cs.length):
  ∃ vs:List Value,vs.length=n/\w.rangeAt (ρ b) off vs/\ ∀ i (hi:i<n) (h':i<vs.length),bx w κ ρ (.cell b (off+i)) (cs[off+i]'(by omega)) vs[i]:=by
 rcases hm with rfl|hm
 ·exact ⟨[],rfl,fun j v hj=>by simp at hj,fun i hi=>by omega⟩
 obtain ⟨c,e,h1,h2,h3⟩:=hm;refine ⟨(c.extract off (off+n)).toList,by simp;omega,fun j v hv=> ?_,fun i hi hi'=> ?_⟩
 ·rw[Array.getElem?_toList,Array.getElem?_extract] at hv
  split at hv
  ·simp only[World.cell?,h1]
   simpa using hv
  ·cases hv
 ·have hlt:off+i<c.size:=by omega
  simp only[Array.getElem_toList,Array.getElem_extract];exact h3 (off+i) (by omega) hlt
theorem Fg {H:List (Option (List aa))} (h:we H w κ ρ) {b:Nat} {cs:List aa} (hb:H[b]? =some (some cs)) (i:Nat) (hi:i<cs.length):cs[i].ok H.length=true:=h.ok b cs hb _ (List.getElem_mem hi)
end
def eb (P:Program) (tr:Bool) (s:St) (t:TypeId) (x:Operand):Option (ad×eJ):=
 match oe P t,s.ev x with
 |some (false,_),.c (.ip cs off)=>match cs[off]? with
  |some y=>some (.c (.f y),{})
  |none=>none
 |some (true,n),.c (.ip cs off)=>if off+n<=cs.length then some (.agg (((cs.drop off).take n).map aa.f),{}) else none
 |some (false,_),.c (.ptr b off)=>match s.H[b]? with
  |some (some cells)=>match cells[off]? with
   |some y=>match tr,y with
    |true,.bg q sz cs len=>some (.c (.bg q sz cs len),{ dk:=some (b,cells.modify off aa.aQ) })
    |_,.mp .. =>none
    |_,_=>some (.c y.aQ,{})
   |none=>none
  |_=>none
 |some (true,n),.c (.ptr b off)=>match s.H[b]? with
  |some (some cells)=>if off+n<=cells.length/\gE cells=true then some (.agg (((cells.drop off).take n).map aa.aQ),{}) else none
  |_=>none
 |_,_=>none
theorem jr {P:Program} {ev:Operand->Value} {o:Oper} {t:TypeId} {x:Operand} (ho:o.op= .load t x) {v:Value} {w w':World} (h:(Instr.loadAt t (ev x)).run P w= .ok v w'):(execOp ev o).run P w= .ok (.value v) w':=by
 simp[execOp,ho,h]
theorem Rel.um {s:St} {a:Act} {w:World} {κ:Nat->BK} {ρ:Nat->Nat} (h:Rel s a w κ ρ) {x:Operand} {cs:List ag} {off:Nat} (e:s.ev x= .c (.ip cs off)): ∃ g o,a.eval x= .pointer (some ⟨g,o+off,none⟩)/\gH w κ g o cs:=by
 have:=h.ev (l:= .slot 0) x;rw[e] at this
 exact qw.1 this
theorem Rel.jB {s:St} {a:Act} {w:World} {κ:Nat->BK} {ρ:Nat->Nat} (h:Rel s a w κ ρ) {x:Operand} {b off:Nat} (e:s.ev x= .c (.ptr b off)):a.eval x= .pointer (some ⟨ρ b,off,none⟩):=by
 have:=h.ev (l:= .slot 0) x;rw[e] at this
 exact this
theorem Rel.mV {s:St} {a:Act} {w:World} {κ:Nat->BK} {ρ:Nat->Nat} (h:Rel s a w κ ρ) {x:Operand} {b off len cap:Nat} (e:(s.ev x).aQ= .c (.arr b off len cap)):a.eval x= .slice (some ⟨ρ b,off,none⟩) len cap:=by
 have:=h.ev (l:= .slot 0) x;rw[e] at this
 exact this
theorem Rel.qW {s:St} {a:Act} {w:World} {κ:Nat->BK} {ρ:Nat->Nat} (h:Rel s a w κ ρ) {x:Operand} {cs:List ag} {len:Nat} (e:(s.ev x).aQ= .c (.f (.row cs len))):(∃ g o cap,a.eval x= .slice (some ⟨g,o,none⟩) len cap/\len<=cap/\gH w κ g o cs)\/(cs=[]/\len=0/\ ∃ A,a.eval x= .slice A 0 0):=by
 have:=h.ev (l:= .slot 0) x;rw[e] at this
 exact vD.1 this
theorem xx (n off:Nat) (cs:List ag) (m:Nat):(ad.agg (((cs.drop off).take n).map aa.f)).ok m=true:=by
 simp only[ad.ok,List.all_eq_true];intro y hy;obtain ⟨z,_,rfl⟩:=List.mem_map.1 hy;rfl
theorem Gh {P:Program} {s:St} {o:Oper} {tr:Bool} {t:TypeId} {x:Operand} {r:ad} {ch:eJ} (ho:o.op= .load t x) (h:eb P tr s t x=some (r,ch)):hX P o s r ch:=by
 unfold eb at h;split at h
 ·rename_i n cs off ht he
  split at h
  ·rename_i y hy
   injection h with h;injection h with h1 h2;subst h1;subst h2;refine hX.still fun a w κ ρ hR=> ?_
   obtain ⟨g,oo,hv,hrow⟩:=hR.um he;obtain ⟨hi,hyy⟩:=List.getElem?_eq_some_iff.1 hy;obtain ⟨v,hc,hr⟩:=hrow.cell off hi;rw[hyy] at hr;exact ⟨v,jr ho (by rw[hv];exact eu w g (oo+off) t ht hc),fun d=>hr,rfl⟩
  ·cases h
 ·rename_i n cs off ht he
  split at h
  ·rename_i hn
   injection h with h;injection h with h1 h2;subst h1;subst h2;refine hX.still fun a w κ ρ hR=> ?_
   obtain ⟨g,oo,hv,hrow⟩:=hR.um he;obtain ⟨vs,hl,hra,hre⟩:=hrow.part off n hn;refine ⟨.agg vs.toArray,jr ho (by rw[hv];exact gY w g (oo+off) t ht hl hra),fun d=>⟨vs.toArray,rfl,by simp;omega,fun i hi hi'=> ?_⟩,xx _ _ _ _⟩;have hi2:i<n:=by simp at hi;omega
   refine ⟨by rw[List.getElem_map];rfl,?_⟩;have:=hre i hi2 (by omega);simp only[List.getElem_map,List.getElem_take,List.getElem_drop];exact this
  ·cases h
 ·rename_i n b off ht he
  split at h
  ·rename_i cells hb
   split at h
   ·rename_i y hy
    obtain ⟨hi,hyy⟩:=List.getElem?_eq_some_iff.1 hy;split at h
    ·rename_i q sz cs len
     injection h with h;injection h with h1 h2;subst h1;subst h2;intro a w κ ρ hR;obtain ⟨v,hc,hr⟩:=(hR.heap.dk b cells hb).cell ((hR.heap.dk b cells hb).np hy (fun _ _ e=>by cases e)) off hi;rw[hyy] at hr;obtain ⟨g,cap,rfl,hT⟩|hn:=hr
     rotate_left
     ·exact ⟨v,w,κ,ρ,.inl (jr ho (by rw[hR.jB he];exact eu w _ off t ht hc)),hR.Je hb hy (fun _ _ e=>by cases e),fun d hd=> .inr hn,rfl,Fr.refl _ _,fun _ _=>rfl⟩
     have m:=vg (w:=w) (ρ:=ρ) (n:=s.H.length) hT.own (.slot (o.dst.getD 0));refine ⟨_,w,_,ρ,.inl (jr ho (by rw[hR.jB he];exact eu w _ off t ht hc)),hR.Fu hb hy (fun _ _ e=>by cases e) m hT.own,fun d hd=> ?_,rfl,m.fr,fun _ _=>rfl⟩;rw[hd];exact .inl ⟨g,cap,rfl,hT.label _⟩
    ·cases h
    ·rename_i hnm1 hnm2
     injection h with h;injection h with h1 h2;subst h1;subst h2;refine hX.still fun a w κ ρ hR=> ?_
     obtain ⟨v,hc,hr⟩:=(hR.heap.dk b cells hb).cell ((hR.heap.dk b cells hb).np hy (fun q es e=>by first|exact hnm1 q es e|exact hnm2 q es e)) off hi;rw[hyy] at hr;exact ⟨v,jr ho (by rw[hR.jB he];exact eu w _ off t ht hc),fun d=>bx.aQ hr,aa.fE _ (hyy▸Fg hR.heap hb off hi)⟩
   ·cases h
  ·cases h
 ·rename_i n b off ht he
  split at h
  ·rename_i cells hb
   split at h
   ·rename_i hn
    injection h with h;injection h with h1 h2;subst h1;subst h2;refine hX.still fun a w κ ρ hR=> ?_
    obtain ⟨hn,hkk⟩:=hn;obtain ⟨vs,hl,hra,hre⟩:=(hR.heap.dk b cells hb).part off n (.inr ((hR.heap.dk b cells hb).JE hkk)) hn;refine ⟨.agg vs.toArray,jr ho (by rw[hR.jB he];exact gY w _ off t ht hl hra),fun d=>⟨vs.toArray,rfl,by simp;omega,fun i hi hi'=> ?_⟩,?_⟩
    ·have hi2:i<n:=by simp at hi;omega
     refine ⟨by rw[List.getElem_map];exact aa.gb _,?_⟩;have:=hre i hi2 (by omega);simp only[List.getElem_map,List.getElem_take,List.getElem_drop];exact bx.aQ this
    ·simp only[ad.ok,List.all_eq_true]
     intro y hy;obtain ⟨z,hz,rfl⟩:=List.mem_map.1 hy;exact aa.fE _ (hR.heap.ok b cells hb z (List.mem_of_mem_drop (List.mem_of_mem_take hz)))
   ·cases h
  ·cases h
 ·cases h
def nc (P:Program) (t:TypeId) (f:Nat):Option Nat:=
 match P.underlying t with
 |some (.struct fields)=>match fields[f]? with
  |some fd=>match P.info? fd.type with
   |some i=>if i.size=0 then none else some fd.offset
   |none=>none
  |none=>none
 |_=>none
theorem sJ {P:Program} {t:TypeId} {f k:Nat} (h:nc P t f=some k) (w:World) (g o:Nat):
  (Instr.fieldAt t (.pointer (some ⟨g,o,none⟩)) f).run P w= .ok (.pointer (some ⟨g,o+k,none⟩)) w:=by
 unfold nc at h;split at h
 ·rename_i fields hu
  split at h
  ·rename_i fd hf
   split at h
   ·rename_i i hi
    split at h
    ·cases h
    ·rename_i hz
     injection h with h;subst h;simp[Instr.fieldAt,run_underlying hu w,hf,Instr.sureAddr,fieldPlace,sizeOf,typeInfo,program,Sem.run,hi,hz,Addr.add_mid]
   ·cases h
  ·cases h
 ·cases h
def dX (P:Program) (s:St) (t:TypeId) (x:Operand) (f:Nat):Option (ad×eJ):=
 match nc P t f,s.ev x with
 |some k,.c (.ip cs off)=>some (.c (.ip cs (off+k)),{})
 |some k,.c (.ptr b off)=>some (.c (.ptr b (off+k)),{})
 |_,_=>none
theorem ud {P:Program} {s:St} {o:Oper} {t:TypeId} {x:Operand} {f:Nat} {r:ad} {ch:eJ} (ho:o.op= .fieldAddr t x f) (h:dX P s t x f=some (r,ch)):hX P o s r ch:=by
 unfold dX at h;split at h
 ·rename_i k cs off hk he
  injection h with h;injection h with h1 h2;subst h1;subst h2;refine hX.still fun a w κ ρ hR=> ?_
  obtain ⟨g,oo,hv,hrow⟩:=hR.um he;exact ⟨.pointer (some ⟨g,oo+off+k,none⟩),by simp[execOp,ho,hv,sJ hk],fun d=>qw.2 ⟨g,oo,by rw[Nat.add_assoc],hrow⟩,rfl⟩
 ·rename_i k b off hk he
  injection h with h;injection h with h1 h2;subst h1;subst h2;refine hX.still fun a w κ ρ hR=> ?_
  have hv:=hR.jB he;exact ⟨_,by simp[execOp,ho,hv,sJ hk],fun d=>rfl,by have:=hR.jF x;rw[he] at this;exact this⟩
 ·cases h
def bl (P:Program) (t:TypeId):Option Nat:=
 match P.underlying t with
 |some (.slice e)=>match P.info? e with
  |some i=>some i.size
  |none=>none
 |_=>none
def pK (P:Program) (t:TypeId):Option (Nat×Nat):=
 match P.underlying t with
 |some (.array n e)=>match P.info? e with
  |some i=>some (n,i.size)
  |none=>none
 |_=>none
theorem dH {P:Program} {t:TypeId} {z:Nat} (h:bl P t=some z): ∃ e i,P.underlying t=some (.slice e)/\P.info? e=some i/\i.size=z:=by
 unfold bl at h;split at h
 ·rename_i e hu
  split at h
  ·rename_i i hi;injection h with h;exact ⟨e,i,hu,hi,h⟩
  ·cases h
 ·cases h
theorem IU {P:Program} {t:TypeId} {n z:Nat} (h:pK P t=some (n,z)): ∃ e i,P.underlying t=some (.array n e)/\P.info? e=some i/\i.size=z:=by
 unfold pK at h;split at h
 ·rename_i m e hu
  split at h
  ·rename_i i hi;injection h with h;injection h with h1 h2;subst h1;exact ⟨e,i,hu,hi,h2⟩
  ·cases h
 ·cases h
theorem run_indexAt_slice {P:Program} {t:TypeId} {z:Nat} (ht:bl P t=some z) (w:World) (g o len cap:Nat) (k:IntKind) (n:Int) (h0:0<=n) (h1:n<len):
  (Instr.indexAt t (.slice (some ⟨g,o,none⟩) len cap) (.int k n)).run P w= .ok (.pointer (some ⟨g,o+n.toNat*z,none⟩)) w:=by
 obtain ⟨e,i,hu,hi,hz⟩:=dH ht;simp[Instr.indexAt,asIntOf,run_underlying hu w,sizeOf,typeInfo,program,Sem.run,hi,hz,h0,h1,Addr.add_mid]
theorem run_indexAt_array {P:Program} {t:TypeId} {m z:Nat} (ht:pK P t=some (m,z)) (w:World) (g o:Nat) (k:IntKind) (n:Int) (h0:0<=n) (h1:n<m):
  (Instr.indexAt t (.pointer (some ⟨g,o,none⟩)) (.int k n)).run P w= .ok (.pointer (some ⟨g,o+n.toNat*z,none⟩)) w:=by
 obtain ⟨e,i,hu,hi,hz⟩:=IU ht;simp[Instr.indexAt,asIntOf,run_underlying hu w,Instr.sureAddr,sizeOf,typeInfo,program,Sem.run,hi,hz,h0,h1,Addr.add_mid]
def ad.ix:ad->Option Int
 | .c (.f (.v (.int _ n)))=>some n
 |_=>none
theorem Rel.rU {s:St} {a:Act} {w:World} {κ:Nat->BK} {ρ:Nat->Nat} (h:Rel s a w κ ρ) {x:Operand} {n:Int} (e:(s.ev x).ix=some n): ∃ k,a.eval x= .int k n:=by
 unfold ad.ix at e;split at e
 ·rename_i k m he
  injection e with e;subst e;exact ⟨k,h.gp (by rw[he];rfl)⟩
 ·cases e
def dA (P:Program) (s:St) (t:TypeId) (x i:Operand):Option (ad×eJ):=
 match (s.ev i).ix with
 |some n=>if 0<=n then
  match bl P t,pK P t,(s.ev x).aQ with
  |some z,_,.c (.f (.row cs len))=>if n<len then some (.c (.ip cs (n.toNat*z)),{}) else none
  |some z,_,.c (.arr b off len _)=>if n<len then some (.c (.ptr b (off+n.toNat*z)),{}) else none
  |none,some (m,z),.c (.ptr b off)=>if n<m then some (.c (.ptr b (off+n.toNat*z)),{}) else none
  |none,some (m,z),.c (.ip cs off)=>if n<m then some (.c (.ip cs (off+n.toNat*z)),{}) else none
  |_,_,_=>none
  else none
 |none=>none
theorem ET {x:ad} {b off:Nat} (h:x.aQ= .c (.ptr b off)):x= .c (.ptr b off):=by
 cases x with
 |c x=>cases x<;>first|exact h|cases h|(rename_i q _ _ _;cases q<;>cases h)
 |agg cs=>cases h
 |cC ts=>cases h
theorem OK {x:ad} {cs:List ag} {off:Nat} (h:x.aQ= .c (.ip cs off)):x= .c (.ip cs off):=by
 cases x with
 |c x=>cases x<;>first|exact h|cases h|(rename_i q _ _ _;cases q<;>cases h)
 |agg cs=>cases h
 |cC ts=>cases h
theorem ES {x:ad} {b off len cap:Nat} (h:x.aQ= .c (.arr b off len cap)):x= .c (.arr b off len cap):=by
 cases x with
 |c x=>cases x<;>first|exact h|cases h|(rename_i q _ _ _;cases q<;>cases h)
 |agg cs=>cases h
 |cC ts=>cases h
theorem ue {P:Program} {s:St} {o:Oper} {t:TypeId} {x i:Operand} {r:ad} {ch:eJ} (ho:o.op= .indexAddr t x i) (h:dA P s t x i=some (r,ch)):hX P o s r ch:=by
 unfold dA at h;split at h
 ·rename_i n hn
  split at h
  ·rename_i h0
   split at h
   ·rename_i _ z cs len hz he
    split at h
    ·rename_i h1
     injection h with h;injection h with e1 e2;subst e1;subst e2;refine hX.still fun a w κ ρ hR=> ?_
     obtain ⟨g,oo,cap,hv,hcap,hrow⟩|⟨_,hl0,_⟩:=hR.qW he
     rotate_left
     ·omega
     obtain ⟨k,hk⟩:=hR.rU hn;exact ⟨.pointer (some ⟨g,oo+n.toNat*z,none⟩),by simp[execOp,ho,hv,hk,run_indexAt_slice hz w g oo len cap k n h0 h1],fun d=>qw.2 ⟨g,oo,rfl,hrow⟩,rfl⟩
    ·cases h
   ·rename_i _ z b off len cap hz he
    split at h
    ·rename_i h1
     injection h with h;injection h with e1 e2;subst e1;subst e2;refine hX.still fun a w κ ρ hR=> ?_
     have hv:=hR.mV he;obtain ⟨k,hk⟩:=hR.rU hn;exact ⟨_,by simp[execOp,ho,hv,hk,run_indexAt_slice hz w _ off len cap k n h0 h1],fun d=>rfl,by have:=hR.jF x;rw[ES he] at this;exact this⟩
    ·cases h
   ·rename_i m z b off hz _ he
    split at h
    ·rename_i h1
     injection h with h;injection h with e1 e2;subst e1;subst e2;refine hX.still fun a w κ ρ hR=> ?_
     have hv:=hR.jB (ET he);obtain ⟨k,hk⟩:=hR.rU hn;exact ⟨_,by simp[execOp,ho,hv,hk,run_indexAt_array ‹pK P t=some (m,z)› w _ off k n h0 h1],fun d=>rfl,by have:=hR.jF x;rw[ET he] at this;exact this⟩
    ·cases h
   ·rename_i m z cs off hz _ he
    split at h
    ·rename_i h1
     injection h with h;injection h with e1 e2;subst e1;subst e2;refine hX.still fun a w κ ρ hR=> ?_
     obtain ⟨g,oo,hv,hrow⟩:=hR.um (OK he);obtain ⟨k,hk⟩:=hR.rU hn;exact ⟨.pointer (some ⟨g,oo+off+n.toNat*z,none⟩),by simp[execOp,ho,hv,hk,run_indexAt_array ‹pK P t=some (m,z)› w g (oo+off) k n h0 h1],fun d=>qw.2 ⟨g,oo,by rw[Nat.add_assoc],hrow⟩,rfl⟩
    ·cases h
   ·cases h
  ·cases h
 ·cases h
def wg (s:St) (x:Operand):Option (ad×eJ):=
 match s.ev x with
 | .c (.ip cs off)=>some (.c (.ip cs off),{})
 | .c (.ptr b off)=>some (.c (.ptr b off),{})
 |_=>none
theorem II {P:Program} {s:St} {o:Oper} {x:Operand} {r:ad} {ch:eJ} (ho:o.op= .nilCheck x) (h:wg s x=some (r,ch)):hX P o s r ch:=by
 unfold wg at h;split at h
 ·rename_i cs off he
  injection h with h;injection h with e1 e2;subst e1;subst e2;refine hX.still fun a w κ ρ hR=> ?_
  obtain ⟨g,oo,hv,hrow⟩:=hR.um he;exact ⟨.pointer (some ⟨g,oo+off,none⟩),by simp only[execOp,ho,hv];rfl,fun d=>qw.2 ⟨g,oo,rfl,hrow⟩,rfl⟩
 ·rename_i b off he
  injection h with h;injection h with e1 e2;subst e1;subst e2;refine hX.still fun a w κ ρ hR=> ?_
  have hv:=hR.jB he;exact ⟨_,by simp only[execOp,ho,hv];rfl,fun d=>rfl,by have:=hR.jF x;rw[he] at this;exact this⟩
 ·cases h
def bj.a:bj->ad
 | .c x=> .c x
 | .agg cs=> .agg cs
theorem dN.a {w:World} {κ:Nat->BK} {ρ:Nat->Nat} {l l':Loc}: ∀ {x:bj} {v:Value},dN w κ ρ l x v->bM w κ ρ l' x.a v
 | .c x,v,h=>h.2.loc h.1
 | .agg cs,v,h=>dN.loc (x:= .agg cs) h
def iJ (s:St) (x:Operand) (i:Nat):Option (ad×eJ):=
 match s.ev x with
 | .cC ts=>match ts[i]? with
  |some y=>some (y.a,{})
  |none=>none
 |_=>none
theorem yx {P:Program} {s:St} {o:Oper} {x:Operand} {i:Nat} {r:ad} {ch:eJ} (ho:o.op= .extract x i) (h:iJ s x i=some (r,ch)):hX P o s r ch:=by
 unfold iJ at h;split at h
 ·rename_i ts he
  split at h
  ·rename_i y hy
   obtain ⟨hi,hyy⟩:=List.getElem?_eq_some_iff.1 hy;injection h with h;injection h with e1 e2;subst e1;subst e2;refine hX.still fun a w κ ρ hR=> ?_
   have h1:=hR.ev (l:= .slot 0) x;rw[he] at h1
   obtain ⟨vs,hv,hs,hr⟩:=h1;have hi':i<vs.size:=by omega
   refine ⟨vs[i],by simp[execOp,ho,hv,Instr.extract,hi'],fun d=> ?_,?_⟩
   ·have:=hr i hi hi'
    rw[hyy] at this;exact this.a
   ·have:=hR.jF x
    rw[he] at this;have:=List.all_eq_true.1 this y (hyy▸List.getElem_mem hi);cases y<;>exact this
  ·cases h
 ·cases h
def rS (cs:List aa) (off:Nat):Option (Bool×Nat)->Option ad
 |some (false,_)=>match cs[off]? with
  |some y=>some (.c y)
  |none=>none
 |some (true,n)=>if off+n<=cs.length then some (.agg ((cs.drop off).take n)) else none
 |none=>none
theorem kJ {P:Program} {w:World} {κ:Nat->BK} {ρ:Nat->Nat} {l l':Loc} {cs:List aa} {vs:Array Value} {off:Nat} {t:TypeId} {r:ad} (hs:vs.size=cs.length) (hr: ∀ i (h:i<cs.length) (h':i<vs.size),cs[i].flat=true/\bx w κ ρ l cs[i] vs[i]) (h:rS cs off (oe P t)=some r):
  ∃ v,(part t vs off).run P w= .ok v w/\bM w κ ρ l' r v/\ ∀ m,cs.all (aa.ok m)=true->r.ok m=true:=by
 cases ht:oe P t with
 |none=>rw[ht] at h;cases h
 |some bn=>
  obtain ⟨b,n⟩:=bn;obtain ⟨d,i,h1,h2,h3,h4⟩:=zV ht;have hg:=xK h1 w;rw[h3] at hg;rw[ht] at h;cases b with
  |false=>
   simp only[rS] at h;split at h
   ·rename_i y hy
    injection h with h;subst h;obtain ⟨hi,hyy⟩:=List.getElem?_eq_some_iff.1 hy;have hi':off<vs.size:=by omega
    refine ⟨vs[off],by simp[part,hg,hi'],?_,fun m hm=>hyy▸List.all_eq_true.1 hm _ (List.getElem_mem hi)⟩;have:=hr off hi hi';rw[hyy] at this
    exact this.2.loc this.1
   ·cases h
  |true=>
   simp only[rS] at h;split at h
   ·rename_i hn
    injection h with h;subst h;refine ⟨.agg (vs.extract off (off+n)),by simp[part,hg,sizeOf,typeInfo,program,Sem.run,h2,h4],⟨_,rfl,by simp;omega,fun j hj hj'=> ?_⟩,fun m hm=> ?_⟩
    ·simp at hj
     simp only[List.getElem_take,List.getElem_drop,Array.getElem_extract];have:=hr (off+j) (by omega) (by omega);exact ⟨this.1,this.2.loc this.1⟩
    ·simp only[ad.ok,List.all_eq_true] at*
     exact fun z hz=>hm z (List.mem_of_mem_drop (List.mem_of_mem_take hz))
   ·cases h
def xc (P:Program) (t:TypeId) (f:Nat):Option (Nat×Option (Bool×Nat)):=
 match P.underlying t with
 |some (.struct fields)=>match fields[f]? with
  |some fd=>some (fd.offset,oe P fd.type)
  |none=>none
 |_=>none
def mS (P:Program) (s:St) (t:TypeId) (x:Operand) (f:Nat):Option (ad×eJ):=
 match xc P t f,s.ev x with
 |some (off,k),.agg cs=>match rS cs off k with
  |some r=>some (r,{})
  |none=>none
 |_,_=>none
theorem CU {P:Program} {s:St} {o:Oper} {t:TypeId} {x:Operand} {f:Nat} {r:ad} {ch:eJ} (ho:o.op= .field t x f) (h:mS P s t x f=some (r,ch)):hX P o s r ch:=by
 unfold mS at h;split at h
 ·rename_i off k cs hf he
  split at h
  ·rename_i r' hr'
   injection h with h;injection h with e1 e2;subst e1;subst e2;unfold xc at hf;split at hf
   ·rename_i fields hu
    split at hf
    ·rename_i fd hfd
     injection hf with hf;injection hf with e1 e2;subst e1;subst e2;refine hX.still fun a w κ ρ hR=> ?_
     have h1:=hR.ev (l:= .slot 0) x;rw[he] at h1
     obtain ⟨vs,hv,hs,hr⟩:=h1;obtain ⟨v,hrun,hrep,hok⟩:=kJ (l':= .slot 0) hs hr hr';obtain ⟨v2,hrun2,_,_⟩:=kJ (l':= .slot 0) hs hr hr';refine ⟨v,by simp[execOp,ho,hv,Instr.field,run_underlying hu w,hfd,asAgg,hrun],fun d=> ?_,hok _ (by have:=hR.jF x;rw[he] at this;exact this)⟩;obtain ⟨v3,hrun3,hrep3,_⟩:=kJ (l':= .slot d) hs hr hr';rw[hrun] at hrun3;injection hrun3 with e3;subst e3;exact hrep3
    ·cases hf
   ·cases hf
  ·cases h
 ·cases h
def EW (P:Program) (t:TypeId):Option (Nat×Nat×Option (Bool×Nat)):=
 match P.underlying t with
 |some (.array n e)=>match P.info? e with
  |some i=>some (n,i.size,oe P e)
  |none=>none
 |_=>none
def lO (P:Program) (s:St) (o:Oper) (t:TypeId) (x i:Operand):Option (ad×eJ):=
 match EW P t,s.ev x,(s.ev i).ix with
 |some (m,z,k),.agg cs,some n=>if 0<=n/\n<m then
  match rS cs (n.toNat*z) k with
  |some r=>some (r,{})
  |none=>none
  else none
 |_,_,_=>cv P s o
theorem CV {P:Program} {s:St} {o:Oper} {t:TypeId} {x i:Operand} {r:ad} {ch:eJ} (ho:o.op= .index t x i) (h:lO P s o t x i=some (r,ch)):hX P o s r ch:=by
 unfold lO at h;split at h
 ·rename_i m z k cs n hE he hn
  split at h
  ·rename_i hb
   split at h
   ·rename_i r' hr'
    injection h with h;injection h with e1 e2;subst e1;subst e2;unfold EW at hE;split at hE
    ·rename_i m' e hu
     split at hE
     ·rename_i ii hi
      injection hE with hE;injection hE with e1 e2;injection e2 with e2 e3;subst e1;subst e2;subst e3;refine hX.still fun a w κ ρ hR=> ?_
      have h1:=hR.ev (l:= .slot 0) x;rw[he] at h1
      obtain ⟨vs,hv,hs,hr⟩:=h1;obtain ⟨kk,hk⟩:=hR.rU hn;obtain ⟨v,hrun,hrep,hok⟩:=kJ (l':= .slot 0) hs hr hr';refine ⟨v,by simp[execOp,ho,hv,hk,Instr.index,asIntOf,run_underlying hu w,hb.1,hb.2,sizeOf,typeInfo,program,Sem.run,hi,hrun],fun d=> ?_,hok _ (by have:=hR.jF x;rw[he] at this;exact this)⟩;obtain ⟨v3,hrun3,hrep3,_⟩:=kJ (l':= .slot d) hs hr hr';rw[hrun] at hrun3;injection hrun3 with e3;subst e3;exact hrep3
     ·cases hE
    ·cases hE
   ·cases h
  ·cases h
 ·exact ir h
def aa.one:aa->Bool
 | .any=>false
 | .und=>false
 | .mp .. =>false
 |_=>true
theorem aa.zw {w:World} {κ:Nat->BK} {ρ:Nat->Nat} {l:Loc}: ∀ {x:aa} {v:Value},bx w κ ρ l x v->x.one=true->v.oneCell'=true
 | .f x,v,h,e=>cy.one h
 | .ptr ..,v,h,e=>by have h:v=_:=h;rw[h];rfl
 | .arr ..,v,h,e=>by have h:v=_:=h;rw[h];rfl
 | .bg ..,v,h,e=>by obtain ⟨g,cap,rfl,_⟩|⟨_,_,rfl⟩:=h<;>rfl
 | .und,_,_,e=>by cases e
 | .any,_,_,e=>by cases e
 | .mh ..,v,h,e=>by have h:v=_:=h;rw[h];rfl
 | .mp ..,_,_,e=>by cases e
def ad.cells:ad->Option (List aa)
 | .c x=>if x.one then some [x] else none
 | .agg cs=>if cs.all aa.one then some cs else none
 | .cC _=>none
structure bU (w:World) (κ:Nat->BK) (ρ:Nat->Nat) (cs:List aa) (vs:Array Value):Prop where
 size:vs.size=cs.length
 flat: ∀ x∈cs,x.flat=true
 Hh: ∀ l i (h:i<cs.length) (h':i<vs.size),bx w κ ρ l cs[i] vs[i]
 one: ∀ i (h:i<vs.size),vs[i].oneCell'=true
theorem wX {v:Value} (h:v.oneCell'=true):v.cells= #[v]:=by cases v<;>first|rfl|cases h
theorem ad.qZ {w:World} {κ:Nat->BK} {ρ:Nat->Nat} {l:Loc} {x:ad} {v:Value} {cs:List aa} (h:bM w κ ρ l x.aQ v) (e:x.aQ.cells=some cs):bU w κ ρ cs v.cells:=by
 cases x with
 |c x=>
  simp only[ad.aQ,ad.cells] at e;split at e
  ·rename_i h1
   injection e with e;subst e;have h2:=aa.zw h h1;rw[wX h2];refine ⟨rfl,fun y hy=> ?_,fun l' i hi hi'=> ?_,fun i hi=> ?_⟩
   ·rw[List.mem_singleton.1 hy];exact aa.gb x
   ·have:i=0:=by simp at hi;exact hi
    subst this;exact bx.loc (aa.gb x) h
   ·have:i=0:=by simp at hi;exact hi
    subst this;exact h2
  ·cases e
 |agg cs'=>
  simp only[ad.aQ,ad.cells] at e;split at e
  ·rename_i h1
   injection e with e;subst e;obtain ⟨vs,rfl,hs,hr⟩:=h;refine ⟨hs,fun y hy=> ?_,fun l' i hi hi'=> ?_,fun i hi=> ?_⟩
   ·obtain ⟨i,hi,rfl⟩:=List.mem_iff_getElem.1 hy
    exact (hr i hi (by omega)).1
   ·exact (hr i hi hi').2.loc (hr i hi hi').1
   ·have hi':i<cs'.length:=by have:i<vs.size:=hi;omega
    exact aa.zw (hr i hi' hi).2 (List.all_eq_true.1 h1 _ (List.getElem_mem hi'))
  ·cases e
 |cC ts=>simp[ad.aQ,ad.cells] at e
theorem ad.mZ {n:Nat} {x:ad} {cs:List aa} (h:x.ok n=true) (e:x.aQ.cells=some cs): ∀ y∈cs,y.ok n=true:=by
 cases x with
 |c x=>
  simp only[ad.aQ,ad.cells] at e;split at e
  ·injection e with e
   subst e;intro y hy;rw[List.mem_singleton.1 hy];exact aa.fE x h
  ·cases e
 |agg cs'=>
  simp only[ad.aQ,ad.cells] at e;split at e
  ·injection e with e
   subst e;exact List.all_eq_true.1 h
  ·cases e
 |cC ts=>simp[ad.aQ,ad.cells] at e
theorem lP (w:World) (o:Obj) (g:Nat):(w.alloc o).heap[g]? =if g=w.heap.size then some o else w.heap[g]? :=by
 show (w.heap.push o)[g]? =_;rw[Array.getElem?_push]
theorem ui (w:World) (o:Obj):(w.alloc o).heap.size=w.heap.size+1:=by show (w.heap.push o).size=_;simp
theorem dU (n:Nat) (w:World) (κ:Nat->BK) (ρ:Nat->Nat) (o:Obj) (k:BK) (ρ':Nat->Nat) (hρ: ∀ b,b<n->ρ' b=ρ b):Mv (fun _=>False) n w κ ρ (w.alloc o) (dJ κ w.heap.size k) ρ':=
 ⟨rfl,rfl,rfl,by rw[ui];omega,hρ,fun g hg _=>⟨by rw[lP,if_neg (by omega)],aw _ _ (by omega)⟩,fun _ _ _ _ h=>h.elim,fun _ _ _ h=>h.elim,fun _ _ h=>h.elim⟩
theorem Rel.new {s:St} {a:Act} {w:World} {κ:Nat->BK} {ρ:Nat->Nat} (h:Rel s a w κ ρ) {cs:List aa} {c:Array Value} (e:TypeId) (hc:bU w κ ρ cs c) (hok: ∀ x∈cs,x.ok s.H.length=true):
  Rel { s with H:=s.H++[some cs] } a (w.alloc (.cells c e)) (dJ κ w.heap.size (.wr s.H.length)) (dJ ρ s.H.length w.heap.size):=by
 have m:=dU s.H.length w κ ρ (.cells c e) (.wr s.H.length) (dJ ρ s.H.length w.heap.size) (fun b hb=>aw _ _ (by omega));have hR:=h.mv m (fun _ h=>h);have hlen:(s.H++[some cs]).length=s.H.length+1:=by simp
 refine ⟨hR.defers,hR.slot,hR.out,fun i=>ad.fT (by rw[hlen];omega) _ (hR.ok i),⟨fun b ds hb=> ?_,fun b ds hb=> ?_⟩⟩
 ·rcases Nat.lt_or_ge b s.H.length with hlt|hge
  ·have hb':s.H[b]? =some (some ds):=by rwa [List.getElem?_append_left hlt] at hb
   exact hR.heap.dk b ds hb'
  ·have hbe:b=s.H.length:=by
    rcases Nat.lt_or_ge b (s.H++[some cs]).length with k|k
    ·rw[hlen] at k;omega
    ·rw[List.getElem?_eq_none k] at hb;cases hb
   subst hbe;rw[List.getElem?_append_right (Nat.le_refl _)] at hb;simp at hb;subst hb;refine ⟨by rw[aG,aG],.inl ⟨c,e,by rw[aG,lP,if_pos rfl],hc.size,fun i hi hi'=> ?_⟩⟩;exact bx.eC m.grow m.rho (hok _ (List.getElem_mem hi)) (fun _ _ _ _ e=>by have:=hc.flat _ (List.getElem_mem hi);rw[e] at this;cases this) (hc.Hh (.cell s.H.length i) i hi hi')
 ·intro x hx
  rw[hlen];rcases Nat.lt_or_ge b s.H.length with hlt|hge
  ·have hb':s.H[b]? =some (some ds):=by rwa [List.getElem?_append_left hlt] at hb
   exact aa.fT (by omega) _ (h.heap.ok b ds hb' x hx)
  ·have hbe:b=s.H.length:=by
    rcases Nat.lt_or_ge b (s.H++[some cs]).length with k|k
    ·rw[hlen] at k;omega
    ·rw[List.getElem?_eq_none k] at hb;cases hb
   subst hbe;rw[List.getElem?_append_right (Nat.le_refl _)] at hb;simp at hb;subst hb;exact aa.fT (by omega) _ (hok x hx)
def qI (P:Program) (t:TypeId):Option (List aa):=
 match P.info? t with
 |some i=>match i.zero with
  |some z=>if z.cells.toList.all Value.oneCell' then some (z.cells.toList.map qL) else none
  |none=>none
 |none=>none
theorem CB {P:Program} {t:TypeId} {cs:List aa} (h:qI P t=some cs): ∃ i z,P.info? t=some i/\i.zero=some z/\cs=z.cells.toList.map qL/\ ∀ v∈z.cells,v.oneCell'=true:=by
 unfold qI at h;split at h
 ·rename_i i hi
  split at h
  ·rename_i z hz
   split at h
   ·rename_i h1
    injection h with h;exact ⟨i,z,hi,hz,h.symm,fun v hv=>List.all_eq_true.1 h1 v (Array.mem_toList_iff.2 hv)⟩
   ·cases h
  ·cases h
 ·cases h
theorem pQ {w:World} {κ:Nat->BK} {ρ:Nat->Nat} (vs:Array Value) (h1: ∀ v∈vs,v.oneCell'=true):bU w κ ρ (vs.toList.map qL) vs:=
 ⟨by simp,fun x hx=>by obtain ⟨z,_,rfl⟩:=List.mem_map.1 hx;exact qk z,fun l i hi hi'=>by rw[List.getElem_map,Array.getElem_toList];exact lA _,fun i hi=>h1 _ (Array.getElem_mem hi)⟩
theorem o5 (n:Nat) (vs:List Value): ∀ x∈vs.map qL,x.ok n=true:=fun x hx=>by obtain ⟨z,_,rfl⟩:=List.mem_map.1 hx;exact DG n z
def lN (P:Program) (s:St) (t:TypeId):Option (ad×eJ):=
 match qI P t with
 |some cs=>some (.c (.ptr s.H.length 0),{ new:=some cs })
 |none=>none
theorem hX.new {P:Program} {s:St} {o:Oper} {cs:List aa}
  (h: ∀ a w κ ρ,Rel s a w κ ρ-> ∃ c e,(execOp a.eval o).run P w= .ok (.value (.pointer (some ⟨w.heap.size,0,none⟩))) (w.alloc (.cells c e))/\bU w κ ρ cs c/\ ∀ x∈cs,x.ok s.H.length=true):hX P o s (.c (.ptr s.H.length 0)) { new:=some cs }:=by
 intro a w κ ρ hR;obtain ⟨c,e,h1,h2,h3⟩:=h a w κ ρ hR;refine ⟨_,_,_,_,.inl h1,hR.new e h2 h3,fun d _=> ?_,?_,(dU s.H.length w κ ρ (.cells c e) _ ρ (fun _ _=>rfl)).fr,fun b hb=>aw _ _ (by omega)⟩
 ·show _=_
  rw[aG]
 ·simp[ad.ok,aa.ok,St.nV,St.fD,St.mW,St.nu]
theorem CS {P:Program} {s:St} {o:Oper} {t:TypeId} {r:ad} {ch:eJ} (ho:o.op= .alloc t) (h:lN P s t=some (r,ch)):hX P o s r ch:=by
 unfold lN at h;split at h
 ·rename_i cs hz
  injection h with h;injection h with e1 e2;subst e1;subst e2;obtain ⟨i,z,hi,hz2,rfl,h1⟩:=CB hz;refine hX.new fun a w κ ρ hR=>⟨z.cells,t,?_,pQ _ h1,o5 _ _⟩
  simp[execOp,ho,Instr.alloc,zeroValue,typeInfo,hi,hz2,newVar,newRow]
 ·cases h
def yv (s:St) (x:Operand):Option (ad×eJ):=
 match (s.ev x).aQ.cells with
 |some cs=>some (.c (.ptr s.H.length 0),{ new:=some cs })
 |none=>none
theorem IG {P:Program} {s:St} {o:Oper} {t:TypeId} {x:Operand} {r:ad} {ch:eJ} (ho:o.op= .box t x) (h:yv s x=some (r,ch)):hX P o s r ch:=by
 unfold yv at h;split at h
 ·rename_i cs hc
  injection h with h;injection h with e1 e2;subst e1;subst e2;refine hX.new fun a w κ ρ hR=>⟨(a.eval x).cells,t,?_,ad.qZ (hR.ev (l:= .slot 0) x) hc,ad.mZ (hR.jF x) hc⟩
  simp[execOp,ho,Instr.box,newVar,newRow]
 ·cases h
def setAt:List aa->Nat->List aa->List aa
 |cs,_,[]=>cs
 |cs,o,d::ds=>setAt (cs.set o d) (o+1) ds
theorem cQ: ∀ (ds cs:List aa) (o:Nat),(setAt cs o ds).length=cs.length
 |[],_,_=>rfl
 |d::ds,cs,o=>by rw[setAt,cQ ds,List.length_set]
theorem fQ: ∀ (ds cs:List aa) (o i:Nat) (h:i<cs.length) (h':i<(setAt cs o ds).length),(setAt cs o ds)[i]=if hh:o<=i/\i<o+ds.length then ds[i-o]'(by omega) else cs[i]
 |[],cs,o,i,h,h'=>by
  rw[dif_neg (by simp only[List.length_nil];omega)];rfl
 |d::ds,cs,o,i,h,h'=>by
  have ih:=fQ ds (cs.set o d) (o+1) i (by simpa using h) (by simpa[setAt] using h');show (setAt (cs.set o d) (o+1) ds)[i]=_
  rw[ih];by_cases h1:o+1<=i/\i<o+1+ds.length
  ·rw[dif_pos h1,dif_pos (by simp only[List.length_cons];omega)]
   have:i-o=(i-(o+1))+1:=by omega
   simp[this]
  ·rw[dif_neg h1,List.getElem_set]
   by_cases h2:o=i
   ·rw[if_pos h2,dif_pos (by simp only[List.length_cons];omega)]
    have:i-o=0:=by omega
    simp[this]
   ·rw[if_neg h2,dif_neg (by simp only[List.length_cons];omega)]
theorem jS: ∀ (vs:List Value) (w:World) (g o j:Nat),j≠g->(w.setCells g o vs).heap[j]? =w.heap[j]?
 |[],_,_,_,_,_=>rfl
 |v::vs,w,g,o,j,h=>by
  rw[World.setCells,jS vs _ g (o+1) j h,Go.RowKit.Below.heap_setCell _ _ _ _ h]
theorem kG: ∀ (vs:List Value) (w:World) (g o:Nat) (c:Array Value) (e:TypeId) (f:Nat×Nat),w.heap[g]? =some (.cells c e f)->
  ∃ c':Array Value,(w.setCells g o vs).heap[g]? =some (.cells c' e f)/\c'.size=c.size/\ ∀ i (h:i<c.size) (h':i<c'.size),c'[i]=if hh:o<=i/\i<o+vs.length then vs[i-o]'(by omega) else c[i]
 |[],w,g,o,c,e,f,h=>⟨c,h,rfl,fun i hi hi'=>by rw[dif_neg (by simp only[List.length_nil];omega)]⟩
 |v::vs,w,g,o,c,e,f,h=>by
  have h1:(w.setCell ⟨g,o,none⟩ v).heap[g]? =some (.cells (c.setIfInBounds o v) e f):=by
   simp only[World.setCell,Array.getElem?_modify];simp[h]
  obtain ⟨c',h2,h3,h4⟩:=kG vs _ g (o+1) _ e f h1;refine ⟨c',h2,by simpa using h3,fun i hi hi'=> ?_⟩;rw[h4 i (by simpa using hi) hi'];by_cases k:o+1<=i/\i<o+1+vs.length
  ·rw[dif_pos k,dif_pos (by simp only[List.length_cons];omega)]
   have:i-o=(i-(o+1))+1:=by omega
   simp[this]
  ·rw[dif_neg k,Array.getElem_setIfInBounds (by simpa using hi)]
   by_cases h2:o=i
   ·rw[if_pos h2,dif_pos (by simp only[List.length_cons];omega)]
    have:i-o=0:=by omega
    simp[this]
   ·rw[if_neg h2,dif_neg (by simp only[List.length_cons];omega)]
theorem iG: ∀ (vs:List Value) (w:World) (g o:Nat),(w.setCells g o vs).os=w.os/\(w.setCells g o vs).tape=w.tape/\(w.setCells g o vs).output=w.output/\(w.setCells g o vs).heap.size=w.heap.size
 |[],_,_,_=>⟨rfl,rfl,rfl,rfl⟩
 |v::vs,w,g,o=>by
  obtain ⟨h1,h2,h3,h4⟩:=iG vs (w.setCell ⟨g,o,none⟩ v) g (o+1);exact ⟨h1,h2,h3,h4.trans (by simp[World.setCell])⟩
theorem lj {n:Nat} {w:World} {κ:Nat->BK} {ρ:Nat->Nat} {g b:Nat} (hg:κ g= .wr b) (o:Nat) (vs:List Value):Mv (· =g) n w κ ρ (w.setCells g o vs) κ ρ:=by
  obtain ⟨h1,h2,h3,h4⟩:=iG vs w g o;refine ⟨h1,h2,h3,by rw[h4];exact Nat.le_refl _,fun _ _=>rfl,fun j _ hj=>⟨jS vs w g o j hj,rfl⟩,fun j p x hj hT hf=> ?_,fun _ _ _ _ h=>h,fun j m hT=> ?_⟩
  · subst hT;rw[hg] at hf;simp[BK.fits] at hf
  · subst hT;rw[hg];intro e;cases e
theorem qM.store {w:World} {κ:Nat->BK} {ρ:Nat->Nat} {b:Nat} {cs ds:List aa} (h:qM w κ ρ b cs) (hm:gE cs=true) (n:Nat) (hb:b<n) (hok: ∀ x∈cs,x.ok n=true) (off:Nat) {vs:Array Value}
  (hs:vs.size=ds.length) (hokd: ∀ x∈ds,x.ok n=true) (hr: ∀ i (h:i<ds.length) (h':i<vs.size),bx w κ ρ (.cell b (off+i)) ds[i] vs[i]):
  qM (w.setCells (ρ b) off vs.toList) κ ρ b (setAt cs off ds):=by
 have hown:=h.own;have m:=lj (n:=n) (w:=w) (ρ:=ρ) hown off vs.toList;obtain ⟨c,e,h1,h2,h3⟩:=h.JE hm;obtain ⟨c',k1,k2,k3⟩:=kG vs.toList w (ρ b) off c e (0,0) h1;have hno: ∀ i g k,g=ρ b->κ g≠ .bg k (.cell b i):=by intro i g k hg;subst hg;rw[hown];intro e;cases e
 refine ⟨hown,.inl ⟨c',e,k1,by rw[k2,h2,cQ],fun i hi hi'=> ?_⟩⟩;rw[cQ] at hi
 rw[fQ ds cs off i hi,k3 i (by omega)];by_cases hh:off<=i/\i<off+ds.length
 ·rw[dif_pos hh,dif_pos (by simp;omega)]
  have:=hr (i-off) (by omega) (by omega);rw[show off+(i-off)=i by omega] at this
  have hx:=hokd _ (List.getElem_mem (show i-off<ds.length by omega));rw[Array.getElem_toList];exact bx.eC m.grow m.rho hx (fun _ _ _ _ _=>m.eC (hno i)) this
 ·rw[dif_neg hh,dif_neg (by simp;omega)]
  exact bx.eC m.grow m.rho (hok _ (List.getElem_mem hi)) (fun _ _ _ _ _=>m.eC (hno i)) (h3 i hi (by omega))
theorem qM.there {w:World} {κ:Nat->BK} {ρ:Nat->Nat} {b:Nat} {cs:List aa} (h:qM w κ ρ b cs) (hm:gE cs=true) (off n:Nat) (hn:off+n<=cs.length):w.there (ρ b) off n:=by
 obtain ⟨c,e,h1,h2,h3⟩:=h.JE hm;intro j hj;have:off+j<c.size:=by omega
 simp[World.cell?,World.frozen?,h1,this]
theorem ki {P:Program} (w:World) (g o:Nat) (t:TypeId) {b:Bool} {n:Nat} (ht:oe P t=some (b,n)) (v:Value) (hn:v.cells.size=n) (hth:w.there g o n) (h1: ∀ i (h:i<v.cells.size),v.cells[i].oneCell'=true):
  (Instr.storeAt t (.pointer (some ⟨g,o,none⟩)) v).run P w= .ok () (w.setCells g o v.cells.toList):=by
 obtain ⟨d,i,hu,hi,h3,h4⟩:=zV ht;have:=run_storeCells_cells (P:=P) g o v.cells.toList 0 w (fun j hj=>by simpa using (hth j (by simp at hj;omega)).1) (fun j hj=>by simpa using (hth j (by simp at hj;omega)).2)
  (fun u hu=>by
   obtain ⟨j,hj,rfl⟩:=List.mem_iff_getElem.1 hu;rw[Array.getElem_toList];exact h1 j (by simpa using hj))
 simp only[Nat.add_zero] at this;simp[Instr.storeAt,Instr.sureAddr,storeVar,sizeOf,typeInfo,program,Sem.run,hi,h4,hn,this]
def holds (s:St):Operand->Option (Tmp×Bool×Nat×List ag×Nat)
 | .tmp u=>match s.ev (.tmp u) with
  | .c (.bg q sz cs len)=>some (u,q,sz,cs,len)
  |_=>none
 |_=>none
theorem holds_of {s:St} {y:Operand} {u:Nat} {q:Bool} {sz:Nat} {cs:List ag} {len:Nat} (h:holds s y=some (u,q,sz,cs,len)):y= .tmp u/\s.ev (.tmp u)= .c (.bg q sz cs len):=by
 unfold holds at h;split at h
 ·rename_i t
  split at h
  ·rename_i q' sz' cs' len' he
   injection h with h;injection h with e1 e2;injection e2 with e2 e3;injection e3 with e3 e4;injection e4 with e4 e5;subst e1;subst e2;subst e3;subst e4;subst e5;exact ⟨rfl,he⟩
  ·cases h
 ·cases h
def km (P:Program) (s:St) (t:TypeId) (x y:Operand):Option (ad×eJ):=
 match oe P t,s.ev x with
 |some (_,n),.c (.ptr b off)=>match s.H[b]? with
  |some (some cells)=>match holds s y with
   |some (u,q,sz,cs,len)=>if n=1/\off<cells.length/\gE cells=true then some (.c .any,{ aQ:=some u,dk:=some (b,cells.set off (.bg q sz cs len)) }) else none
   |none=>match (s.ev y).aQ.cells with
    |some ds=>if ds.length=n/\off+n<=cells.length/\gE cells=true then some (.c .any,{ dk:=some (b,setAt cells off ds) }) else none
    |none=>none
  |_=>none
 |_,_=>none
theorem uL {P:Program} {ev:Operand->Value} {o:Oper} {t:TypeId} {x y:Operand} (ho:o.op= .store t x y) {w w':World} (h:(Instr.storeAt t (ev x) (ev y)).run P w= .ok () w'):(execOp ev o).run P w= .ok .skip w':=by
 simp[execOp,ho,h]
theorem yc {H:List (Option (List aa))} {b:Nat} {cs:List aa} (h:H[b]? =some (some cs)):b<H.length:=by
 rcases Nat.lt_or_ge b H.length with k|k
 ·exact k
 ·rw[List.getElem?_eq_none k] at h;cases h
theorem CY {P:Program} {s:St} {o:Oper} {t:TypeId} {x y:Operand} {r:ad} {ch:eJ} (ho:o.op= .store t x y) (h:km P s t x y=some (r,ch)):hX P o s r ch:=by
 unfold km at h;split at h
 ·rename_i bb n b off ht he
  split at h
  ·rename_i cells hb
   split at h
   ·rename_i u q sz cs len hy0
    obtain ⟨rfl,hy⟩:=holds_of hy0;split at h
    ·rename_i hn
     injection h with h;injection h with e1 e2;subst e1;subst e2;intro a w κ ρ hR;obtain ⟨κ1,hR1,hv,hfr⟩:=hR.Pc hy (.cell b off);have hone:(a.eval (.tmp u)).oneCell'=true:=aa.zw hv rfl;have hcells:=wX hone;have hb1:(s.aQ u).H[b]? =some (some cells):=hb;have hB:=hR1.heap.dk b cells hb1;have hst:=hB.store hn.2.2 (ds:=[.bg q sz cs len]) s.H.length (yc hb) (hR.heap.ok b cells hb) off (vs:=(a.eval (.tmp u)).cells) (by rw[hcells];rfl) (fun z hz=>by rw[List.mem_singleton.1 hz];rfl) (fun i hi hi'=>by
      have hi0:i=0:=by simp at hi;exact hi
      subst hi0;simp only[hcells];exact hv)
     have m:=lj (n:=s.H.length) (w:=w) (ρ:=ρ) hB.own off (a.eval (.tmp u)).cells.toList;have hR2:=hR1.rq hb1 m hst (fun z hz=>by
      rcases List.mem_or_eq_of_mem_set hz with hz|rfl
      ·exact hR.heap.ok b cells hb z hz
      ·rfl)
     refine ⟨undef,_,κ1,ρ,.inr ⟨uL ho (by rw[hR.jB he];exact ki w (ρ b) off t ht _ (by rw[hcells];exact hn.1.symm) (by rw[hn.1];exact hB.there hn.2.2 off 1 (by omega)) (fun i hi=>by
      have hi0:i=0:=by rw[hcells] at hi;simpa using hi
      subst hi0;simp only[hcells];exact hone)),rfl⟩,hR2,fun _ _=>trivial,rfl,hfr.trans m.fr,fun _ _=>rfl⟩
    ·cases h
   ·split at h
    ·rename_i ds hds
     split at h
     ·rename_i hn
      injection h with h;injection h with e1 e2;subst e1;subst e2;intro a w κ ρ hR;have hC:=ad.qZ (hR.ev (l:= .slot 0) y) hds;have hB:=hR.heap.dk b cells hb;have hokd:=ad.mZ (hR.jF y) hds;have hst:=hB.store hn.2.2 s.H.length (yc hb) (hR.heap.ok b cells hb) off hC.size hokd (fun i hi hi'=>hC.Hh _ i hi hi');have m:=lj (n:=s.H.length) (w:=w) (ρ:=ρ) hB.own off (a.eval y).cells.toList;have hR2:=hR.rq hb m hst (fun z hz=>by
       obtain ⟨i,hi,rfl⟩:=List.mem_iff_getElem.1 hz;have hi2:=hi;rw[cQ] at hi2;rw[fQ ds cells off i hi2];split
       ·exact hokd _ (List.getElem_mem _)
       ·exact hR.heap.ok b cells hb _ (List.getElem_mem _))
      exact ⟨undef,_,κ,ρ,.inr ⟨uL ho (by rw[hR.jB he];exact ki w (ρ b) off t ht _ (by rw[hC.size];exact hn.1) (hB.there hn.2.2 off n hn.2.1) hC.one),rfl⟩,hR2,fun _ _=>trivial,rfl,m.fr,fun _ _=>rfl⟩
     ·cases h
    ·cases h
  ·cases h
 ·cases h
def dc:List aa->Nat->List aa
 |[z],n=>List.replicate n z
 |zs,n=>(List.range (n*zs.length)).map fun j=>zs.getD (j%zs.length) .any
theorem iQ (zs:List aa) (n:Nat):dc zs n=(List.range (n*zs.length)).map fun j=>zs.getD (j%zs.length) .any:=by
 unfold dc;split
 ·rename_i z
  apply List.ext_getElem
  ·simp
  ·intro i h1 h2
   simp[Nat.mod_one]
 ·rfl
def dM (P:Program) (t:TypeId):Option (Nat×Nat×List aa):=
 match P.underlying t with
 |some (.slice e)=>match P.info? e,qI P e with
  |some i,some zs=>if zs.length=i.size/\0<i.size then some (i.size,i.bytes,zs) else none
  |_,_=>none
 |_=>none
theorem fL {P:Program} {t:TypeId} {sz by_:Nat} {zs:List aa} (h:dM P t=some (sz,by_,zs)):
  ∃ e i z,P.underlying t=some (.slice e)/\P.info? e=some i/\i.zero=some z/\i.size=sz/\i.bytes=by_/\zs=z.cells.toList.map qL/\z.cells.size=sz/\0<sz/\ ∀ v∈z.cells,v.oneCell'=true:=by
 unfold dM at h;split at h
 ·rename_i e hu
  split at h
  ·rename_i i zs' hi hz
   split at h
   ·rename_i hc
    injection h with h;injection h with e1 e2;injection e2 with e2 e3;subst e1;subst e2;subst e3;obtain ⟨i',z,hi',hz',rfl,h1⟩:=CB hz;rw[hi] at hi';injection hi' with hi';subst hi';exact ⟨e,i,z,hu,hi,hz',rfl,rfl,rfl,by simpa using hc.1,hc.2,h1⟩
   ·cases h
  ·cases h
 ·cases h
theorem nr {w:World} {κ:Nat->BK} {ρ:Nat->Nat} (z:Array Value) (n:Nat) (hz:0<z.size) (h1: ∀ v∈z,v.oneCell'=true):bU w κ ρ (dc (z.toList.map qL) n) (madeCells z (n*z.size)):=by
 rw[iQ];refine ⟨by simp[size_madeCells],fun x hx=> ?_,fun l i hi hi'=> ?_,fun i hi=> ?_⟩
 ·obtain ⟨j,_,rfl⟩:=List.mem_map.1 hx
  have:j%z.size<z.size:=Nat.mod_lt _ hz;simp[this,qk]
 ·have hm:i%z.size<z.size:=Nat.mod_lt _ hz
  simp[madeCells,hm];exact lA _
 ·have hm:i%z.size<z.size:=Nat.mod_lt _ hz
  simp only[madeCells,Array.getElem_map,Array.getElem_range];rw[getElem!_pos z (i%z.size) hm];exact h1 _ (Array.getElem_mem hm)
theorem sF (n m:Nat) (vs:List Value): ∀ x∈dc (vs.map qL) m,x.ok n=true:=by
 rw[iQ];intro x hx;obtain ⟨j,_,rfl⟩:=List.mem_map.1 hx;rw[List.getD_eq_getElem?_getD];cases h:(vs.map qL)[j%(vs.map qL).length]? with
 |none=>rfl
 |some y=>
  have:=List.mem_of_getElem? h;exact o5 n vs y this
def pG (P:Program) (s:St) (t:TypeId) (l c:Operand):Option (ad×eJ):=
 match dM P t,(s.ev l).ix,(s.ev c).ix with
 |some (sz,by_,zs),some n,some m=>if n=m/\0<=n/\n<=4611686018427387904/\(by_:Int)*n<=281474976710656 then some (.c (.arr s.H.length 0 n.toNat n.toNat),{ new:=some (dc zs n.toNat) }) else none
 |_,_,_=>none
theorem Gi {P:Program} {s:St} {o:Oper} {t:TypeId} {l c:Operand} {r:ad} {ch:eJ} (ho:o.op= .makeSlice t l c) (h:pG P s t l c=some (r,ch)):hX P o s r ch:=by
 unfold pG at h;split at h
 ·rename_i sz by_ zs n m hI hn hm
  split at h
  ·rename_i hc
   injection h with h;injection h with e1 e2;subst e1;subst e2;obtain ⟨rfl,h0,h63,hb⟩:=hc;obtain ⟨e,i,z,hu,hi,hz,rfl,rfl,rfl,hsz,hpos,h1⟩:=fL hI;intro a w κ ρ hR;obtain ⟨kl,hl⟩:=hR.rU hn;obtain ⟨kc,hcc⟩:=hR.rU hm;have hrun:=run_make (P:=P) w t e i z hu hi hz kl kc n n h0 (Int.le_refl _) hb (by omega);have hC:bU w κ ρ (dc (z.cells.toList.map qL) n.toNat) (madeCells z.cells (n.toNat*i.size)):=by rw[← hsz];exact nr z.cells n.toNat (by omega) h1
   refine ⟨_,_,_,_,.inl (by simp only[execOp,ho,hl,hcc,Sem.run_bind,hrun];rfl),hR.new e hC (sF _ _ _),fun d _=> ?_,?_,(dU s.H.length w κ ρ (.cells _ e) _ ρ (fun _ _=>rfl)).fr,fun b hb=>aw _ _ (by omega)⟩
   ·show _=_
    rw[aG]
   ·simp[ad.ok,aa.ok,St.nV,St.fD,St.mW,St.nu]
  ·cases h
 ·cases h
def oM (P:Program) (s:St) (o:Oper) (t:TypeId) (x:Operand):Option (ad×eJ):=
 match bl P t,(s.ev x).aQ with
 |some _,.c (.f (.row _ len))=>some (.c (.f (.v (.int .i64 len))),{})
 |some _,.c (.arr _ _ len _)=>some (.c (.f (.v (.int .i64 len))),{})
 |_,_=>cv P s o
theorem uK {P:Program} {ev:Operand->Value} {o:Oper} {t:TypeId} {x:Operand} (ho:o.op= .call { callee:= .builtin .len,args:= #[x],argTypes:= #[t] }) {z:Nat} (hz:bl P t=some z) {a:Option Addr} {len cap:Nat} (hv:ev x= .slice a len cap) (w:World):(execOp ev o).run P w= .ok (.value (.int .i64 len)) w:=by
 obtain ⟨e,i,hu,hi,_⟩:=dH hz;simp[execOp,ho,resolve,invoke,builtin,Builtin.len_,run_underlying hu w,hv,goInt]
theorem IH {P:Program} {s:St} {o:Oper} {t:TypeId} {x:Operand} {r:ad} {ch:eJ} (ho:o.op= .call { callee:= .builtin .len,args:= #[x],argTypes:= #[t] }) (h:oM P s o t x=some (r,ch)):hX P o s r ch:=by
 unfold oM at h;split at h
 ·rename_i z cs len hz he
  injection h with h;injection h with e1 e2;subst e1;subst e2;refine hX.still fun a w κ ρ hR=> ?_
  obtain ⟨g,oo,cap,hv,hcap,hrow⟩|⟨_,rfl,A,hv⟩:=hR.qW he
  ·exact ⟨_,uK ho hz hv w,fun d=>cy.v _ rfl,rfl⟩
  ·exact ⟨_,uK ho hz hv w,fun d=>cy.v _ rfl,rfl⟩
 ·rename_i z b off len cap hz he
  injection h with h;injection h with e1 e2;subst e1;subst e2;refine hX.still fun a w κ ρ hR=> ?_
  exact ⟨_,uK ho hz (hR.mV he) w,fun d=>cy.v _ rfl,rfl⟩
 ·exact ir h
def gj (s:St):Option Operand->Int->Option Int
 |none,d=>some d
 |some x,_=>(s.ev x).ix
def dK (P:Program) (s:St) (o:Oper) (t:TypeId) (x:Operand) (lo hi mx:Option Operand):Option (ad×eJ):=
 match bl P t,(s.ev x).aQ with
 |some z,.c (.f (.row cs len))=>match gj s lo 0,gj s hi len,gj s mx len,mx.isSome&&hi.isNone with
  |some l,some h,some m,false=>if 0<=l/\l<=h/\h<=m/\m<=len then some (.c (.f (.row ((cs.drop (l.toNat*z)).take ((h-l).toNat*z)) (h-l).toNat)),{}) else none
  |_,_,_,_=>none
 |some z,.c (.f .nils)=>match gj s lo 0,gj s hi 0,mx with
  |some 0,some 0,none=>some (.c (.f .nils),{})
  |_,_,_=>none
 |some z,.c (.arr b off len cap)=>match gj s lo 0,gj s hi len,mx with
  |some l,some h,none=>if 0<=l/\l<=h/\h<=cap then some (.c (.arr b (if (cap:Int)=l then off else off+l.toNat*z) (h-l).toNat (cap-l.toNat)),{}) else none
  |_,_,_=>none
 |_,_=>cv P s o
theorem Rel.gj {s:St} {a:Act} {w:World} {κ:Nat->BK} {ρ:Nat->Nat} (h:Rel s a w κ ρ) {x:Option Operand} {d n:Int} (e:gj s x d=some n):(x=none/\n=d)\/ ∃ y k,x=some y/\a.eval y= .int k n:=by
 cases x with
 |none=>injection e with e;exact .inl ⟨rfl,e.symm⟩
 |some y=>obtain ⟨k,hk⟩:=h.rU e;exact .inr ⟨y,k,rfl,hk⟩
theorem run_sliceBound {P:Program} (w:World) (k:IntKind) (n:Int) (y:Nat) (c:BoundsCode) (h0:0<=n) (h1:n<=y):(Instr.sliceBound (.int k n) y c).run P w= .ok n.toNat w:=by
 simp[Instr.sliceBound,asIntOf,h0,h1]
theorem gn {P:Program} {s:St} {a:Act} {w:World} {κ:Nat->BK} {ρ:Nat->Nat} (hR:Rel s a w κ ρ) {lo hi mx:Option Operand} {l h m:Int} {len cap:Nat} (b:Bool) (hl:Av.gj s lo 0=some l) (hh:Av.gj s hi len=some h) (hm:mx=none\/(Av.gj s mx len=some m/\hi.isSome=true/\h<=m/\m<=cap))
  (h0:0<=l) (h1:l<=h) (h2:h<=cap):(Instr.sliceBounds b len cap (lo.map a.eval) (hi.map a.eval) (mx.map a.eval)).run P w= .ok (l.toNat,h.toNat,if mx=none then cap else m.toNat) w:=by
 have key: ∀ (x:Option Operand) (n:Int) (d:Int),Av.gj s x d=some n->(x=none/\n=d)\/ ∃ y k,x=some y/\a.eval y= .int k n:=fun x n d e=>hR.gj e
 have b1: ∀ k (n:Int) (y:Nat) (c:BoundsCode),0<=n->n<=y->(Instr.sliceBound (.int k n) y c).run P w= .ok n.toNat w:=fun k n y c p q=>run_sliceBound w k n y c p q
 have hm':mx=none\/ ∃ y k,mx=some y/\a.eval y= .int k m/\hi.isSome=true/\h<=m/\m<=cap:=by
  rcases hm with rfl|⟨hm,hs,hhm,hmc⟩
  ·exact .inl rfl
  ·rcases key _ _ _ hm with ⟨rfl,_⟩|⟨y,k,rfl,hy⟩
   ·exact .inl rfl
   ·exact .inr ⟨y,k,rfl,hy,hs,hhm,hmc⟩
 rcases hm' with rfl|⟨y,ky,rfl,hy,hs,hhm,hmc⟩
 ·rcases key _ _ _ hl with ⟨rfl,rfl⟩|⟨u,k,rfl,hu⟩<;>rcases key _ _ _ hh with ⟨rfl,rfl⟩|⟨u2,k2,rfl,hu2⟩
  ·simp[Instr.sliceBounds]
  ·simp[Instr.sliceBounds,hu2,b1 k2 h cap _ (by omega) h2]
  ·simp[Instr.sliceBounds,hu,b1 k l len _ h0 h1]
  ·simp[Instr.sliceBounds,hu,hu2,b1 k2 h cap _ (by omega) h2,b1 k l h.toNat _ h0 (by omega)]
 ·rcases key _ _ _ hl with ⟨rfl,rfl⟩|⟨u,k,rfl,hu⟩<;>rcases key _ _ _ hh with ⟨rfl,rfl⟩|⟨u2,k2,rfl,hu2⟩
  ·cases hs
  ·simp[Instr.sliceBounds,hy,hu2,b1 ky m cap _ (by omega) hmc,b1 k2 h m.toNat _ (by omega) (by omega)]
  ·cases hs
  ·simp[Instr.sliceBounds,hy,hu,hu2,b1 ky m cap _ (by omega) hmc,b1 k2 h m.toNat _ (by omega) (by omega),b1 k l h.toNat _ h0 (by omega)]
theorem gH.nil {w:World} {κ:Nat->BK} (g o:Nat):gH w κ g o []:=⟨fun i h=>by simp at h,fun h=>absurd rfl h⟩
theorem gH.QT {w:World} {κ:Nat->BK} {g o:Nat} {cs:List ag} (h:gH w κ g o cs) (n:Nat):gH w κ g (o+n) (cs.drop n):=by
 rcases Nat.lt_or_ge cs.length n with hn|hn
 ·rw[List.drop_eq_nil_of_le (by omega)];exact .nil _ _
 ·exact h.drop n hn
theorem CX {P:Program} {s:St} {o:Oper} {t:TypeId} {x:Operand} {lo hi mx:Option Operand} {r:ad} {ch:eJ} (ho:o.op= .slice t x lo hi mx) (h:dK P s o t x lo hi mx=some (r,ch)):hX P o s r ch:=by
 unfold dK at h;split at h
 ·rename_i z cs len hz he
  split at h
  ·rename_i l hh m hl hhi hm hms
   split at h
   ·rename_i hc
    obtain ⟨h0,h1,h2,h3⟩:=hc;injection h with h;injection h with e1 e2;subst e1;subst e2;refine hX.still fun a w κ ρ hR=> ?_
    obtain ⟨g,oo,cap,hv,hcap,hrow⟩|⟨rfl,rfl,A,hv⟩:=hR.qW he
    rotate_left
    ·obtain ⟨e,i,hu,hi',hzz⟩:=dH hz
     have e1:m=0:=by omega
     have e2:hh=0:=by omega
     have e3:l=0:=by omega
     subst e1;subst e2;subst e3;have hmm:mx=none\/(Av.gj s mx ((0:Nat):Int)=some 0/\hi.isSome=true/\(0:Int)<=0/\(0:Int)<=((0:Nat):Int)):=by
      cases mx with
      |none=>exact .inl rfl
      |some y=>cases hi with
       |none=>cases hms
       |some u=>exact .inr ⟨hm,rfl,h2,by omega⟩
     have hb:=gn (P:=P) hR (len:=0) (cap:=0) (m:=0) (mx:=mx) true hl hhi hmm (Int.le_refl _) (Int.le_refl _) (Int.le_refl _);refine ⟨.slice A 0 0,?_,fun d=>by simp only[List.drop_nil,List.take_nil];exact cy.nil0 A,rfl⟩;simp only[execOp,ho,hv,Instr.sliceAt,Sem.run_bind,run_underlying hu w,Result.andThen_ok,Instr.slice,hb,sizeOf,typeInfo,program,Sem.run,hi',hzz];cases A<;>simp[Sem.run,hi',hzz]
    obtain ⟨e,i,hu,hi',hzz⟩:=dH hz;have hmm:mx=none\/(Av.gj s mx len=some m/\hi.isSome=true/\hh<=m/\m<=cap):=by
     cases mx with
     |none=>exact .inl rfl
     |some y=>cases hi with
      |none=>cases hms
      |some u=>exact .inr ⟨hm,rfl,h2,by omega⟩
    have hb:=gn (P:=P) hR (cap:=cap) (m:=m) (mx:=mx) true hl hhi hmm h0 h1 (by omega);have hM: ∃ M,(if mx=none then cap else m.toNat)=M/\hh.toNat<=M:=by
     refine ⟨_,rfl,?_⟩;split<;>omega
    obtain ⟨M,hM,hle⟩:=hM;rw[hM] at hb;refine ⟨.slice (if M=l.toNat then some ⟨g,oo,none⟩ else some ⟨g,oo+l.toNat*z,none⟩) (hh.toNat-l.toNat) (M-l.toNat),?_,fun d=> ?_,rfl⟩
    ·simp only[execOp,ho,hv,Instr.sliceAt,Sem.run_bind,run_underlying hu w,Result.andThen_ok,Instr.slice,hb,sizeOf,typeInfo,program,Sem.run,hi',hzz]
     simp[Addr.add_mid,Sem.run,hi',hzz]
    ·have hlen:(hh-l).toNat=hh.toNat-l.toNat:=by omega
     rw[hlen];by_cases hMl:M=l.toNat
     ·rw[if_pos hMl]
      have hz0:hh.toNat-l.toNat=0:=by omega
      rw[hz0];simp only[Nat.zero_mul,List.take_zero];exact iy ⟨g,oo,_,rfl,by omega,.nil _ _⟩
     ·rw[if_neg hMl]
      exact iy ⟨g,oo+l.toNat*z,_,rfl,by omega,(hrow.QT _).take _⟩
   ·cases h
  ·cases h
 ·rename_i z hz he
  split at h
  ·rename_i hl hhi
   injection h with h;injection h with e1 e2;subst e1;subst e2;refine hX.still fun a w κ ρ hR=> ?_
   have hv:a.eval x= .slice none 0 0:=by
    have:=hR.ev (l:= .slot 0) x;rw[he] at this
    exact dR.1 this
   obtain ⟨e,i,hu,hi',hzz⟩:=dH hz;have hb:=gn (P:=P) hR (len:=0) (cap:=0) (m:=0) true hl hhi (.inl rfl) (Int.le_refl _) (Int.le_refl _) (Int.le_refl _);refine ⟨.slice none 0 0,?_,fun d=>cy.nils,rfl⟩;simp only[execOp,ho,hv,Instr.sliceAt,Sem.run_bind,run_underlying hu w,Result.andThen_ok,Instr.slice,hb,sizeOf,typeInfo,program,Sem.run,hi',hzz];simp[Sem.run,hi']
  ·cases h
 ·rename_i z b off len cap hz he
  split at h
  ·rename_i l hh hl hhi
   split at h
   ·rename_i hc
    obtain ⟨h0,h1,h2⟩:=hc;injection h with h;injection h with e1 e2;subst e1;subst e2;refine hX.still fun a w κ ρ hR=> ?_
    have hv:=hR.mV he;obtain ⟨e,i,hu,hi',hzz⟩:=dH hz;have hb:=gn (P:=P) hR (cap:=cap) (m:=0) true hl hhi (.inl rfl) h0 h1 h2;simp only[if_pos] at hb
    refine ⟨.slice (if cap=l.toNat then some ⟨ρ b,off,none⟩ else some ⟨ρ b,off+l.toNat*z,none⟩) (hh.toNat-l.toNat) (cap-l.toNat),?_,fun d=> ?_,by have:=hR.jF x;rw[ES he] at this;exact this⟩
    ·simp only[execOp,ho,hv,Instr.sliceAt,Sem.run_bind,run_underlying hu w,Result.andThen_ok,Instr.slice,hb,sizeOf,typeInfo,program,Sem.run,hi',hzz]
     simp[Addr.add_mid,Sem.run,hi',hzz]
    ·show _=_
     rw[show (hh-l).toNat=hh.toNat-l.toNat by omega];by_cases hk:cap=l.toNat
     ·rw[if_pos hk,if_pos (by omega)]
     ·rw[if_neg hk,if_neg (by omega)]
   ·cases h
  ·cases h
 ·exact ir h
theorem uT (off:Nat): ∀ (l:List Value) (k:Nat) (vs:Array Value),
  ((l.zipIdx k).foldl (fun cs p=>cs.setIfInBounds (off+p.2) p.1) vs).size=vs.size/\
  ∀ i (h:i<vs.size) (h':i<((l.zipIdx k).foldl (fun cs p=>cs.setIfInBounds (off+p.2) p.1) vs).size),((l.zipIdx k).foldl (fun cs p=>cs.setIfInBounds (off+p.2) p.1) vs)[i]=if hh:off+k<=i/\i<off+k+l.length then l[i-(off+k)]'(by omega) else vs[i]
 |[],k,vs=>⟨rfl,fun i h h'=>by rw[dif_neg (by simp only[List.length_nil];omega)];rfl⟩
 |v::l,k,vs=>by
  obtain ⟨h1,h2⟩:=uT off l (k+1) (vs.setIfInBounds (off+k) v);have hf:((v::l).zipIdx k).foldl (fun cs p=>cs.setIfInBounds (off+p.2) p.1) vs=(l.zipIdx (k+1)).foldl (fun cs p=>cs.setIfInBounds (off+p.2) p.1) (vs.setIfInBounds (off+k) v):=rfl;refine ⟨by rw[hf,h1];simp,fun i hi hi'=> ?_⟩;have:=h2 i (by simpa using hi) (by rw[← hf];exact hi');simp only[hf,this];by_cases k1:off+(k+1)<=i/\i<off+(k+1)+l.length
  ·rw[dif_pos k1,dif_pos (by simp only[List.length_cons];omega)]
   have e:i-(off+k)=(i-(off+(k+1)))+1:=by omega
   simp[e]
  ·rw[dif_neg k1,Array.getElem_setIfInBounds (by simpa using hi)]
   by_cases k2:off+k=i
   ·rw[if_pos k2,dif_pos (by simp only[List.length_cons];omega)]
    have e:i-(off+k)=0:=by omega
    simp[e]
   ·rw[if_neg k2,dif_neg (by simp only[List.length_cons];omega)]
theorem Jo (off:Nat) (v vs:Array Value):v.zipIdx.foldl (fun cs (p:Value×Nat)=>cs.setIfInBounds (off+p.2) p.1) vs=(v.toList.zipIdx 0).foldl (fun cs p=>cs.setIfInBounds (off+p.2) p.1) vs:=by
 rw[← Array.foldl_toList];simp
inductive Pl where
 |fields (l:List (Nat×Nat))
 |elems (z:Nat)
def Pl.at:Pl->Nat->Option (Nat×Nat)
 | .fields l,i=>l[i]?
 | .elems z,i=>some (i*z,z)
def jA (p:Pl):List aa->List (Nat×List aa)->Option (List aa)
 |cells,[]=>some cells
 |cells,(i,ds)::rest=>match p.at i with
  |some (off,size)=>if ds.length=size/\off+size<=cells.length then jA p (setAt cells off ds) rest else none
  |none=>none
inductive mM (w:World) (κ:Nat->BK) (ρ:Nat->Nat):List (Nat×List aa)->List (Nat×Value)->Prop
 |nil:mM w κ ρ [] []
 |cons (i:Nat) (ds:List aa) (v:Value) (rest:List (Nat×List aa)) (vs:List (Nat×Value)) (h:bU w κ ρ ds v.cells) (r:mM w κ ρ rest vs):mM w κ ρ ((i,ds)::rest) ((i,v)::vs)
theorem uQ {w:World} {κ:Nat->BK} {ρ:Nat->Nat} (p:Pl) (pf:Nat->Option (Nat×Nat)) (hp: ∀ i,pf i=p.at i) {parts:List (Nat×List aa)} {pv:List (Nat×Value)} (h:mM w κ ρ parts pv):
  ∀ (cells r:List aa) (vs:Array Value),bU w κ ρ cells vs->jA p cells parts=some r-> ∃ us,Instr.fill pf vs pv=some us/\bU w κ ρ r us:=by
 induction h with
 |nil=>
  intro cells r vs hc e;injection e with e
  subst e;exact ⟨vs,rfl,hc⟩
 |cons i ds v rest vs' hv _ ih=>
  intro cells r vs hc e;unfold jA at e
  split at e
  ·rename_i off size hat
   split at e
   ·rename_i hn
    obtain ⟨h1,h2⟩:=uT off v.cells.toList 0 vs;have hsz:=hc.size;have hvs:=hv.size;have hc2:bU w κ ρ (setAt cells off ds) ((v.cells.toList.zipIdx 0).foldl (fun cs p=>cs.setIfInBounds (off+p.2) p.1) vs):=by
     refine ⟨by rw[h1,cQ];exact hsz,fun x hx=> ?_,fun l j hj hj'=> ?_,fun j hj=> ?_⟩
     ·obtain ⟨j,hj,rfl⟩:=List.mem_iff_getElem.1 hx
      have hj2:=hj;rw[cQ] at hj2
      rw[fQ ds cells off j hj2];split
      ·exact hv.flat _ (List.getElem_mem _)
      ·exact hc.flat _ (List.getElem_mem _)
     ·rw[cQ] at hj
      rw[fQ ds cells off j hj,h2 j (by omega)];by_cases hh:off<=j/\j<off+ds.length
      ·rw[dif_pos hh,dif_pos (by simp;omega)]
       have:=hv.Hh l (j-off) (by omega) (by omega);simpa using this
      ·rw[dif_neg hh,dif_neg (by simp;omega)]
       exact hc.Hh l j hj (by omega)
     ·have hj2:j<vs.size:=by rw[h1] at hj;exact hj
      rw[h2 j hj2];split
      ·rename_i hh
       have:=hv.one (j-off) (by simp at hh;omega);simpa using this
      ·exact hc.one j hj2
    obtain ⟨us,hu1,hu2⟩:=ih _ r _ hc2 e;refine ⟨us,?_,hu2⟩;have hcond: ¬ (v.cells.size≠size||decide (off+v.cells.size>vs.size))=true:=by
     simp;omega
    simp only[Instr.fill,hp i,hat];rw[if_neg hcond,← hu1];congr 1;exact Jo off v.cells vs
   ·cases e
  ·cases e
def fh (s:St):List (Nat×Operand)->Option (List (Nat×List aa))
 |[]=>some []
 |(i,x)::rest=>match (s.ev x).aQ.cells,fh s rest with
  |some ds,some r=>some ((i,ds)::r)
  |_,_=>none
theorem mi {s:St} {a:Act} {w:World} {κ:Nat->BK} {ρ:Nat->Nat} (hR:Rel s a w κ ρ): ∀ (ps:List (Nat×Operand)) (r:List (Nat×List aa)),fh s ps=some r->mM w κ ρ r (ps.map fun p=>(p.1,a.eval p.2))/\ ∀ q∈r,∀ x∈q.2,x.ok s.H.length=true
 |[],r,h=>by injection h with h;subst h;exact ⟨.nil,fun q hq=>by cases hq⟩
 |(i,x)::rest,r,h=>by
  unfold fh at h;split at h
  ·rename_i ds r' h1 h2
   injection h with h;subst h;obtain ⟨k1,k2⟩:=mi hR rest r' h2;refine ⟨.cons i ds _ _ _ (ad.qZ (hR.ev (l:= .slot 0) x) h1) k1,fun q hq=> ?_⟩;rcases List.mem_cons.1 hq with rfl|hq
   ·exact ad.mZ (hR.jF x) h1
   ·exact k2 q hq
  ·cases h
theorem As {n:Nat} (p:Pl): ∀ (parts:List (Nat×List aa)) (cells r:List aa),(∀ q∈parts,∀ x∈q.2,x.ok n=true)->(∀ x∈cells,x.ok n=true)->jA p cells parts=some r-> ∀ x∈r,x.ok n=true
 |[],cells,r,_,hc,e=>by injection e with e;subst e;exact hc
 |(i,ds)::rest,cells,r,hp,hc,e=>by
  unfold jA at e;split at e
  ·rename_i off size hat
   split at e
   ·refine As p rest _ r (fun q hq=>hp q (List.mem_cons_of_mem _ hq)) (fun x hx=> ?_) e
    obtain ⟨j,hj,rfl⟩:=List.mem_iff_getElem.1 hx;have hj2:=hj;rw[cQ] at hj2;rw[fQ ds cells off j hj2];split
    ·exact hp (i,ds) (List.mem_cons_self ..) _ (List.getElem_mem _)
    ·exact hc _ (List.getElem_mem _)
   ·cases e
  ·cases e
def bInfo (P:Program) (t:TypeId):Option (List aa×Pl):=
 match P.info? t,P.underlying t with
 |some it,some (.array _ e)=>match it.zero,P.info? e with
  |some z,some ie=>if z.cells.toList.all Value.oneCell' then some (z.cells.toList.map qL,.elems ie.size) else none
  |_,_=>none
 |some it,some (.struct fields)=>match it.zero,fields.toList.mapM (fun f=>(P.info? f.type).map fun i=>(f.offset,i.size)) with
  |some z,some places=>if z.cells.toList.all Value.oneCell' then some (z.cells.toList.map qL,.fields places) else none
  |_,_=>none
 |_,_=>none
theorem Ay {P:Program} {t:TypeId} {zs:List aa} {p:Pl} (h:bInfo P t=some (zs,p)): ∃ (z:Array Value) (pf:Nat->Option (Nat×Nat)),zs=z.toList.map qL/\(∀ v∈z,v.oneCell'=true)/\(∀ i,pf i=p.at i)/\ ∀ parts,P.built t parts=Instr.fill pf z parts:=by
 unfold bInfo at h;split at h
 ·rename_i it n e hi hu
  split at h
  ·rename_i z ie hz hie
   split at h
   ·rename_i h1
    injection h with h;injection h with e1 e2;subst e1;subst e2;exact ⟨z.cells,_,rfl,fun v hv=>List.all_eq_true.1 h1 v (Array.mem_toList_iff.2 hv),fun i=>rfl,fun parts=>by simp only[Program.built,hi,hu,hz,hie];rfl⟩
   ·cases h
  ·cases h
 ·rename_i it fields hi hu
  split at h
  ·rename_i z places hz hpl
   split at h
   ·rename_i h1
    injection h with h;injection h with e1 e2;subst e1;subst e2;exact ⟨z.cells,fun i=>places.toArray[i]?,rfl,fun v hv=>List.all_eq_true.1 h1 v (Array.mem_toList_iff.2 hv),fun i=>by simp[Pl.at],fun parts=>by simp only[Program.built,hi,hu,hz,hpl]⟩
   ·cases h
  ·cases h
 ·cases h
def mR (P:Program) (s:St) (t:TypeId) (parts:List (Nat×Operand)):Option (ad×eJ):=
 match bInfo P t,fh s parts with
 |some (zs,p),some ps=>match jA p zs ps with
  |some cs=>some (.agg cs,{})
  |none=>none
 |_,_=>none
theorem CT {P:Program} {s:St} {o:Oper} {t:TypeId} {parts:Array (Nat×Operand)} {r:ad} {ch:eJ} (ho:o.op= .build t parts) (h:mR P s t parts.toList=some (r,ch)):hX P o s r ch:=by
 unfold mR at h;split at h
 ·rename_i zs p ps hb hp
  split at h
  ·rename_i cs hf
   injection h with h;injection h with e1 e2;subst e1;subst e2;obtain ⟨z,pf,rfl,h1,hpf,hbt⟩:=Ay hb;refine hX.still fun a w κ ρ hR=> ?_
   obtain ⟨k1,k2⟩:=mi hR parts.toList ps hp;obtain ⟨us,hu1,hu2⟩:=uQ p pf hpf k1 _ cs z (pQ z h1) hf;refine ⟨.agg us,?_,fun d=>⟨us,rfl,hu2.size,fun i hi hi'=>⟨hu2.flat _ (List.getElem_mem hi),hu2.Hh _ i hi hi'⟩⟩,?_⟩
   ·have:=run_build (P:=P) w t (parts.map fun (i,x)=>(i,a.eval x)) us (by rw[hbt,Array.toList_map];exact hu1)
    simp only[execOp,ho,Sem.run_bind,this];rfl
   ·simp only[ad.ok,List.all_eq_true]
    exact As p ps _ cs k2 (o5 _ _) hf
  ·cases h
 ·cases h
def aa.fz:aa->Option ag
 | .f .nils=>some (.row [] 0)
 | .f x=>some x
 | .bg true _ cs len=>some (.row cs len)
 |_=>none
def jX:List aa->Option (List ag)
 |[]=>some []
 |c::cs=>match c.fz,jX cs with
  |some x,some xs=>some (x::xs)
  |_,_=>none
theorem aa.nf {w:World} {κ:Nat->BK} {ρ:Nat->Nat} {l:Loc}: ∀ {x:aa} {y:ag} {v:Value},bx w κ ρ l x v->x.fz=some y->cy w κ y v
 | .f .nils,y,v,h,e=>by injection e with e;subst e;rw[dR.1 h];exact .nil0 _
 | .f (.v _),y,v,h,e=>by injection e with e;subst e;exact h
 | .f (.row ..),y,v,h,e=>by injection e with e;subst e;exact h
 | .f (.ip ..),y,v,h,e=>by injection e with e;subst e;exact h
 | .bg true sz cs len,y,v,h,e=>by injection e with e;subst e;exact bx.aQ (l':=l) h
 | .bg false sz cs len,y,v,h,e=>by cases e
 | .ptr ..,_,_,_,e=>by cases e
 | .arr ..,_,_,_,e=>by cases e
 | .und,_,_,_,e=>by cases e
 | .any,_,_,_,e=>by cases e
 | .mh ..,_,_,_,e=>by cases e
 | .mp ..,_,_,_,e=>by cases e
theorem iC: ∀ (cs:List aa) (xs:List ag),jX cs=some xs->xs.length=cs.length/\ ∀ i (h:i<cs.length) (h':i<xs.length),cs[i].fz=some xs[i]
 |[],xs,h=>by injection h with h;subst h;exact ⟨rfl,fun i h=>by simp at h⟩
 |c::cs,xs,h=>by
  unfold jX at h;split at h
  ·rename_i x ys e1 e2
   injection h with h;subst h;obtain ⟨h1,h2⟩:=iC cs ys e2;refine ⟨by simp[h1],fun i hi hi'=> ?_⟩;cases i with
   |zero=>exact e1
   |succ i=>exact h2 i (by simpa using hi) (by simpa using hi')
  ·cases h
theorem nw {w:World} {κ:Nat->BK} {ρ:Nat->Nat} {b:Nat} {cs:List aa} (h:qM w κ ρ b cs) {off k:Nat} (hk:off+k<=cs.length) {fs:List ag} (hf:jX ((cs.drop off).take k)=some fs):k=0\/nO w κ ρ b cs:=by
 rcases Nat.eq_zero_or_pos k with h0|h0
 ·exact .inl h0
 ·right
  have hlt:off<cs.length:=by omega
  refine h.np (List.getElem?_eq_getElem hlt) fun q es e=> ?_
  obtain ⟨f1,f2⟩:=iC _ fs hf;have hl:0<((cs.drop off).take k).length:=by rw[List.length_take,List.length_drop];omega
  have:=f2 0 hl (by omega);simp only[List.getElem_take,List.getElem_drop,Nat.add_zero] at this
  rw[e] at this;cases this
theorem FW {w:World} {κ:Nat->BK} {ρ:Nat->Nat} {n:Nat} (l:Loc) (q:Bool) {sz len cap:Nat} {fs:List ag} {c:Array Value} (e:TypeId) (hl:fs.length=len*sz) (hle:len<=cap) (hc:c.size=cap*sz)
  (hr: ∀ i (h:i<fs.length) (h':i<c.size),cy w κ fs[i] c[i]):j5 (w.alloc (.cells c e)) (dJ κ w.heap.size (.bg (tE q fs.length) l)) l q sz fs len w.heap.size cap:=by
 have m:=dU n w κ ρ (.cells c e) (.bg (tE q fs.length) l) ρ (fun _ _=>rfl);have hsz:fs.length<=c.size:=by rw[hl,hc];exact Nat.mul_le_mul_right _ hle
 have hh:(w.alloc (.cells c e)).heap[w.heap.size]? =some (.cells c e (0,0)):=by rw[lP,if_pos rfl]
 refine ⟨fun i hi=> ?_,by rw[ui];omega,hl,aG _ _ _,hle,c,e,hh,hc⟩;have hi':i<c.size:=by omega
 exact ⟨c[i],by unfold World.cell?;rw[hh];simp[hi'],(hr i hi hi').grow m.grow⟩
def eF (P:Program) (s:St) (t:TypeId) (len:Nat) (parts:List (Nat×Operand)):Option (ad×eJ):=
 match dM P t,fh s parts with
 |some (sz,_,zs),some ps=>if len*sz<=16777216 then
  match jA (.elems sz) (dc zs len) ps with
  |some cs=>match jX cs with
    |some fs=>some (.c (.bg true sz fs len),{})
    |none=>none
  |none=>none
  else none
 |_,_=>none
theorem sT {P:Program} {s:St} {o:Oper} {t:TypeId} {len:Nat} {parts:Array (Nat×Operand)} {r:ad} {ch:eJ} (ho:o.op= .buildSlice t len parts) (h:eF P s t len parts.toList=some (r,ch)):hX P o s r ch:=by
 unfold eF at h;split at h
 ·rename_i sz by_ zs ps hI hp
  split at h
  ·rename_i hlen
   split at h
   ·rename_i cs hf
    split at h
    ·rename_i fs hfs
     injection h with h;injection h with e1 e2;subst e1;subst e2;obtain ⟨e,i,z,hu,hi,hz,rfl,rfl,rfl,hsz,hpos,h1⟩:=fL hI;intro a w κ ρ hR;obtain ⟨k1,k2⟩:=mi hR parts.toList ps hp;have hm:bU w κ ρ (dc (z.cells.toList.map qL) len) (madeCells z.cells (len*i.size)):=by rw[← hsz];exact nr z.cells len (by omega) h1
     obtain ⟨us,hu1,hu2⟩:=uQ (.elems i.size) (fun j=>some (j*i.size,i.size)) (fun _=>rfl) k1 _ cs _ hm hf;obtain ⟨f1,f2⟩:=iC cs fs hfs;have hcl:cs.length=len*i.size:=by
      have hlen2: ∀ (p:Pl) (parts:List (Nat×List aa)) (cells r:List aa),jA p cells parts=some r->r.length=cells.length:=by
       intro p parts
       induction parts with
       |nil=>intro cells r e;injection e with e;subst e;rfl
       |cons q rest ih=>
        intro cells r e;obtain ⟨j,ds⟩:=q;unfold jA at e
        split at e
        ·split at e
         ·rw[ih _ _ e,cQ]
         ·cases e
        ·cases e
      rw[hlen2 _ _ _ _ hf,iQ];simp[hsz]
     have hus:us.size=len*i.size:=by rw[hu2.size,hcl]
     have hT:=FW (w:=w) (κ:=κ) (ρ:=ρ) (n:=s.H.length) (.slot (o.dst.getD 0)) true (sz:=i.size) (len:=len) (cap:=len) (fs:=fs) (c:=us) e (by rw[f1,hcl]) (Nat.le_refl _) hus (fun j hj hj'=>aa.nf (hu2.Hh (.slot 0) j (by omega) hj') (f2 j (by omega) hj));have m:=dU s.H.length w κ ρ (.cells us e) (.bg (tE true fs.length) (.slot (o.dst.getD 0))) ρ (fun _ _=>rfl);refine ⟨.slice (some ⟨w.heap.size,0,none⟩) len len,_,_,ρ,.inl ?_,hR.mv m (fun _ h=>h),fun d hd=> ?_,rfl,m.fr,fun _ _=>rfl⟩
     ·have hn: ¬ (16777216<len*i.size):=by omega
      have hfill:Instr.fill (fun j=>some (j*i.size,i.size)) (madeCells z.cells (len*i.size)) (parts.toList.map fun p=>(p.1,a.eval p.2))=some us:=hu1;by_cases hz0:len*i.size=0
      ·have hm0:madeCells z.cells (len*i.size)= #[]:=Array.eq_empty_of_size_eq_zero (by rw[size_madeCells,hz0])
       rw[hm0] at hfill;have hr0:(Array.range 0).map (fun _=>(default:Value))= #[]:=Array.eq_empty_of_size_eq_zero (by simp);simp only[execOp,ho,Instr.buildSlice,Sem.run_bind,run_underlying hu w,Result.andThen_ok,sizeOf,typeInfo,program,Sem.run,hi];simp[Sem.run,hi,hn,hz0,hr0,hfill,newRow]
      ·simp only[execOp,ho,Instr.buildSlice,Sem.run_bind,run_underlying hu w,Result.andThen_ok,sizeOf,typeInfo,program,Sem.run,hi]
       unfold madeCells at hfill;simp[Sem.run,hi,hn,hz0,hz,hfill,newRow,zeroValue,typeInfo]
     ·rw[hd] at hT⊢
      exact .inl ⟨w.heap.size,len,rfl,hT⟩
    ·cases h
   ·cases h
  ·cases h
 ·cases h
def bo (P:Program) (s:St) (sz:Nat) (tx:TypeId) (y:Operand):Option (Nat×List ag):=
 match (s.ev y).aQ with
 | .c (.f (.row cs n))=>match bl P tx with
  |some z=>if z=sz/\cs.length=n*sz then some (n,cs) else none
  |none=>none
 | .c (.f .nils)=>match bl P tx with
  |some z=>some (0,[])
  |none=>none
 | .c (.arr b off n _)=>match bl P tx,s.H[b]? with
  |some z,some (some cells)=>if z=sz/\off+n*sz<=cells.length then
   match jX ((cells.drop off).take (n*sz)) with
   |some fs=>some (n,fs)
   |none=>none
   else none
  |_,_=>none
 |_=>none
theorem xZ {P:Program} (w:World) (size:Nat) (tx:TypeId) {z:Nat} (hz:bl P tx=some z) (g o n c:Nat) (news:List Value) (hl:news.length=n*size) (hr:w.rangeAt g o news) (h1: ∀ u∈news,u.oneCell'=true):Src P size tx (.slice (some ⟨g,o,none⟩) n c) n news w:=by
 obtain ⟨e,i,hu,hi,_⟩:=dH hz;exact Src.ofSlice w hu ⟨g,o,none⟩ n c news hl (fun j u hj=>by rw[Addr.add_mid];exact hr j u hj) h1
theorem fR {P:Program} {s:St} {sz:Nat} {tx:TypeId} {y:Operand} {n:Nat} {fs:List ag} (h:bo P s sz tx y=some (n,fs)) {a:Act} {w:World} {κ:Nat->BK} {ρ:Nat->Nat} (hR:Rel s a w κ ρ):
  ∃ news:List Value,Src P sz tx (a.eval y) n news w/\news.length=fs.length/\fs.length=n*sz/\ ∀ i (h:i<fs.length) (h':i<news.length),cy w κ fs[i] news[i]:=by
 unfold bo at h;split at h
 ·rename_i cs m he
  split at h
  ·rename_i z hz
   split at h
   ·rename_i hc
    injection h with h;injection h with e1 e2;subst e1;subst e2;obtain ⟨g,oo,cap,hv,hcap,hrow⟩|⟨rfl,rfl,A,hv⟩:=hR.qW he
    rotate_left
    ·obtain ⟨e,i,hu,hi,_⟩:=dH hz
     refine ⟨[],?_,rfl,by simp,fun i h=>by simp at h⟩;rw[hv];cases A with
     |none=>exact Src.ofNil w hu 0
     |some A=>exact Src.ofSlice w hu A 0 0 [] (by simp) (fun j u h=>by simp at h) (fun u h=>by cases h)
    obtain ⟨vs,hl,hra,hre⟩:=hrow.part 0 cs.length (by omega);have hre': ∀ i (h:i<cs.length) (h':i<vs.length),cy w κ cs[i] vs[i]:=fun i hi hi'=>by
     have:=hre i hi hi';simpa using this
    refine ⟨vs,?_,hl,hc.2,hre'⟩;rw[hv];refine xZ w sz tx hz g oo m cap vs (by rw[hl];exact hc.2) hra (fun u hu=> ?_);obtain ⟨i,hi,rfl⟩:=List.mem_iff_getElem.1 hu;exact (hre' i (by omega) hi).one
   ·cases h
  ·cases h
 ·rename_i he
  split at h
  ·rename_i z hz
   injection h with h;injection h with e1 e2;subst e1;subst e2;have hv:a.eval y= .slice none 0 0:=by
    have:=hR.ev (l:= .slot 0) y;rw[he] at this
    exact dR.1 this
   obtain ⟨e,i,hu,hi,_⟩:=dH hz;exact ⟨[],by rw[hv];exact Src.ofNil w hu 0,rfl,by simp,fun i h=>by simp at h⟩
  ·cases h
 ·rename_i b off m cap he
  split at h
  ·rename_i z cells hz hb
   split at h
   ·rename_i hc
    split at h
    ·rename_i gs hgs
     injection h with h;injection h with e1 e2;subst e1;subst e2;obtain ⟨vs,hl,hra,hre⟩:=(hR.heap.dk b cells hb).part off (m*sz) (nw (hR.heap.dk b cells hb) hc.2 hgs) hc.2;obtain ⟨f1,f2⟩:=iC _ gs hgs;have f1':gs.length=m*sz:=by rw[f1];simp;omega
     have hrep: ∀ i (h:i<gs.length) (h':i<vs.length),cy w κ gs[i] vs[i]:=fun i hi hi'=>by
      have h3:=hre i (by omega) hi';have h4:=f2 i (by rw[← f1];exact hi) hi;simp only[List.getElem_take,List.getElem_drop] at h4
      exact aa.nf h3 h4
     refine ⟨vs,?_,by omega,f1',hrep⟩;rw[hR.mV he];refine xZ w sz tx hz (ρ b) off m cap vs hl hra (fun u hu=> ?_);obtain ⟨i,hi,rfl⟩:=List.mem_iff_getElem.1 hu;exact (hrep i (by omega) hi).one
    ·cases h
   ·cases h
  ·cases h
 ·cases h
def fl (P:Program) (s:St) (t tx:TypeId) (x y:Operand):Option (ad×eJ):=
 match dM P t with
 |some (sz,by_,_)=>match bo P s sz tx y with
  |some (n,fs)=>match holds s x with
   |some (u,q,z,cs,len)=>if z=sz/\len+n<=4611686018427387904/\(len+n)*by_<=140737488355328 then some (.c (.bg q sz (cs++fs) (len+n)),{ aQ:=some u }) else none
   |none=>match s.ev x with
    | .c (.f .nils)=>if n<=4611686018427387904/\n*by_<=140737488355328 then some (.c (.bg true sz fs n),{}) else none
    |_=>none
  |none=>none
 |none=>none
theorem dS {P:Program} {ev:Operand->Value} {o:Oper} {t tx:TypeId} {x y:Operand} (ho:o.op= .call { callee:= .builtin .append,args:= #[x,y],argTypes:= #[t,tx] }) {v:Value} {w w':World} (h:(Builtin.append_ #[t,tx] o.type #[ev x,ev y]).run P w= .ok v w'):(execOp ev o).run P w= .ok (.value v) w':=by
 simp[execOp,ho,resolve,invoke,builtin,h]
theorem ke (n:Nat) (w:World) (κ:Nat->BK) (ρ:Nat->Nat):Mv (fun _=>False) n w κ ρ w.drew κ ρ:=
 ⟨rfl,rfl,rfl,Nat.le_refl _,fun _ _=>rfl,fun _ _ _=>⟨rfl,rfl⟩,fun _ _ _ _ h=>h.elim,fun _ _ _ h=>h.elim,fun _ _ h=>h.elim⟩
theorem xg {w:World} {κ:Nat->BK} {ρ:Nat->Nat} {n:Nat} (l:Loc) (q:Bool) {sz len m cap:Nat} {cs fs:List ag} {olds news:List Value} (e:TypeId) (z:Array Value) (hz:z.size=sz) (hcs:cs.length=len*sz) (hfs:fs.length=m*sz)
  (h1:olds.length=cs.length) (h2:news.length=fs.length) (hle:len+m<=cap) (hr1: ∀ i (h:i<cs.length) (h':i<olds.length),cy w κ cs[i] olds[i]) (hr2: ∀ i (h:i<fs.length) (h':i<news.length),cy w κ fs[i] news[i]):
  j5 (w.drew.alloc (.cells ((olds++news).toArray++Builtin.zeroCells z (cap-(len+m))) e)) (dJ κ w.heap.size (.bg (tE q (cs++fs).length) l)) l q sz (cs++fs) (len+m) w.heap.size cap:=by
 have hsz:((olds++news).toArray++Builtin.zeroCells z (cap-(len+m))).size=cap*sz:=by
  simp only[Array.size_append,List.size_toArray,List.length_append,Builtin.zeroCells,Array.size_map,Array.size_range,h1,h2,hcs,hfs,hz,← Nat.add_mul];congr 1;omega
 have:=FW (w:=w.drew) (κ:=κ) (ρ:=ρ) (n:=n) l q (sz:=sz) (len:=len+m) (cap:=cap) (fs:=cs++fs) (c:=(olds++news).toArray++Builtin.zeroCells z (cap-(len+m))) e (by rw[List.length_append,hcs,hfs,Nat.add_mul]) hle hsz (fun i hi hi'=>by
  rw[List.length_append] at hi;rw[Array.getElem_append_left (by simp;omega),List.getElem_toArray];have hg:=(ke n w κ ρ).grow;rcases Nat.lt_or_ge i cs.length with hlt|hge
  ·rw[List.getElem_append_left hlt,List.getElem_append_left (by omega)]
   exact (hr1 i hlt (by omega)).grow hg
  ·rw[List.getElem_append_right hge,List.getElem_append_right (by omega)]
   have:=(hr2 (i-cs.length) (by omega) (by omega)).grow hg;simp only[h1];exact this)
 exact this
theorem grownCap_ge (w:World) (need old:Nat) (e:TypeId):need<=grownCap w need old e:=by
 unfold grownCap Question.cut;exact Nat.le_add_right _ _
theorem append_nil {P:Program} {s:St} {o:Oper} {t tx:TypeId} {x y:Operand} (ho:o.op= .call { callee:= .builtin .append,args:= #[x,y],argTypes:= #[t,tx] }) {sz by_:Nat} {zs:List aa} (hI:dM P t=some (sz,by_,zs)) {n:Nat} {fs:List ag} (hsrc:bo P s sz tx y=some (n,fs)) (h63:n<=4611686018427387904) (hby:n*by_<=140737488355328)
  {a:Act} {w:World} {κ:Nat->BK} {ρ:Nat->Nat} (hR:Rel s a w κ ρ) (hv:a.eval x= .slice none 0 0) (l:Loc) (q:Bool):
  ∃ v w' κ',(execOp a.eval o).run P w= .ok (.value v) w'/\Rel s a w' κ' ρ/\bx w' κ' ρ l (.bg q sz fs n) v/\Fr w κ w' κ':=by
 obtain ⟨e,i,z,hu,hi,hz,rfl,rfl,rfl,hsz,hpos,h1⟩:=fL hI;obtain ⟨news,hs,hn1,hn2,hn3⟩:=fR hsrc hR;by_cases hn0:n=0
 ·subst hn0
  have hfs:fs=[]:=List.eq_nil_of_length_eq_zero (by omega);have hnil:news=[]:=List.eq_nil_of_length_eq_zero (by omega);subst hnil;exact ⟨_,w,κ,dS ho (by rw[hv];exact run_append_nothing (P:=P) w t tx o.type e i hu hi none 0 0 (Nat.le_refl _) _ hs),hR,.inr ⟨hfs,rfl,rfl⟩,Fr.refl _ _⟩
 ·have hold2:(Builtin.firstCells i.size 0 (.slice none 0 0)).run P w.drew= .ok ([]:List Value).toArray w.drew:=rfl
  have hfit:=growslice_fits (need:=0+n) (old:=0) (bytes:=i.bytes) (by omega) (by rw[Nat.zero_add];exact hby);have hrun:=run_append_grow_src (P:=P) w t tx o.type e i z hu hi hz none 0 0 [] hold2 (a.eval y) n news hs (by omega) (by omega) hfit;have hTn:=xg (w:=w) (κ:=κ) (ρ:=ρ) (n:=s.H.length) l q (m:=n) (len:=0) (cap:=grownCap w (0+n) 0 e) (cs:=[]) (olds:=[]) (news:=news) e z.cells hsz (by simp) hn2 rfl hn1 (grownCap_ge _ _ _ _) (fun j hj=>by simp at hj) hn3;have m1:=ke s.H.length w κ ρ;have m2:=dU s.H.length w.drew κ ρ (.cells (([]++news).toArray++Builtin.zeroCells z.cells (grownCap w (0+n) 0 e-(0+n))) e) (.bg (tE q ([]++fs).length) l) ρ (fun _ _=>rfl);refine ⟨_,_,_,dS ho (by rw[hv];exact hrun),(hR.mv m1 (fun _ h=>h)).mv m2 (fun _ h=>h),?_,m1.fr.trans m2.fr⟩;rw[Nat.zero_add] at hTn⊢
  exact .inl ⟨w.heap.size,_,rfl,hTn⟩
theorem Ar {P:Program} {s:St} {o:Oper} {t tx:TypeId} {x y:Operand} {r:ad} {ch:eJ} (ho:o.op= .call { callee:= .builtin .append,args:= #[x,y],argTypes:= #[t,tx] }) (h:fl P s t tx x y=some (r,ch)):hX P o s r ch:=by
  unfold fl at h;split at h
  · rename_i sz by_ zs hI
    obtain ⟨e,i,z,hu,hi,hz,rfl,rfl,rfl,hsz,hpos,h1⟩:=fL hI;split at h
    · rename_i n fs hsrc
      split at h
      · rename_i u q zz cs len hy0
        obtain ⟨rfl,hx⟩:=holds_of hy0;split at h
        · rename_i hc
          obtain ⟨rfl,h63,hby⟩:=hc;injection h with h;injection h with e1 e2;subst e1;subst e2;intro a w κ ρ hR;obtain ⟨news,hs,hn1,hn2,hn3⟩:=fR hsrc hR;have htip:=hR.y7 u;rw[hx] at htip;obtain ⟨g,cap,hv,hT⟩|⟨rfl,rfl,hv⟩:=htip
          rotate_left
          · rw[Nat.zero_add] at h63 hby
            obtain ⟨v,w',κ',k1,k2,k3,k4⟩:=append_nil ho hI hsrc h63 hby hR hv (.slot (o.dst.getD 0)) q;refine ⟨v,w',κ',ρ,.inl k1,Dd k2 u,fun d hd=> ?_,rfl,k4,fun _ _=>rfl⟩;rw[hd] at k3;rw[Nat.zero_add,List.nil_append];exact k3
          have hold:=uC hT.cell 0 cs.length (by omega);obtain ⟨olds,ho1,ho2,ho3⟩:=hold;obtain ⟨c,ec,hblk,hcsz⟩:=hT.dk;by_cases hroom:len+n<=cap
          ·
           have hcell: ∀ j,j<news.length->(w.cell? ⟨g,0+len*i.size+j,none⟩).isSome=true/\w.frozen? ⟨g,0+len*i.size+j,none⟩=false:=by
              intro j hj;have:(len+n)*i.size<=cap*i.size:=Nat.mul_le_mul_right _ hroom;rw[Nat.add_mul] at this
              have hlt:0+len*i.size+j<c.size:=by omega
              simp[World.cell?,World.frozen?,hblk];simpa using hlt
           have hrun:=run_append_room_src (P:=P) w t tx o.type e i hu hi g 0 len cap (a.eval y) n news hs hroom (fun j hj=>(hcell j hj).1) (fun j hj=>(hcell j hj).2);have hcut:=hT.cut;have m:Mv (· =g) s.H.length w κ ρ (w.setCells g (0+len*i.size) news) (dJ κ g (.bg (tE q (cs++fs).length) (.slot (o.dst.getD 0)))) ρ:=by
              have hpq:=PC q cs.length;obtain ⟨q1,q2,q3,q4⟩:=iG news w g (0+len*i.size);refine ⟨q1,q2,q3,by rw[q4];exact Nat.le_refl _,fun _ _=>rfl,fun j _ hj=>⟨jS news w g _ j hj,aw _ _ hj⟩,fun j p v hj hT' hf hv'=> ?_,fun j p hj hT' hf=> ?_,fun j p hT'=> ?_⟩
              · subst hT'
                rw[hT.own] at hf;simp only[BK.fits] at hf;rw[World.cell?_setCells_out _ _ _ _ _ (fun _ _=>Or.inl (by simp only;omega))];exact hv'
              · subst hT'
                rw[aG];rw[hT.own] at hf;simp only[BK.fits,List.length_append] at hf⊢;cases q<;>simp[tE] at hf⊢ <;>omega
              · subst hT';rw[hT.own];intro e;cases e
           have hlt':g<(w.setCells g (0+len*i.size) news).heap.size:=by rw[(iG news w g (0+len*i.size)).2.2.2];exact hT.lt
           have hTn:j5 (w.setCells g (0+len*i.size) news) (dJ κ g (.bg (tE q (cs++fs).length) (.slot (o.dst.getD 0)))) (.slot (o.dst.getD 0)) q i.size (cs++fs) (len+n) g cap:=by
              refine ⟨fun j hj=> ?_,hlt',by rw[List.length_append,hcut,hn2,Nat.add_mul],aG _ _ _,hroom,?_⟩
              · rw[List.length_append] at hj
                rcases Nat.lt_or_ge j cs.length with hlt|hge
                · obtain ⟨v,hv1,hv2⟩:=hT.cell j hlt
                  refine ⟨v,?_,by rw[List.getElem_append_left hlt];exact hv2.grow m.grow⟩;rw[World.cell?_setCells_out _ _ _ _ _ (fun _ _=>Or.inl (by simp only;omega))];exact hv1
                · have hjn:j-cs.length<news.length:=by omega
                  refine ⟨news[j-cs.length],?_,?_⟩
                  · have:=World.cell?_setCells_in g news (0+len*i.size) w (fun q hq=>(hcell q hq).1) (j-cs.length) hjn
                    rw[show 0+len*i.size+(j-cs.length)=0+j by omega] at this;exact this
                  · rw[List.getElem_append_right hge]
                    exact (hn3 (j-cs.length) (by omega) hjn).grow m.grow
              · obtain ⟨c',k1,k2,_⟩:=kG news w g (0+len*i.size) c ec (0,0) hblk
                exact ⟨c',ec,k1,by rw[k2];exact hcsz⟩
           refine ⟨_,_,_,ρ,.inl (dS ho (by rw[hv];exact hrun)),hR.zl m hT.own,fun d hd=> ?_,rfl,m.fr,fun _ _=>rfl⟩;rw[hd] at hTn⊢
           exact .inl ⟨g,cap,rfl,hTn⟩
          ·
           have hold2:(Builtin.firstCells i.size len (.slice (some ⟨g,0,none⟩) len cap)).run P w.drew= .ok olds.toArray w.drew:=by
              have:=run_loadCells_list (P:=P) w.drew ⟨g,0,none⟩ olds (fun j v hj=>by rw[Addr.add_mid];simpa using ho2 j v hj);simp only[Builtin.firstCells];rw[← hT.cut,← ho1];exact this
           have hfit:=growslice_fits (need:=len+n) (old:=cap) (bytes:=i.bytes) (by omega) hby;have hrun:=run_append_grow_src (P:=P) w t tx o.type e i z hu hi hz (some ⟨g,0,none⟩) len cap olds hold2 (a.eval y) n news hs (by omega) (by omega) hfit;have hTn:=xg (w:=w) (κ:=κ) (ρ:=ρ) (n:=s.H.length) (.slot (o.dst.getD 0)) q (m:=n) (cap:=grownCap w (len+n) cap e) (olds:=olds) (news:=news) e z.cells hsz hT.cut hn2 ho1 hn1 (grownCap_ge _ _ _ _) (fun j hj hj'=>by simpa using ho3 j hj hj') hn3;have m1:=ke s.H.length w κ ρ;have m2:=dU s.H.length w.drew κ ρ (.cells ((olds++news).toArray++Builtin.zeroCells z.cells (grownCap w (len+n) cap e-(len+n))) e) (.bg (tE q (cs++fs).length) (.slot (o.dst.getD 0))) ρ (fun _ _=>rfl);refine ⟨_,_,_,ρ,.inl (dS ho (by rw[hv];exact hrun)),Dd ((hR.mv m1 (fun _ h=>h)).mv m2 (fun _ h=>h)) u,fun d hd=> ?_,rfl,m1.fr.trans m2.fr,fun _ _=>rfl⟩;rw[hd] at hTn⊢
           exact .inl ⟨w.heap.size,_,rfl,hTn⟩
        · cases h
      · split at h
        · rename_i hx
          split at h
          · rename_i hc
            obtain ⟨h63,hby⟩:=hc;injection h with h;injection h with e1 e2;subst e1;subst e2;intro a w κ ρ hR;obtain ⟨v,w',κ',k1,k2,k3,k4⟩:=append_nil ho hI hsrc h63 hby hR (hR.gp (by rw[hx];rfl)) (.slot (o.dst.getD 0)) true;exact ⟨v,w',κ',ρ,.inl k1,k2,fun d hd=>by rw[hd] at k3;exact k3,rfl,k4,fun _ _=>rfl⟩
          · cases h
        · cases h
    · cases h
  · cases h
theorem zJ {P:Program} (w:World) (src dst e:TypeId) (hs:P.underlying src=some (.slice e)) (he:P.underlying e=some (.int .u8)) (hd:P.underlying dst=some .string):(convert src dst (.slice none 0 0)).run P w= .ok (.string ⟨#[]⟩) w:=by
 rw[run_convert_bytes_string w src dst e none 0 0 hs he hd];simp[Conv.bytesToString];rfl
def bytesOf:List ag->Option (List UInt8)
 |[]=>some []
 | .v (.int .u8 n)::r=>if ((UInt8.ofNat n.toNat).toNat:Int)=n then
   match bytesOf r with
   |some l=>some (UInt8.ofNat n.toNat::l)
   |none=>none
  else none
 |_=>none
theorem rW: ∀ (cs:List ag) (l:List UInt8),bytesOf cs=some l->l.length=cs.length/\ ∀ i (h:i<cs.length) (h':i<l.length),cs[i]= .v (.int .u8 (l[i].toNat:Int))
 |[],l,h=>by injection h with h;subst h;exact ⟨rfl,fun i h=>by simp at h⟩
 |c::r,l,h=>by
  unfold bytesOf at h;split at h
  ·rename_i heq;cases heq
  ·rename_i n r' heq
   injection heq with e1 e2;subst e1;subst e2;split at h
   ·rename_i hn
    split at h
    ·rename_i l' hl'
     injection h with h;subst h;obtain ⟨h1,h2⟩:=rW r l' hl';refine ⟨by simp[h1],fun i hi hi'=> ?_⟩;cases i with
     |zero=>
      show ag.v (.int .u8 n)= .v (.int .u8 ((UInt8.ofNat n.toNat).toNat:Int));rw[hn]
     |succ i=>exact h2 i (by simpa using hi) (by simpa using hi')
    ·cases h
   ·cases h
  ·cases h
def nY (P:Program) (a b:TypeId):Bool:=
 match P.underlying a,P.underlying b with
 |some (.slice e),some .string=>match P.underlying e with
  |some (.int .u8)=>true
  |_=>false
 |_,_=>false
def fA (P:Program) (s:St) (o:Oper) (t u:TypeId) (x:Operand):Option (ad×eJ):=
 match (s.ev x).aQ with
 | .c (.f (.row cs len))=>if nY P t u&&decide (cs.length=len) then
   match bytesOf cs with
   |some l=>some (.c (.f (.v (.string ⟨l.toArray⟩))),{})
   |none=>none
  else none
 |_=>cv P s o
theorem yw {P:Program} {s:St} {o:Oper} {t u:TypeId} {x:Operand} {r:ad} {ch:eJ} (ho:o.op= .convert t u x) (h:fA P s o t u x=some (r,ch)):hX P o s r ch:=by
 unfold fA at h;split at h
 ·rename_i cs len he
  split at h
  ·rename_i hc
   rw[Bool.and_eq_true] at hc;split at h
   ·rename_i l hl
    injection h with h;injection h with e1 e2;subst e1;subst e2;refine hX.still fun a w κ ρ hR=> ?_
    obtain ⟨h1,h2⟩:=rW cs l hl;obtain ⟨g,oo,cap,hv,hcap,hrow⟩|⟨rfl,rfl,A,hv⟩:=hR.qW he
    rotate_left
    ·have hl0:l=[]:=List.eq_nil_of_length_eq_zero (by simpa using h1)
     subst hl0;have hcv:=hc.1;unfold nY at hcv;split at hcv
     ·rename_i e hs hd
      split at hcv
      ·rename_i hee
       cases A with
       |none=>
        have hrun:=zJ (P:=P) w t u e hs hee hd;exact ⟨_,by simp[execOp,ho,hv,hrun],fun d=>cy.v _ rfl,rfl⟩
       |some A=>
        have hrun:=run_convert_bytes_back (P:=P) w t u e A 0 [] hs hee hd (fun j hj=>by simp at hj);have hrun2:=hrun;simp only[List.length_nil] at hrun2
        exact ⟨_,by simp[execOp,ho,hv,hrun2],fun d=>cy.v _ rfl,rfl⟩
      ·cases hcv
     ·cases hcv
    have hlen:cs.length=len:=by simpa using hc.2
    have hcv:=hc.1;unfold nY at hcv
    split at hcv
    ·rename_i e hs hd
     split at hcv
     ·rename_i hee
      have hrun:=run_convert_bytes_back (P:=P) w t u e ⟨g,oo,none⟩ cap l hs hee hd (fun j hj=>by
       rw[Addr.add_mid];obtain ⟨v,hc1,hc2⟩:=hrow.cell j (by omega);rw[h2 j (by omega) hj] at hc2;rw[hc1,(eX.1 hc2).1])
      rw[h1,hlen] at hrun;exact ⟨_,by simp[execOp,ho,hv,hrun],fun d=>cy.v _ rfl,rfl⟩
     ·cases hcv
    ·cases hcv
   ·cases h
  ·cases h
 ·exact ir h
theorem jH {P:Program} (w:World) (size:Nat) (g o n c m:Nat) (news:List Value) (hr:w.rangeAt g o news) (hm:m*size<=news.length):(Builtin.firstCells size m (.slice (some ⟨g,o,none⟩) n c)).run P w= .ok (news.take (m*size)).toArray w:=by
 have:=run_loadCells_list (P:=P) w ⟨g,o,none⟩ (news.take (m*size)) (fun j v hj=>by
  rw[Addr.add_mid];rw[List.getElem?_take] at hj;split at hj
  ·exact hr j v hj
  ·cases hj)
 rw[List.length_take,Nat.min_eq_left hm] at this;exact this
theorem vP {P:Program} {s:St} {sz:Nat} {tx:TypeId} {y:Operand} {n:Nat} {fs:List ag} (h:bo P s sz tx y=some (n,fs)) {a:Act} {w:World} {κ:Nat->BK} {ρ:Nat->Nat} (hR:Rel s a w κ ρ):
  ∃ news:List Value,news.length=fs.length/\fs.length=n*sz/\(∀ i (h:i<fs.length) (h':i<news.length),cy w κ fs[i] news[i])/\(∀ w':World,(Builtin.lenOf (a.eval y)).run P w'= .ok n w')/\
   ∀ m,m<=n->(Builtin.firstCells sz m (a.eval y)).run P w= .ok (news.take (m*sz)).toArray w:=by
 unfold bo at h;split at h
 ·rename_i cs m he
  split at h
  ·rename_i z hz
   split at h
   ·rename_i hc
    injection h with h;injection h with e1 e2;subst e1;subst e2;obtain ⟨g,oo,cap,hv,hcap,hrow⟩|⟨rfl,rfl,A,hv⟩:=hR.qW he
    rotate_left
    ·refine ⟨[],rfl,by simp,fun i h=>by simp at h,fun w'=>by rw[hv];rfl,fun m hm=> ?_⟩
     have hm0:m=0:=by omega
     subst hm0;rw[hv];cases A with
     |none=>simp[Builtin.firstCells]
     |some A=>simpa using run_firstCells_some (P:=P) w sz 0 A 0 0 [] (by simp) (fun j u h=>by simp at h)
    obtain ⟨vs,hl,hra,hre⟩:=hrow.part 0 cs.length (by omega);refine ⟨vs,hl,hc.2,fun i hi hi'=>by simpa using hre i hi hi',fun w'=>by rw[hv];rfl,fun k hk=> ?_⟩;rw[hv];exact jH w sz g oo m cap k vs hra (by rw[hl,hc.2];exact Nat.mul_le_mul_right _ hk)
   ·cases h
  ·cases h
 ·rename_i he
  split at h
  ·rename_i z hz
   injection h with h;injection h with e1 e2;subst e1;subst e2;have hv:a.eval y= .slice none 0 0:=by
    have:=hR.ev (l:= .slot 0) y;rw[he] at this
    exact dR.1 this
   refine ⟨[],rfl,by simp,fun i h=>by simp at h,fun w'=>by rw[hv];rfl,fun m hm=> ?_⟩;rw[hv];simp[Builtin.firstCells]
  ·cases h
 ·rename_i b off m cap he
  split at h
  ·rename_i z cells hz hb
   split at h
   ·rename_i hc
    split at h
    ·rename_i gs hgs
     injection h with h;injection h with e1 e2;subst e1;subst e2;obtain ⟨vs,hl,hra,hre⟩:=(hR.heap.dk b cells hb).part off (m*sz) (nw (hR.heap.dk b cells hb) hc.2 hgs) hc.2;obtain ⟨f1,f2⟩:=iC _ gs hgs;have f1':gs.length=m*sz:=by rw[f1];simp;omega
     refine ⟨vs,by omega,f1',fun i hi hi'=> ?_,fun w'=>by rw[hR.mV he];rfl,fun k hk=> ?_⟩
     ·have h3:=hre i (by omega) hi'
      have h4:=f2 i (by rw[← f1];exact hi) hi;simp only[List.getElem_take,List.getElem_drop] at h4
      exact aa.nf h3 h4
     ·rw[hR.mV he]
      exact jH w sz (ρ b) off m cap k vs hra (by rw[hl];exact Nat.mul_le_mul_right _ hk)
    ·cases h
   ·cases h
  ·cases h
 ·cases h
theorem xa {P:Program} {ev:Operand->Value} {o:Oper} {t tx:TypeId} {x y:Operand} (ho:o.op= .call { callee:= .builtin .copy,args:= #[x,y],argTypes:= #[t,tx] }) {v:Value} {w w':World} (h:(Builtin.copy_ #[t,tx] o.type #[ev x,ev y]).run P w= .ok v w'):(execOp ev o).run P w= .ok (.value v) w':=by
 simp[execOp,ho,resolve,invoke,builtin,h]
def oz (P:Program) (s:St) (t tx:TypeId) (x y:Operand):Option (ad×eJ):=
 match bl P t,(s.ev x).aQ with
 |some z,.c (.arr b off len _)=>match bo P s z tx y,s.H[b]? with
  |some (n,fs),some (some cells)=>if off+len*z<=cells.length/\gE cells=true then some (.c (.f (.v (.int .i64 (min n len:Nat)))),{ dk:=some (b,setAt cells off ((fs.take (min n len*z)).map aa.f)) }) else none
  |_,_=>none
 |_,_=>none
theorem Gf {P:Program} {s:St} {o:Oper} {t tx:TypeId} {x y:Operand} {r:ad} {ch:eJ} (ho:o.op= .call { callee:= .builtin .copy,args:= #[x,y],argTypes:= #[t,tx] }) (h:oz P s t tx x y=some (r,ch)):hX P o s r ch:=by
 unfold oz at h;split at h
 ·rename_i z b off len cap hz he
  split at h
  ·rename_i n fs cells hsrc hb
   split at h
   ·rename_i hn
    injection h with h;injection h with e1 e2;subst e1;subst e2;intro a w κ ρ hR;obtain ⟨e,i,hu,hi,rfl⟩:=dH hz;obtain ⟨news,l1,l2,hre,hlen,hfirst⟩:=vP hsrc hR;have hm:min n len*i.size<=fs.length:=by rw[l2];exact Nat.mul_le_mul_right _ (Nat.min_le_left _ _)
    have hm2:min n len*i.size<=len*i.size:=Nat.mul_le_mul_right _ (Nat.min_le_right _ _);obtain ⟨hn,hkk⟩:=hn;have hB:=hR.heap.dk b cells hb;have hth:=hB.there hkk off (min n len*i.size) (by omega);have hzl:(news.take (min n len*i.size)).length=min n len*i.size:=by rw[List.length_take];omega
    have hone: ∀ v∈news.take (min n len*i.size),v.oneCell'=true:=fun v hv=>by
     obtain ⟨j,hj,rfl⟩:=List.mem_iff_getElem.1 (List.mem_of_mem_take hv);exact (hre j (by omega) hj).one
    have hst:=run_storeCells_cells (P:=P) (ρ b) off (news.take (min n len*i.size)) 0 w (fun j hj=>(hth j (by omega)).1) (fun j hj=>(hth j (by omega)).2) hone;have hrun:(Builtin.copy_ #[t,tx] o.type #[a.eval x,a.eval y]).run P w= .ok (goInt (min n len:Nat)) (w.setCells (ρ b) off (news.take (min n len*i.size))):=by
     have hf:=hfirst (n.min len) (Nat.min_le_left _ _);rw[hR.mV he];simp[Builtin.copy_,run_underlying hu,hlen,sizeOf,typeInfo,hi,hf];rw[show n.min len=min n len from rfl,hst];simp
    have hokd: ∀ y∈(fs.take (min n len*i.size)).map aa.f,y.ok s.H.length=true:=fun y hy=>by
     obtain ⟨q,_,rfl⟩:=List.mem_map.1 hy;rfl
    have hbs:=hB.store hkk s.H.length (yc hb) (hR.heap.ok b cells hb) off (ds:=(fs.take (min n len*i.size)).map aa.f) (vs:=(news.take (min n len*i.size)).toArray) (by simp;omega) hokd (fun j hj hj'=>by
     have h1:j<fs.length:=by simp at hj;omega
     have:=hre j h1 (by omega);simp only[List.getElem_map,List.getElem_take,List.getElem_toArray];exact this)
    have m:=lj (n:=s.H.length) (w:=w) (ρ:=ρ) hB.own off (news.take (min n len*i.size));have hR2:=hR.rq hb m hbs (fun q hq=>by
     obtain ⟨j,hj,rfl⟩:=List.mem_iff_getElem.1 hq;have hj2:=hj;rw[cQ] at hj2;rw[fQ _ cells off j hj2];split
     ·exact hokd _ (List.getElem_mem _)
     ·exact hR.heap.ok b cells hb _ (List.getElem_mem _))
    exact ⟨goInt (min n len:Nat),_,κ,ρ,.inl (xa ho hrun),hR2,fun d hd=>cy.v _ rfl,rfl,m.fr,fun _ _=>rfl⟩
   ·cases h
  ·cases h
 ·cases h
def mT (P:Program) (s:St) (t tx:TypeId) (x y:Operand):Option (ad×eJ):=
 match bl P t,(s.ev x).aQ with
 |some z,.c (.arr b off len cap)=>match bo P s z tx y,s.H[b]? with
  |some (n,fs),some (some cells)=>if len+n<=cap/\off+(len+n)*z<=cells.length/\gE cells=true then some (.c (.arr b off (len+n) cap),{ dk:=some (b,setAt cells (off+len*z) (fs.map aa.f)) }) else none
  |_,_=>none
 |_,_=>none
theorem Gg {P:Program} {s:St} {o:Oper} {t tx:TypeId} {x y:Operand} {r:ad} {ch:eJ} (ho:o.op= .call { callee:= .builtin .append,args:= #[x,y],argTypes:= #[t,tx] }) (h:mT P s t tx x y=some (r,ch)):hX P o s r ch:=by
 unfold mT at h;split at h
 ·rename_i z b off len cap hz he
  split at h
  ·rename_i n fs cells hsrc hb
   split at h
   ·rename_i hn
    obtain ⟨hroom,hn,hkk⟩:=hn;injection h with h;injection h with e1 e2;subst e1;subst e2;intro a w κ ρ hR;obtain ⟨e,i,hu,hi,rfl⟩:=dH hz;obtain ⟨news,hs,l1,l2,hre⟩:=fR hsrc hR;have hB:=hR.heap.dk b cells hb;have hmul:(len+n)*i.size=len*i.size+n*i.size:=Nat.add_mul _ _ _;have hth:=hB.there hkk (off+len*i.size) (n*i.size) (by omega);have hrun:=run_append_room_src (P:=P) w t tx o.type e i hu hi (ρ b) off len cap (a.eval y) n news hs hroom (fun j hj=>(hth j (by omega)).1) (fun j hj=>(hth j (by omega)).2);have hokd: ∀ y∈fs.map aa.f,y.ok s.H.length=true:=fun y hy=>by
     obtain ⟨q,_,rfl⟩:=List.mem_map.1 hy;rfl
    have hbs:=hB.store hkk s.H.length (yc hb) (hR.heap.ok b cells hb) (off+len*i.size) (ds:=fs.map aa.f) (vs:=news.toArray) (by simp;omega) hokd (fun j hj hj'=>by
     have h1:j<fs.length:=by simp at hj;omega
     have:=hre j h1 (by omega);simp only[List.getElem_map,List.getElem_toArray];exact this)
    have m:=lj (n:=s.H.length) (w:=w) (ρ:=ρ) hB.own (off+len*i.size) news;have hR2:=hR.rq hb m hbs (fun q hq=>by
     obtain ⟨j,hj,rfl⟩:=List.mem_iff_getElem.1 hq;have hj2:=hj;rw[cQ] at hj2;rw[fQ _ cells _ j hj2];split
     ·exact hokd _ (List.getElem_mem _)
     ·exact hR.heap.ok b cells hb _ (List.getElem_mem _))
    exact ⟨.slice (some ⟨ρ b,off,none⟩) (len+n) cap,_,κ,ρ,.inl (dS ho (by rw[hR.mV he];exact hrun)),hR2,fun d hd=>rfl,by simpa[ad.ok,aa.ok,St.nV,St.fD,St.mW,St.nu,dT] using yc hb,m.fr,fun _ _=>rfl⟩
   ·cases h
  ·cases h
 ·cases h
def qS (P:Program) (s:St) (t tx:TypeId) (x y:Operand):Option (ad×eJ):=
 match fl P s t tx x y with
 |some q=>some q
 |none=>mT P s t tx x y
theorem Ez {P:Program} {s:St} {t tx:TypeId} {x y:Operand} {q:ad×eJ} (h:fl P s t tx x y=some q):qS P s t tx x y=some q:=by
 unfold qS;rw[h]
theorem oL {P:Program} {s:St} {t tx:TypeId} {x y:Operand} {q:ad×eJ} (h:qS P s t tx x y=some q):fl P s t tx x y=some q\/mT P s t tx x y=some q:=by
 unfold qS at h;split at h
 ·rename_i q0 h0
  rw[h0];exact .inl h
 ·exact .inr h
theorem IF {P:Program} {s:St} {o:Oper} {t tx:TypeId} {x y:Operand} {r:ad} {ch:eJ} (ho:o.op= .call { callee:= .builtin .append,args:= #[x,y],argTypes:= #[t,tx] }) (h:qS P s t tx x y=some (r,ch)):hX P o s r ch:=by
 rcases oL h with h|h
 ·exact Ar ho h
 ·exact Gg ho h
open Go.MapKept
structure pq (P:Program) (k:TypeId) (n:Nat):Prop where
 check: ∀ (w:World) (em:Bool) (ks:List Int),ks.length=n->(Instr.checkKey em 10000 k (eo ks)).run P w= .ok () w
 find: ∀ (w:World) (ks:List Int),ks.length=n-> ∀ es:List MapEntry,(∀ e∈es,∃ js:List Int,js.length=n/\e.key=eo js)->
  ((Instr.findKey k (eo ks) es).run P w= .ok none w/\ ∀ e∈es,e.key≠eo ks)\/ ∃ j e,(Instr.findKey k (eo ks) es).run P w= .ok (some (j,e.val)) w/\es[j]? =some e/\e.key=eo ks
theorem Bj {n:Nat}: ∀ {a b:List Int},a.length=n->b.length=n->eo a=eo b->a=b
 |[],[],_,_,_=>rfl
 |[x],[y],_,_,h=>by
  injection h with _ h;rw[h]
 |x::y::r,x'::y'::r',_,_,h=>by
  have h:Value.agg ((x::y::r).map (Value.int .i64)).toArray= .agg ((x'::y'::r').map (Value.int .i64)).toArray:=h;injection h with h
  have h:=congrArg Array.toList h;simp only at h
  have inj: ∀ {l m:List Int},l.map (Value.int .i64)=m.map (Value.int .i64)->l=m:=fun {l m} e=>by
   induction l generalizing m with
   |nil=>cases m with
    |nil=>rfl
    |cons _ _=>cases e
   |cons a l ih=>cases m with
    |nil=>cases e
    |cons b m=>
     rw[List.map_cons,List.map_cons] at e;injection e with e1 e2;injection e1 with _ e1;rw[e1,ih e2]
  exact inj h
 |[],[_],h1,h2,_=>by simp at h1 h2;omega
 |[_],[],h1,h2,_=>by simp at h1 h2;omega
 |[],_::_::_,h1,h2,_=>by simp at h1 h2;omega
 |_::_::_,[],h1,h2,_=>by simp at h1 h2;omega
 |[_],_::_::_,h1,h2,_=>by simp at h1 h2;omega
 |_::_::_,[_],h1,h2,_=>by simp at h1 h2;omega
theorem qz: ∀ (n:Nat) (l:List Int),((l.map (Value.int .i64)).zip (l.map (Value.int .i64))).all (fun (x,y)=>Instr.sameBits n x y)=true
 |_,[]=>rfl
 |n,x::l=>by
  rw[List.map_cons,List.zip_cons_cons,List.all_cons,qz n l];cases n<;>simp[Instr.sameBits]
theorem stays {P:Program} (w:World) (ks:List Int):(Instr.keyThatStays (eo ks) (eo ks)).run P w= .ok (eo ks) w:=by
 have h:Instr.sameBits 10000 (eo ks) (eo ks)=true:=by
  match ks with
  |[]=>simp[eo,Instr.sameBits]
  |[n]=>simp[eo,Instr.sameBits]
  |x::y::r=>
   show Instr.sameBits 10000 (.agg ((x::y::r).map (Value.int .i64)).toArray) (.agg ((x::y::r).map (Value.int .i64)).toArray)=true;unfold Instr.sameBits;rw[Bool.and_eq_true];exact ⟨by simp,qz 9999 (x::y::r)⟩
 simp[Instr.keyThatStays,h]
theorem GR {P:Program} {k:TypeId} (h:P.underlying k=some (.int .i64)):pq P k 1 where
 check:=fun w em ks hk=>by
  match ks,hk with
  |[n],_=>exact run_checkKey h (k:= .int .i64 n) (show IsKey (.int .i64) (.int .i64 n) from rfl) em 9999
 find:=fun w ks hk es he=>by
  match ks,hk with
  |[n],_=>
   have hes: ∀ x∈es,IsKey (.int .i64) x.key:=fun x hx=>by
    obtain ⟨js,hj,e⟩:=he x hx
    match js,hj with
    |[m],_=>rw[e];rfl
   rcases findNow_spec (d:= .int .i64) (k:=eo [n]) rfl es 0 hes with ⟨h1,h2⟩|⟨j,e,h1,h2,h3⟩
   ·exact .inl ⟨run_findKey h h1,h2⟩
   ·exact .inr ⟨j,e,by rw[Nat.zero_add] at h1;exact run_findKey h h1,h2,h3⟩
theorem sg {P:Program} {k:TypeId} {n:Nat} (w:World) (heq: ∀ a b:List Int,a.length=n->b.length=n->(Op.equal k (eo a) (eo b)).run P w= .ok (decide (a=b)) w) {ks:List Int} (hk:ks.length=n):
  ∀ (es:List MapEntry) (i:Nat),(∀ e∈es,∃ js:List Int,js.length=n/\e.key=eo js)->
   ((Instr.findAsking k (eo ks) es i).run P w= .ok none w/\ ∀ e∈es,e.key≠eo ks)\/ ∃ j e,(Instr.findAsking k (eo ks) es i).run P w= .ok (some (i+j,e.val)) w/\es[j]? =some e/\e.key=eo ks
 |[],i,_=> .inl ⟨by simp[Instr.findAsking],by simp⟩
 |e::es,i,hall=>by
  obtain ⟨js,hj,hje⟩:=hall e (by simp);have hr:=heq ks js hk hj;rw[← hje] at hr;by_cases hd:ks=js
  ·refine .inr ⟨0,e,?_,rfl,by rw[hje,hd]⟩
   rw[decide_eq_true hd] at hr;simp[Instr.findAsking,hr]
  ·have hne:e.key≠eo ks:=fun h=>hd (Bj hj hk (hje.symm.trans h)).symm
   rw[decide_eq_false hd] at hr;rcases sg w heq hk es (i+1) (fun y hy=>hall y (by simp[hy])) with ⟨h1,h2⟩|⟨j,e',h1,h2,h3⟩
   ·refine .inl ⟨by simp[Instr.findAsking,hr,h1],fun y hy=> ?_⟩
    rcases List.mem_cons.1 hy with rfl|hy
    ·exact hne
    ·exact h2 y hy
   ·exact .inr ⟨j+1,e',by simp[Instr.findAsking,hr,h1,Nat.add_assoc,Nat.add_comm 1 j],by simpa using h2,h3⟩
theorem xl {P:Program} {k:TypeId} {n:Nat} (hw:(match P.underlying k with|some (.array _ _)|some (.struct _)=>true|_=>false)=true)
  (check: ∀ (w:World) (em:Bool) (ks:List Int),ks.length=n->(Instr.checkKey em 10000 k (eo ks)).run P w= .ok () w) (heq: ∀ (w:World) (a b:List Int),a.length=n->b.length=n->(Op.equal k (eo a) (eo b)).run P w= .ok (decide (a=b)) w):pq P k n where
 check:=check
 find:=fun w ks hk es he=>by
  rw[run_findKey_eq (w:=w) hw];rcases sg w (heq w) hk es 0 he with h|⟨j,e,h1,h2,h3⟩
  ·exact .inl h
  ·exact .inr ⟨j,e,by rw[Nat.zero_add] at h1;exact h1,h2,h3⟩
def ik (es:List (List Int×List ag)) (ks:List Int):Option (List ag):=(es.find? fun p=>p.1==ks).map Prod.snd
def Nm (es:List (List Int×List ag)) (ks:List Int) (vs:List ag):List (List Int×List ag):=
 match ik es ks with
 |some _=>es.map fun p=>if p.1==ks then (p.1,vs) else p
 |none=>es++[(ks,vs)]
def Ll (n:Nat) (es:List (List Int×List ag)):Bool:=es.all (fun p=>p.1.length==n)&&decide ((es.map Prod.fst).Nodup)
theorem u9 {es:List (List Int×List ag)} {ks:List Int} {vs:List ag} (h:ik es ks=some vs):(ks,vs)∈es:=by
 unfold ik at h;obtain ⟨p,h1,h2⟩:=Option.map_eq_some_iff.1 h;have:=List.find?_some h1;have h3:=List.mem_of_find?_eq_some h1;have e:p.1=ks:=by simpa using this
 rw[← e,← h2];exact h3
theorem Dy {es:List (List Int×List ag)} {ks:List Int} (h:ik es ks=none): ∀ p∈es,p.1≠ks:=fun p hp e=>by
 unfold ik at h;have:=List.find?_eq_none.1 (Option.map_eq_none_iff.1 h) p hp;simp[e] at this
theorem G4 {es:List (List Int×List ag)} (hn:(es.map Prod.fst).Nodup) {k:List Int} {a b:List ag} (h1:(k,a)∈es) (h2:(k,b)∈es):a=b:=by
 induction es with
 |nil=>cases h1
 |cons p es ih=>
  rw[List.map_cons,List.nodup_cons] at hn;rcases List.mem_cons.1 h1 with e1|h1
  ·rcases List.mem_cons.1 h2 with e2|h2
   ·rw[← e1] at e2;injection e2 with _ e2;exact e2.symm
   ·exact absurd (List.mem_map.2 ⟨_,h2,by rw[← e1]⟩) hn.1
  ·rcases List.mem_cons.1 h2 with e2|h2
   ·exact absurd (List.mem_map.2 ⟨_,h1,by rw[← e2]⟩) hn.1
   ·exact ih hn.2 h1 h2
section
variable {P:Program} {w:World} {κ:Nat->BK} {k e:TypeId} {n:Nat} {q:Bool} {es:List (List Int×List ag)} {en:Array MapEntry}
theorem Mp (hM:qN w κ q es en) (hok:Ll n es=true): ∀ x∈en.toList,∃ js:List Int,js.length=n/\x.key=eo js:=fun x hx=>by
 obtain ⟨i,hi,rfl⟩:=List.mem_iff_getElem.1 hx;rw[Array.length_toList] at hi;unfold Ll at hok;rw[Bool.and_eq_true] at hok;have hi2:i<es.length:=by rw[← hM.1];exact hi
 refine ⟨es[i].1,?_,?_⟩
 ·simpa using List.all_eq_true.1 hok.1 _ (List.getElem_mem hi2)
 ·rw[Array.getElem_toList]
  exact (hM.2 i hi2 hi).1
theorem E5 (K:pq P k n) (hM:qN w κ q es en) (hok:Ll n es=true) {ks:List Int} (hk:ks.length=n):
  (∃ vs,ik es ks=some vs/\ ∃ j x,(Instr.findKey k (eo ks) en.toList).run P w= .ok (some (j,x.val)) w/\en[j]? =some x/\x.key=eo ks/\lL w κ q vs x.val/\ ∃ hj:j<es.length,es[j].1=ks)\/
  (ik es ks=none/\(Instr.findKey k (eo ks) en.toList).run P w= .ok none w):=by
 have hok2:=hok;unfold Ll at hok2
 rw[Bool.and_eq_true] at hok2;have hlen: ∀ p∈es,p.1.length=n:=fun p hp=>by simpa using List.all_eq_true.1 hok2.1 p hp
 rcases K.find w ks hk en.toList (Mp hM hok) with ⟨h1,h2⟩|⟨j,x,h1,h2,h3⟩
 ·right
  refine ⟨?_,h1⟩;cases hl:ik es ks with
  |none=>rfl
  |some vs=>
   obtain ⟨i,hi,e⟩:=List.mem_iff_getElem.1 (u9 hl);have hi':i<en.size:=by rw[hM.1];exact hi
   have:=h2 en[i] (Array.getElem_mem_toList hi');rw[(hM.2 i hi hi').1,e] at this
   exact absurd rfl this
 ·left
  rw[Array.getElem?_toList] at h2;obtain ⟨hj,e2⟩:=Array.getElem?_eq_some_iff.1 h2;have hj2:j<es.length:=by rw[← hM.1];exact hj
  obtain ⟨m1,m2⟩:=hM.2 j hj2 hj;rw[e2] at m1 m2;have ek:es[j].1=ks:=Bj (hlen _ (List.getElem_mem hj2)) hk (m1.symm.trans h3);cases hl:ik es ks with
  |none=>exact absurd ek (Dy hl _ (List.getElem_mem hj2))
  |some vs=>
   have hmem:(ks,es[j].2)∈es:=by
    have:=List.getElem_mem hj2;rw[← ek];exact this
   have ev:es[j].2=vs:=G4 (of_decide_eq_true hok2.2) hmem (u9 hl);exact ⟨vs,rfl,j,x,h1,h2,h3,ev▸m2,hj2,ek⟩
end
def ri:List aa->Option (List Int)
 |[]=>some []
 | .f (.v (.int .i64 n))::l=>match ri l with
  |some r=>some (n::r)
  |none=>none
 |_=>none
theorem xk: ∀ {l:List aa} {r:List Int},ri l=some r->l=r.map fun n=>aa.f (.v (.int .i64 n))
 |[],r,h=>by injection h with h;subst h;rfl
 |c::l,r,h=>by
  unfold ri at h;split at h
  ·rename_i e;cases e
  ·rename_i n l' e
   injection e with e1 e2;subst e1;subst e2;split at h
   ·rename_i r' hr
    injection h with h;subst h;rw[List.map_cons,← xk hr]
   ·cases h
  ·cases h
def lY:ad->Option (List Int)
 | .c (.f (.v (.int .i64 n)))=>some [n]
 | .agg cs=>match ri cs with
  |some (a::b::r)=>some (a::b::r)
  |_=>none
 |_=>none
theorem uZ {w:World} {κ:Nat->BK} {ρ:Nat->Nat} {l:Loc} {x:ad} {ks:List Int} {v:Value} (h:lY x=some ks) (hr:bM w κ ρ l x v):v=eo ks:=by
 unfold lY at h;split at h
 ·injection h with h;subst h
  exact (eX.1 hr).1
 ·rename_i cs
  split at h
  ·rename_i a b r hi
   injection h with h;subst h;have e:=xk hi;obtain ⟨vs,rfl,hs,hv⟩:=hr;show Value.agg vs= .agg ((a::b::r).map (Value.int .i64)).toArray
   congr 1;apply Array.ext
   ·rw[hs,e];simp
   ·intro i h1 h2
    have h3:i<cs.length:=by omega
    have:=(hv i h3 h1).2;have e2:cs[i]=aa.f (.v (.int .i64 ((a::b::r)[i]'(by rw[e] at h3;simpa using h3)))):=by
     simp only[e,List.getElem_map]
    rw[e2] at this;rw[(eX.1 this).1,List.getElem_toArray,List.getElem_map]
  ·cases h
 ·cases h
structure tP (P:Program) (t:TypeId) (n:Nat) (q:Bool) (zs:List ag):Prop where
 ty: ∃ k e,P.underlying t=some (.map k e)/\pq P k n/\ ∃ z,(∀ w,(zeroValue e).run P w= .ok z w)/\ ∀ w κ,lL w κ q zs z
def zW:Bool->List ag->bj
 |true,fs=> .agg (fs.map aa.f)
 |false,[x]=> .c (.f x)
 |false,_=> .c .any
theorem Cw {w:World} {κ:Nat->BK} {ρ:Nat->Nat} {l:Loc} {q:Bool} {fs:List ag} {v:Value} (h:lL w κ q fs v):dN w κ ρ l (zW q fs) v:=by
 cases q with
 |true=>
  obtain ⟨vs,rfl,hs,hv⟩:=h;refine ⟨vs,rfl,by simpa using hs,fun i h1 h2=> ?_⟩;rw[List.getElem_map];exact ⟨rfl,hv i (by simpa using h1) h2⟩
 |false=>
  obtain ⟨x,rfl,hx⟩:=h;exact ⟨rfl,hx⟩
theorem FZ (q:Bool) (fs:List ag) (m:Nat):(zW q fs).ok m=true:=by
 cases q with
 |true=>simp[zW,bj.ok,aa.ok]
 |false=>match fs with
  |[]=>rfl
  |[_]=>rfl
  |_::_::_=>rfl
def bj.Ry:bj->ad
 | .c x=> .c x
 | .agg cs=> .agg cs
theorem Ni {w:World} {κ:Nat->BK} {ρ:Nat->Nat} {l:Loc} {x:bj} {v:Value} (h:dN w κ ρ l x v):bM w κ ρ l x.Ry v:=by
 cases x with
 |c x=>exact h.2
 |agg cs=>exact h
theorem PZ {x:bj} {m:Nat} (h:x.ok m=true):x.Ry.ok m=true:=by cases x<;>exact h
theorem DA {P:Program} {t:TypeId} {n:Nat} {q:Bool} {zs:List ag} (hT:tP P t n q zs) {w:World} {κ:Nat->BK} {g:Nat} {es:List (List Int×List ag)} {en:Array MapEntry} {ck:Nat} (hg:w.heap[g]? =some (.map en ck)) (hM:qN w κ q es en) (hok:Ll n es=true) {ks:List Int} (hk:ks.length=n) (c:Bool):
  ∃ v,(Instr.lookup t (.map (some g)) (eo ks) c).run P w= .ok (if c then .tuple #[v,.bool (ik es ks).isSome] else v) w/\lL w κ q ((ik es ks).getD zs) v:=by
 obtain ⟨k,e,ht,K,z,hz,hzr⟩:=hT.ty;have hc:=K.check w en.isEmpty ks hk;rcases E5 K hM hok hk with ⟨vs,h1,j,x,h2,h3,h4,h5,_⟩|⟨h1,h2⟩
 ·refine ⟨x.val,?_,by rw[h1];exact h5⟩
  simp[Instr.lookup,run_underlying ht,Go.MapKept.run_getObj_map hg,hc,h2,h1]
 ·refine ⟨z,?_,by rw[h1];exact hzr w κ⟩
  simp[Instr.lookup,run_underlying ht,Go.MapKept.run_getObj_map hg,hc,h2,h1,hz w]
end Go.Proofs.YtjkeeocnekggfaaGreat.Av
namespace Go.Proofs.YtjkeeocnekggfaaGreat.Av
def wN (P:Program) (s:St) (o:Oper) (c:Call):Option (ad×eJ):=
 match c.callee,c.args.toList,c.argTypes.toList with
 | .builtin .len,[x],[t]=>oM P s o t x
 | .builtin .append,[x,y],[t,tx]=>qS P s t tx x y
 | .builtin .copy,[x,y],[t,tx]=>oz P s t tx x y
 |_,_,_=>cv P s o
def j6 (P:Program) (tr:Bool) (s:St) (o:Oper):Option (ad×eJ):=
 match o.op with
 | .move x=>some (fC tr s x)
 | .assign x=>some (fC true s x)
 | .pick c x y=>rT s c x y
 | .alloc t=>lN P s t
 | .box _ x=>yv s x
 | .load t x=>eb P tr s t x
 | .store t x y=>km P s t x y
 | .fieldAddr t x f=>dX P s t x f
 | .indexAddr t x i=>dA P s t x i
 | .nilCheck x=>wg s x
 | .extract x i=>iJ s x i
 | .field t x f=>mS P s t x f
 | .index t x i=>lO P s o t x i
 | .build t ps=>mR P s t ps.toList
 | .buildSlice t n ps=>eF P s t n ps.toList
 | .makeSlice t l c=>pG P s t l c
 | .slice t x lo hi mx=>dK P s o t x lo hi mx
 | .convert t u x=>fA P s o t u x
 | .call c=>wN P s o c
 |_=>cv P s o
theorem iL (c:Call) {b:Builtin} {xs:List Operand} {ts:List TypeId} (h1:c.callee= .builtin b) (h2:c.args.toList=xs) (h3:c.argTypes.toList=ts):c={ callee:= .builtin b,args:=xs.toArray,argTypes:=ts.toArray }:=by
 obtain ⟨a1,a2,a3⟩:=c;simp only at h1 h2 h3;subst h1;subst h2;subst h3;simp
theorem LN {P:Program} {tr:Bool} {s:St} {o:Oper} {x:ad} {c:eJ} (h:j6 P tr s o=some (x,c)):hX P o s x c:=by
 unfold j6 at h;split at h
 ·rename_i y ho
  injection h with h;have:=qT (P:=P) (s:=s) (o:=o) (tr:=tr) (x:=y) (fun ρ w=>by simp[execOp,ho]);rw[h] at this;exact this
 ·rename_i y ho
  injection h with h;have:=qT (P:=P) (s:=s) (o:=o) (tr:=true) (x:=y) (fun ρ w=>by simp[execOp,ho]);rw[h] at this;exact this
 ·rename_i ho;exact Gj ho h
 ·rename_i ho;exact CS ho h
 ·rename_i ho;exact IG ho h
 ·rename_i ho;exact Gh ho h
 ·rename_i ho;exact CY ho h
 ·rename_i ho;exact ud ho h
 ·rename_i ho;exact ue ho h
 ·rename_i ho;exact II ho h
 ·rename_i ho;exact yx ho h
 ·rename_i ho;exact CU ho h
 ·rename_i ho;exact CV ho h
 ·rename_i ho;exact CT ho h
 ·rename_i ho;exact sT ho h
 ·rename_i ho;exact Gi ho h
 ·rename_i ho;exact CX ho h
 ·rename_i ho;exact yw ho h
 ·rename_i cl ho
  unfold wN at h;split at h
  ·rename_i y t h1 h2 h3
   rw[iL cl h1 h2 h3] at ho;exact IH ho h
  ·rename_i y z t tx h1 h2 h3
   rw[iL cl h1 h2 h3] at ho;exact IF ho h
  ·rename_i y z t tx h1 h2 h3
   rw[iL cl h1 h2 h3] at ho;exact Gf ho h
  ·exact ir h
 ·exact ir h
structure Ok (P:Program) (f:FuncId) (args:List ad) (H:List (Option (List aa))) (r:ad) (H':List (Option (List aa))):Prop where
 fn: ∃ fn,P.funcs[f]? =some fn/\fn.body.isSome=true/\(fn.name== "runtime.NumGoroutine")=false
 flat:r.aQ=r
 rok:r.ok H'.length=true
 len:H.length<=H'.length
 run: ∀ (w:World) (κ:Nat->BK) (ρ:Nat->Nat) (vals:Array Value),vals.size=args.length->(∀ i (h:i<args.length) (h':i<vals.size) l,bM w κ ρ l args[i] vals[i])->(∀ x∈args,x.ok H.length=true)->we H w κ ρ->
  Calls P f vals w fun e w'=> ∃ v κ' ρ',e= .returned v/\(∀ l,bM w' κ' ρ' l r v)/\we H' w' κ' ρ'/\Fr w κ w' κ'/\ ∀ b,b<H.length->ρ' b=ρ b
structure Er (P:Program) (f:FuncId) (args:List ad) (H:List (Option (List aa))) (Q:ad->List (Option (List aa))->Prop):Prop where
 fn: ∃ fn,P.funcs[f]? =some fn/\fn.body.isSome=true/\(fn.name== "runtime.NumGoroutine")=false
 res: ∀ r H',Q r H'->r.aQ=r/\r.ok H'.length=true/\H.length<=H'.length
 run: ∀ (w:World) (κ:Nat->BK) (ρ:Nat->Nat) (vals:Array Value),vals.size=args.length->(∀ i (h:i<args.length) (h':i<vals.size) l,bM w κ ρ l args[i] vals[i])->(∀ x∈args,x.ok H.length=true)->we H w κ ρ->
  Calls P f vals w fun e w'=> ∃ r H',Q r H'/\ ∃ v κ' ρ',e= .returned v/\(∀ l,bM w' κ' ρ' l r v)/\we H' w' κ' ρ'/\Fr w κ w' κ'/\ ∀ b,b<H.length->ρ' b=ρ b
theorem Ok.e {P:Program} {f:FuncId} {args:List ad} {H H':List (Option (List aa))} {r:ad} (h:Ok P f args H r H'):Er P f args H fun a b=>a=r/\b=H':=
 ⟨h.fn,fun _ _ e=>by obtain ⟨rfl,rfl⟩:=e;exact ⟨h.flat,h.rok,h.len⟩,fun w κ ρ vals h1 h2 h3 h4=>(h.run w κ ρ vals h1 h2 h3 h4).mono fun e w' k=>⟨_,_,⟨rfl,rfl⟩,k⟩⟩
def kb (κ:Nat->BK) (g:Nat):BK:=
 match κ g with
 | .lock n=> .lock n
 | .bg n _=> .lock (some n)
 | .wr _=> .lock (some 0)
theorem jg (κ:Nat->BK) (g n:Nat):(kb κ g).fits n↔(κ g).fits n:=by
 unfold kb;cases κ g<;>simp[BK.fits]
theorem qg (κ:Nat->BK) (g:Nat): ∃ n,kb κ g= .lock n:=by
 unfold kb;cases κ g<;>exact ⟨_,rfl⟩
theorem dQ {w:World} {κ κ':Nat->BK} (h: ∀ g n,(κ g).fits n->(κ' g).fits n):fu w κ w κ':=⟨Nat.le_refl _,fun _ _ _ _ _ hx=>hx,fun g n _ hf=>h g n hf⟩
theorem iO {x:ad} (hx:x.aQ=x) (q:Bool) (sz:Nat) (cs:List ag) (len:Nat):x≠ .c (.bg q sz cs len):=by
 rw[← hx];exact ad.yP _ _ _ _ _
theorem Gr {P:Program} {f:FuncId} {args:List ad} {r:ad} {s:St} {a:Act} {w:World} {κ:Nat->BK} {ρ:Nat->Nat} {xs:List Operand} (hO:Ok P f args [] r []) (hargs:args=xs.map fun x=>(s.ev x).h) (hok:args.all (ad.ok 0)=true) (hR:Rel s a w κ ρ):
  Calls P f (xs.map a.eval).toArray w fun e w'=> ∃ v κ',e= .returned v/\Rel s a w' κ' ρ/\(∀ l,bM w' κ' ρ l r v)/\r.ok s.H.length=true/\Fr w κ w' κ':=by
 subst hargs;refine (hO.run w (kb κ) ρ _ (by simp) (fun i hi hi' l=> ?_) (List.all_eq_true.1 hok) ⟨fun b cs h=>by simp at h,fun b cs h=>by simp at h⟩).mono ?_
 ·simp only[List.getElem_map,List.getElem_toArray]
  simp only[List.length_map] at hi;refine bM.eC (n:=0) (dQ fun g n h=>(jg κ g n).2 h) (fun b hb=>by omega) (List.all_eq_true.1 hok _ (by rw[← List.getElem_map (fun x=>(s.ev x).h) (l:=xs) (i:=i) (h:=by simpa using hi)];exact List.getElem_mem _)) (fun q sz cs len e=> ?_) (hR.ev (l:=l) (xs[i])).nz;exact absurd e (iO (ad.Fe _) q sz cs len)
 ·rintro e w' ⟨v,κ',ρ',rfl,hr,hH,hfr,_⟩
  have hsame: ∀ g,g<w.heap.size->κ' g=kb κ g/\w'.heap[g]? =w.heap[g]? :=fun g hg=>by
   obtain ⟨n,hn⟩:=qg κ g;obtain ⟨h1,h2⟩:=hfr.lock g n hg hn;exact ⟨h1.trans hn.symm,h2⟩
  have hrok:r.ok s.H.length=true:=ad.fT (Nat.zero_le _) r hO.rok;have m:Mv (fun _=>False) s.H.length w κ ρ w' (fun g=>if g<w.heap.size then κ g else κ' g) ρ:=
   ⟨hfr.os,hfr.tape,hfr.output,hfr.size,fun _ _=>rfl,fun g hg _=>⟨(hsame g hg).2,if_pos hg⟩,fun _ _ _ _ h=>h.elim,fun _ _ _ h=>h.elim,fun _ _ h=>h.elim⟩
  refine ⟨v,fun g=>if g<w.heap.size then κ g else κ' g,rfl,hR.mv m (fun _ h=>h),fun l=> ?_,hrok,m.fr⟩;refine bM.eC (n:=0) (dQ fun g n h=> ?_) (fun b hb=>by omega) hO.rok (fun q sz cs len e=>absurd e (iO hO.flat q sz cs len)) (hr l);by_cases hg:g<w.heap.size
  ·simp only[hg,if_true]
   rw[(hsame g hg).1] at h;exact (jg κ g n).1 h
  ·simp only[hg,if_false];exact h
def aa.cW (σ:Nat->Nat):aa->aa
 | .ptr b off=> .ptr (σ b) off
 | .arr b off len cap=> .arr (σ b) off len cap
 | .mh b=> .mh (σ b)
 |x=>x
def bj.cW (σ:Nat->Nat):bj->bj
 | .c x=> .c (x.cW σ)
 | .agg cs=> .agg (cs.map (aa.cW σ))
def ad.cW (σ:Nat->Nat):ad->ad
 | .c x=> .c (x.cW σ)
 | .agg cs=> .agg (cs.map (aa.cW σ))
 | .cC ts=> .cC (ts.map (bj.cW σ))
def sig (n:Nat) (bs:List Nat) (i:Nat):Nat:=bs.getD i (n+(i-bs.length))
def bt (H:List (Option (List aa))):List Nat->List (Option (List aa))->List (Option (List aa))
 |[],cs=>H++cs
 |b::bs,c::cs=>bt (H.set b c) bs cs
 |_::_,[]=>H
theorem DC {σ:Nat->Nat} {q:Bool} {es:List (List Int×List ag)}: ∀ {cs:List aa},cs.map (aa.cW σ)=[.mp q es]->cs=[.mp q es]
 |[],h=>by cases h
 |[x],h=>by
  have h:x.cW σ= .mp q es:=by simpa using h
  cases x with
  |mp q' es'=>rw[show aa.mp q' es'= .mp q es from h]
  |_=>cases h
 |_::_::_,h=>by simp at h
theorem iH.cW {w:World} {κ:Nat->BK} {g:Nat} {σ:Nat->Nat} {cs:List aa} (h:iH w κ g cs):iH w κ g (cs.map (aa.cW σ)):=by
 obtain ⟨q,es,en,ck,rfl,h2⟩:=h;exact ⟨q,es,en,ck,rfl,h2⟩
theorem iH.nM {w:World} {κ:Nat->BK} {g:Nat} {σ:Nat->Nat} {cs:List aa} (h:iH w κ g (cs.map (aa.cW σ))):iH w κ g cs:=by
 obtain ⟨q,es,en,ck,h1,h2⟩:=h;exact ⟨q,es,en,ck,DC h1,h2⟩
def aa.cT (H:List (Option (List aa))) (L:List Nat):aa->aa
 | .arr b off len cap=>if b∈L/\len<=cap then
   match H[b]? with
   |some (some cells)=>match jX (cells.drop off) with
    |some fs=> .f (.row fs len)
    |none=> .arr b off len cap
   |_=> .arr b off len cap
  else .arr b off len cap
 |x=>x
def bj.cT (H:List (Option (List aa))) (L:List Nat):bj->bj
 | .c x=> .c (x.cT H L)
 | .agg cs=> .agg (cs.map (aa.cT H L))
def ad.cT (H:List (Option (List aa))) (L:List Nat):ad->ad
 | .c x=> .c (x.cT H L)
 | .agg cs=> .agg (cs.map (aa.cT H L))
 | .cC ts=> .cC (ts.map (bj.cT H L))
def aa.bare:aa->Bool
 | .f (.row ..)=>false
 | .f (.ip ..)=>false
 | .bg .. =>false
 | .mp .. =>false
 |_=>true
def bj.bare:bj->Bool
 | .c x=>x.bare
 | .agg cs=>cs.all aa.bare
def ad.bare:ad->Bool
 | .c x=>x.bare
 | .agg cs=>cs.all aa.bare
 | .cC ts=>ts.all bj.bare
def wQ:Option (List aa)->Bool
 |some cs=>cs.all aa.bare
 |none=>true
theorem gx: ∀ (bs:List Nat) (H Cs:List (Option (List aa))),bs.length<=Cs.length->(bt H bs Cs).length=H.length+(Cs.length-bs.length)
 |[],H,Cs,_=>by simp[bt]
 |b::bs,H,[],h=>by simp at h
 |b::bs,H,c::cs,h=>by
  have:=gx bs (H.set b c) cs (by simpa using h);simp only[bt,this,List.length_set,List.length_cons];omega
theorem iP: ∀ (bs:List Nat) (H Cs:List (Option (List aa))),bs.Nodup->(∀ b∈bs,b<H.length)->bs.length<=Cs.length-> ∀ (b:Nat) (x:Option (List aa)),(bt H bs Cs)[b]? =some x->
  (∃ i:Nat,bs[i]? =some b/\Cs[i]? =some x)\/(b∉bs/\H[b]? =some x)\/(H.length<=b/\Cs[bs.length+(b-H.length)]? =some x)
 |[],H,Cs,_,_,_,b,x,h=>by
  simp only[bt] at h;rcases Nat.lt_or_ge b H.length with k|k
  ·rw[List.getElem?_append_left k] at h
   exact .inr (.inl ⟨by simp,h⟩)
  ·rw[List.getElem?_append_right k] at h
   exact .inr (.inr ⟨k,by simpa using h⟩)
 |c::bs,H,[],_,_,hl,b,x,h=>by simp at hl
 |c::bs,H,y::Cs,hn,hb,hl,b,x,h=>by
  simp only[bt] at h;have hn':=List.nodup_cons.1 hn;rcases iP bs (H.set c y) Cs hn'.2 (fun b hb'=>by simpa using hb b (List.mem_cons_of_mem _ hb')) (by simpa using hl) b x h with ⟨i,h1,h2⟩|⟨h1,h2⟩|⟨h1,h2⟩
  ·exact .inl ⟨i+1,by simpa using h1,by simpa using h2⟩
  ·by_cases e:c=b
   ·subst e
    rw[List.getElem?_set_self (hb c (by simp))] at h2;exact .inl ⟨0,by simp,by simpa using h2⟩
   ·rw[List.getElem?_set_ne e] at h2
    exact .inr (.inl ⟨by simp[h1];exact fun h=>e h.symm,h2⟩)
  ·rw[List.length_set] at h1 h2
   refine .inr (.inr ⟨h1,?_⟩);rw[show (c::bs).length+(b-H.length)=(bs.length+(b-H.length))+1 by simp;omega,List.getElem?_cons_succ];exact h2
def BK.cl (bs L:List Nat):BK->BK
 | .lock n=> .lock n
 | .wr b=>if b∈bs then .wr (bs.idxOf b) else if b∈L then .lock none else .lock (some 0)
 | .bg n (.cell b j)=>if b∈bs then .bg n (.cell (bs.idxOf b) j) else .lock (some n)
 | .bg n (.slot _)=> .lock (some n)
def BK.oX:BK->Bool
 | .lock _=>true
 |_=>false
def BK.bk (σ:Nat->Nat):BK->BK
 | .wr i=> .wr (σ i)
 | .bg n (.cell i j)=> .bg n (.cell (σ i) j)
 | .bg n (.slot _)=> .lock (some n)
 | .lock n=> .lock n
theorem BK.nW {bs L:List Nat} {k:BK} {n:Nat} (h:k.fits n):(k.cl bs L).fits n:=by
 cases k with
 |lock m=>exact h
 |wr b=>
  have hn:n=0:=by simpa[BK.fits] using h
  subst hn;unfold BK.cl;dsimp only;split
  ·simp[BK.fits]
  ·split<;>simp[BK.fits]
 |bg m l=>
  cases l with
  |slot i=>exact h
  |cell b j=>
   unfold BK.cl;dsimp only;split<;>exact h
theorem BK.Mc {bs:List Nat} {k:BK} {n:Nat} (h:(k.cl bs []).fits n):k.fits n:=by
 cases k with
 |lock m=>exact h
 |wr b=>
  unfold BK.cl at h;dsimp only at h;split at h
  ·exact h
  ·simpa[BK.fits] using h
 |bg m l=>
  cases l with
  |slot i=>exact h
  |cell b j=>
   unfold BK.cl at h;dsimp only at h;split at h<;>exact h
theorem BK.EH {σ:Nat->Nat} {k:BK} {n:Nat}:(k.bk σ).fits n↔k.fits n:=by
 cases k with
 |lock m=>exact Iff.rfl
 |wr b=>exact Iff.rfl
 |bg m l=>cases l<;>exact Iff.rfl
section
variable {w w':World} {κ κ':Nat->BK} {ρ ρ':Nat->Nat} {σ:Nat->Nat}
theorem bx.bare {n:Nat} {l l':Loc} (hρ: ∀ b,b<n->ρ' (σ b)=ρ b): ∀ {x:aa} {v:Value},x.bare=true->x.ok n=true->bx w κ ρ l x v->bx w' κ' ρ' l' (x.cW σ) v
 | .f (.v x),v,_,_,h=>eX.2 (eX.1 h)
 | .f .nils,v,_,_,h=>dR.2 (dR.1 h)
 | .f (.row ..),_,hb,_,_=>by cases hb
 | .f (.ip ..),_,hb,_,_=>by cases hb
 | .ptr b off,v,_,hn,h=>by
  show v= .pointer (some ⟨ρ' (σ b),off,none⟩);rw[hρ b (by simpa[aa.ok] using hn)];exact h
 | .arr b off len cap,v,_,hn,h=>by
  show v= .slice (some ⟨ρ' (σ b),off,none⟩) len cap;rw[hρ b (by simpa[aa.ok] using hn)];exact h
 | .bg ..,_,hb,_,_=>by cases hb
 | .und,_,_,_,h=>h
 | .any,_,_,_,_=>trivial
 | .mh b,v,_,hn,h=>by
  show v= .map (some (ρ' (σ b)));rw[hρ b (by simpa[aa.ok] using hn)];exact h
 | .mp ..,_,hb,_,_=>by cases hb
theorem bx.cW {n:Nat} {l l':Loc} (G:fu w κ w' κ') (hρ: ∀ b,b<n->ρ' (σ b)=ρ b): ∀ {x:aa} {v:Value},x.ok n=true->(∀ q sz cs len,x= .bg q sz cs len->yd w κ w' κ' l l')->bx w κ ρ l x v->bx w' κ' ρ' l' (x.cW σ) v
 | .f x,v,_,_,h=>cy.grow G h
 | .ptr b off,v,hn,_,h=>by
  show v= .pointer (some ⟨ρ' (σ b),off,none⟩);rw[hρ b (by simpa[aa.ok] using hn)];exact h
 | .arr b off len cap,v,hn,_,h=>by
  show v= .slice (some ⟨ρ' (σ b),off,none⟩) len cap;rw[hρ b (by simpa[aa.ok] using hn)];exact h
 | .bg q sz cs len,v,_,ht,h=>by
  obtain ⟨g,cap,rfl,hT⟩|h:=h
  rotate_left
  ·exact .inr h
  left;obtain ⟨h1,h2⟩:=(ht _ _ _ _ rfl).bg g _ hT.lt hT.own;exact ⟨g,cap,rfl,hT.mv G h1 h2⟩
 | .und,_,_,_,h=>h
 | .any,_,_,_,_=>trivial
 | .mh b,v,hn,_,h=>by
  show v= .map (some (ρ' (σ b)));rw[hρ b (by simpa[aa.ok] using hn)];exact h
 | .mp ..,_,_,_,h=>h
theorem aa.jQ (x:aa):(x.cW σ).flat=x.flat:=by cases x<;>rfl
theorem bx.nM {n:Nat} {l l':Loc} (G:fu w κ w' κ') (hρ: ∀ b,b<n->ρ' b=ρ (σ b)): ∀ {x:aa} {v:Value},x.ok n=true->(∀ q sz cs len,x= .bg q sz cs len->yd w κ w' κ' l l')->bx w κ ρ l (x.cW σ) v->bx w' κ' ρ' l' x v
 | .f x,v,_,_,h=>cy.grow G h
 | .ptr b off,v,hn,_,h=>by
  show v= .pointer (some ⟨ρ' b,off,none⟩);rw[hρ b (by simpa[aa.ok] using hn)];exact h
 | .arr b off len cap,v,hn,_,h=>by
  show v= .slice (some ⟨ρ' b,off,none⟩) len cap;rw[hρ b (by simpa[aa.ok] using hn)];exact h
 | .bg q sz cs len,v,_,ht,h=>by
  obtain ⟨g,cap,rfl,hT⟩|h:=h
  rotate_left
  ·exact .inr h
  left;obtain ⟨h1,h2⟩:=(ht _ _ _ _ rfl).bg g _ hT.lt hT.own;exact ⟨g,cap,rfl,hT.mv G h1 h2⟩
 | .und,_,_,_,h=>h
 | .any,_,_,_,_=>trivial
 | .mh b,v,hn,_,h=>by
  show v= .map (some (ρ' b));rw[hρ b (by simpa[aa.ok] using hn)];exact h
 | .mp ..,_,_,_,h=>h
theorem dN.nM {n:Nat} {l l':Loc} (G:fu w κ w' κ') (hρ: ∀ b,b<n->ρ' b=ρ (σ b)): ∀ {x:bj} {v:Value},x.ok n=true->dN w κ ρ l (x.cW σ) v->dN w' κ' ρ' l' x v
 | .c x,v,hn,h=>by
  have hf:x.flat=true:=by rw[← aa.jQ (σ:=σ)];exact h.1
  exact ⟨hf,bx.nM G hρ hn (fun _ _ _ _ e=>by rw[e] at hf;cases hf) h.2⟩
 | .agg cs,v,hn,h=>by
  obtain ⟨vs,rfl,hs,hi⟩:=h;refine ⟨vs,rfl,by simpa using hs,fun i h h'=> ?_⟩;have h1:=hi i (by simpa using h) h';simp only[List.getElem_map] at h1;rw[aa.jQ] at h1;exact ⟨h1.1,bx.nM G hρ (List.all_eq_true.1 hn _ (List.getElem_mem h)) (fun _ _ _ _ e=>by have:=h1.1;rw[e] at this;cases this) h1.2⟩
theorem bM.nM {n:Nat} {l l':Loc} (G:fu w κ w' κ') (hρ: ∀ b,b<n->ρ' b=ρ (σ b)) {x:ad} {v:Value} (hn:x.ok n=true) (hx:x.aQ=x) (h:bM w κ ρ l (x.cW σ) v):bM w' κ' ρ' l' x v:=by
 cases x with
 |c x=>exact bx.nM G hρ hn (fun q sz cs len e=>absurd (by rw[e]) (iO hx q sz cs len)) h
 |agg cs=>exact dN.nM (x:= .agg cs) G hρ hn h
 |cC ts=>
  obtain ⟨vs,rfl,hs,hi⟩:=h;refine ⟨vs,rfl,by simpa using hs,fun i h h'=> ?_⟩;have h1:=hi i (by simpa using h) h';simp only[List.getElem_map] at h1;exact dN.nM G hρ (List.all_eq_true.1 hn _ (List.getElem_mem h)) h1
theorem bx.back {n:Nat} {l l':Loc} (hρ: ∀ b,b<n->ρ' (σ b)=ρ b) {x:aa} {v:Value} (hf:x.flat=true) (hx:x.ok n=true) (hc:fu w κ w' κ'\/x.bare=true) (h:bx w κ ρ l x v):bx w' κ' ρ' l' (x.cW σ) v:=by
 rcases hc with G|hb
 ·exact bx.cW G hρ hx (fun _ _ _ _ e=>by rw[e] at hf;cases hf) h
 ·exact bx.bare hρ hb hx h
theorem dN.back {n:Nat} {l l':Loc} (hρ: ∀ b,b<n->ρ' (σ b)=ρ b) {x:bj} {v:Value} (hx:x.ok n=true) (hc:fu w κ w' κ'\/x.bare=true) (h:dN w κ ρ l x v):dN w' κ' ρ' l' (x.cW σ) v:=by
 cases x with
 |c x=>exact ⟨by rw[aa.jQ];exact h.1,bx.back hρ h.1 hx hc h.2⟩
 |agg cs=>
  obtain ⟨vs,rfl,hs,hi⟩:=h;refine ⟨vs,rfl,by simpa using hs,fun i h h'=> ?_⟩;have hi2:i<cs.length:=by simpa using h
  simp only[List.getElem_map];rw[aa.jQ];exact ⟨(hi i hi2 h').1,bx.back hρ (hi i hi2 h').1 (List.all_eq_true.1 hx _ (List.getElem_mem hi2)) (hc.imp id fun hb=>List.all_eq_true.1 hb _ (List.getElem_mem hi2)) (hi i hi2 h').2⟩
theorem bM.back {n:Nat} {l l':Loc} (hρ: ∀ b,b<n->ρ' (σ b)=ρ b) {x:ad} {v:Value} (hd:x.aQ=x) (hx:x.ok n=true) (hc:fu w κ w' κ'\/x.bare=true) (h:bM w κ ρ l x v):bM w' κ' ρ' l' (x.cW σ) v:=by
 cases x with
 |c x=>
  exact bx.back hρ (aa.tu hd) hx hc h
 |agg cs=>exact dN.back (x:= .agg cs) hρ hx hc h
 |cC ts=>
  obtain ⟨vs,rfl,hs,hi⟩:=h;refine ⟨vs,rfl,by simpa using hs,fun i h h'=> ?_⟩;have hi2:i<ts.length:=by simpa using h
  simp only[List.getElem_map];exact dN.back hρ (List.all_eq_true.1 hx _ (List.getElem_mem hi2)) (hc.imp id fun hb=>List.all_eq_true.1 hb _ (List.getElem_mem hi2)) (hi i hi2 h')
theorem aa.i6 {n m:Nat} (hσ: ∀ b,b<n->σ b<m) {x:aa} (h:x.ok n=true):(x.cW σ).ok m=true:=by
 cases x<;>simp[aa.cW,aa.ok] at* <;>exact hσ _ h
theorem bj.i6 {n m:Nat} (hσ: ∀ b,b<n->σ b<m) {x:bj} (h:x.ok n=true):(x.cW σ).ok m=true:=by
 cases x with
 |c x=>exact aa.i6 hσ h
 |agg cs=>
  simp only[bj.cW,bj.ok,List.all_eq_true] at*;intro y hy;obtain ⟨z,hz,rfl⟩:=List.mem_map.1 hy;exact aa.i6 hσ (h z hz)
theorem ad.i6 {n m:Nat} (hσ: ∀ b,b<n->σ b<m) {x:ad} (h:x.ok n=true):(x.cW σ).ok m=true:=by
 cases x with
 |c x=>exact aa.i6 hσ h
 |agg cs=>
  simp only[ad.cW,ad.ok,List.all_eq_true] at*;intro y hy;obtain ⟨z,hz,rfl⟩:=List.mem_map.1 hy;exact aa.i6 hσ (h z hz)
 |cC ts=>
  simp only[ad.cW,ad.ok,List.all_eq_true] at*;intro y hy;obtain ⟨z,hz,rfl⟩:=List.mem_map.1 hy;exact bj.i6 hσ (h z hz)
end
def okB (n:Nat):Option (List aa)->Bool
 |some cs=>cs.all (aa.ok n)
 |none=>true
theorem mf {n i:Nat} {H:List (Option (List aa))} {cs:List aa} {x:aa} (h:H.all (okB n)=true) (hi:H[i]? =some (some cs)) (hx:x∈cs):x.ok n=true:=
 List.all_eq_true.1 (show cs.all (aa.ok n)=true from List.all_eq_true.1 h _ (List.mem_of_getElem? hi)) x hx
section
variable {w w':World} {κ κ':Nat->BK} {ρ ρ':Nat->Nat}
theorem GL {bs:List Nat} (hn:bs.Nodup) {i b:Nat} (h:bs[i]? =some b):bs.idxOf b=i:=by
 obtain ⟨hi,rfl⟩:=List.getElem?_eq_some_iff.1 h;exact hn.idxOf_getElem i hi
theorem bx.cT {s:St} {a:Act} {bs L:List Nat} (hR:Rel s a w κ ρ) (hdis: ∀ b∈L,b∉bs) {l:Loc} {x:aa} {v:Value} (hx:x.flat=true) (h:bx w κ ρ l x v):bx w (fun g=>(κ g).cl bs L) ρ l (x.cT s.H L) v:=by
 have G:fu w κ w (fun g=>(κ g).cl bs L):=dQ fun g n hf=>BK.nW hf
 have eC:x.ok s.H.length=true->bx w (fun g=>(κ g).cl bs L) ρ l x v:=fun hok=>bx.eC (n:=s.H.length) G (fun _ _=>rfl) hok (fun _ _ _ _ e=>by rw[e] at hx;cases hx) h
 cases x with
 |arr b off len cap=>
  have keep2:bx w (fun g=>(κ g).cl bs L) ρ l (.arr b off len cap) v:=h;unfold aa.cT;dsimp only;split
  ·rename_i hc
   split
   ·rename_i cells hb
    split
    ·rename_i fs hfs
     have hB:=hR.heap.dk b cells hb;obtain ⟨f1,f2⟩:=iC _ fs hfs;have hv:v= .slice (some ⟨ρ b,off,none⟩) len cap:=h;rw[hv];refine iy ⟨ρ b,off,cap,rfl,hc.2,⟨fun i hi=> ?_,fun hne=>⟨?_,?_⟩⟩⟩
     ·have hi2:off+i<cells.length:=by rw[f1,List.length_drop] at hi;omega
      have hf2:=f2 i (by rw[← f1];exact hi) hi;rw[List.getElem_drop] at hf2
      obtain ⟨u,hu1,hu2⟩:=hB.cell (hB.np (List.getElem?_eq_getElem hi2) fun q es e=>by rw[e] at hf2;cases hf2) (off+i) hi2;exact ⟨u,hu1,(aa.nf hu2 hf2).grow G⟩
     ·exact hB.tv
     ·show ((κ (ρ b)).cl bs L).fits _
      rw[hB.own];simp only[BK.cl,hdis b hc.1,hc.1,if_true,if_false];trivial
    ·exact keep2
   ·exact keep2
  ·exact keep2
 |f y=>exact cy.grow G h
 |ptr b off=>exact h
 |bg sz cs len=>cases hx
 |und=>exact h
 |any=>trivial
 |mh b=>exact h
 |mp q es=>exact h
theorem aa.rk {H:List (Option (List aa))} {L:List Nat} {x:aa} (h:x.flat=true):(x.cT H L).flat=true:=by
 cases x with
 |arr b off len cap=>
  unfold aa.cT;dsimp only;split
  ·split
   ·split<;>rfl
   ·rfl
  ·rfl
 |_=>exact h
theorem dN.cT {s:St} {a:Act} {bs L:List Nat} (hR:Rel s a w κ ρ) (hdis: ∀ b∈L,b∉bs) {l:Loc} {x:bj} {v:Value} (h:dN w κ ρ l x v):dN w (fun g=>(κ g).cl bs L) ρ l (x.cT s.H L) v:=by
 cases x with
 |c x=>exact ⟨aa.rk h.1,bx.cT hR hdis h.1 h.2⟩
 |agg cs=>
  obtain ⟨vs,rfl,hs,hi⟩:=h;refine ⟨vs,rfl,by simpa using hs,fun i h h'=> ?_⟩;have hi2:i<cs.length:=by simpa using h
  simp only[List.getElem_map];exact ⟨aa.rk (hi i hi2 h').1,bx.cT hR hdis (hi i hi2 h').1 (hi i hi2 h').2⟩
theorem bM.cT {s:St} {a:Act} {bs L:List Nat} (hR:Rel s a w κ ρ) (hdis: ∀ b∈L,b∉bs) {l:Loc} {x:ad} {v:Value} (hd:x.aQ=x) (h:bM w κ ρ l x v):bM w (fun g=>(κ g).cl bs L) ρ l (x.cT s.H L) v:=by
 cases x with
 |c x=>
  exact bx.cT hR hdis (aa.tu hd) h
 |agg cs=>exact dN.cT (x:= .agg cs) hR hdis h
 |cC ts=>
  obtain ⟨vs,rfl,hs,hi⟩:=h;refine ⟨vs,rfl,by simpa using hs,fun i h h'=> ?_⟩;have hi2:i<ts.length:=by simpa using h
  simp only[List.getElem_map];exact dN.cT hR hdis (hi i hi2 h')
theorem ad.yO (x:ad):x.aQ.aQ=x.aQ:=by
 cases x with
 |c x=>show ad.c _=ad.c _;rw[aa.cG x.gb]
 |agg cs=>rfl
 |cC ts=>rfl
theorem ad.JD {H:List (Option (List aa))} {L:List Nat} {x:ad} (h:x.aQ=x):(x.cT H L).aQ=x.cT H L:=by
 cases x with
 |c x=>
  have hx:x.flat=true:=aa.tu h;show ad.c (aa.aQ _)=_
  rw[aa.cG (aa.rk hx)];rfl
 |agg cs=>rfl
 |cC ts=>rfl
theorem ad.BX {σ:Nat->Nat} {x:ad} (h:(x.cW σ).aQ=x.cW σ):x.aQ=x:=by
 cases x with
 |c x=>
  show ad.c _=ad.c _;rw[aa.cG];have:=aa.tu h
  rwa [aa.jQ] at this
 |agg cs=>rfl
 |cC ts=>rfl
def cV (σ:Nat->Nat):Option (List aa)->Option (List aa)
 |some cs=>some (cs.map (aa.cW σ))
 |none=>none
theorem mY {P:Program} {f:FuncId} {args':List ad} {Hs:List (Option (List aa))} {Q:ad->List (Option (List aa))->Prop} {s:St} {a:Act} {xs:List Operand} {bs L:List Nat} (hO:Er P f args' Hs Q)
  (hnd:bs.Nodup) (hlt: ∀ b∈bs,b<s.H.length) (hHs:Hs.map (cV (sig s.H.length bs))=bs.map fun b=>s.H.getD b none) (hok: ∀ x∈args',x.ok Hs.length=true) (hHok:Hs.all (okB Hs.length)=true)
  (hxl:args'.length=xs.length) (hargs: ∀ i (hi:i<args'.length) (hix:i<xs.length),(args'[i]).cW (sig s.H.length bs)=((s.ev xs[i]).h).cT s.H L\/(args'[i]).cW (sig s.H.length bs)=((s.ev xs[i]).aQ).cT s.H L) (hdis: ∀ b∈L,b∉bs) (hQ: ∀ r Hs',Q r Hs'->Hs'.all (okB Hs'.length)=true/\(L=[]\/(r.bare=true/\Hs'.all wQ=true))) (hR:Rel s a w κ ρ):
  Calls P f (xs.map a.eval).toArray w fun e w'=> ∃ r Hs',Q r Hs'/\ ∃ v κ' ρ',e= .returned v/\Rel { s with H:=bt s.H bs (Hs'.map (cV (sig s.H.length bs))) } a w' κ' ρ'/\(∀ l,bM w' κ' ρ' l (r.cW (sig s.H.length bs)) v)/\(r.cW (sig s.H.length bs)).ok (bt s.H bs (Hs'.map (cV (sig s.H.length bs)))).length=true/\Fr w κ w' κ'/\ ∀ b,b<s.H.length->ρ' b=ρ b:=by
 generalize hn:s.H.length=n at*;have hHl:Hs.length=bs.length:=by simpa using congrArg List.length hHs
 have hsigb: ∀ i (h:i<bs.length),sig n bs i=bs[i]:=fun i h=>by simp[sig,h]
 
 refine (hO.run w (fun g=>(κ g).cl bs L) (fun i=>ρ (sig n bs i)) (xs.map a.eval).toArray (by simpa using hxl.symm) (fun i hi hi' l=> ?_) hok ⟨fun i cs hi=> ?_,fun i cs hi=> ?_⟩).mono ?_
 ·have hix:i<xs.length:=by omega
  obtain ⟨y,hy,e1,hyr⟩: ∃ y:ad,y.aQ=y/\(args'[i]).cW (sig n bs)=y.cT s.H L/\bM w κ ρ l y (a.eval xs[i]):=by
   rcases hargs i hi hix with e|e
   ·exact ⟨_,ad.Fe _,e,(hR.ev (l:=l) xs[i]).nz⟩
   ·exact ⟨_,ad.yO _,e,hR.ev (l:=l) xs[i]⟩
  have h1:=bM.cT (bs:=bs) (L:=L) hR hdis hy hyr;rw[← e1] at h1
  simp only[List.getElem_map,List.getElem_toArray];refine bM.nM (σ:=sig n bs) (ρ:=ρ) (fu.refl _ _) (n:=Hs.length) (fun b _=>rfl) (hok _ (List.getElem_mem hi)) ?_ h1;refine ad.BX (σ:=sig n bs) ?_;rw[e1];exact ad.JD hy
 ·
  obtain ⟨hi1,hi2⟩:=List.getElem?_eq_some_iff.1 hi;have hib:i<bs.length:=by omega
  have hb:s.H[bs[i]]? =some (some (cs.map (aa.cW (sig n bs)))):=by
   have:(Hs.map (cV (sig n bs)))[i]'(by simpa using hi1)=(bs.map fun b=>s.H.getD b none)[i]'(by simpa using hib):=by simp only[hHs]
   simp only[List.getElem_map,hi2,cV] at this;have hl:=hlt _ (List.getElem_mem hib);rw[← hn] at hl;rw[List.getD_eq_getElem?_getD,List.getElem?_eq_getElem hl] at this;rw[List.getElem?_eq_getElem hl];simpa using this.symm
  have ho:=(hR.heap.dk _ _ hb).own;have hobj:=(hR.heap.dk _ _ hb).obj;have hmem:bs[i]∈bs:=List.getElem_mem hib;have hidx:bs.idxOf bs[i]=i:=hnd.idxOf_getElem i hib;refine ⟨?_,?_⟩
  ·show (κ (ρ (sig n bs i))).cl bs L= .wr i
   rw[hsigb i hib,ho];simp[BK.cl,hmem,hidx]
  rcases hobj with ⟨c,e,h1,h2,h3⟩|hM
  rotate_left
  ·right
   show iH w (fun g=>(κ g).cl bs L) (ρ (sig n bs i)) cs;rw[hsigb i hib];exact (iH.nM hM).mv (dQ fun g m hf=>BK.nW hf) rfl
  refine .inl ⟨c,e,?_,by simpa using h2,fun j hj hj'=> ?_⟩
  ·show w.heap[ρ (sig n bs i)]? =_
   rw[hsigb i hib];exact h1
  ·have h4:=h3 j (by simpa using hj) hj'
   simp only[List.getElem_map] at h4;refine bx.nM (σ:=sig n bs) (ρ:=ρ) (n:=Hs.length) (dQ fun g m hf=>BK.nW hf) (fun b _=>rfl) (mf hHok hi (List.getElem_mem hj)) (fun _ _ _ _ _=>⟨dQ fun g m hf=>BK.nW hf,fun g m hg hk=>⟨?_,rfl⟩⟩) h4;show (κ g).cl bs L=_
   rw[hk];simp[BK.cl,hmem,hidx]
 ·obtain ⟨hi1,hi2⟩:=List.getElem?_eq_some_iff.1 hi
  intro x hx;exact mf hHok hi hx
 rintro e w' ⟨r,Hs',hq,v,κ',ρ',rfl,hr,hH,hfr,hρ⟩;obtain ⟨hflat,hrok,hlen⟩:=hO.res _ _ hq;obtain ⟨hHok',hbare⟩:=hQ _ _ hq
 
 let κ2:Nat->BK:=fun g=>if g<w.heap.size/\((κ g).cl bs L).oX=true then κ g else (κ' g).bk (sig n bs)
 let ρ2:Nat->Nat:=fun b=>if b<n then ρ b else ρ' (bs.length+(b-n))
 have hmask: ∀ g,g<w.heap.size->((κ g).cl bs L).oX=true->κ2 g=κ g/\κ' g=(κ g).cl bs L/\w'.heap[g]? =w.heap[g]? :=fun g hg hm=>by
  refine ⟨if_pos ⟨hg,hm⟩,?_⟩;cases hk:(κ g).cl bs L with
  |lock m=>exact hfr.lock g m hg hk
  |wr b=>rw[hk] at hm;cases hm
  |bg m l=>rw[hk] at hm;cases hm
 have hopen: ∀ g,(∀ m,κ' g≠ .lock m)->κ2 g=(κ' g).bk (sig n bs):=fun g hno=>by
  refine if_neg fun ⟨hg,hm⟩=> ?_
  obtain ⟨_,h1,_⟩:=hmask g hg hm;cases hk:(κ g).cl bs L with
  |lock m=>exact hno m (h1.trans hk)
  |wr b=>rw[hk] at hm;cases hm
  |bg m l=>rw[hk] at hm;cases hm
 have hgr:fu w κ w' κ2:=by
  refine ⟨hfr.size,fun g o x hg hf hx=>hfr.grow.cell g o x hg (BK.nW hf) hx,fun g m hg hf=> ?_⟩;by_cases hm:((κ g).cl bs L).oX=true
  ·rw[(hmask g hg hm).1];exact hf
  ·show (if g<w.heap.size/\((κ g).cl bs L).oX=true then κ g else (κ' g).bk (sig n bs)).fits m
   rw[if_neg (fun h=>hm h.2)];exact BK.EH.2 (hfr.grow.fits g m hg (BK.nW hf))
 have hgr2:L=[]->fu w' κ' w' κ2:=fun hL=>dQ fun g m hf=>by
  by_cases hm:g<w.heap.size/\((κ g).cl bs L).oX=true
  ·obtain ⟨h1,h2,_⟩:=hmask g hm.1 hm.2
   rw[h1];rw[h2,hL] at hf;exact BK.Mc hf
  ·show (if g<w.heap.size/\((κ g).cl bs L).oX=true then κ g else (κ' g).bk (sig n bs)).fits m
   rw[if_neg hm];exact BK.EH.2 hf
 have hHl':bs.length<=Hs'.length:=by omega
 have hpl:(bt s.H bs (Hs'.map (cV (sig n bs)))).length=n+(Hs'.length-bs.length):=by
  rw[gx _ _ _ (by simpa using hHl'),hn];simp
 have hrho: ∀ b,b<Hs'.length->ρ2 (sig n bs b)=ρ' b:=fun b hb=>by
  by_cases h:b<bs.length
  ·rw[hsigb b h]
   have h1:=hlt _ (List.getElem_mem h);show (if bs[b]<n then ρ bs[b] else _)=_
   rw[if_pos h1,hρ b (by omega),hsigb b h]
  ·have e1:sig n bs b=n+(b-bs.length):=by simp[sig,show ¬ b<bs.length from h]
   rw[e1];show (if n+(b-bs.length)<n then _ else ρ' (bs.length+(n+(b-bs.length)-n)))=_
   rw[if_neg (by omega)];congr 1;omega
 have hsig: ∀ b,b<Hs'.length->sig n bs b<n+(Hs'.length-bs.length):=fun b hb=>by
  by_cases h:b<bs.length
  ·rw[hsigb b h]
   have h1:=hlt _ (List.getElem_mem h);omega
  ·simp only[sig,List.getD_eq_getElem?_getD,List.getElem?_eq_none (Nat.le_of_not_lt h),Option.getD_none];omega
 have hrk:(r.cW (sig n bs)).ok (bt s.H bs (Hs'.map (cV (sig n bs)))).length=true:=by
  rw[hpl];exact ad.i6 hsig hrok
 have hbr:fu w' κ' w' κ2\/r.bare=true:=hbare.imp hgr2 (·.1);refine ⟨r,Hs',hq,v,κ2,ρ2,rfl,⟨hR.defers,fun i hi'=> ?_,hR.out,fun i=> ?_,⟨fun b cs hb=> ?_,fun b cs hb x hx=> ?_⟩⟩,fun l=>bM.back hrho hflat hrok hbr (hr l),hrk,⟨hfr.os,hfr.tape,hfr.output,hfr.size,fun g m hg hk=> ?_,hgr⟩,fun b hb=>if_pos hb⟩
 ·refine bM.eC (n:=n) hgr (fun b hb=>if_pos hb) (hn▸hR.ok i) (fun _ _ _ _ _=>⟨hgr,fun g m hg hk=> ?_⟩) (hR.slot i hi')
  obtain ⟨h1,_,h3⟩:=hmask g hg (by rw[hk];rfl);exact ⟨h1.trans hk,h3⟩
 ·show (s.sl i).ok (bt s.H bs (Hs'.map (cV (sig n bs)))).length=true
  rw[hpl];exact ad.fT (by omega) _ (hn▸hR.ok i)
 ·rcases iP bs s.H _ hnd (fun b hb=>hn▸hlt b hb) (by simpa using hHl') b _ hb with ⟨i,h1,h2⟩|⟨h1,h2⟩|⟨h1,h2⟩
  ·
   rw[List.getElem?_map] at h2;obtain ⟨y,hy,hy2⟩:=Option.map_eq_some_iff.1 h2;cases y with
   |none=>cases hy2
   |some ds=>
    injection hy2 with hy2;obtain ⟨hib,hbi⟩:=List.getElem?_eq_some_iff.1 h1;have hBy:=hH.dk i ds hy;have ho:=hBy.own;have hi':i<Hs'.length:=by omega
    have hrb:ρ2 b=ρ' i:=by rw[← hbi,← hsigb i hib];exact hrho i hi'
    refine ⟨?_,?_⟩
    ·rw[hrb,hopen _ (fun m=>by rw[ho];intro e;cases e),ho]
     simp[BK.bk,hsigb i hib,hbi]
    rcases hBy.obj with ⟨c,e,k1,k2,k3⟩|hM
    rotate_left
    ·right
     rw[hrb,← hy2];rcases hbare with hL|hL
     ·exact (iH.cW hM).mv (hgr2 hL) rfl
     ·exfalso
      obtain ⟨q,es,en,ck,e1,_⟩:=hM;have hb2:=List.all_eq_true.1 hL.2 _ (List.mem_of_getElem? hy);rw[e1] at hb2;cases hb2
    refine .inl ⟨c,e,by rw[hrb];exact k1,by rw[← hy2];simpa using k2,fun j hj hj'=> ?_⟩
    ·subst hy2
     have hj2:j<ds.length:=by simpa using hj
     simp only[List.getElem_map];have hok2:=mf hHok' hy (List.getElem_mem hj2);rcases hbare with hL|hL
     ·refine bx.cW (hgr2 hL) hrho hok2 (fun _ _ _ _ _=>⟨hgr2 hL,fun g m hg hk=>⟨?_,rfl⟩⟩) (k3 j hj2 hj')
      rw[hopen g (fun m=>by rw[hk];intro e;cases e),hk];simp[BK.bk,hsigb i hib,hbi]
     ·exact bx.bare hrho (List.all_eq_true.1 (show ds.all aa.bare=true from List.all_eq_true.1 hL.2 _ (List.mem_of_getElem? hy)) _ (List.getElem_mem hj2)) hok2 (k3 j hj2 hj')
  ·
   have hBb:=hR.heap.dk b cs h2;have ho:=hBb.own;have hbn:b<n:=by rw[← hn];exact (List.getElem?_eq_some_iff.1 h2).1
   have hrb:ρ2 b=ρ b:=if_pos hbn;have hl1:=hBb.tv;obtain ⟨m1,_,m3⟩:=hmask (ρ b) hl1 (by rw[ho];simp only[BK.cl,h1,if_false];split<;>rfl);refine ⟨by rw[hrb,m1];exact ho,?_⟩;rcases hBb.obj with ⟨c,e,k1,k2,k3⟩|hM
   rotate_left
   ·right
    rw[hrb];exact hM.mv hgr m3
   refine .inl ⟨c,e,by rw[hrb,m3];exact k1,k2,fun j hj hj'=> ?_⟩;refine bx.eC (n:=n) hgr (fun b hb=>if_pos hb) (hn▸hR.heap.ok b cs h2 _ (List.getElem_mem hj)) (fun _ _ _ _ _=>⟨hgr,fun g m hg hk=> ?_⟩) (k3 j hj hj');obtain ⟨q1,_,q3⟩:=hmask g hg (by rw[hk];simp[BK.cl,h1,BK.oX]);exact ⟨q1.trans hk,q3⟩
  ·
   rw[List.getElem?_map] at h2;obtain ⟨y,hy,hy2⟩:=Option.map_eq_some_iff.1 h2;cases y with
   |none=>cases hy2
   |some ds=>
    injection hy2 with hy2;rw[hn] at h1 hy;have hBy:=hH.dk _ ds hy;have ho:=hBy.own;have hi':bs.length+(b-n)<Hs'.length:=(List.getElem?_eq_some_iff.1 hy).1;have hsb:sig n bs (bs.length+(b-n))=b:=by
     simp only[sig,List.getD_eq_getElem?_getD,List.getElem?_eq_none (Nat.le_add_right _ _),Option.getD_none];omega
    have hrb:ρ2 b=ρ' (bs.length+(b-n)):=if_neg (by omega);refine ⟨?_,?_⟩
    ·rw[hrb,hopen _ (fun m=>by rw[ho];intro e;cases e),ho]
     simp[BK.bk,hsb]
    rcases hBy.obj with ⟨c,e,k1,k2,k3⟩|hM
    rotate_left
    ·right
     rw[hrb,← hy2];rcases hbare with hL|hL
     ·exact (iH.cW hM).mv (hgr2 hL) rfl
     ·exfalso
      obtain ⟨q,es,en,ck,e1,_⟩:=hM;have hb2:=List.all_eq_true.1 hL.2 _ (List.mem_of_getElem? hy);rw[e1] at hb2;cases hb2
    refine .inl ⟨c,e,by rw[hrb];exact k1,by rw[← hy2];simpa using k2,fun j hj hj'=> ?_⟩
    ·subst hy2
     have hj2:j<ds.length:=by simpa using hj
     simp only[List.getElem_map];have hok2:=mf hHok' hy (List.getElem_mem hj2);rcases hbare with hL|hL
     ·refine bx.cW (hgr2 hL) hrho hok2 (fun _ _ _ _ _=>⟨hgr2 hL,fun g m hg hk=>⟨?_,rfl⟩⟩) (k3 j hj2 hj')
      rw[hopen g (fun m=>by rw[hk];intro e;cases e),hk];simp[BK.bk,hsb]
     ·exact bx.bare hrho (List.all_eq_true.1 (show ds.all aa.bare=true from List.all_eq_true.1 hL.2 _ (List.mem_of_getElem? hy)) _ (List.getElem_mem hj2)) hok2 (k3 j hj2 hj')
 ·rw[show ({ s with H:=bt s.H bs (Hs'.map (cV (sig n bs))) }:St).H.length=n+(Hs'.length-bs.length) from hpl]
  rcases iP bs s.H _ hnd (fun b hb=>hn▸hlt b hb) (by simpa using hHl') b _ hb with ⟨i,h1,h2⟩|⟨h1,h2⟩|⟨h1,h2⟩
  ·rw[List.getElem?_map] at h2
   obtain ⟨y,hy,hy2⟩:=Option.map_eq_some_iff.1 h2;cases y with
   |none=>cases hy2
   |some ds=>
    injection hy2 with hy2;subst hy2;obtain ⟨z,hz,rfl⟩:=List.mem_map.1 hx;exact aa.i6 hsig (mf hHok' hy hz)
  ·exact aa.fT (by omega) x (hn▸hR.heap.ok b cs h2 x hx)
  ·rw[List.getElem?_map] at h2
   obtain ⟨y,hy,hy2⟩:=Option.map_eq_some_iff.1 h2;cases y with
   |none=>cases hy2
   |some ds=>
    injection hy2 with hy2;subst hy2;obtain ⟨z,hz,rfl⟩:=List.mem_map.1 hx;exact aa.i6 hsig (mf hHok' hy hz)
 ·obtain ⟨h1,_,h3⟩:=hmask g hg (by rw[hk];rfl)
  exact ⟨h1.trans hk,h3⟩
end
theorem rX {w:World} {κ:Nat->BK} {ρ:Nat->Nat} {P:Program} {f:FuncId} {args':List ad} {Hs:List (Option (List aa))} {Q:ad->List (Option (List aa))->Prop} {s:St} {a:Act} {xs:List Operand} {bs L:List Nat} (hO:Er P f args' Hs Q)
  (hnd:bs.Nodup) (hlt: ∀ b∈bs,b<s.H.length) (hHs:Hs.map (cV (sig s.H.length bs))=bs.map fun b=>s.H.getD b none) (hok: ∀ x∈args',x.ok Hs.length=true) (hHok:Hs.all (okB Hs.length)=true)
  (hargs:args'.map (ad.cW (sig s.H.length bs))=xs.map fun x=>((s.ev x).h).cT s.H L) (hdis: ∀ b∈L,b∉bs) (hQ: ∀ r Hs',Q r Hs'->Hs'.all (okB Hs'.length)=true/\(L=[]\/(r.bare=true/\Hs'.all wQ=true))) (hR:Rel s a w κ ρ):
  Calls P f (xs.map a.eval).toArray w fun e w'=> ∃ r Hs',Q r Hs'/\ ∃ v κ' ρ',e= .returned v/\Rel { s with H:=bt s.H bs (Hs'.map (cV (sig s.H.length bs))) } a w' κ' ρ'/\(∀ l,bM w' κ' ρ' l (r.cW (sig s.H.length bs)) v)/\(r.cW (sig s.H.length bs)).ok (bt s.H bs (Hs'.map (cV (sig s.H.length bs)))).length=true/\Fr w κ w' κ'/\ ∀ b,b<s.H.length->ρ' b=ρ b:=by
 refine mY hO hnd hlt hHs hok hHok (by simpa using congrArg List.length hargs) (fun i hi hix=> .inl ?_) hdis hQ hR;have:(args'.map (ad.cW (sig s.H.length bs)))[i]'(by simpa using hi)=(xs.map fun x=>((s.ev x).h).cT s.H L)[i]'(by simpa using hix):=by simp only[hargs]
 simpa using this
theorem C3 {P:Program} {f:FuncId} {args':List ad} {Hs Hs':List (Option (List aa))} {r:ad} {s:St} {a:Act} {xs:List Operand} {bs L:List Nat} {w:World} {κ:Nat->BK} {ρ:Nat->Nat} (hO:Ok P f args' Hs r Hs')
  (hnd:bs.Nodup) (hlt: ∀ b∈bs,b<s.H.length) (hHs:Hs.map (cV (sig s.H.length bs))=bs.map fun b=>s.H.getD b none) (hok: ∀ x∈args',x.ok Hs.length=true) (hHok:Hs.all (okB Hs.length)=true) (hHok':Hs'.all (okB Hs'.length)=true)
  (hargs:args'.map (ad.cW (sig s.H.length bs))=xs.map fun x=>((s.ev x).h).cT s.H L) (hdis: ∀ b∈L,b∉bs) (hbare:L=[]\/(r.bare=true/\Hs'.all wQ=true)) (hR:Rel s a w κ ρ):
  Calls P f (xs.map a.eval).toArray w fun e w'=> ∃ v κ' ρ',e= .returned v/\Rel { s with H:=bt s.H bs (Hs'.map (cV (sig s.H.length bs))) } a w' κ' ρ'/\(∀ l,bM w' κ' ρ' l (r.cW (sig s.H.length bs)) v)/\(r.cW (sig s.H.length bs)).ok (bt s.H bs (Hs'.map (cV (sig s.H.length bs)))).length=true/\Fr w κ w' κ'/\ ∀ b,b<s.H.length->ρ' b=ρ b:=by
 refine (rX hO.e hnd hlt hHs hok hHok hargs hdis (fun a b e=>by obtain ⟨rfl,rfl⟩:=e;exact ⟨hHok',hbare⟩) hR).mono ?_;rintro e w' ⟨_,_,⟨rfl,rfl⟩,h⟩;exact h
theorem kM {w:World} {κ:Nat->BK} {ρ:Nat->Nat} {cs ds:List aa} {vs us:Array Value} (h1:bU w κ ρ cs vs) (h2:bU w κ ρ ds us):bU w κ ρ (cs++ds) (vs++us):=by
 have e1:=h1.size;have e2:=h2.size;refine ⟨by simp[e1,e2],fun x hx=> ?_,fun l i hi hi'=> ?_,fun i hi=> ?_⟩
 ·rcases List.mem_append.1 hx with h|h
  ·exact h1.flat x h
  ·exact h2.flat x h
 ·by_cases hlt:i<cs.length
  ·rw[List.getElem_append_left hlt,Array.getElem_append_left (by omega)]
   exact h1.Hh l i hlt _
  ·have hi2:i-vs.size<us.size:=by
    rw[Array.size_append] at hi';omega
   rw[List.getElem_append_right (by omega),Array.getElem_append_right (by omega)];have:=h2.Hh l (i-vs.size) (by omega) hi2;simpa only[e1] using this
 ·by_cases hlt:i<vs.size
  ·rw[Array.getElem_append_left hlt]
   exact h1.one i hlt
  ·rw[Array.getElem_append_right (by omega)]
   exact h2.one _ _
theorem pR {w:World} {κ:Nat->BK} {ρ:Nat->Nat} {fs:List ag} {vs:List Value} (hl:vs.length=fs.length) (hr: ∀ i (h:i<fs.length) (h':i<vs.length),cy w κ fs[i] vs[i]):bU w κ ρ (fs.map aa.f) vs.toArray:=by
 refine ⟨by simp[hl],fun x hx=> ?_,fun l i hi hi'=> ?_,fun i hi=> ?_⟩
 ·obtain ⟨y,_,rfl⟩:=List.mem_map.1 hx
  rfl
 ·rw[List.getElem_map,List.getElem_toArray]
  exact hr i (by simpa using hi) (by simpa using hi')
 ·rw[List.getElem_toArray]
  exact (hr i (by simp at hi;omega) (by simpa using hi)).one
theorem Aw {P:Program} {s:St} {o:Oper} {t tx:TypeId} {x y:Operand} (ho:o.op= .call { callee:= .builtin .append,args:= #[x,y],argTypes:= #[t,tx] }) {sz by_:Nat} {zs:List aa} (hI:dM P t=some (sz,by_,zs)) {n:Nat} {fs:List ag} (hsrc:bo P s sz tx y=some (n,fs)) (h63:n<=4611686018427387904) (hby:n*by_<=140737488355328) (hn0:n≠0)
  {a:Act} {w:World} {κ:Nat->BK} {ρ:Nat->Nat} (hR:Rel s a w κ ρ) (hv:a.eval x= .slice none 0 0):
  ∃ cap v w' κ' ρ',n<=cap/\(execOp a.eval o).run P w= .ok (.value v) w'/\Rel { s with H:=s.H++[some (fs.map aa.f++dc zs (cap-n))] } a w' κ' ρ'/\v= .slice (some ⟨ρ' s.H.length,0,none⟩) n cap/\Fr w κ w' κ'/\ ∀ b,b<s.H.length->ρ' b=ρ b:=by
 obtain ⟨e,i,z,hu,hi,hz,rfl,rfl,rfl,hsz,hpos,h1⟩:=fL hI;obtain ⟨news,hs,hn1,hn2,hn3⟩:=fR hsrc hR;have hold2:(Builtin.firstCells i.size 0 (.slice none 0 0)).run P w.drew= .ok ([]:List Value).toArray w.drew:=rfl;have hfit:=growslice_fits (need:=0+n) (old:=0) (bytes:=i.bytes) (by omega) (by rw[Nat.zero_add];exact hby);have hrun:=run_append_grow_src (P:=P) w t tx o.type e i z hu hi hz none 0 0 [] hold2 (a.eval y) n news hs (by omega) (by omega) hfit;have hge:n<=grownCap w (0+n) 0 e:=by
  have:=grownCap_ge w (0+n) 0 e;omega
 generalize grownCap w (0+n) 0 e=cap at*;have m1:=ke s.H.length w κ ρ;have hR1:=hR.mv m1 (fun _ h=>h);have hg:=m1.grow;have hC1:bU w.drew κ ρ (fs.map aa.f) news.toArray:=pR hn1 fun j hj hj'=>(hn3 j hj hj').grow hg
 have hC2:bU w.drew κ ρ (dc (z.cells.toList.map qL) (cap-n)) (Builtin.zeroCells z.cells (cap-n)):=nr z.cells (cap-n) (by omega) h1;have hC:=kM hC1 hC2;have m2:=dU s.H.length w.drew κ ρ (.cells (news.toArray++Builtin.zeroCells z.cells (cap-n)) e) (.wr s.H.length) (dJ ρ s.H.length w.drew.heap.size) (fun b hb=>aw _ _ (by omega));have hN:=hR1.new e hC (fun x hx=>by
  rcases List.mem_append.1 hx with h|h
  ·obtain ⟨y,_,rfl⟩:=List.mem_map.1 h
   rfl
  ·exact sF _ _ _ _ h)
 rw[Nat.zero_add,List.nil_append] at hrun;refine ⟨cap,.slice (some ⟨w.heap.size,0,none⟩) n cap,_,_,dJ ρ s.H.length w.drew.heap.size,hge,dS ho (by rw[hv];exact hrun),hN,?_,m1.fr.trans m2.fr,fun b hb=>aw _ _ (by omega)⟩;rw[aG];rfl
def cK (ops:Array Oper) (s:St) (o:Oper):Option Bool:=
 match o.guard with
 |none=>some true
 |some (j,want)=>match ops[j]? with
  |some oj=>match oj.dst with
   |some d=>match s.ev (.tmp d) with
    | .c (.f (.v (.bool b)))=>some (b==want)
    | .c .und=>some false
    |_=>none
   |none=>some false
  |none=>some false
theorem qH {ops:Array Oper} {s:St} {o:Oper} {t:Bool} (h:cK ops s o=some t) {a:Act} {w:World} {κ:Nat->BK} {ρ:Nat->Nat} (hR:Rel s a w κ ρ):Region.wanted o (yielded ops a.tmps)=t:=by
 unfold cK at h;unfold Region.wanted;split at h
 ·rename_i hg
  injection h with h;rw[hg];exact h
 ·rename_i j want hg
  rw[hg];simp only;split at h
  ·rename_i oj hj
   split at h
   ·rename_i d hd
    have hval: ∀ {v},a.eval (.tmp d)=v->v≠undef->a.tmps[d]? =some v:=fun {v} e hne=>by
     simp only[Act.eval,Array.getD] at e;split at e
     ·rename_i hlt
      rw[Array.getElem?_eq_getElem hlt];exact congrArg some e
     ·exact absurd e.symm hne
    split at h
    ·rename_i b he
     injection h with h;have hv:a.eval (.tmp d)= .bool b:=hR.gp (by rw[he];rfl);have:=hval hv (by intro e;cases e);simp[yielded,hj,hd,this,← h]
    ·rename_i he
     injection h with h;have hv:a.eval (.tmp d)=undef:=by
      have:=hR.y7 d;rw[he] at this
      exact this
     rw[← h];have hy:yielded ops a.tmps j=none:=by
      simp only[yielded,hj,hd,Option.bind_some];simp only[Act.eval,Array.getD] at hv;split at hv
      ·rename_i hlt
       rw[Array.getElem?_eq_getElem hlt];have hv':a.tmps[d]=undef:=hv;rw[hv'];rfl
      ·rename_i hge
       rw[Array.getElem?_eq_none (by omega)]
     rw[hy];rfl
    ·cases h
   ·rename_i hd
    injection h with h;rw[← h];simp[yielded,hj,hd]
  ·rename_i hj
   injection h with h;rw[← h];simp[yielded,hj]
def el (ops:Array Oper) (o:Oper):Bool:=
 match o.dst with
 |some d=>ops.toList.any fun p=>match p.op with
  | .call c=>match c.callee,c.args.toList with
   | .builtin .append,.tmp t::_=>t==d
   |_,_=>false
  |_=>false
 |none=>false
def cf (o:Oper):Option (FuncId×List Operand):=
 match o.op with
 | .call c=>match c.callee with
  | .value (.func f)=>some (f,c.args.toList)
  |_=>none
 |_=>none
structure Cl where
 fp:List Nat:=[]
 fr:List Nat:=[]
 wr:List Nat:=[]
 new:Option Nat:=none
 aQ:Bool:=false
 soft:Bool:=false
abbrev Cl.q0:Cl:={}
def nx:ad->List Nat
 | .c (.ptr b _)=>[b]
 |_=>[]
def gK:ad->List Nat
 | .c (.arr b _ _ _)=>[b]
 |_=>[]
def rj:Op->Bool
 | .load .. =>true
 |_=>false
def s6 (tr:Bool) (s:St) (o:Oper):List Nat:=
 match o.op with
 | .load _ x=>if tr=true then [] else nx (s.ev x)
 |_=>[]
def kW (tr:Bool) (s:St) (o:Oper):List Nat:=
 match o.op with
 | .load _ x=>if tr=true then nx (s.ev x) else []
 | .store _ x _=>nx (s.ev x)
 | .call c=>match c.args.toList with
  |[x,y]=>gK (s.ev x).aQ++gK (s.ev y).aQ
  |_=>[]
 |_=>[]
def eJ.wr (c:eJ):List Nat:=
 match c.dk with
 |some (b,_)=>[b]
 |none=>[]
def gM (tr:Bool) (s:St) (o:Oper) (c:eJ):Cl:=⟨kW tr s o,s6 tr s o,c.wr,if c.new.isSome then some s.H.length else none,c.aQ.isSome,rj o.op⟩
def Al (P:Program) (f:FuncId) (xs:List Operand) (s:St) (K:Cl->ad->St->Prop):Prop:=
 (∃ r,(xs.all fun x=>(s.ev x).h.ok 0)=true/\Ok P f (xs.map fun x=>(s.ev x).h) [] r []/\K .q0 r s)\/
 ∃ (bs L:List Nat) (args':List ad) (Hs Hs':List (Option (List aa))) (r:ad),Ok P f args' Hs r Hs'/\bs.Nodup/\(∀ b∈bs,b<s.H.length)/\Hs.map (cV (sig s.H.length bs))=(bs.map fun b=>s.H.getD b none)/\(∀ x∈args',x.ok Hs.length=true)/\Hs.all (okB Hs.length)=true/\Hs'.all (okB Hs'.length)=true/\
  args'.map (ad.cW (sig s.H.length bs))=(xs.map fun x=>((s.ev x).h).cT s.H L)/\(∀ b∈L,b∉bs)/\(L=[]\/(r.bare=true/\Hs'.all wQ=true))/\
  K ⟨bs++L,[],bs,if Hs'.length=bs.length then none else some s.H.length,false,false⟩ (r.cW (sig s.H.length bs)) { s with H:=bt s.H bs (Hs'.map (cV (sig s.H.length bs))) }
structure tX (P:Program) (s:St) (o:Oper) (v:Value):Prop where
 op: ∃ b t x y u,o.op= .binOp b t x y u
 plain:(o.op.operands.toList.all fun x=>(s.ev x).gp.isSome)=true
 run: ∀ w,(execOp s.env o).run P w= .ok (.value v) w
structure oy (P:Program) (o:Oper) (s:St) (x:ad) (c:eJ) (fp:List Nat):Prop where
 sim: ∀ s':St,(∀ y∈o.op.operands,s.ev y=s'.ev y)->(∀ b∈fp,s.H[b]? =s'.H[b]?)->(c.new.isSome=true->s.H.length=s'.H.length)->hX P o s' x c
 dk: ∀ b cs,c.dk=some (b,cs)->b∈fp/\b<s.H.length
 aQ:c.aQ=none
theorem oy.congr {P:Program} {o:Oper} {s s':St} {x:ad} {c:eJ} {fp:List Nat} (h:oy P o s x c fp) (h1: ∀ y∈o.op.operands,s.ev y=s'.ev y) (h2: ∀ b∈fp,s.H[b]? =s'.H[b]?) (h3:c.new.isSome=true->s.H.length=s'.H.length):oy P o s' x c fp:=
 ⟨fun s2 k1 k2 k3=>h.sim s2 (fun y hy=>(h1 y hy).trans (k1 y hy)) (fun b hb=>(h2 b hb).trans (k2 b hb)) (fun e=>(h3 e).trans (k3 e)),fun b cs e=>by
  obtain ⟨q1,q2⟩:=h.dk b cs e;refine ⟨q1,?_⟩;have:=h2 b q1;rw[List.getElem?_eq_getElem q2] at this;exact (List.getElem?_eq_some_iff.1 this.symm).1,h.aQ⟩
def jD (s:St) (fp:List Nat) (c:eJ):Cl:=⟨fp,[],c.wr,if c.new.isSome then some s.H.length else none,false,false⟩
def Oj (P:Program) (ops:Array Oper) (o:Oper) (s:St) (K:Cl->St->Prop):Prop:=
 (∃ x c,j6 P (el ops o) s o=some (x,c)/\K (gM (el ops o) s o c) ((s.nV c).put o.dst x))\/(∃ v,tX P s o v/\K .q0 (s.put o.dst (wa v)))\/(∃ x c fp,oy P o s x c fp/\K (jD s fp c) ((s.nV c).put o.dst x))
def qJ (P:Program) (ops:Array Oper) (o:Oper) (s:St) (K:Cl->St->Prop):Prop:=
 match cK ops s o with
 |none=>False
 |some t=>if t=true then
  match cf o with
  |some (f,xs)=>Al P f xs s fun c r s'=>K c (s'.put o.dst r)
  |none=>Oj P ops o s K
  else K .q0 (s.put o.dst (.c .und))
def QA (P:Program) (ops:Array Oper) (o:Oper) (s:St) (K:St->Prop):Prop:=
 cK ops s o=some true/\ ∃ f xs,cf o=some (f,xs)/\ ∃ (bs:List Nat) (args':List ad) (Hs:List (Option (List aa))) (Q:ad->List (Option (List aa))->Prop),Er P f args' Hs Q/\bs.Nodup/\(∀ b∈bs,b<s.H.length)/\Hs.map (cV (sig s.H.length bs))=(bs.map fun b=>s.H.getD b none)/\(∀ x∈args',x.ok Hs.length=true)/\Hs.all (okB Hs.length)=true/\
  args'.map (ad.cW (sig s.H.length bs))=(xs.map fun x=>((s.ev x).h).cT s.H [])/\
  ∀ r Hs',Q r Hs'->Hs'.all (okB Hs'.length)=true/\K (({ s with H:=bt s.H bs (Hs'.map (cV (sig s.H.length bs))) }:St).put o.dst (r.cW (sig s.H.length bs)))
def QB (P:Program) (ops:Array Oper) (o:Oper) (s:St) (K:St->Prop):Prop:=
 cK ops s o=some true/\ ∃ (t tx:TypeId) (x y:Operand) (sz by_:Nat) (zs:List aa) (n:Nat) (fs:List ag),o.op= .call { callee:= .builtin .append,args:= #[x,y],argTypes:= #[t,tx] }/\dM P t=some (sz,by_,zs)/\bo P s sz tx y=some (n,fs)/\n<=4611686018427387904/\n*by_<=140737488355328/\n≠0/\s.ev x= .c (.f .nils)/\
  ∀ cap,n<=cap->K (({ s with H:=s.H++[some (fs.map aa.f++dc zs (cap-n))] }:St).put o.dst (.c (.arr s.H.length 0 n cap)))
def Tv (ops:Array Oper) (s s2:St):Prop:=(s.H.length<=s2.H.length/\ ∀ a w κ ρ,Rel s a w κ ρ-> ∃ κ',Rel s2 a w κ' ρ/\Fr w κ w κ')/\ ∀ o,cK ops s o=some true->cK ops s2 o=some true
def Qz (P:Program) (ops:Array Oper) (o:Oper) (s:St) (K:St->Prop):Prop:=
 cK ops s o=some true/\ ∃ (α:Type) (F:α->St),(∀ x,s.H.length<=(F x).H.length)/\(∀ (a:Act) (w:World) (κ:Nat->BK) (ρ:Nat->Nat),Rel s a w κ ρ->(∀ t,o.dst=some t->t<a.tmps.size)-> ∀ (next:Act->World->Prop) (Q:Exit->Act->World->Prop),(∀ x a' w' κ' ρ',Rel (F x) a' w' κ' ρ'->Fr w κ w' κ'->(∀ b,b<s.H.length->ρ' b=ρ b)->a'.tmps.size=a.tmps.size->next a' w')->o.wp P a w next Q)/\ ∀ x,K (F x)
def sR (P:Program) (ops:Array Oper):List Oper->St->(St->Prop)->Prop
 |[],s,K=>K s
 |o::rest,s,K=>(qJ P ops o s fun _ s'=>sR P ops rest s' K)\/(QA P ops o s fun s'=>sR P ops rest s' K)\/(QB P ops o s fun s'=>sR P ops rest s' K)\/(∃ s2,Tv ops s s2/\qJ P ops o s2 fun _ s'=>sR P ops rest s' K)\/Qz P ops o s fun s'=>sR P ops rest s' K
def mC (N:Nat) (o:Oper):Bool:=
 match o.dst with
 |some d=>decide (d<N)
 |none=>true
structure In (N n0:Nat) (w0:World) (κ0:Nat->BK) (ρ0:Nat->Nat) (s:St) (a:Act) (w:World) (κ:Nat->BK) (ρ:Nat->Nat):Prop where
 rel:Rel s a w κ ρ
 fr:Fr w0 κ0 w κ
 rho: ∀ b,b<n0->ρ b=ρ0 b
 len:n0<=s.H.length
 size:a.tmps.size=N
theorem lT {N:Nat} {o:Oper} (h:mC N o=true) {a:Act} (hs:a.tmps.size=N): ∀ t,o.dst=some t->t<a.tmps.size:=fun t e=>by
 unfold mC at h;rw[e] at h;rw[hs];exact of_decide_eq_true h
theorem dt (a:Act) (d:Option Tmp) (v:Value):(a.put d v).tmps.size=a.tmps.size:=by cases d<;>simp[Act.put]
theorem EN (s:St) (c:eJ):s.H.length<=(s.nV c).H.length:=by
 unfold St.nV;cases c.aQ<;>cases c.dk<;>cases c.new<;>simp[St.fD,St.mW,St.nu,St.aQ,dT]
theorem jk (s:St) (d:Option Tmp) (x:ad):(s.put d x).H.length=s.H.length:=by cases d<;>rfl
section
variable {P:Program} {ops:Array Oper} {N n0:Nat} {w0:World} {κ0:Nat->BK} {ρ0:Nat->Nat}
theorem kR {ev:Operand->Value} {o:Oper} {f:FuncId} {xs:List Operand} (hev:ev (.func f)= .func (.func f) #[] #[]) (h:cf o=some (f,xs)) (hf: ∃ fn,P.funcs[f]? =some fn/\fn.body.isSome=true/\(fn.name== "runtime.NumGoroutine")=false) (w:World):(execOp ev o).run P w= .ok (.enter f (xs.map ev).toArray) w:=by
 unfold cf at h;split at h
 ·rename_i c ho
  split at h
  ·rename_i g hc
   injection h with h;injection h with e1 e2;subst e1;subst e2;obtain ⟨fn,h1,h2,h3⟩:=hf;have hb: ¬ fn.body=none:=by intro e;rw[e] at h2;cases h2
   have hn: ¬ fn.name= "runtime.NumGoroutine":=by simpa using h3
   have hmap:c.args.map ev=(c.args.toList.map ev).toArray:=by rw[← Array.toList_map]
   simp only[execOp,ho,resolve,hc,hev,Deferred.ofValue,Sem.run_bind,Sem.run_pure,Result.andThen_ok,invoke,callFunc];simp[program,Sem.run,h1,hn,hb,hmap]
  ·cases h
 ·cases h
theorem nQ {o:Oper} {s:St} {K:Cl->St->Prop} (hdst:mC N o=true) (h:qJ P ops o s K) {a:Act} {w:World} {κ:Nat->BK} {ρ:Nat->Nat} (hI:In N n0 w0 κ0 ρ0 s a w κ ρ) {next:Act->World->Prop} {Q:Exit->Act->World->Prop}
  (hK: ∀ c s a w κ ρ,K c s->In N n0 w0 κ0 ρ0 s a w κ ρ->next a w):
  if Region.wanted o (yielded ops a.tmps) then o.wp P a w next Q\/(o.asks P a w/\LetsOut Q) else next (a.put o.dst undef) w:=by
 unfold qJ at h;split at h
 ·cases h
 ·rename_i t ht
  rw[qH ht hI.rel];split at h
  ·rename_i htt
   subst htt;simp only[if_true];left;split at h
   ·rename_i f xs hc
    rcases h with ⟨r,hok,hO,hk⟩|⟨bs,L,args',Hs,Hs',r,hO,h1,h2,h3,h4,h5,h6,h7,h8,h9,hk⟩
    ·unfold Oper.wp
     rw[kR rfl hc hO.fn];refine (Gr hO rfl (by simpa using hok) hI.rel).mono ?_;rintro e w' ⟨v,κ',rfl,hR',hr,hrok,hfr⟩;refine hK _ _ _ _ κ' ρ hk ⟨hR'.put (lT hdst hI.size) (fun t _=>hr _) hrok,hI.fr.trans hfr,hI.rho,?_,(dt _ _ _).trans hI.size⟩;rw[jk];exact hI.len
    ·unfold Oper.wp
     rw[kR rfl hc hO.fn];refine (C3 hO h1 h2 h3 h4 h5 h6 h7 h8 h9 hI.rel).mono ?_;rintro e w' ⟨v,κ',ρ',rfl,hR',hr,hrok,hfr,hρ⟩;refine hK _ _ _ _ κ' ρ' hk ⟨hR'.put (lT hdst hI.size) (fun t _=>hr _) hrok,hI.fr.trans hfr,fun b hb=>(hρ b (Nat.lt_of_lt_of_le hb hI.len)).trans (hI.rho b hb),?_,(dt _ _ _).trans hI.size⟩;rw[jk];refine Nat.le_trans hI.len ?_;have e1:Hs.length=bs.length:=by simpa using congrArg List.length h3
     have e2:=hO.len;show s.H.length<=(bt s.H bs (Hs'.map (cV (sig s.H.length bs)))).length
     rw[gx _ _ _ (by simp;omega)];omega
   ·rcases h with ⟨x,c,hx,h⟩|⟨v,hv,h⟩|⟨x,c,fp,hs,h⟩
    rotate_right
    ·obtain ⟨v,w',κ',ρ',hy,hR',hr,hrok,hfr,hρ⟩:=hs.sim s (fun _ _=>rfl) (fun _ _=>rfl) (fun _=>rfl) a w κ ρ hI.rel
     have hnext:next (a.put o.dst v) w':=hK _ _ _ _ κ' ρ' h ⟨hR'.put (lT hdst hI.size) (fun t ht=>hr t ht) hrok,hI.fr.trans hfr,fun b hb=>(hρ b (Nat.lt_of_lt_of_le hb hI.len)).trans (hI.rho b hb),by rw[jk];exact Nat.le_trans hI.len (EN _ _),(dt _ _ _).trans hI.size⟩
     unfold Oper.wp;rcases hy with hy|⟨hy,rfl⟩
     ·rw[hy];exact hnext
     ·rw[hy];exact hnext
    ·obtain ⟨v,w',κ',ρ',hy,hR',hr,hrok,hfr,hρ⟩:=LN hx a w κ ρ hI.rel
     have hnext:next (a.put o.dst v) w':=hK _ _ _ _ κ' ρ' h ⟨hR'.put (lT hdst hI.size) (fun t ht=>hr t ht) hrok,hI.fr.trans hfr,fun b hb=>(hρ b (Nat.lt_of_lt_of_le hb hI.len)).trans (hI.rho b hb),by rw[jk];exact Nat.le_trans hI.len (EN _ _),(dt _ _ _).trans hI.size⟩
     unfold Oper.wp;rcases hy with hy|⟨hy,rfl⟩
     ·rw[hy];exact hnext
     ·rw[hy];exact hnext
    ·obtain ⟨b,t,x,y,u,ho⟩:=hv.op
     have he:execOp a.eval o=execOp s.env o:=execOp_congr o (fun cs b e=>by rw[ho] at e;cases e) (fun y hy=>by
      have:=List.all_eq_true.1 hv.plain y (Array.mem_toList_iff.2 hy);obtain ⟨u,hu⟩:=Option.isSome_iff_exists.1 this;rw[hI.rel.gp hu,St.env,hu];rfl)
     unfold Oper.wp;rw[he,hv.run w];exact hK _ _ _ _ κ ρ h ⟨hI.rel.put (lT hdst hI.size) (fun t _=>vC v) (DH _ v),hI.fr,hI.rho,by rw[jk];exact hI.len,(dt _ _ _).trans hI.size⟩
  ·rename_i htt
   have:t=false:=by simpa using htt
   subst this;simp only[Bool.false_eq_true,if_false];exact hK _ _ _ _ κ ρ h ⟨hI.rel.put (lT hdst hI.size) (fun t _=>rfl) rfl,hI.fr,hI.rho,by rw[jk];exact hI.len,(dt _ _ _).trans hI.size⟩
theorem CN {o:Oper} {s:St} {K:St->Prop} (hdst:mC N o=true) (h:QA P ops o s K) {a:Act} {w:World} {κ:Nat->BK} {ρ:Nat->Nat} (hI:In N n0 w0 κ0 ρ0 s a w κ ρ) {next:Act->World->Prop} {Q:Exit->Act->World->Prop}
  (hK: ∀ s a w κ ρ,K s->In N n0 w0 κ0 ρ0 s a w κ ρ->next a w):
  if Region.wanted o (yielded ops a.tmps) then o.wp P a w next Q\/(o.asks P a w/\LetsOut Q) else next (a.put o.dst undef) w:=by
 obtain ⟨ht,f,xs,hc,bs,args',Hs,Q',hO,h1,h2,h3,h4,h5,h7,hk⟩:=h;rw[qH ht hI.rel];simp only[if_true];left;unfold Oper.wp;rw[kR rfl hc hO.fn];refine (rX (L:=[]) hO h1 h2 h3 h4 h5 h7 (by simp) (fun r Hs' hq=>⟨(hk r Hs' hq).1,.inl rfl⟩) hI.rel).mono ?_;rintro e w' ⟨r,Hs',hq,v,κ',ρ',rfl,hR',hr,hrok,hfr,hρ⟩;refine hK _ _ _ κ' ρ' (hk r Hs' hq).2 ⟨hR'.put (lT hdst hI.size) (fun t _=>hr _) hrok,hI.fr.trans hfr,fun b hb=>(hρ b (Nat.lt_of_lt_of_le hb hI.len)).trans (hI.rho b hb),?_,(dt _ _ _).trans hI.size⟩;rw[jk];refine Nat.le_trans hI.len ?_;have e1:Hs.length=bs.length:=by simpa using congrArg List.length h3
 have e2:=(hO.res _ _ hq).2.2;show s.H.length<=(bt s.H bs (Hs'.map (cV (sig s.H.length bs)))).length
 rw[gx _ _ _ (by simp;omega)];omega
theorem CO {o:Oper} {s:St} {K:St->Prop} (hdst:mC N o=true) (h:QB P ops o s K) {a:Act} {w:World} {κ:Nat->BK} {ρ:Nat->Nat} (hI:In N n0 w0 κ0 ρ0 s a w κ ρ) {next:Act->World->Prop} {Q:Exit->Act->World->Prop}
  (hK: ∀ s a w κ ρ,K s->In N n0 w0 κ0 ρ0 s a w κ ρ->next a w):
  if Region.wanted o (yielded ops a.tmps) then o.wp P a w next Q\/(o.asks P a w/\LetsOut Q) else next (a.put o.dst undef) w:=by
 obtain ⟨ht,t,tx,x,y,sz,by_,zs,n,fs,ho,h1,h2,h3,h4,h5,h6,hk⟩:=h;rw[qH ht hI.rel];simp only[if_true];left;have hv:a.eval x= .slice none 0 0:=by
  have:=hI.rel.ev (l:= .slot 0) x;rw[h6] at this
  exact dR.1 this
 obtain ⟨cap,v,w',κ',ρ',k1,k2,k3,rfl,k5,k6⟩:=Aw ho h1 h2 h3 h4 h5 hI.rel hv;unfold Oper.wp;rw[k2];refine hK _ _ _ κ' ρ' (hk cap k1) ⟨k3.put (lT hdst hI.size) (fun t _=>rfl) ?_,hI.fr.trans k5,fun b hb=>(k6 b (Nat.lt_of_lt_of_le hb hI.len)).trans (hI.rho b hb),?_,(dt _ _ _).trans hI.size⟩
 ·simp[ad.ok,aa.ok]
 ·rw[jk]
  refine Nat.le_trans hI.len ?_;simp
theorem CM {o:Oper} {s:St} {K:St->Prop} (hdst:mC N o=true) (h:Qz P ops o s K) {a:Act} {w:World} {κ:Nat->BK} {ρ:Nat->Nat} (hI:In N n0 w0 κ0 ρ0 s a w κ ρ) {next:Act->World->Prop} {Q:Exit->Act->World->Prop}
  (hK: ∀ s a w κ ρ,K s->In N n0 w0 κ0 ρ0 s a w κ ρ->next a w):
  if Region.wanted o (yielded ops a.tmps) then o.wp P a w next Q\/(o.asks P a w/\LetsOut Q) else next (a.put o.dst undef) w:=by
 obtain ⟨ht,α,F,h1,h2,h3⟩:=h;rw[qH ht hI.rel];simp only[if_true];exact .inl (h2 _ _ _ _ hI.rel (lT hdst hI.size) _ _ fun x a' w' κ' ρ' hR hF hρ hs=>hK _ _ _ κ' ρ' (h3 x) ⟨hR,hI.fr.trans hF,fun b hb=>(hρ b (Nat.lt_of_lt_of_le hb hI.len)).trans (hI.rho b hb),Nat.le_trans hI.len (h1 x),hs.trans hI.size⟩)
theorem im {Q:Exit->Act->World->Prop} {K:St->Prop} (hK: ∀ s a w κ ρ,K s->In N n0 w0 κ0 ρ0 s a w κ ρ->Q .normal a w):
  ∀ (l:List Oper) (s:St) (a:Act) (w:World) (κ:Nat->BK) (ρ:Nat->Nat),l.all (mC N)=true->sR P ops l s K->In N n0 w0 κ0 ρ0 s a w κ ρ->wpList P ops Q l a w
 |[],s,a,w,κ,ρ,_,h,hI=>hK s a w κ ρ h hI
 |o::rest,s,a,w,κ,ρ,hd,h,hI=>by
  rw[List.all_cons,Bool.and_eq_true] at hd;rcases h with h|h
  ·exact nQ hd.1 h hI fun _ s a w κ ρ hk hI=>im hK rest s a w κ ρ hd.2 hk hI
  ·rcases h with h|h|⟨s2,hm,h⟩|h
   rotate_right
   ·exact CM hd.1 h hI fun s a w κ ρ hk hI=>im hK rest s a w κ ρ hd.2 hk hI
   rotate_right
   ·obtain ⟨κ2,hR2,hF2⟩:=hm.1.2 _ _ _ _ hI.rel
    exact nQ hd.1 h ⟨hR2,hI.fr.trans hF2,hI.rho,Nat.le_trans hI.len hm.1.1,hI.size⟩ fun _ s a w κ ρ hk hI=>im hK rest s a w κ ρ hd.2 hk hI
   ·exact CN hd.1 h hI fun s a w κ ρ hk hI=>im hK rest s a w κ ρ hd.2 hk hI
   ·exact CO hd.1 h hI fun s a w κ ρ hk hI=>im hK rest s a w κ ρ hd.2 hk hI
end
inductive bI where
 |normal
 |exit (id:Nat)
 |ret
def di (n0:Nat) (s s2:St):Prop:=n0<=s2.H.length/\ ∀ a w κ ρ,Rel s a w κ ρ-> ∃ κ',Rel s2 a w κ' ρ/\Fr w κ w κ'
theorem di.i {n0:Nat} {s s2:St} (h0:n0<=s2.H.length) (h: ∀ a w κ ρ,Rel s a w κ ρ->Rel s2 a w κ ρ):di n0 s s2:=⟨h0,fun a w κ ρ k=>⟨κ,h a w κ ρ k,Fr.refl _ _⟩⟩
theorem di.refl {n0:Nat} {s:St} (h:n0<=s.H.length):di n0 s s:= .i h fun _ _ _ _ h=>h
theorem di.trans {n0:Nat} {a b c:St} (h:di n0 a b) (k:di n0 b c):di n0 a c:=⟨k.1,fun x w κ ρ hR=>by
 obtain ⟨κ1,h1,h2⟩:=h.2 x w κ ρ hR;obtain ⟨κ2,h3,h4⟩:=k.2 x w κ1 ρ h1;exact ⟨κ2,h3,h2.trans h4⟩⟩
def Ap (n0:Nat) (s:St) {α:Type} (F:α->St):Prop:=(∀ x,n0<=(F x).H.length)/\ ∀ a w κ ρ,Rel s a w κ ρ-> ∃ x κ' ρ',Rel (F x) a w κ' ρ'/\Fr w κ w κ'/\ ∀ b,b<n0->ρ' b=ρ b
def W (P:Program) (D:Array Oper->St->(St->Prop)->Prop) (n0:Nat):Code->St->(bI->St->Prop)->Prop
 | .skip,s,K=>K .normal s
 | .region _ ops false,s,K=>sR P ops ops.toList s (K .normal)
 | .region _ ops true,s,K=>D ops s (K .normal)
 | .seq a b,s,K=>W P D n0 a s fun e s'=>match e with
  | .normal=>W P D n0 b s' K\/(∃ s2,di n0 s' s2/\W P D n0 b s2 K)\/ ∃ (α:Type) (F:α->St),Ap n0 s' F/\ ∀ x,W P D n0 b (F x) K
  | .exit i=>K (.exit i) s'
  | .ret=>K .ret s'
 | .cond c a b,s,K=>match s.ev c with
  | .c (.f (.v (.bool t)))=>if t=true then W P D n0 a s K else W P D n0 b s K
  |_=>False
 | .block id c,s,K=>W P D n0 c s fun e s'=>match e with
  | .normal=>K .normal s'
  | .exit j=>if j=id then K .normal s' else K (.exit j) s'
  | .ret=>K .ret s'
 | .loop c,s,K=> ∃ (α:Type) (I:α->St->Prop) (μ:α->Nat) (x0:α),(∃ s0,di n0 s s0/\I x0 s0)/\ ∀ x s1,I x s1->W P D n0 c s1 fun e s'=>match e with
  | .normal=> ∃ y s2,di n0 s' s2/\I y s2/\μ y<μ x
  | .exit i=>K (.exit i) s'
  | .ret=>K .ret s'
 | .exit id,s,K=>K (.exit id) s
 | .ret,s,K=>K .ret s
 |_,_,_=>False
def codeOk (N:Nat):Code->Bool
 | .region _ ops _=>ops.toList.all (mC N)
 | .seq a b=>codeOk N a&&codeOk N b
 | .cond _ a b=>codeOk N a&&codeOk N b
 | .block _ c=>codeOk N c
 | .loop c=>codeOk N c
 |_=>true
def R3 (N n0:Nat) (w0:World) (κ0:Nat->BK) (ρ0:Nat->Nat) (K:bI->St->Prop):Exit->Act->World->Prop
 | .normal,a,w=> ∃ s κ ρ,K .normal s/\In N n0 w0 κ0 ρ0 s a w κ ρ
 | .exit id,a,w=> ∃ s κ ρ,K (.exit id) s/\In N n0 w0 κ0 ρ0 s a w κ ρ
 | .ret,a,w=> ∃ s κ ρ,K .ret s/\In N n0 w0 κ0 ρ0 s a w κ ρ
 |_,_,_=>False
theorem wE {P:Program} {Q:Exit->Act->World->Prop} {a:Act} {w:World} {c:Code} {α:Type} (I:α->Act->World->Prop) (μ:α->Nat) (x0:α) (h₀:I x0 a w)
  (round: ∀ x a w,I x a w->c.wp P (Exit.then (fun a' w'=> ∃ y,I y a' w'/\μ y<μ x) Q) a w):(Code.loop c).wp P Q a w:=by
 intro b k cs;have key: ∀ n x a w,μ x=n->I x a w-> ∃ e a' w',Q e a' w'/\Arrives P (lone (b.at a (.code c:: .inLoop c::k)) cs w) b k cs e a' w':=by
  intro n
  induction n using Nat.strongRecOn with
  |_ n ih=>
   intro x a w hn hI;obtain ⟨e,a₁,w₁,hq,harr⟩:=round x a w hI b (.inLoop c::k) cs;cases e with
   |normal=>
    obtain ⟨y,hI₁,hlt⟩:=hq;obtain ⟨e₂,a₂,w₂,hq₂,harr₂⟩:=ih (μ y) (hn▸hlt) y a₁ w₁ rfl hI₁;exact ⟨e₂,a₂,w₂,hq₂,.of_steps (Steps.trans harr (.one step_inLoop)) harr₂⟩
   |exit id=>exact ⟨_,a₁,w₁,hq,.pass (x:= .inLoop c) rfl (fun _ _=> .inl (by simp)) harr⟩
   |goto l=>exact ⟨_,a₁,w₁,hq,.pass (x:= .inLoop c) rfl (fun _ _=> .inl (by simp)) harr⟩
   |ret=>exact ⟨_,a₁,w₁,hq,.pass (x:= .inLoop c) rfl (fun _ _=> .inl (by simp)) harr⟩
   |panic ch=>exact ⟨_,a₁,w₁,hq,.pass (x:= .inLoop c) rfl (fun _ _=> .inl (by simp)) harr⟩
   |outgrown=>exact ⟨_,a₁,w₁,hq,.pass (x:= .inLoop c) rfl (fun _ _=> .inl (by simp)) harr⟩
 obtain ⟨e,a',w',hq,harr⟩:=key _ x0 a w rfl h₀;exact ⟨e,a',w',hq,.of_steps (.one step_loop) harr⟩
def If (P:Program) (ops:Array Oper) (s:St) (K:St->Prop):Prop:=
 ∀ (id N n0:Nat) (w0:World) (κ0:Nat->BK) (ρ0:Nat->Nat) (a:Act) (w:World) (κ:Nat->BK) (ρ:Nat->Nat),In N n0 w0 κ0 ρ0 s a w κ ρ->
  ops.toList.all (mC N)=true-> ∀ Q:Exit->Act->World->Prop,(∀ s a w κ ρ,K s->In N n0 w0 κ0 ρ0 s a w κ ρ->Q .normal a w)->(Code.region id ops true).wp P Q a w
def oH (P:Program) (D:Array Oper->St->(St->Prop)->Prop):Prop:=
 ∀ (id:Nat) (ops:Array Oper) (s:St) (K:St->Prop),D ops s K-> ∀ (N n0:Nat) (w0:World) (κ0:Nat->BK) (ρ0:Nat->Nat) (a:Act) (w:World) (κ:Nat->BK) (ρ:Nat->Nat),In N n0 w0 κ0 ρ0 s a w κ ρ->
  ops.toList.all (mC N)=true-> ∀ Q:Exit->Act->World->Prop,(∀ s a w κ ρ,K s->In N n0 w0 κ0 ρ0 s a w κ ρ->Q .normal a w)->(Code.region id ops true).wp P Q a w
theorem gI {P:Program} {D:Array Oper->St->(St->Prop)->Prop} (hD:oH P D) {N n0:Nat} {w0:World} {κ0:Nat->BK} {ρ0:Nat->Nat}: ∀ (c:Code) (s:St) (K:bI->St->Prop) (a:Act) (w:World) (κ:Nat->BK) (ρ:Nat->Nat),codeOk N c=true->W P D n0 c s K->In N n0 w0 κ0 ρ0 s a w κ ρ->c.wp P (R3 N n0 w0 κ0 ρ0 K) a w
 | .skip,s,K,a,w,κ,ρ,hc0,h,hI=>wp_skip ⟨s,κ,ρ,h,hI⟩
 | .region id ops false,s,K,a,w,κ,ρ,hc0,h,hI=>wp_region_list (im (fun s a w κ ρ hk hI=>⟨s,κ,ρ,hk,hI⟩) _ s a w κ ρ hc0 h hI)
 | .region id ops true,s,K,a,w,κ,ρ,hc0,h,hI=>hD id ops s _ h N n0 w0 κ0 ρ0 a w κ ρ hI hc0 _ (fun s a w κ ρ hk hI=>⟨s,κ,ρ,hk,hI⟩)
 | .seq x y,s,K,a,w,κ,ρ,hc0,h,hI=>by
  simp only[codeOk,Bool.and_eq_true] at hc0;refine wp_seq (wp_mono (gI hD x s _ a w κ ρ hc0.1 h hI) fun e a' w' hq=> ?_);cases e with
  |normal=>
   obtain ⟨s',κ',ρ',hk,hI'⟩:=hq;rcases hk with hk|⟨s2,hw,hk⟩|⟨α,F,hw,hk⟩
   rotate_right
   ·obtain ⟨x2,κ2,ρ2,hR2,hF2,hρ2⟩:=hw.2 _ _ _ _ hI'.rel
    exact gI hD y (F x2) K a' w' κ2 ρ2 hc0.2 (hk x2) ⟨hR2,hI'.fr.trans hF2,fun b hb=>(hρ2 b hb).trans (hI'.rho b hb),hw.1 x2,hI'.size⟩
   ·exact gI hD y s' K a' w' κ' ρ' hc0.2 hk hI'
   ·obtain ⟨κ2,hR2,hF2⟩:=hw.2 _ _ _ _ hI'.rel
    exact gI hD y s2 K a' w' κ2 ρ' hc0.2 hk ⟨hR2,hI'.fr.trans hF2,hI'.rho,hw.1,hI'.size⟩
  |exit i=>exact hq
  |ret=>exact hq
  |goto l=>exact hq
  |panic ch=>exact hq
  |outgrown=>exact hq
 | .cond c x y,s,K,a,w,κ,ρ,hc0,h,hI=>by
  simp only[codeOk,Bool.and_eq_true] at hc0;unfold W at h;split at h
  ·rename_i t ht
   have hc:a.eval c= .bool t:=hI.rel.gp (by rw[ht];rfl);refine wp_cond hc ?_;split at h
   ·rename_i htt;rw[htt];exact gI hD x s K a w κ ρ hc0.1 h hI
   ·rename_i htt;rw[if_neg htt];exact gI hD y s K a w κ ρ hc0.2 h hI
  ·cases h
 | .block id c,s,K,a,w,κ,ρ,hc0,h,hI=>by
  refine wp_block (wp_mono (gI hD c s _ a w κ ρ hc0 h hI) fun e a' w' hq=> ?_);cases e with
  |normal=>exact hq
  |exit i=>
   obtain ⟨s',κ',ρ',hk,hI'⟩:=hq;simp only[Exit.inBlock];by_cases e:i=id
   ·simp only[if_pos e] at hk⊢
    exact ⟨s',κ',ρ',hk,hI'⟩
   ·simp only[if_neg e] at hk⊢
    exact ⟨s',κ',ρ',hk,hI'⟩
  |ret=>exact hq
  |goto l=>exact hq
  |panic ch=>exact hq
  |outgrown=>exact hq
 | .loop c,s,K,a,w,κ,ρ,hc0,h,hI=>by
  obtain ⟨α,I,μ,x0,⟨s0,hw0,h0⟩,round⟩:=h;obtain ⟨κ2,hR2,hF2⟩:=hw0.2 _ _ _ _ hI.rel;refine wE (α:=α) (fun x a w=> ∃ s κ ρ,I x s/\In N n0 w0 κ0 ρ0 s a w κ ρ) μ x0 ⟨s0,κ2,ρ,h0,hR2,hI.fr.trans hF2,hI.rho,hw0.1,hI.size⟩ fun x a1 w1 h1=> ?_
  obtain ⟨s1,κ1,ρ1,hI1,hIn1⟩:=h1;refine wp_mono (gI hD c s1 _ a1 w1 κ1 ρ1 hc0 (round x s1 hI1) hIn1) fun e a' w' hq=> ?_
  cases e with
  |normal=>
   obtain ⟨s',κ',ρ',⟨y,s2,hw,hy,hlt⟩,hI'⟩:=hq;obtain ⟨κ2,hR2,hF2⟩:=hw.2 _ _ _ _ hI'.rel;exact ⟨y,⟨s2,κ2,ρ',hy,hR2,hI'.fr.trans hF2,hI'.rho,hw.1,hI'.size⟩,hlt⟩
  |exit i=>exact hq
  |ret=>exact hq
  |goto l=>exact hq
  |panic ch=>exact hq
  |outgrown=>exact hq
 | .exit id,s,K,a,w,κ,ρ,hc0,h,hI=>wp_exit ⟨s,κ,ρ,h,hI⟩
 | .ret,s,K,a,w,κ,ρ,hc0,h,hI=>wp_ret ⟨s,κ,ρ,h,hI⟩
 | .rangeFunc ..,_,_,_,_,_,_,_,h,_=>by cases h
 | .scope ..,_,_,_,_,_,_,_,h,_=>by cases h
 | .label ..,_,_,_,_,_,_,_,h,_=>by cases h
 | .goto ..,_,_,_,_,_,_,_,h,_=>by cases h
 | .refuse ..,_,_,_,_,_,_,_,h,_=>by cases h
end Go.Proofs.YtjkeeocnekggfaaGreat.Av
