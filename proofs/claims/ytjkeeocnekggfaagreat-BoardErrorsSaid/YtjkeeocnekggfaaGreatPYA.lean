import Derived.Test.YtjkeeocnekggfaaGreatProg
import Derived.WalkKit
import Derived.Below
import Derived.Orders
import Derived.Deep.MidRow
import Derived.Laws.MakeOwn
import Derived.Deep.AppendSrc
import Derived.Deep.Upon
import Derived.Laws.Tables
import Derived.Laws.IdiomStrings
import Derived.MapKept
import Derived.WideKeyRuns
import Derived.Tactics
import Derived.Lib.Hide
import Derived.Outline
import Derived.LoopTactic
import Derived.RowKit3
import Derived.Deep.QuietTactic
import Derived.BigQuiet
import Derived.Maps.Own
import Derived.Deep.OwnRows
import Derived.Deep.AppendLies
import Derived.StillTail
import Derived.Deep.Quiet
import Derived.RegionTactic
import Derived.ChangeAlike
import Derived.Deep.RegionLaw
import Derived.Maps.OwnOps
import Derived.Maps.Views
import Derived.StringKeys
import Derived.Lib.AppendZeros
import Derived.Lib.AppendZerosOnto
import Derived.Lib.Overlaps
import Derived.WideShapes
import Derived.OpenShut
import Derived.ProofKit
import Derived.Deep.Slices
import Derived.Deep.Fields
import Derived.ChangeSame
set_option linter.defProp false
set_option linter.unusedVariables false
set_option linter.unusedSimpArgs false
set_option maxRecDepth 4000
set_option maxHeartbeats 4000000
open Array renaming getElem_toList->acA,mem_toList_iff->acJ,getElem_setIfInBounds->acX,getElem_append_left->ac1,getElem?_eq_none->ada,eq_empty_of_size_eq_zero->adL,getElem_append_right->ad5,getElem?_eq_getElem->ad9,getElem?_toList->aef,getElem_extract->aeg,getD->aew,getElem_mem->aeE,size_append->aeZ,toList_map->ae4,ext->afk
open Bool renaming and_eq_true->aca
open Go.Addr renaming add_mid->acG
open Go.Builtin renaming firstCells->abA,zeroCells->abO,copy_->ad2,len_->afm,append_->afn,lenOf->afo
open Go.Instr renaming sliceBounds->acB,sameBits->acK,findAsking->acL,sureAddr->adx,indexAt->adC,sliceAt->adE,findKey->adF,loadAt->adI,sliceBound->adK,slice->adQ,fill->ad1,storeAt->aea,lookup->aed,keyThatStays->aeC,buildSlice->ae6,checkKey->afa,fieldAt->afe
open Go.Oper renaming wp->adJ
open Go.Region renaming wanted->acR
open Go.Result renaming andThen_ok->abP
open Go.Sem renaming run_bind->ab5,run->acz,run_pure->afi
open Go.Value renaming int->acP,oneCell'->adX,agg->afl
open Go.World renaming cell?->ady,cell?_setCells_out->aeb,cell?_of_block->aeh,setCell->aff,frozen?->afg
open Int renaming le_refl->acV
open List renaming getElem_mem->abg,all_eq_true->abh,getElem_map->abi,getElem?_eq_some_iff->abj,mem_iff_getElem->abk,getElem?_eq_none->abr,mem_map->abt,length_cons->aby,getElem_toArray->abz,getElem_take->abV,getElem_drop->ab2,mem_of_getElem?->acC,length_append->acH,getElem_append_right->acM,getElem_append_left->acO,getElem?_map->acQ,length_take->acS,map_cons->acT,eq_nil_of_length_eq_zero->acU,getElem_modify->acY,length_modify->acZ,getElem?_append_right->ac0,getElem?_append_left->ac2,mem_cons->ac7,length_drop->ac8,length_nil->adw,mem_of_mem_take->adA,mem_singleton->adH,length->adT,length_set->adV,all_cons->aec,getElem?_set_ne->aei,mem_of_mem_drop->aes,mem_cons_of_mem->aet,range->aeD,nil_append->ae9,nodup_cons->afb,mem_append->afd
open Nat renaming lt_of_lt_of_le->abq,lt_or_ge->abw,le_refl->acD,mul_le_mul_right->acE,le_trans->acI,zero_add->acN,add_mul->adB,add_assoc->adG,mod_lt->ae3,le_add_right->ae7,min_le_left->afh,add_zero->afj
open Option renaming map_eq_some_iff->acF,isSome_iff_exists->ad8,getD_none->ae2
namespace Go.Proofs.YtjkeeocnekggfaaGreat
def aak:=@if_neg
def aaN:=@if_pos
section
def GD.{u} {α:Type u} {l:List α} {i:Nat} {a:α}:l.getD i a=l[i]?.getD a:=@List.getD_eq_getElem?_getD α l i a
def GE.{u} {α:Type u} {l:List α} {i:Nat} (h:i<l.length):l[i]? =some l[i]:=List.getElem?_eq_getElem h
end
namespace Av
variable {f:Nat} {g:Nat} {ks:List Int} {off:Nat} {sz:Nat} {tx:TypeId} {v:Value} {y:Operand} {α:Type}
inductive au where
 |v (x:Value)
 |aD
 |row (cs:List au) (len:Nat)
 |ip (cs:List au) (off:Nat)
inductive ab where
 |f (x:au)
 |ptr (b off:Nat)
 |arr (b off len cap:Nat)
 |bB (q:Bool) (sz:Nat) (cs:List au) (len:Nat)
 |tV
 |any
 |mh (b:Nat)
 |mp (q:Bool) (es:List (List Int×List au))
abbrev ab.ip (cs:List au) (off:Nat):ab:= .f (.ip cs off)
inductive bJ where
 |c (x:ab)
 |agg (cs:List ab)
inductive al where
 |c (x:ab)
 |agg (cs:List ab)
 |dt (l:List bJ)
inductive Loc where
 |slot (i:Nat)
 |cell (b i:Nat)
inductive BK where
 |lock (n:Option Nat)
 |bB (n:Nat) (l:Loc)
 |wr (b:Nat)
def BK.fits:BK->Nat->Prop
 | .lock none,_=>True
 | .lock (some m),n=>n<=m
 | .bB m _,n=>n<=m
 | .wr _,n=>n<=0
def BK.yk {k:BK} {m n:Nat} (h:k.fits n) (hm:m<=n):k.fits m:=by
 cases k with
 |lock o=>cases o<;>simp[BK.fits]at*;omega
 |bB a l=>simp[BK.fits]at*;omega
 |wr b=>simp[BK.fits]at*;omega
inductive cQ (w:World) (κ:Nat->BK):au->Value->Prop
 |v (x:Value) (h:x.oneCell'=true):cQ w κ (.v x) x
 |aD:cQ w κ .aD (.slice none 0 0)
 |row (cs:List au) (len g o cap:Nat) (xs:Nat->Value) (hc: ∀ i,i<cs.length->w.cell? ⟨g,o+i,none⟩=some (xs i))
  (hr: ∀ i (h:i<cs.length),cQ w κ cs[i] (xs i)) (hf:cs≠[]->g<w.heap.size/\(κ g).fits (o+cs.length)) (hl:len<=cap):
  cQ w κ (.row cs len) (.slice (some ⟨g,o,none⟩) len cap)
 |tL (A:Option Addr):cQ w κ (.row [] 0) (.slice A 0 0)
 |ip (cs:List au) (off g o:Nat) (xs:Nat->Value) (hc: ∀ i,i<cs.length->w.cell? ⟨g,o+i,none⟩=some (xs i))
  (hr: ∀ i (h:i<cs.length),cQ w κ cs[i] (xs i)) (hf:cs≠[]->g<w.heap.size/\(κ g).fits (o+cs.length)):
  cQ w κ (.ip cs off) (.pointer (some ⟨g,o+off,none⟩))
structure jD (w:World) (κ:Nat->BK) (g o:Nat) (cs:List au):Prop where
 cell: ∀ i (h:i<cs.length),∃ x,w.cell? ⟨g,o+i,none⟩=some x/\cQ w κ cs[i] x
 fits:cs≠[]->g<w.heap.size/\(κ g).fits (o+cs.length)
def AP {w:World} {κ:Nat->BK} {cs:List au} {len:Nat} :cQ w κ (.row cs len) v↔(∃ g o cap,v= .slice (some ⟨g,o,none⟩) len cap/\len<=cap/\jD w κ g o cs)\/(cs=[]/\len=0/\ ∃ A,v= .slice A 0 0):=by
 constructor
 ·intro h
  cases h with
  |row _ _ g o cap xs hc hr hf hl=>exact .inl ⟨g,o,cap,rfl,hl,fun i h=>⟨xs i,hc i h,hr i h⟩,hf⟩
  |tL A=>exact .inr ⟨rfl,rfl,A,rfl⟩
 ·rintro(⟨g,o,cap,rfl,hl,hc,hf⟩|⟨rfl,rfl,A,rfl⟩)
  rotate_left
  ·exact .tL A
  refine .row cs len g o cap (fun i=>if h:i<cs.length then(hc i h).choose else default) (fun i h=> ?_) (fun i h=> ?_) hf hl
  ·simp[h,dite_true];exact(hc i h).choose_spec.1
  ·simp[h,dite_true];exact(hc i h).choose_spec.2
def iI {w:World} {κ:Nat->BK} {cs:List au} {len:Nat} (h: ∃ g o cap,v= .slice (some ⟨g,o,none⟩) len cap/\len<=cap/\jD w κ g o cs):cQ w κ (.row cs len) v:=AP.2 (.inl h)
def vk {w:World} {κ:Nat->BK} {cs:List au} :cQ w κ (.ip cs off) v↔ ∃ g o,v= .pointer (some ⟨g,o+off,none⟩)/\jD w κ g o cs:=by
 constructor
 ·intro h
  cases h with
  |ip _ _ g o xs hc hr hf=>exact⟨g,o,rfl,fun i h=>⟨xs i,hc i h,hr i h⟩,hf⟩
 ·rintro⟨g,o,rfl,hc,hf⟩
  refine .ip cs off g o (fun i=>if h:i<cs.length then(hc i h).choose else default) (fun i h=> ?_) (fun i h=> ?_) hf
  ·simp[h,dite_true];exact(hc i h).choose_spec.1
  ·simp[h,dite_true];exact(hc i h).choose_spec.2
def gk {w:World} {κ:Nat->BK} {x:Value}:cQ w κ (.v x) v↔v=x/\x.oneCell'=true:=⟨fun h=>by cases h;exact⟨rfl,‹_›⟩,fun h=>h.1▸ .v _ (h.1▸h.2)⟩
def eU {w:World} {κ:Nat->BK} :cQ w κ .aD v↔v= .slice none 0 0:=⟨fun h=>by cases h;rfl,fun h=>h▸ .aD⟩
structure gS (w:World) (κ:Nat->BK) (w':World) (κ':Nat->BK):Prop where
 size:w.heap.size<=w'.heap.size
 cell: ∀ g o x,g<w.heap.size->(κ g).fits (o+1)->w.cell? ⟨g,o,none⟩=some x->w'.cell? ⟨g,o,none⟩=some x
 fits: ∀ g n,g<w.heap.size->(κ g).fits n->(κ' g).fits n
def gS.refl (w:World) (κ:Nat->BK):gS w κ w κ:=⟨acD _,fun _ _ _ _ _ h=>h,fun _ _ _ h=>h⟩
def gS.trans {a b c:World} {α β γ:Nat->BK} (h:gS a α b β) (k:gS b β c γ):gS a α c γ:=
  ⟨acI h.size k.size,fun g o x hg hf hx=>k.cell g o x (abq hg h.size) (h.fits g _ hg hf) (h.cell g o x hg hf hx),
   fun g n hg hf=>k.fits g n (abq hg h.size) (h.fits g n hg hf)⟩
def cQ.grow {w w':World} {κ κ':Nat->BK} (G:gS w κ w' κ') {x:au} (h:cQ w κ x v):cQ w' κ' x v:=by
 induction h with
 |v x hx=>exact .v x hx
 |aD=>exact .aD
 |tL A=>exact .tL A
 |row cs len g o cap xs hc hr hf hl ih=>
  refine .row cs len g o cap xs (fun i hi=> ?_) ih (fun hne=> ?_) hl
  ·have⟨hg,lq⟩:=hf (by intro e;rw[e]at hi;simp at hi)
   exact G.cell g (o+i) _ hg (BK.yk lq (by omega)) (hc i hi)
  ·have⟨hg,lq⟩:=hf hne
   exact⟨abq hg G.size,G.fits g _ hg lq⟩
 |ip cs off g o xs hc hr hf ih=>
  refine .ip cs off g o xs (fun i hi=> ?_) ih (fun hne=> ?_)
  ·have⟨hg,lq⟩:=hf (by intro e;rw[e]at hi;simp at hi)
   exact G.cell g (o+i) _ hg (BK.yk lq (by omega)) (hc i hi)
  ·have⟨hg,lq⟩:=hf hne
   exact⟨abq hg G.size,G.fits g _ hg lq⟩
def cQ.one {w:World} {κ:Nat->BK} {x:au} (h:cQ w κ x v):v.oneCell'=true:=by
 cases h with
 |v x hx=>exact hx
 |aD=>rfl
 |row=>rfl
 |tL=>rfl
 |ip=>rfl
def jD.take {w:World} {κ:Nat->BK} {g o:Nat} {cs:List au} (h:jD w κ g o cs) (n:Nat):jD w κ g o (cs.take n):=by
 refine⟨fun i hi=> ?_,fun hne=> ?_⟩
 ·rw[acS]at hi
  have⟨x,hx,hr⟩:=h.cell i (by omega);exact⟨x,hx,by rw[abV];exact hr⟩
 ·have⟨hg,lq⟩:=h.fits (by intro e;rw[e]at hne;simp at hne)
  exact⟨hg,BK.yk lq (by rw[acS];omega)⟩
def jD.drop {w:World} {κ:Nat->BK} {g o:Nat} {cs:List au} (h:jD w κ g o cs) (n:Nat) (hn:n<=cs.length):jD w κ g (o+n) (cs.drop n):=by
 refine⟨fun i hi=> ?_,fun hne=> ?_⟩
 ·rw[ac8]at hi
  have⟨x,hx,hr⟩:=h.cell (n+i) (by omega);exact⟨x,by rw[show o+n+i=o+(n+i)by omega];exact hx,by rw[ab2];exact hr⟩
 ·have⟨hg,lq⟩:=h.fits (by intro e;rw[e]at hne;simp at hne)
  exact⟨hg,BK.yk lq (by rw[ac8];omega)⟩
def yy (q:Bool) (n:Nat):Nat:=bif q then n else 0
def YQ (q:Bool) (n:Nat):yy q n<=n:=by cases q<;>simp[yy]
structure nn (w:World) (κ:Nat->BK) (l:Loc) (q:Bool) (sz:Nat) (cs:List au) (len:Nat) (g cap:Nat):Prop where
 cell: ∀ i (h:i<cs.length),∃ x,w.cell? ⟨g,0+i,none⟩=some x/\cQ w κ cs[i] x
 lt:g<w.heap.size
 cut:cs.length=len*sz
 own:κ g= .bB (yy q cs.length) l
 le:len<=cap
 eu: ∃ c e,w.heap[g]? =some (.cells c e (0,0))/\c.size=cap*sz
def nn.row {w:World} {κ:Nat->BK} {l:Loc} {cs:List au} {len cap:Nat} (h:nn w κ l true sz cs len g cap):jD w κ g 0 cs:=
 ⟨h.cell,fun _=>⟨h.lt,by rw[h.own];simp[BK.fits,yy]⟩⟩
def nn.mv {w w':World} {κ κ':Nat->BK} {l l':Loc} {q:Bool} {cs:List au} {len cap:Nat} (h:nn w κ l q sz cs len g cap) (K:gS w κ w' κ') (h1:κ' g= .bB (yy q cs.length) l') (h2:w'.heap[g]? =w.heap[g]?):nn w' κ' l' q sz cs len g cap:=
 ⟨fun i hi=>by have⟨x,hx,hr⟩:=h.cell i hi;exact⟨x,(aeh (w:=w) h2).trans hx,hr.grow K⟩,abq h.lt K.size,h.cut,h1,h.le,by rw[h2];exact h.eu⟩
def bZ (w:World) (κ:Nat->BK) (ρ:Nat->Nat) (l:Loc):ab->Value->Prop
 | .f x,v=>cQ w κ x v
 | .ptr b off,v=>v= .pointer (some ⟨ρ b,off,none⟩)
 | .arr b off len cap,v=>v= .slice (some ⟨ρ b,off,none⟩) len cap
 | .bB q sz cs len,v=>(∃ g cap,v= .slice (some ⟨g,0,none⟩) len cap/\nn w κ l q sz cs len g cap)\/(cs=[]/\len=0/\v= .slice none 0 0)
 | .tV,v=>v=undef
 | .any,_=>True
 | .mh b,v=>v= .map (some (ρ b))
 | .mp ..,_=>False
def ab.flat:ab->Bool
 | .bB .. =>false
 | .mp .. =>false
 |_=>true
def fJ (w:World) (κ:Nat->BK) (ρ:Nat->Nat) (l:Loc):bJ->Value->Prop
 | .c x,v=>x.flat=true/\bZ w κ ρ l x v
 | .agg cs,v=> ∃ vs:Array Value,v= .agg vs/\vs.size=cs.length/\ ∀ i (h:i<cs.length) (h':i<vs.size),cs[i].flat=true/\bZ w κ ρ l cs[i] vs[i]
def cm (w:World) (κ:Nat->BK) (ρ:Nat->Nat) (l:Loc):al->Value->Prop
 | .c x,v=>bZ w κ ρ l x v
 | .agg cs,v=>fJ w κ ρ l (.agg cs) v
 | .dt ts,v=> ∃ vs:Array Value,v= .tuple vs/\vs.size=ts.length/\ ∀ i (h:i<ts.length) (h':i<vs.size),fJ w κ ρ l ts[i] vs[i]
def ab.ok (n:Nat):ab->Bool
 | .ptr b _=>decide (b<n)
 | .arr b _ _ _=>decide (b<n)
 | .mh b=>decide (b<n)
 |_=>true
def bJ.ok (n:Nat):bJ->Bool
 | .c x=>x.ok n
 | .agg cs=>cs.all (ab.ok n)
def al.ok (n:Nat):al->Bool
 | .c x=>x.ok n
 | .agg cs=>cs.all (ab.ok n)
 | .dt ts=>ts.all (bJ.ok n)
def ab.iO {n m:Nat} (h:n<=m): ∀ x:ab,x.ok n=true->x.ok m=true
 | .ptr b _,k=>by simp[ab.ok]at*;omega
 | .arr b _ _ _,k=>by simp[ab.ok]at*;omega
 | .f _,_=>rfl
 | .bB _ _ _ _,_=>rfl
 | .tV,_=>rfl
 | .any,_=>rfl
 | .mh b,k=>by simp[ab.ok]at*;omega
 | .mp _ _,_=>rfl
def bJ.iO {n m:Nat} (h:n<=m): ∀ x:bJ,x.ok n=true->x.ok m=true
 | .c x,k=>x.iO h k
 | .agg cs,k=>by simp[bJ.ok,abh]at*;exact fun x hx=>x.iO h (k x hx)
def al.iO {n m:Nat} (h:n<=m): ∀ x:al,x.ok n=true->x.ok m=true
 | .c x,k=>x.iO h k
 | .agg cs,k=>by simp[al.ok,abh]at*;exact fun x hx=>x.iO h (k x hx)
 | .dt cs,k=>by simp[al.ok,abh]at*;exact fun x hx=>x.iO h (k x hx)
structure Dz (w:World) (κ:Nat->BK) (w':World) (κ':Nat->BK) (l l':Loc):Prop where
 grow:gS w κ w' κ'
 bB: ∀ g n,g<w.heap.size->κ g= .bB n l->κ' g= .bB n l'/\w'.heap[g]? =w.heap[g]?
def bZ.gp {w w':World} {κ κ':Nat->BK} {ρ ρ':Nat->Nat} {l l':Loc} {n:Nat} (K:gS w κ w' κ') (hρ: ∀ b,b<n->ρ' b=ρ b):
  ∀ {x:ab} {v:Value},x.ok n=true->(∀ q sz cs len,x= .bB q sz cs len->Dz w κ w' κ' l l')->bZ w κ ρ l x v->bZ w' κ' ρ' l' x v
 | .f x,v,_,_,h=>cQ.grow K h
 | .ptr b off,v,hn,_,h=>by
  have hb:b<n:=by simpa[ab.ok]using hn
  show v=_;rw[hρ b hb];exact h
 | .arr b off len cap,v,hn,_,h=>by
  have hb:b<n:=by simpa[ab.ok]using hn
  show v=_;rw[hρ b hb];exact h
 | .bB q sz cs len,v,_,ht,h=>by
  obtain⟨g,cap,rfl,hT⟩|h:=h
  rotate_left
  ·exact .inr h
  left;have hk:=(ht _ _ _ _ rfl);have⟨h1,h2⟩:=hk.bB g _ hT.lt hT.own;exact⟨g,cap,rfl,hT.mv K h1 h2⟩
 | .tV,_,_,_,h=>h
 | .any,_,_,_,_=>trivial
 | .mh b,v,hn,_,h=>by
  have hb:b<n:=by simpa[ab.ok]using hn
  show v=_;rw[hρ b hb];exact h
 | .mp ..,_,_,_,h=>h
def fJ.gp {w w':World} {κ κ':Nat->BK} {ρ ρ':Nat->Nat} {l l':Loc} {n:Nat} (K:gS w κ w' κ') (hρ: ∀ b,b<n->ρ' b=ρ b):
  ∀ {x:bJ} {v:Value},x.ok n=true->fJ w κ ρ l x v->fJ w' κ' ρ' l' x v
 | .c x,v,hn,h=>⟨h.1,bZ.gp K hρ hn (fun _ _ _ _ e=>by rw[e]at h;cases h.1) h.2⟩
 | .agg cs,v,hn,h=>by
  obtain⟨vs,rfl,hs,hi⟩:=h;refine⟨vs,rfl,hs,fun i h h'=>⟨(hi i h h').1,bZ.gp K hρ (abh.1 hn _ (abg h)) (fun _ _ _ _ e=> ?_) (hi i h h').2⟩⟩;have:=(hi i h h').1;rw[e]at this;cases this
def cm.gp {w w':World} {κ κ':Nat->BK} {ρ ρ':Nat->Nat} {l l':Loc} {n:Nat} (K:gS w κ w' κ') (hρ: ∀ b,b<n->ρ' b=ρ b):
  ∀ {x:al} {v:Value},x.ok n=true->(∀ q sz cs len,x= .c (.bB q sz cs len)->Dz w κ w' κ' l l')->cm w κ ρ l x v->cm w' κ' ρ' l' x v
 | .c x,v,hn,ht,h=>bZ.gp K hρ hn (fun q sz cs len e=>ht q sz cs len (by rw[e])) h
 | .agg cs,v,hn,_,h=>fJ.gp (x:= .agg cs) K hρ hn h
 | .dt ts,v,hn,_,h=>by
  obtain⟨vs,rfl,hs,hi⟩:=h;exact⟨vs,rfl,hs,fun i h h'=>fJ.gp K hρ (abh.1 hn _ (abg h)) (hi i h h')⟩
def ab.aZ:ab->ab
 | .bB true _ cs len=> .f (.row cs len)
 | .bB false _ _ len=> .f (.row [] len)
 | .mp .. => .any
 |x=>x
def al.aZ:al->al
 | .c x=> .c x.aZ
 |x=>x
def bZ.aZ {w:World} {κ:Nat->BK} {ρ:Nat->Nat} {l l':Loc}: ∀ {x:ab} {v:Value},bZ w κ ρ l x v->bZ w κ ρ l' x.aZ v
 | .f x,v,h=>h
 | .ptr b off,v,h=>h
 | .arr b off len cap,v,h=>h
 | .bB true sz cs len,v,h=>by
  obtain⟨g,cap,rfl,hT⟩|⟨rfl,rfl,rfl⟩:=h
  ·exact iI ⟨g,0,cap,rfl,hT.le,hT.row⟩
  ·exact .tL _
 | .bB false sz cs len,v,h=>by
  obtain⟨g,cap,rfl,hT⟩|⟨rfl,rfl,rfl⟩:=h
  ·exact iI ⟨g,0,cap,rfl,hT.le,⟨fun i hi=>by simp at hi,fun e=>absurd rfl e⟩⟩
  ·exact .tL _
 | .tV,_,h=>h
 | .any,_,_=>trivial
 | .mh b,_,h=>h
 | .mp ..,_,_=>trivial
def ab.Eh (x:ab) (q:Bool) (sz:Nat) (cs:List au) (len:Nat):x.aZ≠ .bB q sz cs len:=by
 cases x with
 |bB q'=>cases q'<;>(intro e;cases e)
 |_=>intro e;cases e
def al.Eh (x:al) (q:Bool) (sz:Nat) (cs:List au) (len:Nat):x.aZ≠ .c (.bB q sz cs len):=by
 cases x with
 |c x=>intro e;injection e with e;exact x.Eh _ _ _ _ e
 |_=>intro e;cases e
def ab.iZ (x:ab):x.aZ.flat=true:=by
 cases x with
 |bB q=>cases q<;>rfl
 |_=>rfl
def ab.yl {x:ab} (h:al.aZ (.c x)= .c x):x.flat=true:=by
 have h:al.c x.aZ= .c x:=h;injection h with h;rw[← h];exact x.iZ
def ab.iu {n:Nat} (x:ab) (h:x.ok n=true):x.aZ.ok n=true:=by
 cases x with
 |bB q=>cases q<;>rfl
 |_=>first|exact h|rfl
def ab.dC {x:ab} (h:x.flat=true):x.aZ=x:=by cases x<;>first|rfl|cases h
def bZ.loc {w:World} {κ:Nat->BK} {ρ:Nat->Nat} {l l':Loc} {x:ab} (hx:x.flat=true) (h:bZ w κ ρ l x v):bZ w κ ρ l' x v:=by
 have:=bZ.aZ (l':=l') h
 rwa [ab.dC hx]at this
def fJ.loc {w:World} {κ:Nat->BK} {ρ:Nat->Nat} {l l':Loc}: ∀ {x:bJ} {v:Value},fJ w κ ρ l x v->fJ w κ ρ l' x v
 | .c x,v,h=>⟨h.1,h.2.loc h.1⟩
 | .agg cs,v,h=>by
  obtain⟨vs,rfl,hs,hi⟩:=h;exact⟨vs,rfl,hs,fun i h h'=>⟨(hi i h h').1,(hi i h h').2.loc (hi i h h').1⟩⟩
def cm.aZ {w:World} {κ:Nat->BK} {ρ:Nat->Nat} {l l':Loc}: ∀ {x:al} {v:Value},cm w κ ρ l x v->cm w κ ρ l' x.aZ v
 | .c x,v,h=>bZ.aZ (l:=l) (l':=l') (x:=x) h
 | .agg cs,v,h=>fJ.loc (x:= .agg cs) h
 | .dt ts,v,h=>by
  obtain⟨vs,rfl,hs,hi⟩:=h;exact⟨vs,rfl,hs,fun i h h'=>(hi i h h').loc⟩
def al.iu {n:Nat} (x:al) (h:x.ok n=true):x.aZ.ok n=true:=by
 cases x with
 |c x=>exact x.iu h
 |agg cs=>exact h
 |dt ts=>exact h
def ab.nz:ab->ab
 | .f .aD=> .f (.row [] 0)
 |x=>x
def bJ.nz:bJ->bJ
 | .c x=> .c x.nz
 | .agg cs=> .agg (cs.map ab.nz)
def al.nz:al->al
 | .c x=> .c x.nz
 | .agg cs=> .agg (cs.map ab.nz)
 | .dt ts=> .dt (ts.map bJ.nz)
def ab.ER (x:ab):x.nz.flat=x.flat:=by
 cases x with
 |f y=>cases y<;>rfl
 |_=>rfl
def ab.HZ {n:Nat} (x:ab):x.nz.ok n=x.ok n:=by
 cases x with
 |f y=>cases y<;>rfl
 |_=>rfl
def N3 {n:Nat} (l:List ab):(l.map ab.nz).all (ab.ok n)=l.all (ab.ok n):=by
 induction l with
 |nil=>rfl
 |cons x l ih=>simp[acT,aec,ih,ab.HZ]
def bJ.HZ {n:Nat} (x:bJ):x.nz.ok n=x.ok n:=by
 cases x with
 |c x=>exact x.HZ
 |agg cs=>exact N3 cs
def bZ.nz {w:World} {κ:Nat->BK} {ρ:Nat->Nat} {l:Loc} {x:ab} {v:Value} (h:bZ w κ ρ l x v):bZ w κ ρ l x.nz v:=by
 cases x with
 |f y=>
  cases y with
  |aD=>have h:cQ w κ .aD v:=h;show cQ w κ (.row [] 0) v;rw[eU.1 h];exact .tL _
  |_=>exact h
 |_=>exact h
def fJ.nz {w:World} {κ:Nat->BK} {ρ:Nat->Nat} {l:Loc} {x:bJ} {v:Value} (h:fJ w κ ρ l x v):fJ w κ ρ l x.nz v:=by
 cases x with
 |c x=>exact⟨by rw[ab.ER];exact h.1,h.2.nz⟩
 |agg cs=>
  obtain⟨vs,rfl,hs,hi⟩:=h;refine⟨vs,rfl,by simpa using hs,fun i h h'=> ?_⟩;have hi2:i<cs.length:=by simpa using h
  rw[abi,ab.ER];exact⟨(hi i hi2 h').1,(hi i hi2 h').2.nz⟩
def cm.nz {w:World} {κ:Nat->BK} {ρ:Nat->Nat} {l:Loc} {x:al} {v:Value} (h:cm w κ ρ l x v):cm w κ ρ l x.nz v:=by
 cases x with
 |c x=>exact bZ.nz (x:=x) h
 |agg cs=>exact fJ.nz (x:= .agg cs) h
 |dt ts=>
  obtain⟨vs,rfl,hs,hi⟩:=h;refine⟨vs,rfl,by simpa using hs,fun i h h'=> ?_⟩;have hi2:i<ts.length:=by simpa using h
  rw[abi];exact(hi i hi2 h').nz
def al.YD (x:al):x.aZ.nz.aZ=x.aZ.nz:=by
 cases x with
 |c x=>
  show al.c _=al.c _;rw[ab.dC (by rw[ab.ER];exact ab.iZ x)]
 |agg cs=>rfl
 |dt ts=>rfl
def al.h (x:al):al:=x.aZ.nz
def al.L4 (x:al):x.h.aZ=x.h:=x.YD
def fq (f:Nat->α) (i:Nat) (x:α) (j:Nat):α:=if j=i then x else f j
def aQ (f:Nat->α) (i:Nat) (x:α):fq f i x i=x:=by unfold fq;rw[aaN rfl]
def aH (f:Nat->α) {i j:Nat} (x:α) (h:j≠i):fq f i x j=f j:=by unfold fq;rw[aak h]
structure St where
 sl:Nat->al
 H:List (Option (List ab))
def gf:List Int->Value
 |[n]=> .int .i64 n
 |l=> .agg (l.map (acP .i64)).toArray
def oU (w:World) (κ:Nat->BK):Bool->List au->Value->Prop
 |true,fs,v=> ∃ vs:Array Value,v= .agg vs/\vs.size=fs.length/\ ∀ i (h:i<fs.length) (h':i<vs.size),cQ w κ fs[i] vs[i]
 |false,fs,v=> ∃ x,fs=[x]/\cQ w κ x v
def oU.grow {w w':World} {κ κ':Nat->BK} (G:gS w κ w' κ') {q:Bool} {fs:List au} {v:Value} (h:oU w κ q fs v):oU w' κ' q fs v:=by
 cases q with
 |true=>
  have⟨vs,h1,h2,h3⟩:=h;exact⟨vs,h1,h2,fun i k k'=>(h3 i k k').grow G⟩
 |false=>
  have⟨x,h1,h2⟩:=h;exact⟨x,h1,h2.grow G⟩
def vJ (w:World) (κ:Nat->BK) (q:Bool) (es:List (List Int×List au)) (en:Array MapEntry):Prop:=
 en.size=es.length/\ ∀ i (h:i<es.length) (h':i<en.size),en[i].key=gf es[i].1/\oU w κ q es[i].2 en[i].val
def kM (w:World) (κ:Nat->BK) (g:Nat) (cs:List ab):Prop:= ∃ q es en ck,cs=[.mp q es]/\w.heap[g]? =some (.map en ck)/\vJ w κ q es en
def kM.mv {w w':World} {κ κ':Nat->BK} {g':Nat} {cs:List ab} (G:gS w κ w' κ') (hg:w'.heap[g']? =w.heap[g]?) (h:kM w κ g cs):kM w' κ' g' cs:=by
 have⟨q,es,en,ck,h1,h2,h3,h4⟩:=h;exact⟨q,es,en,ck,h1,hg.trans h2,h3,fun i k k'=>⟨(h4 i k k').1,(h4 i k k').2.grow G⟩⟩
def rB (w:World) (κ:Nat->BK) (ρ:Nat->Nat) (b:Nat) (cs:List ab):Prop:=
 ∃ c e,w.heap[ρ b]? =some (.cells c e (0,0))/\c.size=cs.length/\ ∀ i (h:i<cs.length) (h':i<c.size),bZ w κ ρ (.cell b i) cs[i] c[i]
structure vH (w:World) (κ:Nat->BK) (ρ:Nat->Nat) (b:Nat) (cs:List ab):Prop where
 own:κ (ρ b)= .wr b
 obj:rB w κ ρ b cs\/kM w κ (ρ b) cs
def jo:List ab->Bool
 | .mp .. ::_=>false
 |_=>true
def Az: ∀ l:List au,jo (l.map ab.f)=true
 |[]=>rfl
 |_::_=>rfl
def kM.not {w:World} {κ:Nat->BK} {cs:List ab} (h:kM w κ g cs):jo cs=false:=by
 obtain⟨q,es,en,ck,rfl,_⟩:=h;rfl
def vH.QV {w:World} {κ:Nat->BK} {ρ:Nat->Nat} {b:Nat} {cs:List ab} (h:vH w κ ρ b cs) (hk:jo cs=true):rB w κ ρ b cs:=
 h.obj.resolve_right fun k=>by rw[k.not]at hk;cases hk
def vH.qS {w:World} {κ:Nat->BK} {ρ:Nat->Nat} {b:Nat} {cs:List ab} (h:vH w κ ρ b cs) {i:Nat} {y:ab} (hi:cs[i]? =some y) (hy: ∀ q es,y≠ .mp q es):rB w κ ρ b cs:=
 h.obj.resolve_right fun k=>by
  obtain⟨q,es,en,ck,rfl,_⟩:=k;have:=(abj.1 hi).1;rw[show i=0 by simp at this;omega]at hi
  exact hy q es (by simpa using hi.symm)
def vH.yn {w:World} {κ:Nat->BK} {ρ:Nat->Nat} {b:Nat} {cs:List ab} (h:vH w κ ρ b cs):ρ b<w.heap.size:=by
 have key: ∀ {x:Obj},w.heap[ρ b]? =some x->ρ b<w.heap.size:=fun{x} hx=>by
  rcases abw (ρ b) w.heap.size with h1|h1
  ·exact h1
  ·rw[ada h1]at hx;cases hx
 rcases h.obj with ⟨c,e,h1,_⟩|⟨q,es,en,ck,_,h1,_⟩
 ·exact key h1
 ·exact key h1
structure yQ (H:List (Option (List ab))) (w:World) (κ:Nat->BK) (ρ:Nat->Nat):Prop where
 eu: ∀ (b:Nat) (cs:List ab),H[b]? =some (some cs)->vH w κ ρ b cs
 ok: ∀ (b:Nat) (cs:List ab),H[b]? =some (some cs)-> ∀ x:ab,x∈cs->x.ok H.length=true
structure Rel (s:St) (a:Act) (w:World) (κ:Nat->BK) (ρ:Nat->Nat):Prop where
 defers:a.defers=[]
 slot: ∀ i (h':i<a.tmps.size),cm w κ ρ (.slot i) (s.sl i) a.tmps[i]
 out: ∀ i,a.tmps.size<=i->s.sl i= .c .any
 ok: ∀ i,(s.sl i).ok s.H.length=true
 heap:yQ s.H w κ ρ
structure Fr (w:World) (κ:Nat->BK) (w':World) (κ':Nat->BK):Prop where
 os:w'.os=w.os
 tape:w'.tape=w.tape
 output:w'.output=w.output
 size:w.heap.size<=w'.heap.size
 lock: ∀ g n,g<w.heap.size->κ g= .lock n->κ' g= .lock n/\w'.heap[g]? =w.heap[g]?
 grow:gS w κ w' κ'
def Fr.refl (w:World) (κ:Nat->BK):Fr w κ w κ:=⟨rfl,rfl,rfl,acD _,fun _ _ _ h=>⟨h,rfl⟩,gS.refl _ _⟩
def Fr.trans {a b c:World} {α β γ:Nat->BK} (h:Fr a α b β) (k:Fr b β c γ):Fr a α c γ:=
 ⟨k.os.trans h.os,k.tape.trans h.tape,k.output.trans h.output,acI h.size k.size,fun g n hg hl=>by
  have⟨h1,h2⟩:=h.lock g n hg hl;have⟨h3,h4⟩:=k.lock g n (abq hg h.size) h1
  exact⟨h3,h4.trans h2⟩,h.grow.trans k.grow⟩
structure Mv (T:Nat->Prop) (n:Nat) (w:World) (κ:Nat->BK) (ρ:Nat->Nat) (w':World) (κ':Nat->BK) (ρ':Nat->Nat):Prop where
 os:w'.os=w.os
 tape:w'.tape=w.tape
 output:w'.output=w.output
 size:w.heap.size<=w'.heap.size
 tX: ∀ b,b<n->ρ' b=ρ b
 off: ∀ g,g<w.heap.size-> ¬ T g->w'.heap[g]? =w.heap[g]? /\κ' g=κ g
 cell: ∀ g o x,g<w.heap.size->T g->(κ g).fits (o+1)->w.cell? ⟨g,o,none⟩=some x->w'.cell? ⟨g,o,none⟩=some x
 fits: ∀ g n,g<w.heap.size->T g->(κ g).fits n->(κ' g).fits n
 free: ∀ g n,T g->κ g≠ .lock n
def D9 {w w':World} {o:Nat} (h:w'.heap[g]? =w.heap[g]?):w'.cell? ⟨g,o,none⟩=w.cell? ⟨g,o,none⟩:=aeh (w:=w) h
section
variable {T:Nat->Prop} {n:Nat} {w w':World} {κ κ':Nat->BK} {ρ ρ':Nat->Nat}
def Mv.grow (m:Mv T n w κ ρ w' κ' ρ'):gS w κ w' κ':=by
 refine⟨m.size,fun g o x hg hf hx=> ?_,fun g k hg hf=> ?_⟩
 ·by_cases h:T g
  ·exact m.cell g o x hg h hf hx
  ·rw[D9 (m.off g hg h).1];exact hx
 ·by_cases h:T g
  ·exact m.fits g k hg h hf
  ·rw[(m.off g hg h).2];exact hf
def Mv.fr (m:Mv T n w κ ρ w' κ' ρ'):Fr w κ w' κ':=
 ⟨m.os,m.tape,m.output,m.size,fun g k hg hl=>by
  have hT: ¬ T g:=fun h=>m.free g k h hl
  exact⟨by rw[(m.off g hg hT).2];exact hl,(m.off g hg hT).1⟩,m.grow⟩
def Mv.gp (m:Mv T n w κ ρ w' κ' ρ') {l:Loc} (hl: ∀ g k,T g->κ g≠ .bB k l):Dz w κ w' κ' l l:=
 ⟨m.grow,fun g k hg hk=>by
  have hT: ¬ T g:=fun h=>hl g k h hk
  exact⟨by rw[(m.off g hg hT).2];exact hk,(m.off g hg hT).1⟩⟩
def mT {w:World} {x:Obj} (h:w.heap[g]? =some x):g<w.heap.size:=by
 rcases abw g w.heap.size with h1|h1
 ·exact h1
 ·rw[ada h1]at h;cases h
def vH.mv (m:Mv T n w κ ρ w' κ' ρ') {b:Nat} {cs:List ab} (hb:b<n) (hok: ∀ x∈cs,x.ok n=true) (hT: ¬ T (ρ b)) (hl: ∀ i g k,T g->κ g≠ .bB k (.cell b i)) (h:vH w κ ρ b cs):vH w' κ' ρ' b cs:=by
 have⟨k1,k2⟩:=m.off _ h.yn hT;refine⟨by rw[m.tX b hb,k2];exact h.own,?_⟩;rcases h.obj with ⟨c,e,h1,h2,h3⟩|h
 ·refine .inl ⟨c,e,by rw[m.tX b hb,k1];exact h1,h2,fun i hi hi'=> ?_⟩
  exact bZ.gp m.grow m.tX (hok _ (abg hi)) (fun _ _ _ _ _=>m.gp (hl i)) (h3 i hi hi')
 ·exact .inr (h.mv m.grow (by rw[m.tX b hb,k1]))
def cm.mv (m:Mv T n w κ ρ w' κ' ρ') {l:Loc} {x:al} (hok:x.ok n=true) (hl: ∀ g k,T g->κ g≠ .bB k l) (h:cm w κ ρ l x v):cm w' κ' ρ' l x v:=
 cm.gp m.grow m.tX hok (fun _ _ _ _ _=>m.gp hl) h
end
def St.put (s:St) (d:Option Tmp) (x:al):St:=
 match d with
 |some d=>{ s with sl:=fq s.sl d x }
 |none=>s
def St.aZ (s:St) (t:Tmp):St:={ s with sl:=fq s.sl t (s.sl t).aZ }
def Rel.put {s:St} {a:Act} {w:World} {κ:Nat->BK} {ρ:Nat->Nat} (h:Rel s a w κ ρ) {d:Option Tmp} {x:al} {v:Value} (hd: ∀ t,d=some t->t<a.tmps.size) (hx: ∀ t,d=some t->cm w κ ρ (.slot t) x v) (hok:x.ok s.H.length=true):
  Rel (s.put d x) (a.put d v) w κ ρ:=by
 cases d with
 |none=>exact h
 |some d=>
  refine⟨h.defers,fun i hi'=> ?_,fun i hi=> ?_,fun i=> ?_,h.heap⟩
  ·simp[St.put,Act.put]at hi'⊢
   rw[acX (by simpa using hi')];by_cases e:d=i
   ·subst e
    rw[aQ,aaN rfl];exact hx _ rfl
   ·rw[aH _ _ (fun h=>e h.symm),aak e]
    exact h.slot i (by simpa using hi')
  ·have hi2:a.tmps.size<=i:=by simpa[Act.put]using hi
   simp[St.put];have hne:i≠d:=by
    intro e;subst e;exact absurd (hd i rfl) (Nat.not_lt.2 hi2)
   rw[aH _ _ hne];exact h.out i hi2
  ·simp[St.put]
   by_cases e:i=d
   ·subst e;rw[aQ];exact hok
   ·rw[aH _ _ e];exact h.ok i
def Rel.mv {T:Nat->Prop} {s:St} {a:Act} {w w':World} {κ κ':Nat->BK} {ρ ρ':Nat->Nat} (h:Rel s a w κ ρ) (m:Mv T s.H.length w κ ρ w' κ' ρ') (hT: ∀ g,T g->False):Rel s a w' κ' ρ':=
  ⟨h.defers,fun i hi'=>cm.mv m (h.ok i) (fun g _ hg=>(hT g hg).elim) (h.slot i hi'),h.out,h.ok,
   fun b cs hb=>vH.mv m (by rcases abw b s.H.length with k|k;exact k;rw[abr k]at hb;cases hb) (h.heap.ok b cs hb) (fun hg=>hT _ hg) (fun _ g _ hg=>(hT g hg).elim) (h.heap.eu b cs hb),h.heap.ok⟩
def Rel.EM {s:St} {a:Act} {w w':World} {κ κ':Nat->BK} {ρ ρ':Nat->Nat} {g0 t k0:Nat} (h:Rel s a w κ ρ) (m:Mv (·=g0) s.H.length w κ ρ w' κ' ρ') (hg:κ g0= .bB k0 (.slot t)):Rel (s.aZ t) a w' κ' ρ':=by
  refine⟨h.defers,fun i hi'=> ?_,fun i hi=> ?_,fun i=> ?_,⟨fun b cs hb=> ?_,h.heap.ok⟩⟩
  ·simp[St.aZ]
   by_cases e:i=t
   ·subst e
    rw[aQ];have h1:=cm.aZ (l':= .slot i) (h.slot i hi');refine cm.gp m.grow m.tX (al.iu _ (h.ok i)) (fun _ _ _ _ e=> ?_) h1;exact absurd e (al.Eh _ _ _ _ _)
   ·rw[aH _ _ e]
    refine cm.mv m (h.ok i) (fun g k UA=> ?_) (h.slot i hi');subst UA;rw[hg];intro hh;injection hh with _ hh;injection hh with hh;exact e hh.symm
  ·simp[St.aZ]
   by_cases e:i=t
   ·subst e;rw[aQ,h.out i hi];rfl
   ·rw[aH _ _ e];exact h.out i hi
  ·simp[St.aZ]
   by_cases e:i=t
   ·subst e;rw[aQ];exact al.iu _ (h.ok i)
   ·rw[aH _ _ e];exact h.ok i
  ·have hb':s.H[b]? =some (some cs):=hb
   refine vH.mv m (by rcases abw b s.H.length with k|k;exact k;rw[abr k]at hb';cases hb') (h.heap.ok b cs hb') (fun e=> ?_) (fun i g k UA=> ?_) (h.heap.eu b cs hb')
   ·have:=(h.heap.eu b cs hb').own
    rw[e,hg]at this;cases this
   ·subst UA
    rw[hg];intro hh;injection hh with _ hh;cases hh
def fN (H:List (Option (List ab))) (b:Nat) (cs:List ab):List (Option (List ab)):=H.set b (some cs)
def mO {H:List (Option (List ab))} {b:Nat} {cs:List ab} {b':Nat} {cs':List ab} (h:(fN H b cs)[b']? =some (some cs')):(b'=b/\cs'=cs)\/(b'≠b/\H[b']? =some (some cs')):=by
 unfold fN at h;by_cases e:b=b'
 ·subst e
  rw[List.getElem?_set]at h
  simp at h;exact .inl ⟨rfl,h.2.symm⟩
 ·rw[aei e]at h
  exact .inr ⟨fun h=>e h.symm,h⟩
def Rel.wu {s:St} {a:Act} {w w':World} {κ κ':Nat->BK} {ρ ρ':Nat->Nat} {b0:Nat} {cs cs':List ab} (h:Rel s a w κ ρ) (hb0:s.H[b0]? =some (some cs)) (m:Mv (·=ρ b0) s.H.length w κ ρ w' κ' ρ') (hB:vH w' κ' ρ' b0 cs') (hok: ∀ x∈cs',x.ok s.H.length=true):
    Rel { s with H:=fN s.H b0 cs' } a w' κ' ρ':=by
  have hown:=(h.heap.eu b0 cs hb0).own;have hlen:(fN s.H b0 cs').length=s.H.length:=by simp[fN]
  have dQ: ∀ l g k,g=ρ b0->κ g≠ .bB k l:=by intro l g k hg;subst hg;rw[hown];intro e;cases e
  refine⟨h.defers,fun i hi'=>cm.mv m (h.ok i) (dQ _) (h.slot i hi'),h.out,fun i=>by rw[hlen];exact h.ok i,⟨fun b ds hb=> ?_,fun b ds hb=> ?_⟩⟩
  ·rcases mO hb with ⟨rfl,rfl⟩|⟨hne,hb⟩
   ·exact hB
   ·refine vH.mv m (by rcases abw b s.H.length with k|k;exact k;rw[abr k]at hb;cases hb) (h.heap.ok b ds hb) (fun e=> ?_) (fun i=>dQ _) (h.heap.eu b ds hb)
    have h1:=(h.heap.eu b ds hb).own;rw[e,hown]at h1
    injection h1 with h1;exact hne h1.symm
  ·rw[hlen]
   rcases mO hb with ⟨rfl,rfl⟩|⟨hne,hb⟩
   ·exact hok
   ·exact h.heap.ok b ds hb
def Rel.Mo {s:St} {a:Act} {w w':World} {κ κ':Nat->BK} {ρ ρ':Nat->Nat} {g0 b0 i0 k0:Nat} {cs:List ab} (h:Rel s a w κ ρ) (hb0:s.H[b0]? =some (some cs)) {y0:ab} (UF:cs[i0]? =some y0) (hmp: ∀ q es,y0≠ .mp q es) (m:Mv (·=g0) s.H.length w κ ρ w' κ' ρ') (hg:κ g0= .bB k0 (.cell b0 i0)):
    Rel { s with H:=fN s.H b0 (cs.modify i0 ab.aZ) } a w' κ' ρ':=by
  have hlen:(fN s.H b0 (cs.modify i0 ab.aZ)).length=s.H.length:=by simp[fN]
  have hlt: ∀ {b ds},s.H[b]? =some (some ds)->b<s.H.length:=fun{b ds} hb=>by rcases abw b s.H.length with k|k;exact k;rw[abr k]at hb;cases hb
  have hne: ∀ b ds,s.H[b]? =some (some ds)-> ¬ ρ b=g0:=fun b ds hb e=>by
    have:=(h.heap.eu b ds hb).own;rw[e,hg]at this;cases this
  refine⟨h.defers,fun i hi'=>cm.mv m (h.ok i) (fun g k UA=> ?_) (h.slot i hi'),h.out,fun i=>by rw[hlen];exact h.ok i,⟨fun b ds hb=> ?_,fun b ds hb=> ?_⟩⟩
  ·subst UA;rw[hg];intro hh;injection hh with _ hh;cases hh
  ·rcases mO hb with ⟨rfl,rfl⟩|⟨hnb,hb⟩
   ·have ho:=(h.heap.eu b cs hb0).own
    have⟨c,e,h1,h2,h3⟩:=(h.heap.eu b cs hb0).qS UF hmp;have hl1:=mT h1;have⟨k1,k2⟩:=m.off _ hl1 (hne b cs hb0);refine⟨by rw[m.tX b (hlt hb0),k2];exact ho,.inl ⟨c,e,by rw[m.tX b (hlt hb0),k1];exact h1,by simpa using h2,fun i hi hi'=> ?_⟩⟩;rw[acZ]at hi
    rw[acY];have hok:=h.heap.ok b cs hb0 _ (abg hi);by_cases e:i0=i
    ·rw[aaN e]
     refine bZ.gp m.grow m.tX (ab.iu _ hok) (fun _ _ _ _ e=> ?_) (bZ.aZ (l':= .cell b i) (h3 i hi hi'));have:=ab.iZ cs[i];rw[e]at this;cases this
    ·rw[aak e]
     refine bZ.gp m.grow m.tX hok (fun _ _ _ _ _=>m.gp (fun g k UA=> ?_)) (h3 i hi hi');subst UA;rw[hg];intro hh;injection hh with _ hh;injection hh with _ hh;exact e hh
   ·refine vH.mv m (hlt hb) (h.heap.ok b ds hb) (hne b ds hb) (fun i g k UA=> ?_) (h.heap.eu b ds hb)
    subst UA;rw[hg];intro hh;injection hh with _ hh;injection hh with hh _;exact hnb hh.symm
  ·rw[hlen]
   rcases mO hb with ⟨rfl,rfl⟩|⟨hnb,hb⟩
   ·intro x hx
    obtain⟨i,hi,rfl⟩:=abk.1 hx;rw[acY];rw[acZ]at hi
    have hok:=h.heap.ok b cs hb0 _ (abg hi);by_cases e:i0=i
    ·rw[aaN e];exact ab.iu _ hok
    ·rw[aak e];exact hok
   ·exact h.heap.ok b ds hb
def Rel.Qc {s:St} {a:Act} {w:World} {κ:Nat->BK} {ρ:Nat->Nat} {b0 i0:Nat} {cs:List ab} (h:Rel s a w κ ρ) (hb0:s.H[b0]? =some (some cs)) {y0:ab} (UF:cs[i0]? =some y0) (hmp: ∀ q es,y0≠ .mp q es):Rel { s with H:=fN s.H b0 (cs.modify i0 ab.aZ) } a w κ ρ:=by
 have hlen:(fN s.H b0 (cs.modify i0 ab.aZ)).length=s.H.length:=by simp[fN]
 refine⟨h.defers,h.slot,h.out,fun i=>by rw[hlen];exact h.ok i,⟨fun b ds hb=> ?_,fun b ds hb=> ?_⟩⟩
 ·rcases mO hb with ⟨rfl,rfl⟩|⟨hnb,hb⟩
  ·have ho:=(h.heap.eu b cs hb0).own
   have⟨c,e,h1,h2,h3⟩:=(h.heap.eu b cs hb0).qS UF hmp;refine⟨ho,.inl ⟨c,e,h1,by simpa using h2,fun i hi hi'=> ?_⟩⟩;rw[acZ]at hi
   rw[acY];by_cases e:i0=i
   ·rw[aaN e];exact bZ.aZ (h3 i hi hi')
   ·rw[aak e];exact h3 i hi hi'
  ·exact h.heap.eu b ds hb
 ·rw[hlen]
  rcases mO hb with ⟨rfl,rfl⟩|⟨hnb,hb⟩
  ·intro x hx
   obtain⟨i,hi,rfl⟩:=abk.1 hx;rw[acY];rw[acZ]at hi
   have hok:=h.heap.ok b cs hb0 _ (abg hi);by_cases e:i0=i
   ·rw[aaN e];exact ab.iu _ hok
   ·rw[aak e];exact hok
  ·exact h.heap.ok b ds hb
def tW:Value->ab
 | .slice none 0 0=> .f .aD
 | .agg _=> .any
 | .tuple _=> .any
 |x=> .f (.v x)
def Bt:Value->al
 | .agg vs=> .agg (vs.toList.map tW)
 |x=> .c (tW x)
section
variable {w w':World} {κ κ':Nat->BK} {ρ ρ':Nat->Nat} {l l':Loc} {s:St} {a:Act}
def oI (x:Value):bZ w κ ρ l (tW x) x:=by
 unfold tW;split
 ·exact cQ.aD
 ·trivial
 ·trivial
 next h1 h2 h3=>
  refine cQ.v _ ?_;cases x<;>first|rfl|exact absurd rfl (h2 _)|exact absurd rfl (h3 _)
def u9 (x:Value):(tW x).flat=true:=by unfold tW;split<;>rfl
def Kt (n:Nat) (x:Value):(tW x).ok n=true:=by unfold tW;split<;>rfl
def AO (x:Value):cm w κ ρ l (Bt x) x:=by
 unfold Bt;split
 next vs=>
  exact⟨vs,rfl,by simp,fun i h h'=>by
   rw[abi,acA]
   exact⟨u9 _,oI _⟩⟩
 ·exact oI x
def Ku (n:Nat) (x:Value):(Bt x).ok n=true:=by
 unfold Bt;split
 ·simp only[al.ok,abh]
  intro y hy;obtain⟨z,_,rfl⟩:=abt.1 hy;exact Kt n z
 ·exact Kt n x
def U6 (x:Value):(Bt x).aZ=Bt x:=by
 unfold Bt;split
 ·rfl
 ·show al.c (ab.aZ _)=_
  rw[ab.dC (u9 _)]
def St.ev (s:St):Operand->al
 | .tmp t=>s.sl t
 | .const v=>Bt v
 |_=> .c .any
def Rel.Ev (h:Rel s a w κ ρ) (t:Tmp):cm w κ ρ (.slot t) (s.ev (.tmp t)) (a.eval (.tmp t)):=by
 simp[St.ev,Act.eval];rcases abw t a.tmps.size with hlt|hge
 ·simp[aew,hlt,dite_true]
  exact h.slot t hlt
 ·rw[h.out t hge]
  trivial
def Rel.ev (h:Rel s a w κ ρ) (x:Operand):cm w κ ρ l (s.ev x).aZ (a.eval x):=by
 cases x with
 |tmp t=>exact cm.aZ (h.Ev t)
 |const v=>show cm w κ ρ l (Bt v).aZ v;rw[U6];exact AO v
 |global g=>trivial
 |func f=>trivial
def Rel.mI (h:Rel s a w κ ρ) (x:Operand):(s.ev x).ok s.H.length=true:=by
 cases x with
 |tmp t=>exact h.ok t
 |const v=>exact Ku _ v
 |global g=>rfl
 |func f=>rfl
end
def au.jl:au->Option Value
 | .v x=>some x
 | .aD=>some (.slice none 0 0)
 | .row .. =>none
 | .ip .. =>none
def ab.jl:ab->Option Value
 | .f x=>x.jl
 |_=>none
def vy:List ab->Option (List Value)
 |[]=>some []
 |c::cs=>match c.jl,vy cs with
  |some v,some vs=>some (v::vs)
  |_,_=>none
def al.jl:al->Option Value
 | .c x=>x.jl
 | .agg cs=>match vy cs with
  |some vs=>some (.agg vs.toArray)
  |none=>none
 | .dt _=>none
section
variable {w w':World} {κ κ':Nat->BK} {ρ ρ':Nat->Nat} {l l':Loc} {s:St} {a:Act}
def ab.yF: ∀ {x:ab} {v y:Value},bZ w κ ρ l x v->x.jl=some y->v=y
 | .f (.v x),v,y,h,e=>by
  have h1:=(gk.1 h).1;injection e with e;exact h1.trans e
 | .f .aD,v,y,h,e=>by
  have h1:=eU.1 h;injection e with e;exact h1.trans e
 | .f (.row ..),_,_,_,e=>by cases e
 | .f (.ip ..),_,_,_,e=>by cases e
 | .ptr ..,_,_,_,e=>by cases e
 | .arr ..,_,_,_,e=>by cases e
 | .bB ..,_,_,_,e=>by cases e
 | .tV,_,_,_,e=>by cases e
 | .any,_,_,_,e=>by cases e
 | .mh ..,_,_,_,e=>by cases e
 | .mp ..,_,_,_,e=>by cases e
def IU: ∀ (cs:List ab) (vs:List Value),vy cs=some vs->vs.length=cs.length/\ ∀ i (h:i<cs.length) (h':i<vs.length),cs[i].jl=some vs[i]
 |[],vs,h=>by
  cases h;exact⟨rfl,fun i h=>by simp at h⟩
 |c::cs,vs,h=>by
  unfold vy at h;split at h
  next v us e1 e2=>
   cases h;have⟨h1,h2⟩:=IU cs us e2;refine⟨by simp[h1],fun i hi hi'=> ?_⟩;cases i with
   |zero=>exact e1
   |succ i=>exact h2 i (by simpa using hi) (by simpa using hi')
  ·cases h
def al.yF {x:al} {v y:Value} (h:cm w κ ρ l x v) (e:x.jl=some y):v=y:=by
 cases x with
 |c x=>exact ab.yF h e
 |agg cs=>
  obtain⟨vs,rfl,hs,hi⟩:=h;simp[al.jl]at e;split at e
  next us e1=>
   cases e;have⟨h1,h2⟩:=IU cs us e1;congr 1;apply afk
   ·simp[hs,h1]
   ·intro i hj hj'
    have hi1:i<cs.length:=by omega
    have hi2:i<us.length:=by omega
    have:=ab.yF (hi i hi1 hj).2 (h2 i hi1 hi2);simpa using this
  ·cases e
 |dt ts=>cases e
def al.VJ {x:al} {y:Value} (e:x.jl=some y):x.aZ=x:=by
 cases x with
 |c x=>
  show al.c (ab.aZ _)=_;cases x<;>first|rfl|cases e
 |agg cs=>rfl
 |dt ts=>rfl
def Rel.jl (h:Rel s a w κ ρ) {x:Operand} {y:Value} (e:(s.ev x).jl=some y):a.eval x=y:=by
 have:=h.ev (l:= .slot 0) x;rw[al.VJ e]at this
 exact al.yF this e
end
def b9 {α:Type} (P:Program):Sem α->Option α
 | .pure a=>some a
 | .program k=>b9 P (k P)
 | .mark _ k=>b9 P k
 |_=>none
def q7 {α:Type} {P:Program}: ∀ {s:Sem α} {a:α},b9 P s=some a-> ∀ w,s.run P w= .ok a w
 | .pure a,_,h,w=>by cases h;rfl
 | .program k,_,h,w=>by show(k P).run P w=_;exact q7 (s:=k P) h w
 | .mark _ k,_,h,w=>by show k.run P w=_;exact q7 (s:=k) h w
 | .load ..,_,h,_=>by cases h
 | .store ..,_,h,_=>by cases h
 | .new ..,_,h,_=>by cases h
 | .shape ..,_,h,_=>by cases h
 | .freeze ..,_,h,_=>by cases h
 | .frozen ..,_,h,_=>by cases h
 | .getObj ..,_,h,_=>by cases h
 | .setObj ..,_,h,_=>by cases h
 | .choose ..,_,h,_=>by cases h
 | .sys ..,_,h,_=>by cases h
 | .halt ..,_,h,_=>by cases h
structure gA where
 aZ:Option Tmp:=none
 eu:Option (Nat×List ab):=none
 new:Option (List ab):=none
def St.ir (s:St):Option Tmp->St
 |some t=>s.aZ t
 |none=>s
def St.qy (s:St):Option (Nat×List ab)->St
 |some (b,cs)=>{ s with H:=fN s.H b cs }
 |none=>s
def St.qW (s:St):Option (List ab)->St
 |some cs=>{ s with H:=s.H++[some cs] }
 |none=>s
def St.kZ (s:St) (c:gA):St:=((s.ir c.aZ).qy c.eu).qW c.new
def Yields (P:Program) (o:Oper) (a:Act) (w:World) (v:Value) (w':World):Prop:=
 (execOp a.eval o).run P w= .ok (.value v) w'\/((execOp a.eval o).run P w= .ok .skip w'/\v=undef)
def jY (P:Program) (o:Oper) (s:St) (x:al) (c:gA):Prop:=
 ∀ a w κ ρ,Rel s a w κ ρ-> ∃ v w' κ' ρ',Yields P o a w v w'/\Rel (s.kZ c) a w' κ' ρ'/\(∀ d,o.dst=some d->cm w' κ' ρ' (.slot d) x v)/\x.ok (s.kZ c).H.length=true/\Fr w κ w' κ'/\(∀ b,b<s.H.length->ρ' b=ρ b)
def jY.still {P:Program} {o:Oper} {s:St} {x:al}
  (h: ∀ a w κ ρ,Rel s a w κ ρ-> ∃ v,(execOp a.eval o).run P w= .ok (.value v) w/\(∀ d,cm w κ ρ (.slot d) x v)/\x.ok s.H.length=true):jY P o s x {}:=by
 intro a w κ ρ hR;have⟨v,h1,h2,h3⟩:=h a w κ ρ hR;exact⟨v,w,κ,ρ,.inl h1,hR,fun d _=>h2 d,h3,Fr.refl _ _,fun _ _=>rfl⟩
def St.env (s:St) (x:Operand):Value:=((s.ev x).jl).getD undef
def Ha:Op->Bool
 | .select .. =>true
 |_=>false
def dz (P:Program) (s:St) (o:Oper):Option (al×gA):=
 if o.op.operands.toList.all (fun x=>(s.ev x).jl.isSome)&& !Ha o.op then
  match b9 P (execOp s.env o)with
  |some (.value v)=>some (Bt v,{})
  |_=>none
 else none
def kj {P:Program} {s:St} {o:Oper} {x:al} {c:gA} (h:dz P s o=some (x,c)):jY P o s x c:=by
 unfold dz at h;split at h
 next hc=>
  rw[aca]at hc
  split at h
  next v hv=>
   injection h with h;injection h with h1 h2;subst h1;subst h2;refine jY.still fun a w κ ρ hR=>⟨v,?_,fun d=>AO v,Ku _ v⟩
   have he:execOp a.eval o=execOp s.env o:=execOp_congr o (fun cs b e=>by rw[e]at hc;simp[Ha]at hc) (fun y hy=>by
    have:=abh.1 hc.1 y (acJ.2 hy);have⟨u,hu⟩:=ad8.1 this
    rw[hR.jl hu,St.env,hu];rfl)
   rw[he];exact q7 hv w
  ·cases h
 ·cases h
section
variable {w w':World} {κ κ':Nat->BK} {ρ ρ':Nat->Nat} {l l':Loc} {s:St} {a:Act}
def Ao {k n:Nat} (h:κ g= .bB k l) (l':Loc):Mv (·=g) n w κ ρ w (fq κ g (.bB k l')) ρ:=
  ⟨rfl,rfl,rfl,acD _,fun _ _=>rfl,fun j _ hj=>⟨rfl,aH _ _ hj⟩,fun _ _ _ _ _ _ hx=>hx,
   fun j m _ hj hf=>by subst hj;rw[aQ];rw[h]at hf;exact hf,fun j m hj=>by subst hj;rw[h];intro e;cases e⟩
def nn.label {q:Bool} {cs:List au} {len cap:Nat} (h:nn w κ l q sz cs len g cap) (l':Loc):nn w (fq κ g (.bB (yy q cs.length) l')) l' q sz cs len g cap:=
 ⟨fun i hi=>by have⟨x,hx,hr⟩:=h.cell i hi;exact⟨x,hx,hr.grow (Ao (n:=0) (ρ:=id) h.own l').grow⟩,h.lt,h.cut,aQ _ _ _,h.le,h.eu⟩
def JR {s:St} {a:Act} {w:World} {κ:Nat->BK} {ρ:Nat->Nat} (h:Rel s a w κ ρ) (t:Nat):Rel (s.aZ t) a w κ ρ:=by
 refine⟨h.defers,fun i hi'=> ?_,fun i hi=> ?_,fun i=> ?_,h.heap⟩
 ·simp[St.aZ]
  by_cases e:i=t
  ·subst e;rw[aQ];exact cm.aZ (h.slot i hi')
  ·rw[aH _ _ e];exact h.slot i hi'
 ·simp[St.aZ]
  by_cases e:i=t
  ·subst e;rw[aQ,h.out i hi];rfl
  ·rw[aH _ _ e];exact h.out i hi
 ·simp[St.aZ]
  by_cases e:i=t
  ·subst e;rw[aQ];exact al.iu _ (h.ok i)
  ·rw[aH _ _ e];exact h.ok i
def Rel.XP {t:Nat} {q:Bool} {cs:List au} {len:Nat} (h:Rel s a w κ ρ) (ht:s.ev (.tmp t)= .c (.bB q sz cs len)) (l':Loc):
  ∃ κ',Rel (s.aZ t) a w κ' ρ/\bZ w κ' ρ l' (.bB q sz cs len) (a.eval (.tmp t))/\Fr w κ w κ':=by
 have h1:=h.Ev t;rw[ht]at h1
 obtain⟨g,cap,hv,hT⟩|hn:=h1
 rotate_left
 ·exact⟨κ,JR h t,.inr hn,Fr.refl _ _⟩
 have m:=Ao (w:=w) (ρ:=ρ) (n:=s.H.length) hT.own l';exact⟨_,h.EM m hT.own,.inl ⟨g,cap,hv,hT.label l'⟩,m.fr⟩
end
def il (tr:Bool) (s:St) (x:Operand):al×gA:=
 match tr,x,s.ev x with
 |true,.tmp t,.c (.bB q sz cs len)=>(.c (.bB q sz cs len),{ aZ:=some t })
 |_,_,v=>(v.aZ,{})
def vP {P:Program} {s:St} {o:Oper} {tr:Bool} {x:Operand} (ho: ∀ (ρ:Operand->Value) w,(execOp ρ o).run P w= .ok (.value (ρ x)) w):jY P o s (il tr s x).1 (il tr s x).2:=by
 unfold il;split
 next t q sz cs len he=>
  intro a w κ ρ hR;cases hd:o.dst with
  |none=>
   have⟨κ',h1,h2,h3⟩:=hR.XP he (.slot 0);exact⟨_,w,κ',ρ,.inl (ho _ _),h1,(fun d e=>by cases e),rfl,h3,fun _ _=>rfl⟩
  |some d=>
   have⟨κ',h1,h2,h3⟩:=hR.XP he (.slot d);exact⟨_,w,κ',ρ,.inl (ho _ _),h1,(fun d' e=>by cases e;exact h2),rfl,h3,fun _ _=>rfl⟩
 ·exact jY.still fun a w κ ρ hR=>⟨_,ho _ _,fun d=>hR.ev _,al.iu _ (hR.mI _)⟩
def wS (s:St) (c x y:Operand):Option (al×gA):=
 match s.ev c with
 | .c (.f (.v (.bool true)))=>some ((s.ev x).aZ,{})
 | .c (.f (.v (.bool false)))=>some ((s.ev y).aZ,{})
 |_=>none
def Nh {P:Program} {s:St} {o:Oper} {c x:Operand} {r:al} {ch:gA} (ho:o.op= .pick c x y) (h:wS s c x y=some (r,ch)):jY P o s r ch:=by
 unfold wS at h;split at h
 next he=>
  injection h with h;injection h with h1 h2;subst h1;subst h2;refine jY.still fun a w κ ρ hR=>⟨a.eval x,?_,fun d=>hR.ev x,al.iu _ (hR.mI x)⟩;have:a.eval c= .bool true:=hR.jl (by rw[he];rfl);simp[execOp,ho,this,asBool]
 next he=>
  injection h with h;injection h with h1 h2;subst h1;subst h2;refine jY.still fun a w κ ρ hR=>⟨a.eval y,?_,fun d=>hR.ev y,al.iu _ (hR.mI y)⟩;have:a.eval c= .bool false:=hR.jl (by rw[he];rfl);simp[execOp,ho,this,asBool]
 ·cases h
def rW (P:Program) (t:TypeId):Option (Bool×Nat):=
 match P.underlying t,P.info? t with
 |some d,some i=>some (d.isRow,i.size)
 |_,_=>none
def Fx {P:Program} {t:TypeId} {b:Bool} {n:Nat} (h:rW P t=some (b,n)): ∃ d i,P.underlying t=some d/\P.info? t=some i/\d.isRow=b/\i.size=n:=by
 unfold rW at h;split at h
 next d i h1 h2=>
  injection h with h;injection h with h3 h4;exact⟨d,i,h1,h2,h3,h4⟩
 ·cases h
def C9 {P:Program} {t:TypeId} {d:TypeDesc} (h:P.underlying t=some d) (w:World):(isAgg t).run P w= .ok d.isRow w:=by
 unfold isAgg;rw[ab5,run_underlying h w];cases d<;>rfl
def gl {P:Program} (w:World) (g o:Nat) (t:TypeId) {n:Nat} (ht:rW P t=some (false,n)) (hc:w.cell? ⟨g,o,none⟩=some v):
  (adI t (.pointer (some ⟨g,o,none⟩))).run P w= .ok v w:=by
 have⟨d,i,h1,h2,h3,h4⟩:=Fx ht;have:=C9 h1 w;rw[h3]at this
 simp[adI,adx,loadVar,ab5,afi,abP,this];simp[load,acz,hc]
def jS {P:Program} (w:World) (g o:Nat) (t:TypeId) {n:Nat} (ht:rW P t=some (true,n)) {vs:List Value} (hn:vs.length=n) (hc:w.rangeAt g o vs):
  (adI t (.pointer (some ⟨g,o,none⟩))).run P w= .ok (.agg vs.toArray) w:=by
 have⟨d,i,h1,h2,h3,h4⟩:=Fx ht;exact run_loadAt_mid w g o t vs d hc h1 h3 (by rw[h2];simp[h4,hn])
section
variable {w w':World} {κ κ':Nat->BK} {ρ ρ':Nat->Nat} {l l':Loc} {s:St} {a:Act}
def zq {o:Nat} {cs:List au} (h: ∀ i (h:i<cs.length),∃ x,w.cell? ⟨g,o+i,none⟩=some x/\cQ w κ cs[i] x) (off n:Nat) (hn:off+n<=cs.length):
  ∃ vs:List Value,vs.length=n/\w.rangeAt g (o+off) vs/\ ∀ i (hi:i<n) (h':i<vs.length),cQ w κ (cs[off+i]'(by omega)) vs[i]:=by
 refine⟨(aeD n).map fun i=>if hh:off+i<cs.length then(h (off+i) hh).choose else default,by simp,fun j v hv=> ?_,fun i hi hi'=> ?_⟩
 ·rw[acQ]at hv
  rcases abw j n with hj|hj
  ·rw[List.getElem?_range hj]at hv
   have hh:off+j<cs.length:=by omega
   simp[Option.map_some,hh,dite_true,Option.some.injEq]at hv;rw[← hv,adG];exact(h (off+j) hh).choose_spec.1
  ·rw[abr (by simpa using hj)]at hv;cases hv
 ·have hh:off+i<cs.length:=by omega
  simp[abi,List.getElem_range,hh,dite_true];exact(h (off+i) hh).choose_spec.2
def jD.part {o:Nat} {cs:List au} (h:jD w κ g o cs) (off n:Nat) (hn:off+n<=cs.length):
  ∃ vs:List Value,vs.length=n/\w.rangeAt g (o+off) vs/\ ∀ i (hi:i<n) (h':i<vs.length),cQ w κ (cs[off+i]'(by omega)) vs[i]:=zq h.cell off n hn
def vH.cell {b:Nat} {cs:List ab} (h:vH w κ ρ b cs) (hm:rB w κ ρ b cs) (i:Nat) (hi:i<cs.length): ∃ v,w.cell? ⟨ρ b,i,none⟩=some v/\bZ w κ ρ (.cell b i) cs[i] v:=by
 have⟨c,e,h1,h2,h3⟩:=hm;have hi':i<c.size:=by omega
 refine⟨c[i],?_,h3 i hi hi'⟩;simp[ady,h1,hi']
def vH.part {b:Nat} {cs:List ab} (off n:Nat) (h:vH w κ ρ b cs) (hm:n=0\/rB w κ ρ b cs) (hn:off+n<=cs.length):
  ∃ vs:List Value,vs.length=n/\w.rangeAt (ρ b) off vs/\ ∀ i (hi:i<n) (h':i<vs.length),bZ w κ ρ (.cell b (off+i)) (cs[off+i]'(by omega)) vs[i]:=by
 rcases hm with rfl|hm
 ·exact⟨[],rfl,fun j v hj=>by simp at hj,fun i hi=>by omega⟩
 have⟨c,e,h1,h2,h3⟩:=hm;refine⟨(c.extract off (off+n)).toList,by simp;omega,fun j v hv=> ?_,fun i hi hi'=> ?_⟩
 ·rw[aef,Array.getElem?_extract]at hv
  split at hv
  ·simp[ady,h1]
   simpa using hv
  ·cases hv
 ·have hlt:off+i<c.size:=by omega
  simp[acA,aeg];exact h3 (off+i) (by omega) hlt
def L6 {H:List (Option (List ab))} (h:yQ H w κ ρ) {b:Nat} {cs:List ab} (hb:H[b]? =some (some cs)) (i:Nat) (hi:i<cs.length):cs[i].ok H.length=true:=h.ok b cs hb _ (abg hi)
end
def fY (P:Program) (tr:Bool) (s:St) (t:TypeId) (x:Operand):Option (al×gA):=
 match rW P t,s.ev x with
 |some (false,_),.c (.ip cs off)=>match cs[off]? with
  |some y=>some (.c (.f y),{})
  |none=>none
 |some (true,n),.c (.ip cs off)=>if off+n<=cs.length then some (.agg (((cs.drop off).take n).map ab.f),{})else none
 |some (false,_),.c (.ptr b off)=>match s.H[b]? with
  |some (some cells)=>match cells[off]? with
   |some y=>match tr,y with
    |true,.bB q sz cs len=>some (.c (.bB q sz cs len),{ eu:=some (b,cells.modify off ab.aZ) })
    |_,.mp .. =>none
    |_,_=>some (.c y.aZ,{})
   |none=>none
  |_=>none
 |some (true,n),.c (.ptr b off)=>match s.H[b]? with
  |some (some cells)=>if off+n<=cells.length/\jo cells=true then some (.agg (((cells.drop off).take n).map ab.aZ),{})else none
  |_=>none
 |_,_=>none
def mg {P:Program} {ev:Operand->Value} {o:Oper} {t:TypeId} {x:Operand} (ho:o.op= .load t x) {w w':World} (h:(adI t (ev x)).run P w= .ok v w'):(execOp ev o).run P w= .ok (.value v) w':=by
 simp[execOp,ho,h]
def Rel.y8 {s:St} {a:Act} {w:World} {κ:Nat->BK} {ρ:Nat->Nat} (h:Rel s a w κ ρ) {x:Operand} {cs:List au} (e:s.ev x= .c (.ip cs off)): ∃ g o,a.eval x= .pointer (some ⟨g,o+off,none⟩)/\jD w κ g o cs:=by
 have:=h.ev (l:= .slot 0) x;rw[e]at this
 exact vk.1 this
def Rel.mE {s:St} {a:Act} {w:World} {κ:Nat->BK} {ρ:Nat->Nat} (h:Rel s a w κ ρ) {x:Operand} {b:Nat} (e:s.ev x= .c (.ptr b off)):a.eval x= .pointer (some ⟨ρ b,off,none⟩):=by
 have:=h.ev (l:= .slot 0) x;rw[e]at this
 exact this
def Rel.qx {s:St} {a:Act} {w:World} {κ:Nat->BK} {ρ:Nat->Nat} (h:Rel s a w κ ρ) {x:Operand} {b len cap:Nat} (e:(s.ev x).aZ= .c (.arr b off len cap)):a.eval x= .slice (some ⟨ρ b,off,none⟩) len cap:=by
 have:=h.ev (l:= .slot 0) x;rw[e]at this
 exact this
def Rel.vT {s:St} {a:Act} {w:World} {κ:Nat->BK} {ρ:Nat->Nat} (h:Rel s a w κ ρ) {x:Operand} {cs:List au} {len:Nat} (e:(s.ev x).aZ= .c (.f (.row cs len))):(∃ g o cap,a.eval x= .slice (some ⟨g,o,none⟩) len cap/\len<=cap/\jD w κ g o cs)\/(cs=[]/\len=0/\ ∃ A,a.eval x= .slice A 0 0):=by
 have:=h.ev (l:= .slot 0) x;rw[e]at this
 exact AP.1 this
def CW (n off:Nat) (cs:List au) (m:Nat):(al.agg (((cs.drop off).take n).map ab.f)).ok m=true:=by
 simp only[al.ok,abh];intro y hy;obtain⟨z,_,rfl⟩:=abt.1 hy;rfl
def Nf {P:Program} {s:St} {o:Oper} {tr:Bool} {t:TypeId} {x:Operand} {r:al} {ch:gA} (ho:o.op= .load t x) (h:fY P tr s t x=some (r,ch)):jY P o s r ch:=by
 unfold fY at h;split at h
 next n cs off ht he=>
  split at h
  next y hy=>
   injection h with h;injection h with h1 h2;subst h1;subst h2;refine jY.still fun a w κ ρ hR=> ?_;have⟨g,oo,hv,hrow⟩:=hR.y8 he;have⟨hi,Je⟩:=abj.1 hy;have⟨v,hc,hr⟩:=hrow.cell off hi;rw[Je]at hr
   exact⟨v,mg ho (by rw[hv];exact gl w g (oo+off) t ht hc),fun d=>hr,rfl⟩
  ·cases h
 next n cs off ht he=>
  split at h
  next hn=>
   injection h with h;injection h with h1 h2;subst h1;subst h2;refine jY.still fun a w κ ρ hR=> ?_;have⟨g,oo,hv,hrow⟩:=hR.y8 he;have⟨vs,hl,BF,xj⟩:=hrow.part off n hn;refine⟨.agg vs.toArray,mg ho (by rw[hv];exact jS w g (oo+off) t ht hl BF),fun d=>⟨vs.toArray,rfl,by simp;omega,fun i hi hi'=> ?_⟩,CW _ _ _ _⟩;have hi2:i<n:=by simp at hi;omega
   refine⟨by rw[abi];rfl,?_⟩;have:=xj i hi2 (by omega);simp only[abi,abV,ab2];exact this
  ·cases h
 next n b off ht he=>
  split at h
  next cells hb=>
   split at h
   next y hy=>
    have⟨hi,Je⟩:=abj.1 hy;split at h
    next q sz cs len=>
     injection h with h;injection h with h1 h2;subst h1;subst h2;intro a w κ ρ hR;have⟨v,hc,hr⟩:=(hR.heap.eu b cells hb).cell ((hR.heap.eu b cells hb).qS hy (fun _ _ e=>by cases e)) off hi;rw[Je]at hr
     obtain⟨g,cap,rfl,hT⟩|hn:=hr
     rotate_left
     ·exact⟨v,w,κ,ρ,.inl (mg ho (by rw[hR.mE he];exact gl w _ off t ht hc)),hR.Qc hb hy (fun _ _ e=>by cases e),fun d hd=> .inr hn,rfl,Fr.refl _ _,fun _ _=>rfl⟩
     have m:=Ao (w:=w) (ρ:=ρ) (n:=s.H.length) hT.own (.slot (o.dst.getD 0));refine⟨_,w,_,ρ,.inl (mg ho (by rw[hR.mE he];exact gl w _ off t ht hc)),hR.Mo hb hy (fun _ _ e=>by cases e) m hT.own,fun d hd=> ?_,rfl,m.fr,fun _ _=>rfl⟩;rw[hd];exact .inl ⟨g,cap,rfl,hT.label _⟩
    ·cases h
    next X7 X8=>
     injection h with h;injection h with h1 h2;subst h1;subst h2;refine jY.still fun a w κ ρ hR=> ?_;have⟨v,hc,hr⟩:=(hR.heap.eu b cells hb).cell ((hR.heap.eu b cells hb).qS hy (fun q es e=>by first|exact X7 q es e|exact X8 q es e)) off hi;rw[Je]at hr
     exact⟨v,mg ho (by rw[hR.mE he];exact gl w _ off t ht hc),fun d=>bZ.aZ hr,ab.iu _ (Je▸L6 hR.heap hb off hi)⟩
   ·cases h
  ·cases h
 next n b off ht he=>
  split at h
  next cells hb=>
   split at h
   next hn=>
    injection h with h;injection h with h1 h2;subst h1;subst h2;refine jY.still fun a w κ ρ hR=> ?_;have⟨hn,O4⟩:=hn;have⟨vs,hl,BF,xj⟩:=(hR.heap.eu b cells hb).part off n (.inr ((hR.heap.eu b cells hb).QV O4)) hn;refine⟨.agg vs.toArray,mg ho (by rw[hR.mE he];exact jS w _ off t ht hl BF),fun d=>⟨vs.toArray,rfl,by simp;omega,fun i hi hi'=> ?_⟩,?_⟩
    ·have hi2:i<n:=by simp at hi;omega
     refine⟨by rw[abi];exact ab.iZ _,?_⟩;have:=xj i hi2 (by omega);simp only[abi,abV,ab2];exact bZ.aZ this
    ·simp only[al.ok,abh]
     intro y hy;obtain⟨z,hz,rfl⟩:=abt.1 hy;exact ab.iu _ (hR.heap.ok b cells hb z (aes (adA hz)))
   ·cases h
  ·cases h
 ·cases h
def qH (P:Program) (t:TypeId) (f:Nat):Option Nat:=
 match P.underlying t with
 |some (.struct fields)=>match fields[f]? with
  |some fd=>match P.info? fd.type with
   |some i=>if i.size=0 then none else some fd.offset
   |none=>none
  |none=>none
 |_=>none
def xz {P:Program} {t:TypeId} {k:Nat} (h:qH P t f=some k) (w:World) (g o:Nat):
  (afe t (.pointer (some ⟨g,o,none⟩)) f).run P w= .ok (.pointer (some ⟨g,o+k,none⟩)) w:=by
 unfold qH at h;split at h
 next fields hu=>
  split at h
  next fd hf=>
   split at h
   next i hi=>
    split at h
    ·cases h
    next hz=>
     cases h;simp[afe,run_underlying hu w,hf,adx,fieldPlace,sizeOf,typeInfo,program,acz,hi,hz,acG]
   ·cases h
  ·cases h
 ·cases h
def fT (P:Program) (s:St) (t:TypeId) (x:Operand) (f:Nat):Option (al×gA):=
 match qH P t f,s.ev x with
 |some k,.c (.ip cs off)=>some (.c (.ip cs (off+k)),{})
 |some k,.c (.ptr b off)=>some (.c (.ptr b (off+k)),{})
 |_,_=>none
def yU {P:Program} {s:St} {o:Oper} {t:TypeId} {x:Operand} {r:al} {ch:gA} (ho:o.op= .fieldAddr t x f) (h:fT P s t x f=some (r,ch)):jY P o s r ch:=by
 unfold fT at h;split at h
 next k cs off hk he=>
  injection h with h;injection h with h1 h2;subst h1;subst h2;refine jY.still fun a w κ ρ hR=> ?_;have⟨g,oo,hv,hrow⟩:=hR.y8 he;exact⟨.pointer (some ⟨g,oo+off+k,none⟩),by simp[execOp,ho,hv,xz hk],fun d=>vk.2 ⟨g,oo,by rw[adG],hrow⟩,rfl⟩
 next k b off hk he=>
  injection h with h;injection h with h1 h2;subst h1;subst h2;refine jY.still fun a w κ ρ hR=> ?_;have hv:=hR.mE he;exact⟨_,by simp[execOp,ho,hv,xz hk],fun d=>rfl,by have:=hR.mI x;rw[he]at this;exact this⟩
 ·cases h
def bK (P:Program) (t:TypeId):Option Nat:=
 match P.underlying t with
 |some (.slice e)=>match P.info? e with
  |some i=>some i.size
  |none=>none
 |_=>none
def ur (P:Program) (t:TypeId):Option (Nat×Nat):=
 match P.underlying t with
 |some (.array n e)=>match P.info? e with
  |some i=>some (n,i.size)
  |none=>none
 |_=>none
def fw {P:Program} {t:TypeId} {z:Nat} (h:bK P t=some z): ∃ e i,P.underlying t=some (.slice e)/\P.info? e=some i/\i.size=z:=by
 unfold bK at h;split at h
 next e hu=>
  split at h
  ·rename_i i hi;injection h with h;exact⟨e,i,hu,hi,h⟩
  ·cases h
 ·cases h
def PR {P:Program} {t:TypeId} {n z:Nat} (h:ur P t=some (n,z)): ∃ e i,P.underlying t=some (.array n e)/\P.info? e=some i/\i.size=z:=by
 unfold ur at h;split at h
 next m e hu=>
  split at h
  ·rename_i i hi;injection h with h;injection h with h1 h2;subst h1;exact⟨e,i,hu,hi,h2⟩
  ·cases h
 ·cases h
def run_indexAt_slice {P:Program} {t:TypeId} {z:Nat} (ht:bK P t=some z) (w:World) (g o len cap:Nat) (k:IntKind) (n:Int) (h0:0<=n) (h1:n<len):
  (adC t (.slice (some ⟨g,o,none⟩) len cap) (.int k n)).run P w= .ok (.pointer (some ⟨g,o+n.toNat*z,none⟩)) w:=by
 have⟨e,i,hu,hi,hz⟩:=fw ht;simp[adC,asIntOf,run_underlying hu w,sizeOf,typeInfo,program,acz,hi,hz,h0,h1,acG]
def run_indexAt_array {P:Program} {t:TypeId} {m z:Nat} (ht:ur P t=some (m,z)) (w:World) (g o:Nat) (k:IntKind) (n:Int) (h0:0<=n) (h1:n<m):
  (adC t (.pointer (some ⟨g,o,none⟩)) (.int k n)).run P w= .ok (.pointer (some ⟨g,o+n.toNat*z,none⟩)) w:=by
 have⟨e,i,hu,hi,hz⟩:=PR ht;simp[adC,asIntOf,run_underlying hu w,adx,sizeOf,typeInfo,program,acz,hi,hz,h0,h1,acG]
def al.ix:al->Option Int
 | .c (.f (.v (.int _ n)))=>some n
 |_=>none
def Rel.wU {s:St} {a:Act} {w:World} {κ:Nat->BK} {ρ:Nat->Nat} (h:Rel s a w κ ρ) {x:Operand} {n:Int} (e:(s.ev x).ix=some n): ∃ k,a.eval x= .int k n:=by
 unfold al.ix at e;split at e
 next k m he=>
  cases e;exact⟨k,h.jl (by rw[he];rfl)⟩
 ·cases e
def eW (P:Program) (s:St) (t:TypeId) (x i:Operand):Option (al×gA):=
 match(s.ev i).ix with
 |some n=>if 0<=n then
  match bK P t,ur P t,(s.ev x).aZ with
  |some z,_,.c (.f (.row cs len))=>if n<len then some (.c (.ip cs (n.toNat*z)),{})else none
  |some z,_,.c (.arr b off len _)=>if n<len then some (.c (.ptr b (off+n.toNat*z)),{})else none
  |none,some (m,z),.c (.ptr b off)=>if n<m then some (.c (.ptr b (off+n.toNat*z)),{})else none
  |none,some (m,z),.c (.ip cs off)=>if n<m then some (.c (.ip cs (off+n.toNat*z)),{})else none
  |_,_,_=>none
  else none
 |none=>none
def LG {x:al} {b:Nat} (h:x.aZ= .c (.ptr b off)):x= .c (.ptr b off):=by
 cases x with
 |c x=>cases x<;>first|exact h|cases h|(rename_i q _ _ _;cases q<;>cases h)
 |agg cs=>cases h
 |dt ts=>cases h
def Xx {x:al} {cs:List au} (h:x.aZ= .c (.ip cs off)):x= .c (.ip cs off):=by
 cases x with
 |c x=>cases x<;>first|exact h|cases h|(rename_i q _ _ _;cases q<;>cases h)
 |agg cs=>cases h
 |dt ts=>cases h
def LF {x:al} {b len cap:Nat} (h:x.aZ= .c (.arr b off len cap)):x= .c (.arr b off len cap):=by
 cases x with
 |c x=>cases x<;>first|exact h|cases h|(rename_i q _ _ _;cases q<;>cases h)
 |agg cs=>cases h
 |dt ts=>cases h
def yV {P:Program} {s:St} {o:Oper} {t:TypeId} {x i:Operand} {r:al} {ch:gA} (ho:o.op= .indexAddr t x i) (h:eW P s t x i=some (r,ch)):jY P o s r ch:=by
 unfold eW at h;split at h
 next n hn=>
  split at h
  next h0=>
   split at h
   next _ z cs len hz he=>
    split at h
    next h1=>
     injection h with h;injection h with e1 e2;subst e1;subst e2;refine jY.still fun a w κ ρ hR=> ?_;obtain⟨g,oo,cap,hv,hcap,hrow⟩|⟨_,hl0,_⟩:=hR.vT he
     rotate_left
     ·omega
     have⟨k,hk⟩:=hR.wU hn;exact⟨.pointer (some ⟨g,oo+n.toNat*z,none⟩),by simp[execOp,ho,hv,hk,run_indexAt_slice hz w g oo len cap k n h0 h1],fun d=>vk.2 ⟨g,oo,rfl,hrow⟩,rfl⟩
    ·cases h
   next _ z b off len cap hz he=>
    split at h
    next h1=>
     injection h with h;injection h with e1 e2;subst e1;subst e2;refine jY.still fun a w κ ρ hR=> ?_;have hv:=hR.qx he;have⟨k,hk⟩:=hR.wU hn;exact⟨_,by simp[execOp,ho,hv,hk,run_indexAt_slice hz w _ off len cap k n h0 h1],fun d=>rfl,by have:=hR.mI x;rw[LF he]at this;exact this⟩
    ·cases h
   next m z b off hz _ he=>
    split at h
    next h1=>
     injection h with h;injection h with e1 e2;subst e1;subst e2;refine jY.still fun a w κ ρ hR=> ?_;have hv:=hR.mE (LG he);have⟨k,hk⟩:=hR.wU hn;exact⟨_,by simp[execOp,ho,hv,hk,run_indexAt_array ‹ur P t=some (m,z)› w _ off k n h0 h1],fun d=>rfl,by have:=hR.mI x;rw[LG he]at this;exact this⟩
    ·cases h
   next m z cs off hz _ he=>
    split at h
    next h1=>
     injection h with h;injection h with e1 e2;subst e1;subst e2;refine jY.still fun a w κ ρ hR=> ?_;have⟨g,oo,hv,hrow⟩:=hR.y8 (Xx he);have⟨k,hk⟩:=hR.wU hn;exact⟨.pointer (some ⟨g,oo+off+n.toNat*z,none⟩),by simp[execOp,ho,hv,hk,run_indexAt_array ‹ur P t=some (m,z)› w g (oo+off) k n h0 h1],fun d=>vk.2 ⟨g,oo,by rw[adG],hrow⟩,rfl⟩
    ·cases h
   ·cases h
  ·cases h
 ·cases h
def Bx (s:St) (x:Operand):Option (al×gA):=
 match s.ev x with
 | .c (.ip cs off)=>some (.c (.ip cs off),{})
 | .c (.ptr b off)=>some (.c (.ptr b off),{})
 |_=>none
def PD {P:Program} {s:St} {o:Oper} {x:Operand} {r:al} {ch:gA} (ho:o.op= .nilCheck x) (h:Bx s x=some (r,ch)):jY P o s r ch:=by
 unfold Bx at h;split at h
 next cs off he=>
  injection h with h;injection h with e1 e2;subst e1;subst e2;refine jY.still fun a w κ ρ hR=> ?_;have⟨g,oo,hv,hrow⟩:=hR.y8 he;exact⟨.pointer (some ⟨g,oo+off,none⟩),by simp only[execOp,ho,hv];rfl,fun d=>vk.2 ⟨g,oo,rfl,hrow⟩,rfl⟩
 next b off he=>
  injection h with h;injection h with e1 e2;subst e1;subst e2;refine jY.still fun a w κ ρ hR=> ?_;have hv:=hR.mE he;exact⟨_,by simp only[execOp,ho,hv];rfl,fun d=>rfl,by have:=hR.mI x;rw[he]at this;exact this⟩
 ·cases h
def bJ.a:bJ->al
 | .c x=> .c x
 | .agg cs=> .agg cs
def fJ.a {w:World} {κ:Nat->BK} {ρ:Nat->Nat} {l l':Loc}: ∀ {x:bJ} {v:Value},fJ w κ ρ l x v->cm w κ ρ l' x.a v
 | .c x,v,h=>h.2.loc h.1
 | .agg cs,v,h=>fJ.loc (x:= .agg cs) h
def kP (s:St) (x:Operand) (i:Nat):Option (al×gA):=
 match s.ev x with
 | .dt ts=>match ts[i]? with
  |some y=>some (y.a,{})
  |none=>none
 |_=>none
def DS {P:Program} {s:St} {o:Oper} {x:Operand} {i:Nat} {r:al} {ch:gA} (ho:o.op= .extract x i) (h:kP s x i=some (r,ch)):jY P o s r ch:=by
 unfold kP at h;split at h
 next ts he=>
  split at h
  next y hy=>
   have⟨hi,Je⟩:=abj.1 hy;injection h with h;injection h with e1 e2;subst e1;subst e2;refine jY.still fun a w κ ρ hR=> ?_;have h1:=hR.ev (l:= .slot 0) x;rw[he]at h1
   have⟨vs,hv,hs,hr⟩:=h1;have hi':i<vs.size:=by omega
   refine⟨vs[i],by simp[execOp,ho,hv,Instr.extract,hi'],fun d=> ?_,?_⟩
   ·have:=hr i hi hi'
    rw[Je]at this
    exact this.a
   ·have:=hR.mI x
    rw[he]at this
    have:=abh.1 this y (Je▸abg hi);cases y<;>exact this
  ·cases h
 ·cases h
def wR (cs:List ab) (off:Nat):Option (Bool×Nat)->Option al
 |some (false,_)=>match cs[off]? with
  |some y=>some (.c y)
  |none=>none
 |some (true,n)=>if off+n<=cs.length then some (.agg ((cs.drop off).take n))else none
 |none=>none
def n8 {P:Program} {w:World} {κ:Nat->BK} {ρ:Nat->Nat} {l l':Loc} {cs:List ab} {vs:Array Value} {t:TypeId} {r:al} (hs:vs.size=cs.length) (hr: ∀ i (h:i<cs.length) (h':i<vs.size),cs[i].flat=true/\bZ w κ ρ l cs[i] vs[i]) (h:wR cs off (rW P t)=some r):
  ∃ v,(part t vs off).run P w= .ok v w/\cm w κ ρ l' r v/\ ∀ m,cs.all (ab.ok m)=true->r.ok m=true:=by
 cases ht:rW P t with
 |none=>rw[ht]at h;cases h
 |some bn=>
  have⟨b,n⟩:=bn;have⟨d,i,h1,h2,h3,h4⟩:=Fx ht;have hg:=C9 h1 w;rw[h3]at hg
  rw[ht]at h
  cases b with
  |false=>
   simp only[wR]at h;split at h
   next y hy=>
    cases h;have⟨hi,Je⟩:=abj.1 hy;have hi':off<vs.size:=by omega
    refine⟨vs[off],by simp[part,hg,hi'],?_,fun m hm=>Je▸abh.1 hm _ (abg hi)⟩;have:=hr off hi hi';rw[Je]at this
    exact this.2.loc this.1
   ·cases h
  |true=>
   simp only[wR]at h;split at h
   next hn=>
    cases h;refine⟨.agg (vs.extract off (off+n)),by simp[part,hg,sizeOf,typeInfo,program,acz,h2,h4],⟨_,rfl,by simp;omega,fun j hj hj'=> ?_⟩,fun m hm=> ?_⟩
    ·simp at hj
     simp only[abV,ab2,aeg];have:=hr (off+j) (by omega) (by omega);exact⟨this.1,this.2.loc this.1⟩
    ·simp only[al.ok,abh]at*
     exact fun z hz=>hm z (aes (adA hz))
   ·cases h
def Cv (P:Program) (t:TypeId) (f:Nat):Option (Nat×Option (Bool×Nat)):=
 match P.underlying t with
 |some (.struct fields)=>match fields[f]? with
  |some fd=>some (fd.offset,rW P fd.type)
  |none=>none
 |_=>none
def qu (P:Program) (s:St) (t:TypeId) (x:Operand) (f:Nat):Option (al×gA):=
 match Cv P t f,s.ev x with
 |some (off,k),.agg cs=>match wR cs off k with
  |some r=>some (r,{})
  |none=>none
 |_,_=>none
def Jx {P:Program} {s:St} {o:Oper} {t:TypeId} {x:Operand} {r:al} {ch:gA} (ho:o.op= .field t x f) (h:qu P s t x f=some (r,ch)):jY P o s r ch:=by
 unfold qu at h;split at h
 next off k cs hf he=>
  split at h
  next r' ZC=>
   injection h with h;injection h with e1 e2;subst e1;subst e2;unfold Cv at hf;split at hf
   next fields hu=>
    split at hf
    next fd hfd=>
     injection hf with hf;injection hf with e1 e2;subst e1;subst e2;refine jY.still fun a w κ ρ hR=> ?_;have h1:=hR.ev (l:= .slot 0) x;rw[he]at h1
     have⟨vs,hv,hs,hr⟩:=h1;have⟨v,hrun,wg,hok⟩:=n8 (l':= .slot 0) hs hr ZC;have⟨v2,QJ,_,_⟩:=n8 (l':= .slot 0) hs hr ZC;refine⟨v,by simp[execOp,ho,hv,Instr.field,run_underlying hu w,hfd,asAgg,hrun],fun d=> ?_,hok _ (by have:=hR.mI x;rw[he]at this;exact this)⟩;have⟨v3,G0,QH,_⟩:=n8 (l':= .slot d) hs hr ZC;rw[hrun]at G0
     injection G0 with e3;subst e3;exact QH
    ·cases hf
   ·cases hf
  ·cases h
 ·cases h
def LJ (P:Program) (t:TypeId):Option (Nat×Nat×Option (Bool×Nat)):=
 match P.underlying t with
 |some (.array n e)=>match P.info? e with
  |some i=>some (n,i.size,rW P e)
  |none=>none
 |_=>none
def oZ (P:Program) (s:St) (o:Oper) (t:TypeId) (x i:Operand):Option (al×gA):=
 match LJ P t,s.ev x,(s.ev i).ix with
 |some (m,z,k),.agg cs,some n=>if 0<=n/\n<m then
  match wR cs (n.toNat*z) k with
  |some r=>some (r,{})
  |none=>none
  else none
 |_,_,_=>dz P s o
def Jy {P:Program} {s:St} {o:Oper} {t:TypeId} {x i:Operand} {r:al} {ch:gA} (ho:o.op= .index t x i) (h:oZ P s o t x i=some (r,ch)):jY P o s r ch:=by
 unfold oZ at h;split at h
 next m z k cs n hE he hn=>
  split at h
  next hb=>
   split at h
   next r' ZC=>
    injection h with h;injection h with e1 e2;subst e1;subst e2;unfold LJ at hE;split at hE
    next m' e hu=>
     split at hE
     next ii hi=>
      injection hE with hE;injection hE with e1 e2;injection e2 with e2 e3;subst e1;subst e2;subst e3;refine jY.still fun a w κ ρ hR=> ?_;have h1:=hR.ev (l:= .slot 0) x;rw[he]at h1
      have⟨vs,hv,hs,hr⟩:=h1;have⟨kk,hk⟩:=hR.wU hn;have⟨v,hrun,wg,hok⟩:=n8 (l':= .slot 0) hs hr ZC;refine⟨v,by simp[execOp,ho,hv,hk,Instr.index,asIntOf,run_underlying hu w,hb.1,hb.2,sizeOf,typeInfo,program,acz,hi,hrun],fun d=> ?_,hok _ (by have:=hR.mI x;rw[he]at this;exact this)⟩;have⟨v3,G0,QH,_⟩:=n8 (l':= .slot d) hs hr ZC;rw[hrun]at G0
      injection G0 with e3;subst e3;exact QH
     ·cases hE
    ·cases hE
   ·cases h
  ·cases h
 ·exact kj h
def ab.one:ab->Bool
 | .any=>false
 | .tV=>false
 | .mp .. =>false
 |_=>true
def ab.EV {w:World} {κ:Nat->BK} {ρ:Nat->Nat} {l:Loc}: ∀ {x:ab} {v:Value},bZ w κ ρ l x v->x.one=true->v.oneCell'=true
 | .f x,v,h,e=>cQ.one h
 | .ptr ..,v,h,e=>by have h:v=_:=h;rw[h];rfl
 | .arr ..,v,h,e=>by have h:v=_:=h;rw[h];rfl
 | .bB ..,v,h,e=>by obtain⟨g,cap,rfl,_⟩|⟨_,_,rfl⟩:=h<;>rfl
 | .tV,_,_,e=>by cases e
 | .any,_,_,e=>by cases e
 | .mh ..,v,h,e=>by have h:v=_:=h;rw[h];rfl
 | .mp ..,_,_,e=>by cases e
def al.cells:al->Option (List ab)
 | .c x=>if x.one then some [x]else none
 | .agg cs=>if cs.all ab.one then some cs else none
 | .dt _=>none
structure cJ (w:World) (κ:Nat->BK) (ρ:Nat->Nat) (cs:List ab) (vs:Array Value):Prop where
 size:vs.size=cs.length
 flat: ∀ x∈cs,x.flat=true
 Ow: ∀ l i (h:i<cs.length) (h':i<vs.size),bZ w κ ρ l cs[i] vs[i]
 one: ∀ i (h:i<vs.size),vs[i].oneCell'=true
def Co (h:v.oneCell'=true):v.cells= #[v]:=by cases v<;>first|rfl|cases h
def al.vX {w:World} {κ:Nat->BK} {ρ:Nat->Nat} {l:Loc} {x:al} {cs:List ab} (h:cm w κ ρ l x.aZ v) (e:x.aZ.cells=some cs):cJ w κ ρ cs v.cells:=by
 cases x with
 |c x=>
  simp only[al.aZ,al.cells]at e;split at e
  next h1=>
   injection e with e;subst e;have h2:=ab.EV h h1;rw[Co h2];refine⟨rfl,fun y hy=> ?_,fun l' i hi hi'=> ?_,fun i hi=> ?_⟩
   ·rw[adH.1 hy];exact ab.iZ x
   ·have:i=0:=by simp at hi;exact hi
    subst this;exact bZ.loc (ab.iZ x) h
   ·have:i=0:=by simp at hi;exact hi
    subst this;exact h2
  ·cases e
 |agg cs'=>
  simp only[al.aZ,al.cells]at e;split at e
  next h1=>
   injection e with e;subst e;obtain⟨vs,rfl,hs,hr⟩:=h;refine⟨hs,fun y hy=> ?_,fun l' i hi hi'=> ?_,fun i hi=> ?_⟩
   ·obtain⟨i,hi,rfl⟩:=abk.1 hy
    exact(hr i hi (by omega)).1
   ·exact(hr i hi hi').2.loc (hr i hi hi').1
   ·have hi':i<cs'.length:=by have:i<vs.size:=hi;omega
    exact ab.EV (hr i hi' hi).2 (abh.1 h1 _ (abg hi'))
  ·cases e
 |dt ts=>simp[al.aZ,al.cells]at e
def al.qC {n:Nat} {x:al} {cs:List ab} (h:x.ok n=true) (e:x.aZ.cells=some cs): ∀ y∈cs,y.ok n=true:=by
 cases x with
 |c x=>
  simp only[al.aZ,al.cells]at e;split at e
  ·injection e with e
   subst e;intro y hy;rw[adH.1 hy];exact ab.iu x h
  ·cases e
 |agg cs'=>
  simp only[al.aZ,al.cells]at e;split at e
  ·injection e with e
   subst e;exact abh.1 h
  ·cases e
 |dt ts=>simp[al.aZ,al.cells]at e
def o0 (w:World) (o:Obj) (g:Nat):(w.alloc o).heap[g]? =if g=w.heap.size then some o else w.heap[g]? :=by
 show(w.heap.push o)[g]? =_;rw[Array.getElem?_push]
def yZ (w:World) (o:Obj):(w.alloc o).heap.size=w.heap.size+1:=by show(w.heap.push o).size=_;simp
def fF (n:Nat) (w:World) (κ:Nat->BK) (ρ:Nat->Nat) (o:Obj) (k:BK) (ρ':Nat->Nat) (hρ: ∀ b,b<n->ρ' b=ρ b):Mv (fun _=>False) n w κ ρ (w.alloc o) (fq κ w.heap.size k) ρ':=
 ⟨rfl,rfl,rfl,by rw[yZ];omega,hρ,fun g hg _=>⟨by rw[o0,aak (by omega)],aH _ _ (by omega)⟩,fun _ _ _ _ h=>h.elim,fun _ _ _ h=>h.elim,fun _ _ h=>h.elim⟩
def Rel.new {s:St} {a:Act} {w:World} {κ:Nat->BK} {ρ:Nat->Nat} (h:Rel s a w κ ρ) {cs:List ab} {c:Array Value} (e:TypeId) (hc:cJ w κ ρ cs c) (hok: ∀ x∈cs,x.ok s.H.length=true):
  Rel { s with H:=s.H++[some cs] } a (w.alloc (.cells c e)) (fq κ w.heap.size (.wr s.H.length)) (fq ρ s.H.length w.heap.size):=by
 have m:=fF s.H.length w κ ρ (.cells c e) (.wr s.H.length) (fq ρ s.H.length w.heap.size) (fun b hb=>aH _ _ (by omega));have hR:=h.mv m (fun _ h=>h);have hlen:(s.H++[some cs]).length=s.H.length+1:=by simp
 refine⟨hR.defers,hR.slot,hR.out,fun i=>al.iO (by rw[hlen];omega) _ (hR.ok i),⟨fun b ds hb=> ?_,fun b ds hb=> ?_⟩⟩
 ·rcases abw b s.H.length with hlt|hge
  ·have hb':s.H[b]? =some (some ds):=by rwa [ac2 hlt]at hb
   exact hR.heap.eu b ds hb'
  ·have hbe:b=s.H.length:=by
    rcases abw b (s.H++[some cs]).length with k|k
    ·rw[hlen]at k;omega
    ·rw[abr k]at hb;cases hb
   subst hbe;rw[ac0 (acD _)]at hb
   simp at hb;subst hb;refine⟨by rw[aQ,aQ],.inl ⟨c,e,by rw[aQ,o0,aaN rfl],hc.size,fun i hi hi'=> ?_⟩⟩;exact bZ.gp m.grow m.tX (hok _ (abg hi)) (fun _ _ _ _ e=>by have:=hc.flat _ (abg hi);rw[e]at this;cases this) (hc.Ow (.cell s.H.length i) i hi hi')
 ·intro x hx
  rw[hlen];rcases abw b s.H.length with hlt|hge
  ·have hb':s.H[b]? =some (some ds):=by rwa [ac2 hlt]at hb
   exact ab.iO (by omega) _ (h.heap.ok b ds hb' x hx)
  ·have hbe:b=s.H.length:=by
    rcases abw b (s.H++[some cs]).length with k|k
    ·rw[hlen]at k;omega
    ·rw[abr k]at hb;cases hb
   subst hbe;rw[ac0 (acD _)]at hb
   simp at hb;subst hb;exact ab.iO (by omega) _ (hok x hx)
def vC (P:Program) (t:TypeId):Option (List ab):=
 match P.info? t with
 |some i=>match i.zero with
  |some z=>if z.cells.toList.all adX then some (z.cells.toList.map tW)else none
  |none=>none
 |none=>none
def I5 {P:Program} {t:TypeId} {cs:List ab} (h:vC P t=some cs): ∃ i z,P.info? t=some i/\i.zero=some z/\cs=z.cells.toList.map tW/\ ∀ v∈z.cells,v.oneCell'=true:=by
 unfold vC at h;split at h
 next i hi=>
  split at h
  next z hz=>
   split at h
   next h1=>
    injection h with h;exact⟨i,z,hi,hz,h.symm,fun v hv=>abh.1 h1 v (acJ.2 hv)⟩
   ·cases h
  ·cases h
 ·cases h
def uA {w:World} {κ:Nat->BK} {ρ:Nat->Nat} (vs:Array Value) (h1: ∀ v∈vs,v.oneCell'=true):cJ w κ ρ (vs.toList.map tW) vs:=
 ⟨by simp,fun x hx=>by obtain⟨z,_,rfl⟩:=abt.1 hx;exact u9 z,fun l i hi hi'=>by rw[abi,acA];exact oI _,fun i hi=>h1 _ (aeE hi)⟩
def tJ (n:Nat) (vs:List Value): ∀ x∈vs.map tW,x.ok n=true:=fun x hx=>by obtain⟨z,_,rfl⟩:=abt.1 hx;exact Kt n z
def oY (P:Program) (s:St) (t:TypeId):Option (al×gA):=
 match vC P t with
 |some cs=>some (.c (.ptr s.H.length 0),{ new:=some cs })
 |none=>none
def jY.new {P:Program} {s:St} {o:Oper} {cs:List ab}
  (h: ∀ a w κ ρ,Rel s a w κ ρ-> ∃ c e,(execOp a.eval o).run P w= .ok (.value (.pointer (some ⟨w.heap.size,0,none⟩))) (w.alloc (.cells c e))/\cJ w κ ρ cs c/\ ∀ x∈cs,x.ok s.H.length=true):jY P o s (.c (.ptr s.H.length 0)) { new:=some cs }:=by
 intro a w κ ρ hR;have⟨c,e,h1,h2,h3⟩:=h a w κ ρ hR;refine⟨_,_,_,_,.inl h1,hR.new e h2 h3,fun d _=> ?_,?_,(fF s.H.length w κ ρ (.cells c e) _ ρ (fun _ _=>rfl)).fr,fun b hb=>aH _ _ (by omega)⟩
 ·show _=_
  rw[aQ]
 ·simp[al.ok,ab.ok,St.kZ,St.ir,St.qy,St.qW]
def Jv {P:Program} {s:St} {o:Oper} {t:TypeId} {r:al} {ch:gA} (ho:o.op= .alloc t) (h:oY P s t=some (r,ch)):jY P o s r ch:=by
 unfold oY at h;split at h
 next cs hz=>
  injection h with h;injection h with e1 e2;subst e1;subst e2;obtain⟨i,z,hi,hz2,rfl,h1⟩:=I5 hz;refine jY.new fun a w κ ρ hR=>⟨z.cells,t,?_,uA _ h1,tJ _ _⟩;simp[execOp,ho,Instr.alloc,zeroValue,typeInfo,hi,hz2,newVar,newRow]
 ·cases h
def DO (s:St) (x:Operand):Option (al×gA):=
 match(s.ev x).aZ.cells with
 |some cs=>some (.c (.ptr s.H.length 0),{ new:=some cs })
 |none=>none
def PB {P:Program} {s:St} {o:Oper} {t:TypeId} {x:Operand} {r:al} {ch:gA} (ho:o.op= .box t x) (h:DO s x=some (r,ch)):jY P o s r ch:=by
 unfold DO at h;split at h
 next cs hc=>
  injection h with h;injection h with e1 e2;subst e1;subst e2;refine jY.new fun a w κ ρ hR=>⟨(a.eval x).cells,t,?_,al.vX (hR.ev (l:= .slot 0) x) hc,al.qC (hR.mI x) hc⟩;simp[execOp,ho,Instr.box,newVar,newRow]
 ·cases h
def setAt:List ab->Nat->List ab->List ab
 |cs,_,[]=>cs
 |cs,o,d::ds=>setAt (cs.set o d) (o+1) ds
def dN: ∀ (ds cs:List ab) (o:Nat),(setAt cs o ds).length=cs.length
 |[],_,_=>rfl
 |d::ds,cs,o=>by rw[setAt,dN ds,adV]
def iL: ∀ (ds cs:List ab) (o i:Nat) (h:i<cs.length) (h':i<(setAt cs o ds).length),(setAt cs o ds)[i]=if hh:o<=i/\i<o+ds.length then ds[i-o]'(by omega)else cs[i]
 |[],cs,o,i,h,h'=>by
  rw[dif_neg (by simp only[adw];omega)];rfl
 |d::ds,cs,o,i,h,h'=>by
  have ih:=iL ds (cs.set o d) (o+1) i (by simpa using h) (by simpa[setAt]using h');show(setAt (cs.set o d) (o+1) ds)[i]=_;rw[ih];by_cases h1:o+1<=i/\i<o+1+ds.length
  ·rw[dif_pos h1,dif_pos (by simp only[aby];omega)]
   have:i-o=(i-(o+1))+1:=by omega
   simp[this]
  ·rw[dif_neg h1,List.getElem_set]
   by_cases h2:o=i
   ·rw[aaN h2,dif_pos (by simp only[aby];omega)]
    have:i-o=0:=by omega
    simp[this]
   ·rw[aak h2,dif_neg (by simp only[aby];omega)]
def m9: ∀ (vs:List Value) (w:World) (g o j:Nat),j≠g->(w.setCells g o vs).heap[j]? =w.heap[j]?
 |[],_,_,_,_,_=>rfl
 |v::vs,w,g,o,j,h=>by
  rw[World.setCells,m9 vs _ g (o+1) j h,Go.RowKit.Below.heap_setCell _ _ _ _ h]
def nR: ∀ (vs:List Value) (w:World) (g o:Nat) (c:Array Value) (e:TypeId) (f:Nat×Nat),w.heap[g]? =some (.cells c e f)->
  ∃ c':Array Value,(w.setCells g o vs).heap[g]? =some (.cells c' e f)/\c'.size=c.size/\ ∀ i (h:i<c.size) (h':i<c'.size),c'[i]=if hh:o<=i/\i<o+vs.length then vs[i-o]'(by omega)else c[i]
 |[],w,g,o,c,e,f,h=>⟨c,h,rfl,fun i hi hi'=>by rw[dif_neg (by simp only[adw];omega)]⟩
 |v::vs,w,g,o,c,e,f,h=>by
  have h1:(w.setCell ⟨g,o,none⟩ v).heap[g]? =some (.cells (c.setIfInBounds o v) e f):=by
   simp only[aff,Array.getElem?_modify];simp[h]
  have⟨c',h2,h3,h4⟩:=nR vs _ g (o+1) _ e f h1;refine⟨c',h2,by simpa using h3,fun i hi hi'=> ?_⟩;rw[h4 i (by simpa using hi) hi'];by_cases k:o+1<=i/\i<o+1+vs.length
  ·rw[dif_pos k,dif_pos (by simp only[aby];omega)]
   have:i-o=(i-(o+1))+1:=by omega
   simp[this]
  ·rw[dif_neg k,acX (by simpa using hi)]
   by_cases h2:o=i
   ·rw[aaN h2,dif_pos (by simp only[aby];omega)]
    have:i-o=0:=by omega
    simp[this]
   ·rw[aak h2,dif_neg (by simp only[aby];omega)]
def kL: ∀ (vs:List Value) (w:World) (g o:Nat),(w.setCells g o vs).os=w.os/\(w.setCells g o vs).tape=w.tape/\(w.setCells g o vs).output=w.output/\(w.setCells g o vs).heap.size=w.heap.size
 |[],_,_,_=>⟨rfl,rfl,rfl,rfl⟩
 |v::vs,w,g,o=>by
  have⟨h1,h2,h3,h4⟩:=kL vs (w.setCell ⟨g,o,none⟩ v) g (o+1);exact⟨h1,h2,h3,h4.trans (by simp[aff])⟩
def oA {n:Nat} {w:World} {κ:Nat->BK} {ρ:Nat->Nat} {b:Nat} (hg:κ g= .wr b) (o:Nat) (vs:List Value):Mv (·=g) n w κ ρ (w.setCells g o vs) κ ρ:=by
  have⟨h1,h2,h3,h4⟩:=kL vs w g o;refine⟨h1,h2,h3,by rw[h4];exact acD _,fun _ _=>rfl,fun j _ hj=>⟨m9 vs w g o j hj,rfl⟩,fun j p x hj hT hf=> ?_,fun _ _ _ _ h=>h,fun j m hT=> ?_⟩
  ·subst hT;rw[hg]at hf;simp[BK.fits]at hf
  ·subst hT;rw[hg];intro e;cases e
def vH.store {w:World} {κ:Nat->BK} {ρ:Nat->Nat} {b:Nat} {cs ds:List ab} (h:vH w κ ρ b cs) (hm:jo cs=true) (n:Nat) (hb:b<n) (hok: ∀ x∈cs,x.ok n=true) (off:Nat) {vs:Array Value}
  (hs:vs.size=ds.length) (we: ∀ x∈ds,x.ok n=true) (hr: ∀ i (h:i<ds.length) (h':i<vs.size),bZ w κ ρ (.cell b (off+i)) ds[i] vs[i]):
  vH (w.setCells (ρ b) off vs.toList) κ ρ b (setAt cs off ds):=by
 have hown:=h.own;have m:=oA (n:=n) (w:=w) (ρ:=ρ) hown off vs.toList;have⟨c,e,h1,h2,h3⟩:=h.QV hm;have⟨c',k1,k2,k3⟩:=nR vs.toList w (ρ b) off c e (0,0) h1;have dQ: ∀ i g k,g=ρ b->κ g≠ .bB k (.cell b i):=by intro i g k hg;subst hg;rw[hown];intro e;cases e
 refine⟨hown,.inl ⟨c',e,k1,by rw[k2,h2,dN],fun i hi hi'=> ?_⟩⟩;rw[dN]at hi
 rw[iL ds cs off i hi,k3 i (by omega)];by_cases hh:off<=i/\i<off+ds.length
 ·rw[dif_pos hh,dif_pos (by simp;omega)]
  have:=hr (i-off) (by omega) (by omega);rw[show off+(i-off)=i by omega]at this
  have hx:=we _ (abg (show i-off<ds.length by omega));rw[acA];exact bZ.gp m.grow m.tX hx (fun _ _ _ _ _=>m.gp (dQ i)) this
 ·rw[dif_neg hh,dif_neg (by simp;omega)]
  exact bZ.gp m.grow m.tX (hok _ (abg hi)) (fun _ _ _ _ _=>m.gp (dQ i)) (h3 i hi (by omega))
def vH.there {w:World} {κ:Nat->BK} {ρ:Nat->Nat} {b:Nat} {cs:List ab} (h:vH w κ ρ b cs) (hm:jo cs=true) (off n:Nat) (hn:off+n<=cs.length):w.there (ρ b) off n:=by
 have⟨c,e,h1,h2,h3⟩:=h.QV hm;intro j hj;have:off+j<c.size:=by omega
 simp[ady,afg,h1,this]
def nH {P:Program} (w:World) (g o:Nat) (t:TypeId) {b:Bool} {n:Nat} (ht:rW P t=some (b,n)) (v:Value) (hn:v.cells.size=n) (QK:w.there g o n) (h1: ∀ i (h:i<v.cells.size),v.cells[i].oneCell'=true):
  (aea t (.pointer (some ⟨g,o,none⟩)) v).run P w= .ok () (w.setCells g o v.cells.toList):=by
 have⟨d,i,hu,hi,h3,h4⟩:=Fx ht;have:=run_storeCells_cells (P:=P) g o v.cells.toList 0 w (fun j hj=>by simpa using(QK j (by simp at hj;omega)).1) (fun j hj=>by simpa using(QK j (by simp at hj;omega)).2)
  (fun u hu=>by
   obtain⟨j,hj,rfl⟩:=abk.1 hu;rw[acA]
   exact h1 j (by simpa using hj))
 simp[afj]at this;simp[aea,adx,storeVar,sizeOf,typeInfo,program,acz,hi,h4,hn,this]
def holds (s:St):Operand->Option (Tmp×Bool×Nat×List au×Nat)
 | .tmp u=>match s.ev (.tmp u)with
  | .c (.bB q sz cs len)=>some (u,q,sz,cs,len)
  |_=>none
 |_=>none
def holds_of {s:St} {u:Nat} {q:Bool} {cs:List au} {len:Nat} (h:holds s y=some (u,q,sz,cs,len)):y= .tmp u/\s.ev (.tmp u)= .c (.bB q sz cs len):=by
 unfold holds at h;split at h
 next t=>
  split at h
  next q' sz' cs' NY he=>
   injection h with h;injection h with e1 e2;injection e2 with e2 e3;injection e3 with e3 e4;injection e4 with e4 e5;subst e1;subst e2;subst e3;subst e4;subst e5;exact⟨rfl,he⟩
  ·cases h
 ·cases h
def nK (P:Program) (s:St) (t:TypeId) (x y:Operand):Option (al×gA):=
 match rW P t,s.ev x with
 |some (_,n),.c (.ptr b off)=>match s.H[b]? with
  |some (some cells)=>match holds s y with
   |some (u,q,sz,cs,len)=>if n=1/\off<cells.length/\jo cells=true then some (.c .any,{ aZ:=some u,eu:=some (b,cells.set off (.bB q sz cs len)) })else none
   |none=>match(s.ev y).aZ.cells with
    |some ds=>if ds.length=n/\off+n<=cells.length/\jo cells=true then some (.c .any,{ eu:=some (b,setAt cells off ds) })else none
    |none=>none
  |_=>none
 |_,_=>none
def zD {P:Program} {ev:Operand->Value} {o:Oper} {t:TypeId} {x:Operand} (ho:o.op= .store t x y) {w w':World} (h:(aea t (ev x) (ev y)).run P w= .ok () w'):(execOp ev o).run P w= .ok .skip w':=by
 simp[execOp,ho,h]
def Dy {H:List (Option (List ab))} {b:Nat} {cs:List ab} (h:H[b]? =some (some cs)):b<H.length:=by
 rcases abw b H.length with k|k
 ·exact k
 ·rw[abr k]at h;cases h
def JB {P:Program} {s:St} {o:Oper} {t:TypeId} {x:Operand} {r:al} {ch:gA} (ho:o.op= .store t x y) (h:nK P s t x y=some (r,ch)):jY P o s r ch:=by
 unfold nK at h;split at h
 next bb n b off ht he=>
  split at h
  next cells hb=>
   split at h
   next u q sz cs len UF=>
    obtain⟨rfl,hy⟩:=holds_of UF;split at h
    next hn=>
     injection h with h;injection h with e1 e2;subst e1;subst e2;intro a w κ ρ hR;have⟨κ1,FG,hv,iy⟩:=hR.XP hy (.cell b off);have uM:(a.eval (.tmp u)).oneCell'=true:=ab.EV hv rfl;have zP:=Co uM;have hb1:(s.aZ u).H[b]? =some (some cells):=hb;have hB:=FG.heap.eu b cells hb1
     have mq:=hB.store hn.2.2 (ds:=[.bB q sz cs len]) s.H.length (Dy hb) (hR.heap.ok b cells hb) off (vs:=(a.eval (.tmp u)).cells) (by rw[zP];rfl) (fun z hz=>by rw[adH.1 hz];rfl) (fun i hi hi'=>by
      have hi0:i=0:=by simp at hi;exact hi
      subst hi0;simp[zP]
      exact hv)
     have m:=oA (n:=s.H.length) (w:=w) (ρ:=ρ) hB.own off (a.eval (.tmp u)).cells.toList
     have hR2:=FG.wu hb1 m mq (fun z hz=>by
      rcases List.mem_or_eq_of_mem_set hz with hz|rfl
      ·exact hR.heap.ok b cells hb z hz
      ·rfl)
     refine⟨undef,_,κ1,ρ,.inr ⟨zD ho (by rw[hR.mE he];exact nH w (ρ b) off t ht _ (by rw[zP];exact hn.1.symm) (by rw[hn.1];exact hB.there hn.2.2 off 1 (by omega)) (fun i hi=>by
      have hi0:i=0:=by rw[zP]at hi;simpa using hi
      subst hi0;simp[zP]
      exact uM)),rfl⟩,hR2,fun _ _=>trivial,rfl,iy.trans m.fr,fun _ _=>rfl⟩
    ·cases h
   ·split at h
    next ds Zt=>
     split at h
     next hn=>
      injection h with h;injection h with e1 e2;subst e1;subst e2;intro a w κ ρ hR;have hC:=al.vX (hR.ev (l:= .slot 0) y) Zt;have hB:=hR.heap.eu b cells hb;have we:=al.qC (hR.mI y) Zt;have mq:=hB.store hn.2.2 s.H.length (Dy hb) (hR.heap.ok b cells hb) off hC.size we (fun i hi hi'=>hC.Ow _ i hi hi');have m:=oA (n:=s.H.length) (w:=w) (ρ:=ρ) hB.own off (a.eval y).cells.toList
      have hR2:=hR.wu hb m mq (fun z hz=>by
       obtain⟨i,hi,rfl⟩:=abk.1 hz;have hi2:=hi;rw[dN]at hi2
       rw[iL ds cells off i hi2];split
       ·exact we _ (abg _)
       ·exact hR.heap.ok b cells hb _ (abg _))
      exact⟨undef,_,κ,ρ,.inr ⟨zD ho (by rw[hR.mE he];exact nH w (ρ b) off t ht _ (by rw[hC.size];exact hn.1) (hB.there hn.2.2 off n hn.2.1) hC.one),rfl⟩,hR2,fun _ _=>trivial,rfl,m.fr,fun _ _=>rfl⟩
     ·cases h
    ·cases h
  ·cases h
 ·cases h
def dc:List ab->Nat->List ab
 |[z],n=>List.replicate n z
 |zs,n=>(aeD (n*zs.length)).map fun j=>zs.getD (j%zs.length) .any
def kV (zs:List ab) (n:Nat):dc zs n=(aeD (n*zs.length)).map fun j=>zs.getD (j%zs.length) .any:=by
 unfold dc;split
 next z=>
  apply List.ext_getElem
  ·simp
  ·intro i h1 h2
   simp[Nat.mod_one]
 ·rfl
def eS (P:Program) (t:TypeId):Option (Nat×Nat×List ab):=
 match P.underlying t with
 |some (.slice e)=>match P.info? e,vC P e with
  |some i,some zs=>if zs.length=i.size/\0<i.size then some (i.size,i.bytes,zs)else none
  |_,_=>none
 |_=>none
def gN {P:Program} {t:TypeId} {by_:Nat} {zs:List ab} (h:eS P t=some (sz,by_,zs)):
  ∃ e i z,P.underlying t=some (.slice e)/\P.info? e=some i/\i.zero=some z/\i.size=sz/\i.bytes=by_/\zs=z.cells.toList.map tW/\z.cells.size=sz/\0<sz/\ ∀ v∈z.cells,v.oneCell'=true:=by
 unfold eS at h;split at h
 next e hu=>
  split at h
  next i zs' hi hz=>
   split at h
   next hc=>
    injection h with h;injection h with e1 e2;injection e2 with e2 e3;subst e1;subst e2;subst e3;obtain⟨i',z,hi',hz',rfl,h1⟩:=I5 hz;rw[hi]at hi'
    injection hi' with hi';subst hi';exact⟨e,i,z,hu,hi,hz',rfl,rfl,rfl,by simpa using hc.1,hc.2,h1⟩
   ·cases h
  ·cases h
 ·cases h
def mU {w:World} {κ:Nat->BK} {ρ:Nat->Nat} (z:Array Value) (n:Nat) (hz:0<z.size) (h1: ∀ v∈z,v.oneCell'=true):cJ w κ ρ (dc (z.toList.map tW) n) (madeCells z (n*z.size)):=by
 rw[kV];refine⟨by simp[size_madeCells],fun x hx=> ?_,fun l i hi hi'=> ?_,fun i hi=> ?_⟩
 ·obtain⟨j,_,rfl⟩:=abt.1 hx
  have:j%z.size<z.size:=ae3 _ hz;simp[this,u9]
 ·have hm:i%z.size<z.size:=ae3 _ hz
  simp[madeCells,hm];exact oI _
 ·have hm:i%z.size<z.size:=ae3 _ hz
  simp[madeCells,Array.getElem_map,Array.getElem_range];rw[getElem!_pos z (i%z.size) hm];exact h1 _ (aeE hm)
def nD (n m:Nat) (vs:List Value): ∀ x∈dc (vs.map tW) m,x.ok n=true:=by
 rw[kV];intro x hx;obtain⟨j,_,rfl⟩:=abt.1 hx;rw[GD];cases h:(vs.map tW)[j%(vs.map tW).length]? with
 |none=>rfl
 |some y=>
  have:=acC h;exact tJ n vs y this
def ui (P:Program) (s:St) (t:TypeId) (l c:Operand):Option (al×gA):=
 match eS P t,(s.ev l).ix,(s.ev c).ix with
 |some (sz,by_,zs),some n,some m=>if n=m/\0<=n/\n<=4611686018427387904/\(by_:Int)*n<=281474976710656 then some (.c (.arr s.H.length 0 n.toNat n.toNat),{ new:=some (dc zs n.toNat) })else none
 |_,_,_=>none
def Ng {P:Program} {s:St} {o:Oper} {t:TypeId} {l c:Operand} {r:al} {ch:gA} (ho:o.op= .makeSlice t l c) (h:ui P s t l c=some (r,ch)):jY P o s r ch:=by
 unfold ui at h;split at h
 next sz by_ zs n m hI hn hm=>
  split at h
  next hc=>
   injection h with h;injection h with e1 e2;subst e1;subst e2;obtain⟨rfl,h0,Ja,hb⟩:=hc;obtain⟨e,i,z,hu,hi,hz,rfl,rfl,rfl,hsz,hpos,h1⟩:=gN hI;intro a w κ ρ hR;have⟨kl,hl⟩:=hR.wU hn;have⟨kc,NM⟩:=hR.wU hm;have hrun:=run_make (P:=P) w t e i z hu hi hz kl kc n n h0 (acV _) hb (by omega);have hC:cJ w κ ρ (dc (z.cells.toList.map tW) n.toNat) (madeCells z.cells (n.toNat*i.size)):=by rw[← hsz];exact mU z.cells n.toNat (by omega) h1
   refine⟨_,_,_,_,.inl (by simp[execOp,ho,hl,NM,ab5,hrun];rfl),hR.new e hC (nD _ _ _),fun d _=> ?_,?_,(fF s.H.length w κ ρ (.cells _ e) _ ρ (fun _ _=>rfl)).fr,fun b hb=>aH _ _ (by omega)⟩
   ·show _=_
    rw[aQ]
   ·simp[al.ok,ab.ok,St.kZ,St.ir,St.qy,St.qW]
  ·cases h
 ·cases h
def td (P:Program) (s:St) (o:Oper) (t:TypeId) (x:Operand):Option (al×gA):=
 match bK P t,(s.ev x).aZ with
 |some _,.c (.f (.row _ len))=>some (.c (.f (.v (.int .i64 len))),{})
 |some _,.c (.arr _ _ len _)=>some (.c (.f (.v (.int .i64 len))),{})
 |_,_=>dz P s o
def zC {P:Program} {ev:Operand->Value} {o:Oper} {t:TypeId} {x:Operand} (ho:o.op= .call { callee:= .builtin .len,args:= #[x],argTypes:= #[t] }) {z:Nat} (hz:bK P t=some z) {a:Option Addr} {len cap:Nat} (hv:ev x= .slice a len cap) (w:World):(execOp ev o).run P w= .ok (.value (.int .i64 len)) w:=by
 have⟨e,i,hu,hi,_⟩:=fw hz;simp[execOp,ho,resolve,invoke,builtin,afm,run_underlying hu w,hv,goInt]
def PC {P:Program} {s:St} {o:Oper} {t:TypeId} {x:Operand} {r:al} {ch:gA} (ho:o.op= .call { callee:= .builtin .len,args:= #[x],argTypes:= #[t] }) (h:td P s o t x=some (r,ch)):jY P o s r ch:=by
 unfold td at h;split at h
 next z cs len hz he=>
  injection h with h;injection h with e1 e2;subst e1;subst e2;refine jY.still fun a w κ ρ hR=> ?_;obtain⟨g,oo,cap,hv,hcap,hrow⟩|⟨_,rfl,A,hv⟩:=hR.vT he
  ·exact⟨_,zC ho hz hv w,fun d=>cQ.v _ rfl,rfl⟩
  ·exact⟨_,zC ho hz hv w,fun d=>cQ.v _ rfl,rfl⟩
 next z b off len cap hz he=>
  injection h with h;injection h with e1 e2;subst e1;subst e2;refine jY.still fun a w κ ρ hR=> ?_;exact⟨_,zC ho hz (hR.qx he) w,fun d=>cQ.v _ rfl,rfl⟩
 ·exact kj h
def jg (s:St):Option Operand->Int->Option Int
 |none,d=>some d
 |some x,_=>(s.ev x).ix
def fD (P:Program) (s:St) (o:Oper) (t:TypeId) (x:Operand) (lo hi mx:Option Operand):Option (al×gA):=
 match bK P t,(s.ev x).aZ with
 |some z,.c (.f (.row cs len))=>match jg s lo 0,jg s hi len,jg s mx len,mx.isSome&&hi.isNone with
  |some l,some h,some m,false=>if 0<=l/\l<=h/\h<=m/\m<=len then some (.c (.f (.row ((cs.drop (l.toNat*z)).take ((h-l).toNat*z)) (h-l).toNat)),{})else none
  |_,_,_,_=>none
 |some z,.c (.f .aD)=>match jg s lo 0,jg s hi 0,mx with
  |some 0,some 0,none=>some (.c (.f .aD),{})
  |_,_,_=>none
 |some z,.c (.arr b off len cap)=>match jg s lo 0,jg s hi len,mx with
  |some l,some h,none=>if 0<=l/\l<=h/\h<=cap then some (.c (.arr b (if(cap:Int)=l then off else off+l.toNat*z) (h-l).toNat (cap-l.toNat)),{})else none
  |_,_,_=>none
 |_,_=>dz P s o
def Rel.jg {s:St} {a:Act} {w:World} {κ:Nat->BK} {ρ:Nat->Nat} (h:Rel s a w κ ρ) {x:Option Operand} {d n:Int} (e:jg s x d=some n):(x=none/\n=d)\/ ∃ y k,x=some y/\a.eval y= .int k n:=by
 cases x with
 |none=>injection e with e;exact .inl ⟨rfl,e.symm⟩
 |some y=>have⟨k,hk⟩:=h.wU e;exact .inr ⟨y,k,rfl,hk⟩
def run_sliceBound {P:Program} (w:World) (k:IntKind) (n:Int) (y:Nat) (c:BoundsCode) (h0:0<=n) (h1:n<=y):(adK (.int k n) y c).run P w= .ok n.toNat w:=by
 simp[adK,asIntOf,h0,h1]
def jk {P:Program} {s:St} {a:Act} {w:World} {κ:Nat->BK} {ρ:Nat->Nat} (hR:Rel s a w κ ρ) {lo hi mx:Option Operand} {l h m:Int} {len cap:Nat} (b:Bool) (hl:Av.jg s lo 0=some l) (hh:Av.jg s hi len=some h) (hm:mx=none\/(Av.jg s mx len=some m/\hi.isSome=true/\h<=m/\m<=cap))
  (h0:0<=l) (h1:l<=h) (h2:h<=cap):(acB b len cap (lo.map a.eval) (hi.map a.eval) (mx.map a.eval)).run P w= .ok (l.toNat,h.toNat,if mx=none then cap else m.toNat) w:=by
 have key: ∀ (x:Option Operand) (n:Int) (d:Int),Av.jg s x d=some n->(x=none/\n=d)\/ ∃ y k,x=some y/\a.eval y= .int k n:=fun x n d e=>hR.jg e;have b1: ∀ k (n:Int) (y:Nat) (c:BoundsCode),0<=n->n<=y->(adK (.int k n) y c).run P w= .ok n.toNat w:=fun k n y c p q=>run_sliceBound w k n y c p q;have hm':mx=none\/ ∃ y k,mx=some y/\a.eval y= .int k m/\hi.isSome=true/\h<=m/\m<=cap:=by
  rcases hm with rfl|⟨hm,hs,hhm,hmc⟩
  ·exact .inl rfl
  ·rcases key _ _ _ hm with ⟨rfl,_⟩|⟨y,k,rfl,hy⟩
   ·exact .inl rfl
   ·exact .inr ⟨y,k,rfl,hy,hs,hhm,hmc⟩
 rcases hm' with rfl|⟨y,ky,rfl,hy,hs,hhm,hmc⟩
 ·rcases key _ _ _ hl with ⟨rfl,rfl⟩|⟨u,k,rfl,hu⟩<;>rcases key _ _ _ hh with ⟨rfl,rfl⟩|⟨u2,k2,rfl,CE⟩
  ·simp[acB]
  ·simp[acB,CE,b1 k2 h cap _ (by omega) h2]
  ·simp[acB,hu,b1 k l len _ h0 h1]
  ·simp[acB,hu,CE,b1 k2 h cap _ (by omega) h2,b1 k l h.toNat _ h0 (by omega)]
 ·rcases key _ _ _ hl with ⟨rfl,rfl⟩|⟨u,k,rfl,hu⟩<;>rcases key _ _ _ hh with ⟨rfl,rfl⟩|⟨u2,k2,rfl,CE⟩
  ·cases hs
  ·simp[acB,hy,CE,b1 ky m cap _ (by omega) hmc,b1 k2 h m.toNat _ (by omega) (by omega)]
  ·cases hs
  ·simp[acB,hy,hu,CE,b1 ky m cap _ (by omega) hmc,b1 k2 h m.toNat _ (by omega) (by omega),b1 k l h.toNat _ h0 (by omega)]
def jD.nil {w:World} {κ:Nat->BK} (g o:Nat):jD w κ g o []:=⟨fun i h=>by simp at h,fun h=>absurd rfl h⟩
def jD.aar {w:World} {κ:Nat->BK} {o:Nat} {cs:List au} (h:jD w κ g o cs) (n:Nat):jD w κ g (o+n) (cs.drop n):=by
 rcases abw cs.length n with hn|hn
 ·rw[List.drop_eq_nil_of_le (by omega)];exact .nil _ _
 ·exact h.drop n hn
def JA {P:Program} {s:St} {o:Oper} {t:TypeId} {x:Operand} {lo hi mx:Option Operand} {r:al} {ch:gA} (ho:o.op= .slice t x lo hi mx) (h:fD P s o t x lo hi mx=some (r,ch)):jY P o s r ch:=by
 unfold fD at h;split at h
 next z cs len hz he=>
  split at h
  next l hh m hl O3 hm QE=>
   split at h
   next hc=>
    have⟨h0,h1,h2,h3⟩:=hc;injection h with h;injection h with e1 e2;subst e1;subst e2;refine jY.still fun a w κ ρ hR=> ?_;obtain⟨g,oo,cap,hv,hcap,hrow⟩|⟨rfl,rfl,A,hv⟩:=hR.vT he
    rotate_left
    ·have⟨e,i,hu,hi',FI⟩:=fw hz
     have e1:m=0:=by omega
     have e2:hh=0:=by omega
     have e3:l=0:=by omega
     subst e1;subst e2;subst e3;have hmm:mx=none\/(Av.jg s mx ((0:Nat):Int)=some 0/\hi.isSome=true/\(0:Int)<=0/\(0:Int)<=((0:Nat):Int)):=by
      cases mx with
      |none=>exact .inl rfl
      |some y=>cases hi with
       |none=>cases QE
       |some u=>exact .inr ⟨hm,rfl,h2,by omega⟩
     have hb:=jk (P:=P) hR (len:=0) (cap:=0) (m:=0) (mx:=mx) true hl O3 hmm (acV _) (acV _) (acV _);refine⟨.slice A 0 0,?_,fun d=>by simp only[List.drop_nil,List.take_nil];exact cQ.tL A,rfl⟩;simp only[execOp,ho,hv,adE,ab5,run_underlying hu w,abP,adQ,hb,sizeOf,typeInfo,program,acz,hi',FI];cases A<;>simp[acz,hi',FI]
    have⟨e,i,hu,hi',FI⟩:=fw hz;have hmm:mx=none\/(Av.jg s mx len=some m/\hi.isSome=true/\hh<=m/\m<=cap):=by
     cases mx with
     |none=>exact .inl rfl
     |some y=>cases hi with
      |none=>cases QE
      |some u=>exact .inr ⟨hm,rfl,h2,by omega⟩
    have hb:=jk (P:=P) hR (cap:=cap) (m:=m) (mx:=mx) true hl O3 hmm h0 h1 (by omega);have hM: ∃ M,(if mx=none then cap else m.toNat)=M/\hh.toNat<=M:=by
     refine⟨_,rfl,?_⟩;split<;>omega
    have⟨M,hM,hle⟩:=hM;rw[hM]at hb
    refine⟨.slice (if M=l.toNat then some ⟨g,oo,none⟩else some ⟨g,oo+l.toNat*z,none⟩) (hh.toNat-l.toNat) (M-l.toNat),?_,fun d=> ?_,rfl⟩
    ·simp only[execOp,ho,hv,adE,ab5,run_underlying hu w,abP,adQ,hb,sizeOf,typeInfo,program,acz,hi',FI]
     simp[acG,acz,hi',FI]
    ·have hlen:(hh-l).toNat=hh.toNat-l.toNat:=by omega
     rw[hlen];by_cases hMl:M=l.toNat
     ·rw[aaN hMl]
      have hz0:hh.toNat-l.toNat=0:=by omega
      rw[hz0];simp only[Nat.zero_mul,List.take_zero];exact iI ⟨g,oo,_,rfl,by omega,.nil _ _⟩
     ·rw[aak hMl]
      exact iI ⟨g,oo+l.toNat*z,_,rfl,by omega,(hrow.aar _).take _⟩
   ·cases h
  ·cases h
 next z hz he=>
  split at h
  next hl O3=>
   injection h with h;injection h with e1 e2;subst e1;subst e2;refine jY.still fun a w κ ρ hR=> ?_;have hv:a.eval x= .slice none 0 0:=by
    have:=hR.ev (l:= .slot 0) x;rw[he]at this
    exact eU.1 this
   have⟨e,i,hu,hi',FI⟩:=fw hz;have hb:=jk (P:=P) hR (len:=0) (cap:=0) (m:=0) true hl O3 (.inl rfl) (acV _) (acV _) (acV _);refine⟨.slice none 0 0,?_,fun d=>cQ.aD,rfl⟩;simp only[execOp,ho,hv,adE,ab5,run_underlying hu w,abP,adQ,hb,sizeOf,typeInfo,program,acz,hi',FI];simp[acz,hi']
  ·cases h
 next z b off len cap hz he=>
  split at h
  next l hh hl O3=>
   split at h
   next hc=>
    have⟨h0,h1,h2⟩:=hc;injection h with h;injection h with e1 e2;subst e1;subst e2;refine jY.still fun a w κ ρ hR=> ?_;have hv:=hR.qx he;have⟨e,i,hu,hi',FI⟩:=fw hz;have hb:=jk (P:=P) hR (cap:=cap) (m:=0) true hl O3 (.inl rfl) h0 h1 h2;simp only[aaN]at hb;refine⟨.slice (if cap=l.toNat then some ⟨ρ b,off,none⟩else some ⟨ρ b,off+l.toNat*z,none⟩) (hh.toNat-l.toNat) (cap-l.toNat),?_,fun d=> ?_,by have:=hR.mI x;rw[LF he]at this;exact this⟩
    ·simp only[execOp,ho,hv,adE,ab5,run_underlying hu w,abP,adQ,hb,sizeOf,typeInfo,program,acz,hi',FI]
     simp[acG,acz,hi',FI]
    ·show _=_
     rw[show(hh-l).toNat=hh.toNat-l.toNat by omega];by_cases hk:cap=l.toNat
     ·rw[aaN hk,aaN (by omega)]
     ·rw[aak hk,aak (by omega)]
   ·cases h
  ·cases h
 ·exact kj h
def zL (off:Nat): ∀ (l:List Value) (k:Nat) (vs:Array Value),
  ((l.zipIdx k).foldl (fun cs p=>cs.setIfInBounds (off+p.2) p.1) vs).size=vs.size/\
  ∀ i (h:i<vs.size) (h':i<((l.zipIdx k).foldl (fun cs p=>cs.setIfInBounds (off+p.2) p.1) vs).size),((l.zipIdx k).foldl (fun cs p=>cs.setIfInBounds (off+p.2) p.1) vs)[i]=if hh:off+k<=i/\i<off+k+l.length then l[i-(off+k)]'(by omega)else vs[i]
 |[],k,vs=>⟨rfl,fun i h h'=>by rw[dif_neg (by simp only[adw];omega)];rfl⟩
 |v::l,k,vs=>by
  have⟨h1,h2⟩:=zL off l (k+1) (vs.setIfInBounds (off+k) v);have hf:((v::l).zipIdx k).foldl (fun cs p=>cs.setIfInBounds (off+p.2) p.1) vs=(l.zipIdx (k+1)).foldl (fun cs p=>cs.setIfInBounds (off+p.2) p.1) (vs.setIfInBounds (off+k) v):=rfl;refine⟨by rw[hf,h1];simp,fun i hi hi'=> ?_⟩;have:=h2 i (by simpa using hi) (by rw[← hf];exact hi');simp only[hf,this];by_cases k1:off+(k+1)<=i/\i<off+(k+1)+l.length
  ·rw[dif_pos k1,dif_pos (by simp only[aby];omega)]
   have e:i-(off+k)=(i-(off+(k+1)))+1:=by omega
   simp[e]
  ·rw[dif_neg k1,acX (by simpa using hi)]
   by_cases k2:off+k=i
   ·rw[aaN k2,dif_pos (by simp only[aby];omega)]
    have e:i-(off+k)=0:=by omega
    simp[e]
   ·rw[aak k2,dif_neg (by simp only[aby];omega)]
def Qm (off:Nat) (v vs:Array Value):v.zipIdx.foldl (fun cs (p:Value×Nat)=>cs.setIfInBounds (off+p.2) p.1) vs=(v.toList.zipIdx 0).foldl (fun cs p=>cs.setIfInBounds (off+p.2) p.1) vs:=by
 rw[← Array.foldl_toList];simp
inductive Pl where
 |fields (l:List (Nat×Nat))
 |elems (z:Nat)
def Pl.at:Pl->Nat->Option (Nat×Nat)
 | .fields l,i=>l[i]?
 | .elems z,i=>some (i*z,z)
def lD (p:Pl):List ab->List (Nat×List ab)->Option (List ab)
 |cells,[]=>some cells
 |cells,(i,ds)::rest=>match p.at i with
  |some (off,size)=>if ds.length=size/\off+size<=cells.length then lD p (setAt cells off ds) rest else none
  |none=>none
inductive qk (w:World) (κ:Nat->BK) (ρ:Nat->Nat):List (Nat×List ab)->List (Nat×Value)->Prop
 |nil:qk w κ ρ [] []
 |cons (i:Nat) (ds:List ab) (v:Value) (rest:List (Nat×List ab)) (vs:List (Nat×Value)) (h:cJ w κ ρ ds v.cells) (r:qk w κ ρ rest vs):qk w κ ρ ((i,ds)::rest) ((i,v)::vs)
def zI {w:World} {κ:Nat->BK} {ρ:Nat->Nat} (p:Pl) (pf:Nat->Option (Nat×Nat)) (hp: ∀ i,pf i=p.at i) {parts:List (Nat×List ab)} {pv:List (Nat×Value)} (h:qk w κ ρ parts pv):
  ∀ (cells r:List ab) (vs:Array Value),cJ w κ ρ cells vs->lD p cells parts=some r-> ∃ us,ad1 pf vs pv=some us/\cJ w κ ρ r us:=by
 induction h with
 |nil=>
  intro cells r vs hc e;cases e;exact⟨vs,rfl,hc⟩
 |cons i ds v rest O9 hv _ ih=>
  intro cells r vs hc e;unfold lD at e;split at e
  next off size hat=>
   split at e
   next hn=>
    have⟨h1,h2⟩:=zL off v.cells.toList 0 vs;have hsz:=hc.size;have ZH:=hv.size;have hc2:cJ w κ ρ (setAt cells off ds) ((v.cells.toList.zipIdx 0).foldl (fun cs p=>cs.setIfInBounds (off+p.2) p.1) vs):=by
     refine⟨by rw[h1,dN];exact hsz,fun x hx=> ?_,fun l j hj hj'=> ?_,fun j hj=> ?_⟩
     ·obtain⟨j,hj,rfl⟩:=abk.1 hx
      have hj2:=hj;rw[dN]at hj2
      rw[iL ds cells off j hj2];split
      ·exact hv.flat _ (abg _)
      ·exact hc.flat _ (abg _)
     ·rw[dN]at hj
      rw[iL ds cells off j hj,h2 j (by omega)];by_cases hh:off<=j/\j<off+ds.length
      ·rw[dif_pos hh,dif_pos (by simp;omega)]
       have:=hv.Ow l (j-off) (by omega) (by omega);simpa using this
      ·rw[dif_neg hh,dif_neg (by simp;omega)]
       exact hc.Ow l j hj (by omega)
     ·have hj2:j<vs.size:=by rw[h1]at hj;exact hj
      rw[h2 j hj2];split
      next hh=>
       have:=hv.one (j-off) (by simp at hh;omega);simpa using this
      ·exact hc.one j hj2
    have⟨us,QL,CE⟩:=ih _ r _ hc2 e;refine⟨us,?_,CE⟩;have aa0: ¬ (v.cells.size≠size||decide (off+v.cells.size>vs.size))=true:=by
     simp;omega
    simp only[ad1,hp i,hat];rw[aak aa0,← QL];congr 1;exact Qm off v.cells vs
   ·cases e
  ·cases e
def gV (s:St):List (Nat×Operand)->Option (List (Nat×List ab))
 |[]=>some []
 |(i,x)::rest=>match(s.ev x).aZ.cells,gV s rest with
  |some ds,some r=>some ((i,ds)::r)
  |_,_=>none
def pG {s:St} {a:Act} {w:World} {κ:Nat->BK} {ρ:Nat->Nat} (hR:Rel s a w κ ρ): ∀ (ps:List (Nat×Operand)) (r:List (Nat×List ab)),gV s ps=some r->qk w κ ρ r (ps.map fun p=>(p.1,a.eval p.2))/\ ∀ q∈r,∀ x∈q.2,x.ok s.H.length=true
 |[],r,h=>by cases h;exact⟨.nil,fun q hq=>by cases hq⟩
 |(i,x)::rest,r,h=>by
  unfold gV at h;split at h
  next ds r' h1 h2=>
   cases h;have⟨k1,k2⟩:=pG hR rest r' h2;refine⟨.cons i ds _ _ _ (al.vX (hR.ev (l:= .slot 0) x) h1) k1,fun q hq=> ?_⟩;rcases ac7.1 hq with rfl|hq
   ·exact al.qC (hR.mI x) h1
   ·exact k2 q hq
  ·cases h
def F9 {n:Nat} (p:Pl): ∀ (parts:List (Nat×List ab)) (cells r:List ab),(∀ q∈parts,∀ x∈q.2,x.ok n=true)->(∀ x∈cells,x.ok n=true)->lD p cells parts=some r-> ∀ x∈r,x.ok n=true
 |[],cells,r,_,hc,e=>by cases e;exact hc
 |(i,ds)::rest,cells,r,hp,hc,e=>by
  unfold lD at e;split at e
  next off size hat=>
   split at e
   ·refine F9 p rest _ r (fun q hq=>hp q (aet _ hq)) (fun x hx=> ?_) e
    obtain⟨j,hj,rfl⟩:=abk.1 hx;have hj2:=hj;rw[dN]at hj2
    rw[iL ds cells off j hj2];split
    ·exact hp (i,ds) (List.mem_cons_self ..) _ (abg _)
    ·exact hc _ (abg _)
   ·cases e
  ·cases e
def bInfo (P:Program) (t:TypeId):Option (List ab×Pl):=
 match P.info? t,P.underlying t with
 |some it,some (.array _ e)=>match it.zero,P.info? e with
  |some z,some ie=>if z.cells.toList.all adX then some (z.cells.toList.map tW,.elems ie.size)else none
  |_,_=>none
 |some it,some (.struct fields)=>match it.zero,fields.toList.mapM (fun f=>(P.info? f.type).map fun i=>(f.offset,i.size))with
  |some z,some places=>if z.cells.toList.all adX then some (z.cells.toList.map tW,.fields places)else none
  |_,_=>none
 |_,_=>none
def Gg {P:Program} {t:TypeId} {zs:List ab} {p:Pl} (h:bInfo P t=some (zs,p)): ∃ (z:Array Value) (pf:Nat->Option (Nat×Nat)),zs=z.toList.map tW/\(∀ v∈z,v.oneCell'=true)/\(∀ i,pf i=p.at i)/\ ∀ parts,P.built t parts=ad1 pf z parts:=by
 unfold bInfo at h;split at h
 next it n e hi hu=>
  split at h
  next z ie hz hie=>
   split at h
   next h1=>
    injection h with h;injection h with e1 e2;subst e1;subst e2;exact⟨z.cells,_,rfl,fun v hv=>abh.1 h1 v (acJ.2 hv),fun i=>rfl,fun parts=>by simp[Program.built,hi,hu,hz,hie];rfl⟩
   ·cases h
  ·cases h
 next it fields hi hu=>
  split at h
  next z places hz hpl=>
   split at h
   next h1=>
    injection h with h;injection h with e1 e2;subst e1;subst e2;exact⟨z.cells,fun i=>places.toArray[i]?,rfl,fun v hv=>abh.1 h1 v (acJ.2 hv),fun i=>by simp[Pl.at],fun parts=>by simp[Program.built,hi,hu,hz,hpl]⟩
   ·cases h
  ·cases h
 ·cases h
def qs (P:Program) (s:St) (t:TypeId) (parts:List (Nat×Operand)):Option (al×gA):=
 match bInfo P t,gV s parts with
 |some (zs,p),some ps=>match lD p zs ps with
  |some cs=>some (.agg cs,{})
  |none=>none
 |_,_=>none
def Jw {P:Program} {s:St} {o:Oper} {t:TypeId} {parts:Array (Nat×Operand)} {r:al} {ch:gA} (ho:o.op= .build t parts) (h:qs P s t parts.toList=some (r,ch)):jY P o s r ch:=by
 unfold qs at h;split at h
 next zs p ps hb hp=>
  split at h
  next cs hf=>
   injection h with h;injection h with e1 e2;subst e1;subst e2;obtain⟨z,pf,rfl,h1,hpf,hbt⟩:=Gg hb;refine jY.still fun a w κ ρ hR=> ?_;have⟨k1,k2⟩:=pG hR parts.toList ps hp;have⟨us,QL,CE⟩:=zI p pf hpf k1 _ cs z (uA z h1) hf;refine⟨.agg us,?_,fun d=>⟨us,rfl,CE.size,fun i hi hi'=>⟨CE.flat _ (abg hi),CE.Ow _ i hi hi'⟩⟩,?_⟩
   ·have:=run_build (P:=P) w t (parts.map fun(i,x)=>(i,a.eval x)) us (by rw[hbt,ae4];exact QL)
    simp only[execOp,ho,ab5,this];rfl
   ·simp only[al.ok,abh]
    exact F9 p ps _ cs k2 (tJ _ _) hf
  ·cases h
 ·cases h
def ab.fz:ab->Option au
 | .f .aD=>some (.row [] 0)
 | .f x=>some x
 | .bB true _ cs len=>some (.row cs len)
 |_=>none
def ng:List ab->Option (List au)
 |[]=>some []
 |c::cs=>match c.fz,ng cs with
  |some x,some xs=>some (x::xs)
  |_,_=>none
def ab.qI {w:World} {κ:Nat->BK} {ρ:Nat->Nat} {l:Loc}: ∀ {x:ab} {y:au} {v:Value},bZ w κ ρ l x v->x.fz=some y->cQ w κ y v
 | .f .aD,y,v,h,e=>by cases e;rw[eU.1 h];exact .tL _
 | .f (.v _),y,v,h,e=>by cases e;exact h
 | .f (.row ..),y,v,h,e=>by cases e;exact h
 | .f (.ip ..),y,v,h,e=>by cases e;exact h
 | .bB true sz cs len,y,v,h,e=>by cases e;exact bZ.aZ (l':=l) h
 | .bB false sz cs len,y,v,h,e=>by cases e
 | .ptr ..,_,_,_,e=>by cases e
 | .arr ..,_,_,_,e=>by cases e
 | .tV,_,_,_,e=>by cases e
 | .any,_,_,_,e=>by cases e
 | .mh ..,_,_,_,e=>by cases e
 | .mp ..,_,_,_,e=>by cases e
def kH: ∀ (cs:List ab) (xs:List au),ng cs=some xs->xs.length=cs.length/\ ∀ i (h:i<cs.length) (h':i<xs.length),cs[i].fz=some xs[i]
 |[],xs,h=>by cases h;exact⟨rfl,fun i h=>by simp at h⟩
 |c::cs,xs,h=>by
  unfold ng at h;split at h
  next x ys e1 e2=>
   cases h;have⟨h1,h2⟩:=kH cs ys e2;refine⟨by simp[h1],fun i hi hi'=> ?_⟩;cases i with
   |zero=>exact e1
   |succ i=>exact h2 i (by simpa using hi) (by simpa using hi')
  ·cases h
def qY {w:World} {κ:Nat->BK} {ρ:Nat->Nat} {b:Nat} {cs:List ab} (h:vH w κ ρ b cs) {k:Nat} (hk:off+k<=cs.length) {fs:List au} (hf:ng ((cs.drop off).take k)=some fs):k=0\/rB w κ ρ b cs:=by
 rcases Nat.eq_zero_or_pos k with h0|h0
 ·exact .inl h0
 ·right
  have hlt:off<cs.length:=by omega
  refine h.qS (GE hlt) fun q es e=> ?_;have⟨f1,f2⟩:=kH _ fs hf;have hl:0<((cs.drop off).take k).length:=by rw[acS,ac8];omega
  have:=f2 0 hl (by omega);simp[abV,ab2,afj]at this;rw[e]at this
  cases this
def MU {w:World} {κ:Nat->BK} {ρ:Nat->Nat} {n:Nat} (l:Loc) (q:Bool) {len cap:Nat} {fs:List au} {c:Array Value} (e:TypeId) (hl:fs.length=len*sz) (hle:len<=cap) (hc:c.size=cap*sz)
  (hr: ∀ i (h:i<fs.length) (h':i<c.size),cQ w κ fs[i] c[i]):nn (w.alloc (.cells c e)) (fq κ w.heap.size (.bB (yy q fs.length) l)) l q sz fs len w.heap.size cap:=by
 have m:=fF n w κ ρ (.cells c e) (.bB (yy q fs.length) l) ρ (fun _ _=>rfl);have hsz:fs.length<=c.size:=by rw[hl,hc];exact acE _ hle
 have hh:(w.alloc (.cells c e)).heap[w.heap.size]? =some (.cells c e (0,0)):=by rw[o0,aaN rfl]
 refine⟨fun i hi=> ?_,by rw[yZ];omega,hl,aQ _ _ _,hle,c,e,hh,hc⟩;have hi':i<c.size:=by omega
 exact⟨c[i],by unfold ady;rw[hh];simp[hi'],(hr i hi hi').grow m.grow⟩
def gu (P:Program) (s:St) (t:TypeId) (len:Nat) (parts:List (Nat×Operand)):Option (al×gA):=
 match eS P t,gV s parts with
 |some (sz,_,zs),some ps=>if len*sz<=16777216 then
  match lD (.elems sz) (dc zs len) ps with
  |some cs=>match ng cs with
    |some fs=>some (.c (.bB true sz fs len),{})
    |none=>none
  |none=>none
  else none
 |_,_=>none
def xM {P:Program} {s:St} {o:Oper} {t:TypeId} {len:Nat} {parts:Array (Nat×Operand)} {r:al} {ch:gA} (ho:o.op= .buildSlice t len parts) (h:gu P s t len parts.toList=some (r,ch)):jY P o s r ch:=by
 unfold gu at h;split at h
 next sz by_ zs ps hI hp=>
  split at h
  next hlen=>
   split at h
   next cs hf=>
    split at h
    next fs Bp=>
     injection h with h;injection h with e1 e2;subst e1;subst e2;obtain⟨e,i,z,hu,hi,hz,rfl,rfl,rfl,hsz,hpos,h1⟩:=gN hI;intro a w κ ρ hR;have⟨k1,k2⟩:=pG hR parts.toList ps hp;have hm:cJ w κ ρ (dc (z.cells.toList.map tW) len) (madeCells z.cells (len*i.size)):=by rw[← hsz];exact mU z.cells len (by omega) h1
     have⟨us,QL,CE⟩:=zI (.elems i.size) (fun j=>some (j*i.size,i.size)) (fun _=>rfl) k1 _ cs _ hm hf;have⟨f1,f2⟩:=kH cs fs Bp;have hcl:cs.length=len*i.size:=by
      have hlen2: ∀ (p:Pl) (parts:List (Nat×List ab)) (cells r:List ab),lD p cells parts=some r->r.length=cells.length:=by
       intro p parts
       induction parts with
       |nil=>intro cells r e;cases e;rfl
       |cons q rest ih=>
        intro cells r e;have⟨j,ds⟩:=q;unfold lD at e;split at e
        ·split at e
         ·rw[ih _ _ e,dN]
         ·cases e
        ·cases e
      rw[hlen2 _ _ _ _ hf,kV];simp[hsz]
     have hus:us.size=len*i.size:=by rw[CE.size,hcl]
     have hT:=MU (w:=w) (κ:=κ) (ρ:=ρ) (n:=s.H.length) (.slot (o.dst.getD 0)) true (sz:=i.size) (len:=len) (cap:=len) (fs:=fs) (c:=us) e (by rw[f1,hcl]) (acD _) hus (fun j hj hj'=>ab.qI (CE.Ow (.slot 0) j (by omega) hj') (f2 j (by omega) hj));have m:=fF s.H.length w κ ρ (.cells us e) (.bB (yy true fs.length) (.slot (o.dst.getD 0))) ρ (fun _ _=>rfl);refine⟨.slice (some ⟨w.heap.size,0,none⟩) len len,_,_,ρ,.inl ?_,hR.mv m (fun _ h=>h),fun d hd=> ?_,rfl,m.fr,fun _ _=>rfl⟩
     ·have hn: ¬ (16777216<len*i.size):=by omega
      have uK:ad1 (fun j=>some (j*i.size,i.size)) (madeCells z.cells (len*i.size)) (parts.toList.map fun p=>(p.1,a.eval p.2))=some us:=QL;by_cases hz0:len*i.size=0
      ·have Zz:madeCells z.cells (len*i.size)= #[]:=adL (by rw[size_madeCells,hz0])
       rw[Zz]at uK
       have hr0:(Array.range 0).map (fun _=>(default:Value))= #[]:=adL (by simp);simp[execOp,ho,ae6,ab5,run_underlying hu w,abP,sizeOf,typeInfo,program,acz,hi];simp[acz,hi,hn,hz0,hr0,uK,newRow]
      ·simp[execOp,ho,ae6,ab5,run_underlying hu w,abP,sizeOf,typeInfo,program,acz,hi]
       unfold madeCells at uK;simp[acz,hi,hn,hz0,hz,uK,newRow,zeroValue,typeInfo]
     ·rw[hd]at hT⊢
      exact .inl ⟨w.heap.size,len,rfl,hT⟩
    ·cases h
   ·cases h
  ·cases h
 ·cases h
def bQ (P:Program) (s:St) (sz:Nat) (tx:TypeId) (y:Operand):Option (Nat×List au):=
 match(s.ev y).aZ with
 | .c (.f (.row cs n))=>match bK P tx with
  |some z=>if z=sz/\cs.length=n*sz then some (n,cs)else none
  |none=>none
 | .c (.f .aD)=>match bK P tx with
  |some z=>some (0,[])
  |none=>none
 | .c (.arr b off n _)=>match bK P tx,s.H[b]? with
  |some z,some (some cells)=>if z=sz/\off+n*sz<=cells.length then
   match ng ((cells.drop off).take (n*sz))with
   |some fs=>some (n,fs)
   |none=>none
   else none
  |_,_=>none
 |_=>none
def Dn {P:Program} (w:World) (size:Nat) (tx:TypeId) {z:Nat} (hz:bK P tx=some z) (g o n c:Nat) (news:List Value) (hl:news.length=n*size) (hr:w.rangeAt g o news) (h1: ∀ u∈news,u.oneCell'=true):Src P size tx (.slice (some ⟨g,o,none⟩) n c) n news w:=by
 have⟨e,i,hu,hi,_⟩:=fw hz;exact Src.ofSlice w hu ⟨g,o,none⟩ n c news hl (fun j u hj=>by rw[acG];exact hr j u hj) h1
def iM {P:Program} {s:St} {n:Nat} {fs:List au} (h:bQ P s sz tx y=some (n,fs)) {a:Act} {w:World} {κ:Nat->BK} {ρ:Nat->Nat} (hR:Rel s a w κ ρ):
  ∃ news:List Value,Src P sz tx (a.eval y) n news w/\news.length=fs.length/\fs.length=n*sz/\ ∀ i (h:i<fs.length) (h':i<news.length),cQ w κ fs[i] news[i]:=by
 unfold bQ at h;split at h
 next cs m he=>
  split at h
  next z hz=>
   split at h
   next hc=>
    injection h with h;injection h with e1 e2;subst e1;subst e2;obtain⟨g,oo,cap,hv,hcap,hrow⟩|⟨rfl,rfl,A,hv⟩:=hR.vT he
    rotate_left
    ·have⟨e,i,hu,hi,_⟩:=fw hz
     refine⟨[],?_,rfl,by simp,fun i h=>by simp at h⟩;rw[hv];cases A with
     |none=>exact Src.ofNil w hu 0
     |some A=>exact Src.ofSlice w hu A 0 0 [] (by simp) (fun j u h=>by simp at h) (fun u h=>by cases h)
    have⟨vs,hl,BF,xj⟩:=hrow.part 0 cs.length (by omega);have abn: ∀ i (h:i<cs.length) (h':i<vs.length),cQ w κ cs[i] vs[i]:=fun i hi hi'=>by
     have:=xj i hi hi';simpa using this
    refine⟨vs,?_,hl,hc.2,abn⟩;rw[hv];refine Dn w sz tx hz g oo m cap vs (by rw[hl];exact hc.2) BF (fun u hu=> ?_);obtain⟨i,hi,rfl⟩:=abk.1 hu;exact(abn i (by omega) hi).one
   ·cases h
  ·cases h
 next he=>
  split at h
  next z hz=>
   injection h with h;injection h with e1 e2;subst e1;subst e2;have hv:a.eval y= .slice none 0 0:=by
    have:=hR.ev (l:= .slot 0) y;rw[he]at this
    exact eU.1 this
   have⟨e,i,hu,hi,_⟩:=fw hz;exact⟨[],by rw[hv];exact Src.ofNil w hu 0,rfl,by simp,fun i h=>by simp at h⟩
  ·cases h
 next b off m cap he=>
  split at h
  next z cells hz hb=>
   split at h
   next hc=>
    split at h
    next gs Wr=>
     injection h with h;injection h with e1 e2;subst e1;subst e2;have⟨vs,hl,BF,xj⟩:=(hR.heap.eu b cells hb).part off (m*sz) (qY (hR.heap.eu b cells hb) hc.2 Wr) hc.2;have⟨f1,f2⟩:=kH _ gs Wr;have Zn:gs.length=m*sz:=by rw[f1];simp;omega
     have wg: ∀ i (h:i<gs.length) (h':i<vs.length),cQ w κ gs[i] vs[i]:=fun i hi hi'=>by
      have h3:=xj i (by omega) hi';have h4:=f2 i (by rw[← f1];exact hi) hi;simp[abV,ab2]at h4;exact ab.qI h3 h4
     refine⟨vs,?_,by omega,Zn,wg⟩;rw[hR.qx he];refine Dn w sz tx hz (ρ b) off m cap vs hl BF (fun u hu=> ?_);obtain⟨i,hi,rfl⟩:=abk.1 hu;exact(wg i (by omega) hi).one
    ·cases h
   ·cases h
  ·cases h
 ·cases h
def gW (P:Program) (s:St) (t tx:TypeId) (x y:Operand):Option (al×gA):=
 match eS P t with
 |some (sz,by_,_)=>match bQ P s sz tx y with
  |some (n,fs)=>match holds s x with
   |some (u,q,z,cs,len)=>if z=sz/\len+n<=4611686018427387904/\(len+n)*by_<=140737488355328 then some (.c (.bB q sz (cs++fs) (len+n)),{ aZ:=some u })else none
   |none=>match s.ev x with
    | .c (.f .aD)=>if n<=4611686018427387904/\n*by_<=140737488355328 then some (.c (.bB true sz fs n),{})else none
    |_=>none
  |none=>none
 |none=>none
def ft {P:Program} {ev:Operand->Value} {o:Oper} {t tx:TypeId} {x y:Operand} (ho:o.op= .call { callee:= .builtin .append,args:= #[x,y],argTypes:= #[t,tx] }) {v:Value} {w w':World} (h:(afn #[t,tx] o.type #[ev x,ev y]).run P w= .ok v w'):(execOp ev o).run P w= .ok (.value v) w':=by
 simp[execOp,ho,resolve,invoke,builtin,h]
def lQ (n:Nat) (w:World) (κ:Nat->BK) (ρ:Nat->Nat):Mv (fun _=>False) n w κ ρ w.drew κ ρ:=
 ⟨rfl,rfl,rfl,acD _,fun _ _=>rfl,fun _ _ _=>⟨rfl,rfl⟩,fun _ _ _ _ h=>h.elim,fun _ _ _ h=>h.elim,fun _ _ h=>h.elim⟩
def Cy {w:World} {κ:Nat->BK} {ρ:Nat->Nat} {n:Nat} (l:Loc) (q:Bool) {len m cap:Nat} {cs fs:List au} {olds news:List Value} (e:TypeId) (z:Array Value) (hz:z.size=sz) (hcs:cs.length=len*sz) (Bp:fs.length=m*sz)
  (h1:olds.length=cs.length) (h2:news.length=fs.length) (hle:len+m<=cap) (hr1: ∀ i (h:i<cs.length) (h':i<olds.length),cQ w κ cs[i] olds[i]) (BE: ∀ i (h:i<fs.length) (h':i<news.length),cQ w κ fs[i] news[i]):
  nn (w.drew.alloc (.cells ((olds++news).toArray++abO z (cap-(len+m))) e)) (fq κ w.heap.size (.bB (yy q (cs++fs).length) l)) l q sz (cs++fs) (len+m) w.heap.size cap:=by
 have hsz:((olds++news).toArray++abO z (cap-(len+m))).size=cap*sz:=by
  simp[aeZ,List.size_toArray,acH,abO,Array.size_map,Array.size_range,h1,h2,hcs,Bp,hz,← adB];congr 1;omega
 have:=MU (w:=w.drew) (κ:=κ) (ρ:=ρ) (n:=n) l q (sz:=sz) (len:=len+m) (cap:=cap) (fs:=cs++fs) (c:=(olds++news).toArray++abO z (cap-(len+m))) e (by rw[acH,hcs,Bp,adB]) hle hsz (fun i hi hi'=>by
  rw[acH]at hi
  rw[ac1 (by simp;omega),abz];have hg:=(lQ n w κ ρ).grow;rcases abw i cs.length with hlt|hge
  ·rw[acO hlt,acO (by omega)]
   exact(hr1 i hlt (by omega)).grow hg
  ·rw[acM hge,acM (by omega)]
   have:=(BE (i-cs.length) (by omega) (by omega)).grow hg;simp[h1]
   exact this)
 exact this
def grownCap_ge (w:World) (need old:Nat) (e:TypeId):need<=grownCap w need old e:=by
 unfold grownCap Question.cut;exact ae7 _ _
def append_nil {P:Program} {s:St} {o:Oper} {t tx:TypeId} {x y:Operand} (ho:o.op= .call { callee:= .builtin .append,args:= #[x,y],argTypes:= #[t,tx] }) {sz by_:Nat} {zs:List ab} (hI:eS P t=some (sz,by_,zs)) {n:Nat} {fs:List au} (iR:bQ P s sz tx y=some (n,fs)) (Ja:n<=4611686018427387904) (ym:n*by_<=140737488355328)
  {a:Act} {w:World} {κ:Nat->BK} {ρ:Nat->Nat} (hR:Rel s a w κ ρ) (hv:a.eval x= .slice none 0 0) (l:Loc) (q:Bool):
  ∃ v w' κ',(execOp a.eval o).run P w= .ok (.value v) w'/\Rel s a w' κ' ρ/\bZ w' κ' ρ l (.bB q sz fs n) v/\Fr w κ w' κ':=by
 obtain⟨e,i,z,hu,hi,hz,rfl,rfl,rfl,hsz,hpos,h1⟩:=gN hI;have⟨news,hs,Jc,FH,sq⟩:=iM iR hR;by_cases hn0:n=0
 ·subst hn0
  have Bp:fs=[]:=acU (by omega);have Ka:news=[]:=acU (by omega);subst Ka;exact⟨_,w,κ,ft ho (by rw[hv];exact run_append_nothing (P:=P) w t tx o.type e i hu hi none 0 0 (acD _) _ hs),hR,.inr ⟨Bp,rfl,rfl⟩,Fr.refl _ _⟩
 ·have GY:(abA i.size 0 (.slice none 0 0)).run P w.drew= .ok ([]:List Value).toArray w.drew:=rfl
  have lq:=growslice_fits (need:=0+n) (old:=0) (bytes:=i.bytes) (by omega) (by rw[acN];exact ym);have hrun:=run_append_grow_src (P:=P) w t tx o.type e i z hu hi hz none 0 0 [] GY (a.eval y) n news hs (by omega) (by omega) lq;have Wm:=Cy (w:=w) (κ:=κ) (ρ:=ρ) (n:=s.H.length) l q (m:=n) (len:=0) (cap:=grownCap w (0+n) 0 e) (cs:=[]) (olds:=[]) (news:=news) e z.cells hsz (by simp) FH rfl Jc (grownCap_ge _ _ _ _) (fun j hj=>by simp at hj) sq;have m1:=lQ s.H.length w κ ρ;have m2:=fF s.H.length w.drew κ ρ (.cells (([]++news).toArray++abO z.cells (grownCap w (0+n) 0 e-(0+n))) e) (.bB (yy q ([]++fs).length) l) ρ (fun _ _=>rfl);refine⟨_,_,_,ft ho (by rw[hv];exact hrun),(hR.mv m1 (fun _ h=>h)).mv m2 (fun _ h=>h),?_,m1.fr.trans m2.fr⟩;rw[acN]at Wm⊢
  exact .inl ⟨w.heap.size,_,rfl,Wm⟩
def F8 {P:Program} {s:St} {o:Oper} {t tx:TypeId} {x y:Operand} {r:al} {ch:gA} (ho:o.op= .call { callee:= .builtin .append,args:= #[x,y],argTypes:= #[t,tx] }) (h:gW P s t tx x y=some (r,ch)):jY P o s r ch:=by
  unfold gW at h;split at h
  next sz by_ zs hI=>
   obtain⟨e,i,z,hu,hi,hz,rfl,rfl,rfl,hsz,hpos,h1⟩:=gN hI;split at h
   next n fs iR=>
    split at h
    next u q zz cs len UF=>
     obtain⟨rfl,hx⟩:=holds_of UF;split at h
     next hc=>
      obtain⟨rfl,Ja,ym⟩:=hc;injection h with h;injection h with e1 e2;subst e1;subst e2;intro a w κ ρ hR;have⟨news,hs,Jc,FH,sq⟩:=iM iR hR;have abx:=hR.Ev u;rw[hx]at abx
      obtain⟨g,cap,hv,hT⟩|⟨rfl,rfl,hv⟩:=abx
      rotate_left
      ·rw[acN]at Ja ym
       have⟨v,w',κ',k1,k2,k3,k4⟩:=append_nil ho hI iR Ja ym hR hv (.slot (o.dst.getD 0)) q;refine⟨v,w',κ',ρ,.inl k1,JR k2 u,fun d hd=> ?_,rfl,k4,fun _ _=>rfl⟩;rw[hd]at k3
       rw[acN,ae9];exact k3
      have hold:=zq hT.cell 0 cs.length (by omega);have⟨olds,ho1,ho2,ZA⟩:=hold;have⟨c,ec,aaX,adP⟩:=hT.eu;by_cases hroom:len+n<=cap
      ·
       have hcell: ∀ j,j<news.length->(w.cell? ⟨g,0+len*i.size+j,none⟩).isSome=true/\w.frozen? ⟨g,0+len*i.size+j,none⟩=false:=by
              intro j hj;have:(len+n)*i.size<=cap*i.size:=acE _ hroom;rw[adB]at this
              have hlt:0+len*i.size+j<c.size:=by omega
              simp[ady,afg,aaX];simpa using hlt
       have hrun:=run_append_room_src (P:=P) w t tx o.type e i hu hi g 0 len cap (a.eval y) n news hs hroom (fun j hj=>(hcell j hj).1) (fun j hj=>(hcell j hj).2);have hcut:=hT.cut;have m:Mv (·=g) s.H.length w κ ρ (w.setCells g (0+len*i.size) news) (fq κ g (.bB (yy q (cs++fs).length) (.slot (o.dst.getD 0)))) ρ:=by
              have hpq:=YQ q cs.length;have⟨q1,q2,q3,q4⟩:=kL news w g (0+len*i.size);refine⟨q1,q2,q3,by rw[q4];exact acD _,fun _ _=>rfl,fun j _ hj=>⟨m9 news w g _ j hj,aH _ _ hj⟩,fun j p v hj XU hf hv'=> ?_,fun j p hj XU hf=> ?_,fun j p XU=> ?_⟩
              ·subst XU
               rw[hT.own]at hf
               simp[BK.fits]at hf;rw[aeb _ _ _ _ _ (fun _ _=>Or.inl (by simp only;omega))];exact hv'
              ·subst XU
               rw[aQ];rw[hT.own]at hf
               simp[BK.fits,acH]at hf⊢;cases q<;>simp[yy]at hf⊢ <;>omega
              ·subst XU;rw[hT.own];intro e;cases e
       have hlt':g<(w.setCells g (0+len*i.size) news).heap.size:=by rw[(kL news w g (0+len*i.size)).2.2.2];exact hT.lt
       have Wm:nn (w.setCells g (0+len*i.size) news) (fq κ g (.bB (yy q (cs++fs).length) (.slot (o.dst.getD 0)))) (.slot (o.dst.getD 0)) q i.size (cs++fs) (len+n) g cap:=by
              refine⟨fun j hj=> ?_,hlt',by rw[acH,hcut,FH,adB],aQ _ _ _,hroom,?_⟩
              ·rw[acH]at hj
               rcases abw j cs.length with hlt|hge
               ·have⟨v,ZG,Ww⟩:=hT.cell j hlt
                refine⟨v,?_,by rw[acO hlt];exact Ww.grow m.grow⟩;rw[aeb _ _ _ _ _ (fun _ _=>Or.inl (by simp only;omega))];exact ZG
               ·have Tk:j-cs.length<news.length:=by omega
                refine⟨news[j-cs.length],?_,?_⟩
                ·have:=World.cell?_setCells_in g news (0+len*i.size) w (fun q hq=>(hcell q hq).1) (j-cs.length) Tk
                 rw[show 0+len*i.size+(j-cs.length)=0+j by omega]at this
                 exact this
                ·rw[acM hge]
                 exact(sq (j-cs.length) (by omega) Tk).grow m.grow
              ·have⟨c',k1,k2,_⟩:=nR news w g (0+len*i.size) c ec (0,0) aaX
               exact⟨c',ec,k1,by rw[k2];exact adP⟩
       refine⟨_,_,_,ρ,.inl (ft ho (by rw[hv];exact hrun)),hR.EM m hT.own,fun d hd=> ?_,rfl,m.fr,fun _ _=>rfl⟩;rw[hd]at Wm⊢
       exact .inl ⟨g,cap,rfl,Wm⟩
      ·
       have GY:(abA i.size len (.slice (some ⟨g,0,none⟩) len cap)).run P w.drew= .ok olds.toArray w.drew:=by
              have:=run_loadCells_list (P:=P) w.drew ⟨g,0,none⟩ olds (fun j v hj=>by rw[acG];simpa using ho2 j v hj);simp[abA];rw[← hT.cut,← ho1];exact this
       have lq:=growslice_fits (need:=len+n) (old:=cap) (bytes:=i.bytes) (by omega) ym;have hrun:=run_append_grow_src (P:=P) w t tx o.type e i z hu hi hz (some ⟨g,0,none⟩) len cap olds GY (a.eval y) n news hs (by omega) (by omega) lq;have Wm:=Cy (w:=w) (κ:=κ) (ρ:=ρ) (n:=s.H.length) (.slot (o.dst.getD 0)) q (m:=n) (cap:=grownCap w (len+n) cap e) (olds:=olds) (news:=news) e z.cells hsz hT.cut FH ho1 Jc (grownCap_ge _ _ _ _) (fun j hj hj'=>by simpa using ZA j hj hj') sq;have m1:=lQ s.H.length w κ ρ;have m2:=fF s.H.length w.drew κ ρ (.cells ((olds++news).toArray++abO z.cells (grownCap w (len+n) cap e-(len+n))) e) (.bB (yy q (cs++fs).length) (.slot (o.dst.getD 0))) ρ (fun _ _=>rfl);refine⟨_,_,_,ρ,.inl (ft ho (by rw[hv];exact hrun)),JR ((hR.mv m1 (fun _ h=>h)).mv m2 (fun _ h=>h)) u,fun d hd=> ?_,rfl,m1.fr.trans m2.fr,fun _ _=>rfl⟩;rw[hd]at Wm⊢
       exact .inl ⟨w.heap.size,_,rfl,Wm⟩
     ·cases h
    ·split at h
     next hx=>
      split at h
      next hc=>
       have⟨Ja,ym⟩:=hc;injection h with h;injection h with e1 e2;subst e1;subst e2;intro a w κ ρ hR;have⟨v,w',κ',k1,k2,k3,k4⟩:=append_nil ho hI iR Ja ym hR (hR.jl (by rw[hx];rfl)) (.slot (o.dst.getD 0)) true;exact⟨v,w',κ',ρ,.inl k1,k2,fun d hd=>by rw[hd]at k3;exact k3,rfl,k4,fun _ _=>rfl⟩
      ·cases h
     ·cases h
   ·cases h
  ·cases h
def Fe {P:Program} (w:World) (src dst e:TypeId) (hs:P.underlying src=some (.slice e)) (he:P.underlying e=some (.int .u8)) (hd:P.underlying dst=some .string):(convert src dst (.slice none 0 0)).run P w= .ok (.string ⟨#[]⟩) w:=by
 rw[run_convert_bytes_string w src dst e none 0 0 hs he hd];simp[Conv.bytesToString];rfl
def bytesOf:List au->Option (List UInt8)
 |[]=>some []
 | .v (.int .u8 n)::r=>if((UInt8.ofNat n.toNat).toNat:Int)=n then
   match bytesOf r with
   |some l=>some (UInt8.ofNat n.toNat::l)
   |none=>none
  else none
 |_=>none
def wW: ∀ (cs:List au) (l:List UInt8),bytesOf cs=some l->l.length=cs.length/\ ∀ i (h:i<cs.length) (h':i<l.length),cs[i]= .v (.int .u8 (l[i].toNat:Int))
 |[],l,h=>by cases h;exact⟨rfl,fun i h=>by simp at h⟩
 |c::r,l,h=>by
  unfold bytesOf at h;split at h
  ·rename_i heq;cases heq
  next n r' heq=>
   injection heq with e1 e2;subst e1;subst e2;split at h
   next hn=>
    split at h
    next l' Zy=>
     cases h;have⟨h1,h2⟩:=wW r l' Zy;refine⟨by simp[h1],fun i hi hi'=> ?_⟩;cases i with
     |zero=>
      show au.v (.int .u8 n)= .v (.int .u8 ((UInt8.ofNat n.toNat).toNat:Int));rw[hn]
     |succ i=>exact h2 i (by simpa using hi) (by simpa using hi')
    ·cases h
   ·cases h
  ·cases h
def rL (P:Program) (a b:TypeId):Bool:=
 match P.underlying a,P.underlying b with
 |some (.slice e),some .string=>match P.underlying e with
  |some (.int .u8)=>true
  |_=>false
 |_,_=>false
def ik (P:Program) (s:St) (o:Oper) (t u:TypeId) (x:Operand):Option (al×gA):=
 match(s.ev x).aZ with
 | .c (.f (.row cs len))=>if rL P t u&&decide (cs.length=len)then
   match bytesOf cs with
   |some l=>some (.c (.f (.v (.string ⟨l.toArray⟩))),{})
   |none=>none
  else none
 |_=>dz P s o
def DP {P:Program} {s:St} {o:Oper} {t u:TypeId} {x:Operand} {r:al} {ch:gA} (ho:o.op= .convert t u x) (h:ik P s o t u x=some (r,ch)):jY P o s r ch:=by
 unfold ik at h;split at h
 next cs len he=>
  split at h
  next hc=>
   rw[aca]at hc
   split at h
   next l hl=>
    injection h with h;injection h with e1 e2;subst e1;subst e2;refine jY.still fun a w κ ρ hR=> ?_;have⟨h1,h2⟩:=wW cs l hl;obtain⟨g,oo,cap,hv,hcap,hrow⟩|⟨rfl,rfl,A,hv⟩:=hR.vT he
    rotate_left
    ·have hl0:l=[]:=acU (by simpa using h1)
     subst hl0;have QA:=hc.1;unfold rL at QA;split at QA
     next e hs hd=>
      split at QA
      next hee=>
       cases A with
       |none=>
        have hrun:=Fe (P:=P) w t u e hs hee hd;exact⟨_,by simp[execOp,ho,hv,hrun],fun d=>cQ.v _ rfl,rfl⟩
       |some A=>
        have hrun:=run_convert_bytes_back (P:=P) w t u e A 0 [] hs hee hd (fun j hj=>by simp at hj);have QJ:=hrun;simp[adw]at QJ;exact⟨_,by simp[execOp,ho,hv,QJ],fun d=>cQ.v _ rfl,rfl⟩
      ·cases QA
     ·cases QA
    have hlen:cs.length=len:=by simpa using hc.2
    have QA:=hc.1;unfold rL at QA;split at QA
    next e hs hd=>
     split at QA
     next hee=>
      have hrun:=run_convert_bytes_back (P:=P) w t u e ⟨g,oo,none⟩ cap l hs hee hd (fun j hj=>by
       rw[acG];have⟨v,O2,hc2⟩:=hrow.cell j (by omega);rw[h2 j (by omega) hj]at hc2
       rw[O2,(gk.1 hc2).1])
      rw[h1,hlen]at hrun
      exact⟨_,by simp[execOp,ho,hv,hrun],fun d=>cQ.v _ rfl,rfl⟩
     ·cases QA
    ·cases QA
   ·cases h
  ·cases h
 ·exact kj h
def mL {P:Program} (w:World) (size:Nat) (g o n c m:Nat) (news:List Value) (hr:w.rangeAt g o news) (hm:m*size<=news.length):(abA size m (.slice (some ⟨g,o,none⟩) n c)).run P w= .ok (news.take (m*size)).toArray w:=by
 have:=run_loadCells_list (P:=P) w ⟨g,o,none⟩ (news.take (m*size)) (fun j v hj=>by
  rw[acG];rw[List.getElem?_take]at hj
  split at hj
  ·exact hr j v hj
  ·cases hj)
 rw[acS,Nat.min_eq_left hm]at this
 exact this
def A9 {P:Program} {s:St} {n:Nat} {fs:List au} (h:bQ P s sz tx y=some (n,fs)) {a:Act} {w:World} {κ:Nat->BK} {ρ:Nat->Nat} (hR:Rel s a w κ ρ):
  ∃ news:List Value,news.length=fs.length/\fs.length=n*sz/\(∀ i (h:i<fs.length) (h':i<news.length),cQ w κ fs[i] news[i])/\(∀ w':World,(afo (a.eval y)).run P w'= .ok n w')/\
   ∀ m,m<=n->(abA sz m (a.eval y)).run P w= .ok (news.take (m*sz)).toArray w:=by
 unfold bQ at h;split at h
 next cs m he=>
  split at h
  next z hz=>
   split at h
   next hc=>
    injection h with h;injection h with e1 e2;subst e1;subst e2;obtain⟨g,oo,cap,hv,hcap,hrow⟩|⟨rfl,rfl,A,hv⟩:=hR.vT he
    rotate_left
    ·refine⟨[],rfl,by simp,fun i h=>by simp at h,fun w'=>by rw[hv];rfl,fun m hm=> ?_⟩
     have Zz:m=0:=by omega
     subst Zz;rw[hv];cases A with
     |none=>simp[abA]
     |some A=>simpa using run_firstCells_some (P:=P) w sz 0 A 0 0 [] (by simp) (fun j u h=>by simp at h)
    have⟨vs,hl,BF,xj⟩:=hrow.part 0 cs.length (by omega);refine⟨vs,hl,hc.2,fun i hi hi'=>by simpa using xj i hi hi',fun w'=>by rw[hv];rfl,fun k hk=> ?_⟩;rw[hv];exact mL w sz g oo m cap k vs BF (by rw[hl,hc.2];exact acE _ hk)
   ·cases h
  ·cases h
 next he=>
  split at h
  next z hz=>
   injection h with h;injection h with e1 e2;subst e1;subst e2;have hv:a.eval y= .slice none 0 0:=by
    have:=hR.ev (l:= .slot 0) y;rw[he]at this
    exact eU.1 this
   refine⟨[],rfl,by simp,fun i h=>by simp at h,fun w'=>by rw[hv];rfl,fun m hm=> ?_⟩;rw[hv];simp[abA]
  ·cases h
 next b off m cap he=>
  split at h
  next z cells hz hb=>
   split at h
   next hc=>
    split at h
    next gs Wr=>
     injection h with h;injection h with e1 e2;subst e1;subst e2;have⟨vs,hl,BF,xj⟩:=(hR.heap.eu b cells hb).part off (m*sz) (qY (hR.heap.eu b cells hb) hc.2 Wr) hc.2;have⟨f1,f2⟩:=kH _ gs Wr;have Zn:gs.length=m*sz:=by rw[f1];simp;omega
     refine⟨vs,by omega,Zn,fun i hi hi'=> ?_,fun w'=>by rw[hR.qx he];rfl,fun k hk=> ?_⟩
     ·have h3:=xj i (by omega) hi'
      have h4:=f2 i (by rw[← f1];exact hi) hi;simp[abV,ab2]at h4;exact ab.qI h3 h4
     ·rw[hR.qx he]
      exact mL w sz (ρ b) off m cap k vs BF (by rw[hl];exact acE _ hk)
    ·cases h
   ·cases h
  ·cases h
 ·cases h
def Ct {P:Program} {ev:Operand->Value} {o:Oper} {t tx:TypeId} {x y:Operand} (ho:o.op= .call { callee:= .builtin .copy,args:= #[x,y],argTypes:= #[t,tx] }) {v:Value} {w w':World} (h:(ad2 #[t,tx] o.type #[ev x,ev y]).run P w= .ok v w'):(execOp ev o).run P w= .ok (.value v) w':=by
 simp[execOp,ho,resolve,invoke,builtin,h]
def sJ (P:Program) (s:St) (t tx:TypeId) (x y:Operand):Option (al×gA):=
 match bK P t,(s.ev x).aZ with
 |some z,.c (.arr b off len _)=>match bQ P s z tx y,s.H[b]? with
  |some (n,fs),some (some cells)=>if off+len*z<=cells.length/\jo cells=true then some (.c (.f (.v (.int .i64 (min n len:Nat)))),{ eu:=some (b,setAt cells off ((fs.take (min n len*z)).map ab.f)) })else none
  |_,_=>none
 |_,_=>none
def Nc {P:Program} {s:St} {o:Oper} {t tx:TypeId} {x y:Operand} {r:al} {ch:gA} (ho:o.op= .call { callee:= .builtin .copy,args:= #[x,y],argTypes:= #[t,tx] }) (h:sJ P s t tx x y=some (r,ch)):jY P o s r ch:=by
 unfold sJ at h;split at h
 next z b off len cap hz he=>
  split at h
  next n fs cells iR hb=>
   split at h
   next hn=>
    injection h with h;injection h with e1 e2;subst e1;subst e2;intro a w κ ρ hR;obtain⟨e,i,hu,hi,rfl⟩:=fw hz;have⟨news,l1,l2,xj,hlen,X0⟩:=A9 iR hR;have hm:min n len*i.size<=fs.length:=by rw[l2];exact acE _ (afh _ _)
    have hm2:min n len*i.size<=len*i.size:=acE _ (Nat.min_le_right _ _);have⟨hn,O4⟩:=hn;have hB:=hR.heap.eu b cells hb;have QK:=hB.there O4 off (min n len*i.size) (by omega);have hzl:(news.take (min n len*i.size)).length=min n len*i.size:=by rw[acS];omega
    have uM: ∀ v∈news.take (min n len*i.size),v.oneCell'=true:=fun v hv=>by
     obtain⟨j,hj,rfl⟩:=abk.1 (adA hv);exact(xj j (by omega) hj).one
    have mq:=run_storeCells_cells (P:=P) (ρ b) off (news.take (min n len*i.size)) 0 w (fun j hj=>(QK j (by omega)).1) (fun j hj=>(QK j (by omega)).2) uM;have hrun:(ad2 #[t,tx] o.type #[a.eval x,a.eval y]).run P w= .ok (goInt (min n len:Nat)) (w.setCells (ρ b) off (news.take (min n len*i.size))):=by
     have hf:=X0 (n.min len) (afh _ _);rw[hR.qx he];simp[ad2,run_underlying hu,hlen,sizeOf,typeInfo,hi,hf];rw[show n.min len=min n len from rfl,mq];simp
    have we: ∀ y∈(fs.take (min n len*i.size)).map ab.f,y.ok s.H.length=true:=fun y hy=>by
     obtain⟨q,_,rfl⟩:=abt.1 hy;rfl
    have XX:=hB.store O4 s.H.length (Dy hb) (hR.heap.ok b cells hb) off (ds:=(fs.take (min n len*i.size)).map ab.f) (vs:=(news.take (min n len*i.size)).toArray) (by simp;omega) we (fun j hj hj'=>by
     have h1:j<fs.length:=by simp at hj;omega
     have:=xj j h1 (by omega);simp[abi,abV,abz]
     exact this)
    have m:=oA (n:=s.H.length) (w:=w) (ρ:=ρ) hB.own off (news.take (min n len*i.size))
    have hR2:=hR.wu hb m XX (fun q hq=>by
     obtain⟨j,hj,rfl⟩:=abk.1 hq;have hj2:=hj;rw[dN]at hj2
     rw[iL _ cells off j hj2];split
     ·exact we _ (abg _)
     ·exact hR.heap.ok b cells hb _ (abg _))
    exact⟨goInt (min n len:Nat),_,κ,ρ,.inl (Ct ho hrun),hR2,fun d hd=>cQ.v _ rfl,rfl,m.fr,fun _ _=>rfl⟩
   ·cases h
  ·cases h
 ·cases h
def qv (P:Program) (s:St) (t tx:TypeId) (x y:Operand):Option (al×gA):=
 match bK P t,(s.ev x).aZ with
 |some z,.c (.arr b off len cap)=>match bQ P s z tx y,s.H[b]? with
  |some (n,fs),some (some cells)=>if len+n<=cap/\off+(len+n)*z<=cells.length/\jo cells=true then some (.c (.arr b off (len+n) cap),{ eu:=some (b,setAt cells (off+len*z) (fs.map ab.f)) })else none
  |_,_=>none
 |_,_=>none
def Nd {P:Program} {s:St} {o:Oper} {t tx:TypeId} {x y:Operand} {r:al} {ch:gA} (ho:o.op= .call { callee:= .builtin .append,args:= #[x,y],argTypes:= #[t,tx] }) (h:qv P s t tx x y=some (r,ch)):jY P o s r ch:=by
 unfold qv at h;split at h
 next z b off len cap hz he=>
  split at h
  next n fs cells iR hb=>
   split at h
   next hn=>
    have⟨hroom,hn,O4⟩:=hn;injection h with h;injection h with e1 e2;subst e1;subst e2;intro a w κ ρ hR;obtain⟨e,i,hu,hi,rfl⟩:=fw hz;have⟨news,hs,l1,l2,xj⟩:=iM iR hR;have hB:=hR.heap.eu b cells hb;have hmul:(len+n)*i.size=len*i.size+n*i.size:=adB _ _ _;have QK:=hB.there O4 (off+len*i.size) (n*i.size) (by omega);have hrun:=run_append_room_src (P:=P) w t tx o.type e i hu hi (ρ b) off len cap (a.eval y) n news hs hroom (fun j hj=>(QK j (by omega)).1) (fun j hj=>(QK j (by omega)).2);have we: ∀ y∈fs.map ab.f,y.ok s.H.length=true:=fun y hy=>by
     obtain⟨q,_,rfl⟩:=abt.1 hy;rfl
    have XX:=hB.store O4 s.H.length (Dy hb) (hR.heap.ok b cells hb) (off+len*i.size) (ds:=fs.map ab.f) (vs:=news.toArray) (by simp;omega) we (fun j hj hj'=>by
     have h1:j<fs.length:=by simp at hj;omega
     have:=xj j h1 (by omega);simp[abi,abz]
     exact this)
    have m:=oA (n:=s.H.length) (w:=w) (ρ:=ρ) hB.own (off+len*i.size) news
    have hR2:=hR.wu hb m XX (fun q hq=>by
     obtain⟨j,hj,rfl⟩:=abk.1 hq;have hj2:=hj;rw[dN]at hj2
     rw[iL _ cells _ j hj2];split
     ·exact we _ (abg _)
     ·exact hR.heap.ok b cells hb _ (abg _))
    exact⟨.slice (some ⟨ρ b,off,none⟩) (len+n) cap,_,κ,ρ,.inl (ft ho (by rw[hR.qx he];exact hrun)),hR2,fun d hd=>rfl,by simpa[al.ok,ab.ok,St.kZ,St.ir,St.qy,St.qW,fN]using Dy hb,m.fr,fun _ _=>rfl⟩
   ·cases h
  ·cases h
 ·cases h
def vO (P:Program) (s:St) (t tx:TypeId) (x y:Operand):Option (al×gA):=
 match gW P s t tx x y with
 |some q=>some q
 |none=>qv P s t tx x y
def Lk {P:Program} {s:St} {t:TypeId} {x:Operand} {q:al×gA} (h:gW P s t tx x y=some q):vO P s t tx x y=some q:=by
 unfold vO;rw[h]
def tb {P:Program} {s:St} {t:TypeId} {x:Operand} {q:al×gA} (h:vO P s t tx x y=some q):gW P s t tx x y=some q\/qv P s t tx x y=some q:=by
 unfold vO at h;split at h
 next q0 h0=>
  rw[h0];exact .inl h
 ·exact .inr h
def PA {P:Program} {s:St} {o:Oper} {t tx:TypeId} {x y:Operand} {r:al} {ch:gA} (ho:o.op= .call { callee:= .builtin .append,args:= #[x,y],argTypes:= #[t,tx] }) (h:vO P s t tx x y=some (r,ch)):jY P o s r ch:=by
 rcases tb h with h|h
 ·exact F8 ho h
 ·exact Nd ho h
open Go.MapKept
structure ua (P:Program) (k:TypeId) (n:Nat):Prop where
 check: ∀ (w:World) (em:Bool) (ks:List Int),ks.length=n->(afa em 10000 k (gf ks)).run P w= .ok () w
 find: ∀ (w:World) (ks:List Int),ks.length=n-> ∀ es:List MapEntry,(∀ e∈es,∃ js:List Int,js.length=n/\e.key=gf js)->
  ((adF k (gf ks) es).run P w= .ok none w/\ ∀ e∈es,e.key≠gf ks)\/ ∃ j e,(adF k (gf ks) es).run P w= .ok (some (j,e.val)) w/\es[j]? =some e/\e.key=gf ks
def Hc {n:Nat}: ∀ {a b:List Int},a.length=n->b.length=n->gf a=gf b->a=b
 |[],[],_,_,_=>rfl
 |[x],[y],_,_,h=>by
  injection h with _ h;rw[h]
 |x::y::r,x'::y'::r',_,_,h=>by
  have h:afl ((x::y::r).map (acP .i64)).toArray= .agg ((x'::y'::r').map (acP .i64)).toArray:=h;injection h with h;have h:=congrArg Array.toList h;simp only at h;have inj: ∀ {l m:List Int},l.map (acP .i64)=m.map (acP .i64)->l=m:=fun{l m} e=>by
   induction l generalizing m with
   |nil=>cases m with
    |nil=>rfl
    |cons _ _=>cases e
   |cons a l ih=>cases m with
    |nil=>cases e
    |cons b m=>
     rw[acT,acT]at e
     injection e with e1 e2;injection e1 with _ e1;rw[e1,ih e2]
  exact inj h
 |[],[_],h1,h2,_=>by simp at h1 h2;omega
 |[_],[],h1,h2,_=>by simp at h1 h2;omega
 |[],_::_::_,h1,h2,_=>by simp at h1 h2;omega
 |_::_::_,[],h1,h2,_=>by simp at h1 h2;omega
 |[_],_::_::_,h1,h2,_=>by simp at h1 h2;omega
 |_::_::_,[_],h1,h2,_=>by simp at h1 h2;omega
def vp: ∀ (n:Nat) (l:List Int),((l.map (acP .i64)).zip (l.map (acP .i64))).all (fun(x,y)=>acK n x y)=true
 |_,[]=>rfl
 |n,x::l=>by
  rw[acT,List.zip_cons_cons,aec,vp n l];cases n<;>simp[acK]
def stays {P:Program} (w:World) (ks:List Int):(aeC (gf ks) (gf ks)).run P w= .ok (gf ks) w:=by
 have h:acK 10000 (gf ks) (gf ks)=true:=by
  match ks with
  |[]=>simp[gf,acK]
  |[n]=>simp[gf,acK]
  |x::y::r=>
   show acK 10000 (.agg ((x::y::r).map (acP .i64)).toArray) (.agg ((x::y::r).map (acP .i64)).toArray)=true;unfold acK;rw[aca];exact⟨by simp,vp 9999 (x::y::r)⟩
 simp[aeC,h]
def NV {P:Program} {k:TypeId} (h:P.underlying k=some (.int .i64)):ua P k 1 where
 check:=fun w em ks hk=>by
  match ks,hk with
  |[n],_=>exact run_checkKey h (k:= .int .i64 n) (show IsKey (.int .i64) (.int .i64 n)from rfl) em 9999
 find:=fun w ks hk es he=>by
  match ks,hk with
  |[n],_=>
   have Uy: ∀ x∈es,IsKey (.int .i64) x.key:=fun x hx=>by
    have⟨js,hj,e⟩:=he x hx
    match js,hj with
    |[m],_=>rw[e];rfl
   rcases findNow_spec (d:= .int .i64) (k:=gf [n]) rfl es 0 Uy with ⟨h1,h2⟩|⟨j,e,h1,h2,h3⟩
   ·exact .inl ⟨run_findKey h h1,h2⟩
   ·exact .inr ⟨j,e,by rw[acN]at h1;exact run_findKey h h1,h2,h3⟩
def xd {P:Program} {k:TypeId} {n:Nat} (w:World) (heq: ∀ a b:List Int,a.length=n->b.length=n->(Op.equal k (gf a) (gf b)).run P w= .ok (decide (a=b)) w) {ks:List Int} (hk:ks.length=n):
  ∀ (es:List MapEntry) (i:Nat),(∀ e∈es,∃ js:List Int,js.length=n/\e.key=gf js)->
   ((acL k (gf ks) es i).run P w= .ok none w/\ ∀ e∈es,e.key≠gf ks)\/ ∃ j e,(acL k (gf ks) es i).run P w= .ok (some (i+j,e.val)) w/\es[j]? =some e/\e.key=gf ks
 |[],i,_=> .inl ⟨by simp[acL],by simp⟩
 |e::es,i,hall=>by
  have⟨js,hj,QD⟩:=hall e (by simp);have hr:=heq ks js hk hj;rw[← QD]at hr
  by_cases hd:ks=js
  ·refine .inr ⟨0,e,?_,rfl,by rw[QD,hd]⟩
   rw[decide_eq_true hd]at hr
   simp[acL,hr]
  ·have hne:e.key≠gf ks:=fun h=>hd (Hc hj hk (QD.symm.trans h)).symm
   rw[decide_eq_false hd]at hr
   rcases xd w heq hk es (i+1) (fun y hy=>hall y (by simp[hy]))with ⟨h1,h2⟩|⟨j,e',h1,h2,h3⟩
   ·refine .inl ⟨by simp[acL,hr,h1],fun y hy=> ?_⟩
    rcases ac7.1 hy with rfl|hy
    ·exact hne
    ·exact h2 y hy
   ·exact .inr ⟨j+1,e',by simp[acL,hr,h1,adG,Nat.add_comm 1 j],by simpa using h2,h3⟩
def CJ {P:Program} {k:TypeId} {n:Nat} (hw:(match P.underlying k with|some (.array _ _)|some (.struct _)=>true|_=>false)=true)
  (check: ∀ (w:World) (em:Bool) (ks:List Int),ks.length=n->(afa em 10000 k (gf ks)).run P w= .ok () w) (heq: ∀ (w:World) (a b:List Int),a.length=n->b.length=n->(Op.equal k (gf a) (gf b)).run P w= .ok (decide (a=b)) w):ua P k n where
 check:=check
 find:=fun w ks hk es he=>by
  rw[run_findKey_eq (w:=w) hw];rcases xd w (heq w) hk es 0 he with h|⟨j,e,h1,h2,h3⟩
  ·exact .inl h
  ·exact .inr ⟨j,e,by rw[acN]at h1;exact h1,h2,h3⟩
def ke (es:List (List Int×List au)) (ks:List Int):Option (List au):=(es.find? fun p=>p.1==ks).map Prod.snd
def VN (es:List (List Int×List au)) (ks:List Int) (vs:List au):List (List Int×List au):=
 match ke es ks with
 |some _=>es.map fun p=>if p.1==ks then(p.1,vs)else p
 |none=>es++[(ks,vs)]
def Tq (n:Nat) (es:List (List Int×List au)):Bool:=es.all (fun p=>p.1.length==n)&&decide ((es.map Prod.fst).Nodup)
def Aj {es:List (List Int×List au)} {vs:List au} (h:ke es ks=some vs):(ks,vs)∈es:=by
 unfold ke at h;have⟨p,h1,h2⟩:=acF.1 h;have:=List.find?_some h1;have h3:=List.mem_of_find?_eq_some h1;have e:p.1=ks:=by simpa using this
 rw[← e,← h2];exact h3
def Kl {es:List (List Int×List au)} (h:ke es ks=none): ∀ p∈es,p.1≠ks:=fun p hp e=>by
 unfold ke at h;have:=List.find?_eq_none.1 (Option.map_eq_none_iff.1 h) p hp;simp[e]at this
def N6 {es:List (List Int×List au)} (hn:(es.map Prod.fst).Nodup) {k:List Int} {a b:List au} (h1:(k,a)∈es) (h2:(k,b)∈es):a=b:=by
 induction es with
 |nil=>cases h1
 |cons p es ih=>
  rw[acT,afb]at hn
  rcases ac7.1 h1 with e1|h1
  ·rcases ac7.1 h2 with e2|h2
   ·rw[← e1]at e2;injection e2 with _ e2;exact e2.symm
   ·exact absurd (abt.2 ⟨_,h2,by rw[← e1]⟩) hn.1
  ·rcases ac7.1 h2 with e2|h2
   ·exact absurd (abt.2 ⟨_,h1,by rw[← e2]⟩) hn.1
   ·exact ih hn.2 h1 h2
section
variable {P:Program} {w:World} {κ:Nat->BK} {k e:TypeId} {n:Nat} {q:Bool} {es:List (List Int×List au)} {en:Array MapEntry}
def UL (hM:vJ w κ q es en) (hok:Tq n es=true): ∀ x∈en.toList,∃ js:List Int,js.length=n/\x.key=gf js:=fun x hx=>by
 obtain⟨i,hi,rfl⟩:=abk.1 hx;rw[Array.length_toList]at hi
 unfold Tq at hok;rw[aca]at hok
 have hi2:i<es.length:=by rw[← hM.1];exact hi
 refine⟨es[i].1,?_,?_⟩
 ·simpa using abh.1 hok.1 _ (abg hi2)
 ·rw[acA]
  exact(hM.2 i hi2 hi).1
def LR (K:ua P k n) (hM:vJ w κ q es en) (hok:Tq n es=true) (hk:ks.length=n):
  (∃ vs,ke es ks=some vs/\ ∃ j x,(adF k (gf ks) en.toList).run P w= .ok (some (j,x.val)) w/\en[j]? =some x/\x.key=gf ks/\oU w κ q vs x.val/\ ∃ hj:j<es.length,es[j].1=ks)\/
  (ke es ks=none/\(adF k (gf ks) en.toList).run P w= .ok none w):=by
 have uL:=hok;unfold Tq at uL;rw[aca]at uL
 have hlen: ∀ p∈es,p.1.length=n:=fun p hp=>by simpa using abh.1 uL.1 p hp
 rcases K.find w ks hk en.toList (UL hM hok)with ⟨h1,h2⟩|⟨j,x,h1,h2,h3⟩
 ·right
  refine⟨?_,h1⟩;cases hl:ke es ks with
  |none=>rfl
  |some vs=>
   have⟨i,hi,e⟩:=abk.1 (Aj hl);have hi':i<en.size:=by rw[hM.1];exact hi
   have:=h2 en[i] (Array.getElem_mem_toList hi');rw[(hM.2 i hi hi').1,e]at this
   exact absurd rfl this
 ·left
  rw[aef]at h2
  have⟨hj,e2⟩:=Array.getElem?_eq_some_iff.1 h2;have hj2:j<es.length:=by rw[← hM.1];exact hj
  have⟨m1,m2⟩:=hM.2 j hj2 hj;rw[e2]at m1 m2
  have ek:es[j].1=ks:=Hc (hlen _ (abg hj2)) hk (m1.symm.trans h3);cases hl:ke es ks with
  |none=>exact absurd ek (Kl hl _ (abg hj2))
  |some vs=>
   have zR:(ks,es[j].2)∈es:=by
    have:=abg hj2;rw[← ek];exact this
   have ev:es[j].2=vs:=N6 (of_decide_eq_true uL.2) zR (Aj hl);exact⟨vs,rfl,j,x,h1,h2,h3,ev▸m2,hj2,ek⟩
end
def wi:List ab->Option (List Int)
 |[]=>some []
 | .f (.v (.int .i64 n))::l=>match wi l with
  |some r=>some (n::r)
  |none=>none
 |_=>none
def CH: ∀ {l:List ab} {r:List Int},wi l=some r->l=r.map fun n=>ab.f (.v (.int .i64 n))
 |[],r,h=>by cases h;rfl
 |c::l,r,h=>by
  unfold wi at h;split at h
  ·rename_i e;cases e
  next n l' e=>
   injection e with e1 e2;subst e1;subst e2;split at h
   next r' hr=>
    cases h;rw[acT,← CH hr]
   ·cases h
  ·cases h
def pk:al->Option (List Int)
 | .c (.f (.v (.int .i64 n)))=>some [n]
 | .agg cs=>match wi cs with
  |some (a::b::r)=>some (a::b::r)
  |_=>none
 |_=>none
def zW {w:World} {κ:Nat->BK} {ρ:Nat->Nat} {l:Loc} {x:al} (h:pk x=some ks) (hr:cm w κ ρ l x v):v=gf ks:=by
 unfold pk at h;split at h
 ·cases h
  exact(gk.1 hr).1
 next cs=>
  split at h
  next a b r hi=>
   cases h;have e:=CH hi;obtain⟨vs,rfl,hs,hv⟩:=hr;show afl vs= .agg ((a::b::r).map (acP .i64)).toArray;congr 1;apply afk
   ·rw[hs,e];simp
   ·intro i h1 h2
    have h3:i<cs.length:=by omega
    have:=(hv i h3 h1).2;have e2:cs[i]=ab.f (.v (.int .i64 ((a::b::r)[i]'(by rw[e]at h3;simpa using h3)))):=by
     simp only[e,abi]
    rw[e2]at this
    rw[(gk.1 this).1,abz,abi]
  ·cases h
 ·cases h
structure yJ (P:Program) (t:TypeId) (n:Nat) (q:Bool) (zs:List au):Prop where
 ty: ∃ k e,P.underlying t=some (.map k e)/\ua P k n/\ ∃ z,(∀ w,(zeroValue e).run P w= .ok z w)/\ ∀ w κ,oU w κ q zs z
def Fy:Bool->List au->bJ
 |true,fs=> .agg (fs.map ab.f)
 |false,[x]=> .c (.f x)
 |false,_=> .c .any
def I0 {w:World} {κ:Nat->BK} {ρ:Nat->Nat} {l:Loc} {q:Bool} {fs:List au} (h:oU w κ q fs v):fJ w κ ρ l (Fy q fs) v:=by
 cases q with
 |true=>
  obtain⟨vs,rfl,hs,hv⟩:=h;refine⟨vs,rfl,by simpa using hs,fun i h1 h2=> ?_⟩;rw[abi];exact⟨rfl,hv i (by simpa using h1) h2⟩
 |false=>
  obtain⟨x,rfl,hx⟩:=h;exact⟨rfl,hx⟩
def MY (q:Bool) (fs:List au) (m:Nat):(Fy q fs).ok m=true:=by
 cases q with
 |true=>simp[Fy,bJ.ok,ab.ok]
 |false=>match fs with
  |[]=>rfl
  |[_]=>rfl
  |_::_::_=>rfl
def bJ.toA:bJ->al
 | .c x=> .c x
 | .agg cs=> .agg cs
def VI {w:World} {κ:Nat->BK} {ρ:Nat->Nat} {l:Loc} {x:bJ} (h:fJ w κ ρ l x v):cm w κ ρ l x.toA v:=by
 cases x with
 |c x=>exact h.2
 |agg cs=>exact h
def Za {x:bJ} {m:Nat} (h:x.ok m=true):x.toA.ok m=true:=by cases x<;>exact h
def Kn {P:Program} {t:TypeId} {n:Nat} {q:Bool} {zs:List au} (hT:yJ P t n q zs) {w:World} {κ:Nat->BK} {es:List (List Int×List au)} {en:Array MapEntry} {ck:Nat} (hg:w.heap[g]? =some (.map en ck)) (hM:vJ w κ q es en) (hok:Tq n es=true) (hk:ks.length=n) (c:Bool):
  ∃ v,(aed t (.map (some g)) (gf ks) c).run P w= .ok (if c then .tuple #[v,.bool (ke es ks).isSome]else v) w/\oU w κ q ((ke es ks).getD zs) v:=by
 have⟨k,e,ht,K,z,hz,hzr⟩:=hT.ty;have hc:=K.check w en.isEmpty ks hk;rcases LR K hM hok hk with ⟨vs,h1,j,x,h2,h3,h4,h5,_⟩|⟨h1,h2⟩
 ·refine⟨x.val,?_,by rw[h1];exact h5⟩
  simp[aed,run_underlying ht,Go.MapKept.run_getObj_map hg,hc,h2,h1]
 ·refine⟨z,?_,by rw[h1];exact hzr w κ⟩
  simp[aed,run_underlying ht,Go.MapKept.run_getObj_map hg,hc,h2,h1,hz w]
end Av
namespace Av
variable {L:List Nat} {Q:Exit->Act->World->Prop} {bs:List Nat} {f:FuncId} {n:Nat} {xs:List Operand}
def Ca (P:Program) (s:St) (o:Oper) (c:Call):Option (al×gA):=
 match c.callee,c.args.toList,c.argTypes.toList with
 | .builtin .len,[x],[t]=>td P s o t x
 | .builtin .append,[x,y],[t,tx]=>vO P s t tx x y
 | .builtin .copy,[x,y],[t,tx]=>sJ P s t tx x y
 |_,_,_=>dz P s o
def np (P:Program) (tr:Bool) (s:St) (o:Oper):Option (al×gA):=
 match o.op with
 | .move x=>some (il tr s x)
 | .assign x=>some (il true s x)
 | .pick c x y=>wS s c x y
 | .alloc t=>oY P s t
 | .box _ x=>DO s x
 | .load t x=>fY P tr s t x
 | .store t x y=>nK P s t x y
 | .fieldAddr t x f=>fT P s t x f
 | .indexAddr t x i=>eW P s t x i
 | .nilCheck x=>Bx s x
 | .extract x i=>kP s x i
 | .field t x f=>qu P s t x f
 | .index t x i=>oZ P s o t x i
 | .build t ps=>qs P s t ps.toList
 | .buildSlice t n ps=>gu P s t n ps.toList
 | .makeSlice t l c=>ui P s t l c
 | .slice t x lo hi mx=>fD P s o t x lo hi mx
 | .convert t u x=>ik P s o t u x
 | .call c=>Ca P s o c
 |_=>dz P s o
def kR (c:Call) {b:Builtin} {ts:List TypeId} (h1:c.callee= .builtin b) (h2:c.args.toList=xs) (h3:c.argTypes.toList=ts):c={ callee:= .builtin b,args:=xs.toArray,argTypes:=ts.toArray }:=by
 have⟨a1,a2,a3⟩:=c;simp only at h1 h2 h3;subst h1;subst h2;subst h3;simp
def TT {P:Program} {tr:Bool} {s:St} {o:Oper} {x:al} {c:gA} (h:np P tr s o=some (x,c)):jY P o s x c:=by
 unfold np at h;split at h
 next y ho=>
  injection h with h;have:=vP (P:=P) (s:=s) (o:=o) (tr:=tr) (x:=y) (fun ρ w=>by simp[execOp,ho]);rw[h]at this
  exact this
 next y ho=>
  injection h with h;have:=vP (P:=P) (s:=s) (o:=o) (tr:=true) (x:=y) (fun ρ w=>by simp[execOp,ho]);rw[h]at this
  exact this
 ·rename_i ho;exact Nh ho h
 ·rename_i ho;exact Jv ho h
 ·rename_i ho;exact PB ho h
 ·rename_i ho;exact Nf ho h
 ·rename_i ho;exact JB ho h
 ·rename_i ho;exact yU ho h
 ·rename_i ho;exact yV ho h
 ·rename_i ho;exact PD ho h
 ·rename_i ho;exact DS ho h
 ·rename_i ho;exact Jx ho h
 ·rename_i ho;exact Jy ho h
 ·rename_i ho;exact Jw ho h
 ·rename_i ho;exact xM ho h
 ·rename_i ho;exact Ng ho h
 ·rename_i ho;exact JA ho h
 ·rename_i ho;exact DP ho h
 next cl ho=>
  unfold Ca at h;split at h
  next y t h1 h2 h3=>
   rw[kR cl h1 h2 h3]at ho
   exact PC ho h
  next y z t tx h1 h2 h3=>
   rw[kR cl h1 h2 h3]at ho
   exact PA ho h
  next y z t tx h1 h2 h3=>
   rw[kR cl h1 h2 h3]at ho
   exact Nc ho h
  ·exact kj h
 ·exact kj h
structure Ok (P:Program) (f:FuncId) (args:List al) (H:List (Option (List ab))) (r:al) (H':List (Option (List ab))):Prop where
 fn: ∃ fn,P.funcs[f]? =some fn/\fn.body.isSome=true/\(fn.name== "runtime.NumGoroutine")=false
 flat:r.aZ=r
 ZM:r.ok H'.length=true
 len:H.length<=H'.length
 run: ∀ (w:World) (κ:Nat->BK) (ρ:Nat->Nat) (vals:Array Value),vals.size=args.length->(∀ i (h:i<args.length) (h':i<vals.size) l,cm w κ ρ l args[i] vals[i])->(∀ x∈args,x.ok H.length=true)->yQ H w κ ρ->
  Calls P f vals w fun e w'=> ∃ v κ' ρ',e= .returned v/\(∀ l,cm w' κ' ρ' l r v)/\yQ H' w' κ' ρ'/\Fr w κ w' κ'/\ ∀ b,b<H.length->ρ' b=ρ b
structure I6 (P:Program) (f:FuncId) (args:List al) (H:List (Option (List ab))) (Q:al->List (Option (List ab))->Prop):Prop where
 fn: ∃ fn,P.funcs[f]? =some fn/\fn.body.isSome=true/\(fn.name== "runtime.NumGoroutine")=false
 res: ∀ r H',Q r H'->r.aZ=r/\r.ok H'.length=true/\H.length<=H'.length
 run: ∀ (w:World) (κ:Nat->BK) (ρ:Nat->Nat) (vals:Array Value),vals.size=args.length->(∀ i (h:i<args.length) (h':i<vals.size) l,cm w κ ρ l args[i] vals[i])->(∀ x∈args,x.ok H.length=true)->yQ H w κ ρ->
  Calls P f vals w fun e w'=> ∃ r H',Q r H'/\ ∃ v κ' ρ',e= .returned v/\(∀ l,cm w' κ' ρ' l r v)/\yQ H' w' κ' ρ'/\Fr w κ w' κ'/\ ∀ b,b<H.length->ρ' b=ρ b
def Ok.e {P:Program} {f:FuncId} {args:List al} {H H':List (Option (List ab))} {r:al} (h:Ok P f args H r H'):I6 P f args H fun a b=>a=r/\b=H':=
 ⟨h.fn,fun _ _ e=>by obtain⟨rfl,rfl⟩:=e;exact⟨h.flat,h.ZM,h.len⟩,fun w κ ρ vals h1 h2 h3 h4=>(h.run w κ ρ vals h1 h2 h3 h4).mono fun e w' k=>⟨_,_,⟨rfl,rfl⟩,k⟩⟩
def ny (κ:Nat->BK) (g:Nat):BK:=
 match κ g with
 | .lock n=> .lock n
 | .bB n _=> .lock (some n)
 | .wr _=> .lock (some 0)
def lP (κ:Nat->BK) (g n:Nat):(ny κ g).fits n↔(κ g).fits n:=by
 unfold ny;cases κ g<;>simp[BK.fits]
def uW (κ:Nat->BK) (g:Nat): ∃ n,ny κ g= .lock n:=by
 unfold ny;cases κ g<;>exact⟨_,rfl⟩
def fy {w:World} {κ κ':Nat->BK} (h: ∀ g n,(κ g).fits n->(κ' g).fits n):gS w κ w κ':=⟨acD _,fun _ _ _ _ _ hx=>hx,fun g n _ hf=>h g n hf⟩
def kT {x:al} (hx:x.aZ=x) (q:Bool) (sz:Nat) (cs:List au) (len:Nat):x≠ .c (.bB q sz cs len):=by
 rw[← hx];exact al.Eh _ _ _ _ _
def Np {P:Program} {args:List al} {r:al} {s:St} {a:Act} {w:World} {κ:Nat->BK} {ρ:Nat->Nat} (hO:Ok P f args [] r []) (p8:args=xs.map fun x=>(s.ev x).h) (hok:args.all (al.ok 0)=true) (hR:Rel s a w κ ρ):
  Calls P f (xs.map a.eval).toArray w fun e w'=> ∃ v κ',e= .returned v/\Rel s a w' κ' ρ/\(∀ l,cm w' κ' ρ l r v)/\r.ok s.H.length=true/\Fr w κ w' κ':=by
 subst p8;refine(hO.run w (ny κ) ρ _ (by simp) (fun i hi hi' l=> ?_) (abh.1 hok) ⟨fun b cs h=>by simp at h,fun b cs h=>by simp at h⟩).mono ?_
 ·simp[abi,abz]
  simp[List.length_map]at hi;refine cm.gp (n:=0) (fy fun g n h=>(lP κ g n).2 h) (fun b hb=>by omega) (abh.1 hok _ (by rw[← abi (fun x=>(s.ev x).h) (l:=xs) (i:=i) (h:=by simpa using hi)];exact abg _)) (fun q sz cs len e=> ?_) (hR.ev (l:=l) (xs[i])).nz;exact absurd e (kT (al.L4 _) q sz cs len)
 ·rintro e w' ⟨v,κ',ρ',rfl,hr,hH,iy,_⟩
  have hsame: ∀ g,g<w.heap.size->κ' g=ny κ g/\w'.heap[g]? =w.heap[g]? :=fun g hg=>by
   have⟨n,hn⟩:=uW κ g;have⟨h1,h2⟩:=iy.lock g n hg hn;exact⟨h1.trans hn.symm,h2⟩
  have hrok:r.ok s.H.length=true:=al.iO (Nat.zero_le _) r hO.ZM;have m:Mv (fun _=>False) s.H.length w κ ρ w' (fun g=>if g<w.heap.size then κ g else κ' g) ρ:=
   ⟨iy.os,iy.tape,iy.output,iy.size,fun _ _=>rfl,fun g hg _=>⟨(hsame g hg).2,aaN hg⟩,fun _ _ _ _ h=>h.elim,fun _ _ _ h=>h.elim,fun _ _ h=>h.elim⟩
  refine⟨v,fun g=>if g<w.heap.size then κ g else κ' g,rfl,hR.mv m (fun _ h=>h),fun l=> ?_,hrok,m.fr⟩;refine cm.gp (n:=0) (fy fun g n h=> ?_) (fun b hb=>by omega) hO.ZM (fun q sz cs len e=>absurd e (kT hO.flat q sz cs len)) (hr l);by_cases hg:g<w.heap.size
  ·simp[hg,if_true]
   rw[(hsame g hg).1]at h
   exact(lP κ g n).1 h
  ·simp[hg,if_false];exact h
def ab.dY (σ:Nat->Nat):ab->ab
 | .ptr b off=> .ptr (σ b) off
 | .arr b off len cap=> .arr (σ b) off len cap
 | .mh b=> .mh (σ b)
 |x=>x
def bJ.dY (σ:Nat->Nat):bJ->bJ
 | .c x=> .c (x.dY σ)
 | .agg cs=> .agg (cs.map (ab.dY σ))
def al.dY (σ:Nat->Nat):al->al
 | .c x=> .c (x.dY σ)
 | .agg cs=> .agg (cs.map (ab.dY σ))
 | .dt ts=> .dt (ts.map (bJ.dY σ))
def sig (n:Nat) (bs:List Nat) (i:Nat):Nat:=bs.getD i (n+(i-bs.length))
def bR (H:List (Option (List ab))):List Nat->List (Option (List ab))->List (Option (List ab))
 |[],cs=>H++cs
 |b::bs,c::cs=>bR (H.set b c) bs cs
 |_::_,[]=>H
def Kp {σ:Nat->Nat} {q:Bool} {es:List (List Int×List au)}: ∀ {cs:List ab},cs.map (ab.dY σ)=[.mp q es]->cs=[.mp q es]
 |[],h=>by cases h
 |[x],h=>by
  have h:x.dY σ= .mp q es:=by simpa using h
  cases x with
  |mp q' BC=>rw[show ab.mp q' BC= .mp q es from h]
  |_=>cases h
 |_::_::_,h=>by simp at h
def kM.dY {w:World} {κ:Nat->BK} {g:Nat} {σ:Nat->Nat} {cs:List ab} (h:kM w κ g cs):kM w κ g (cs.map (ab.dY σ)):=by
 obtain⟨q,es,en,ck,rfl,h2⟩:=h;exact⟨q,es,en,ck,rfl,h2⟩
def kM.rz {w:World} {κ:Nat->BK} {g:Nat} {σ:Nat->Nat} {cs:List ab} (h:kM w κ g (cs.map (ab.dY σ))):kM w κ g cs:=by
 have⟨q,es,en,ck,h1,h2⟩:=h;exact⟨q,es,en,ck,Kp h1,h2⟩
def ab.dP (H:List (Option (List ab))) (L:List Nat):ab->ab
 | .arr b off len cap=>if b∈L/\len<=cap then
   match H[b]? with
   |some (some cells)=>match ng (cells.drop off)with
    |some fs=> .f (.row fs len)
    |none=> .arr b off len cap
   |_=> .arr b off len cap
  else .arr b off len cap
 |x=>x
def bJ.dP (H:List (Option (List ab))) (L:List Nat):bJ->bJ
 | .c x=> .c (x.dP H L)
 | .agg cs=> .agg (cs.map (ab.dP H L))
def al.dP (H:List (Option (List ab))) (L:List Nat):al->al
 | .c x=> .c (x.dP H L)
 | .agg cs=> .agg (cs.map (ab.dP H L))
 | .dt ts=> .dt (ts.map (bJ.dP H L))
def ab.bare:ab->Bool
 | .f (.row ..)=>false
 | .f (.ip ..)=>false
 | .bB .. =>false
 | .mp .. =>false
 |_=>true
def bJ.bare:bJ->Bool
 | .c x=>x.bare
 | .agg cs=>cs.all ab.bare
def al.bare:al->Bool
 | .c x=>x.bare
 | .agg cs=>cs.all ab.bare
 | .dt ts=>ts.all bJ.bare
def Cf:Option (List ab)->Bool
 |some cs=>cs.all ab.bare
 |none=>true
def jw: ∀ (bs:List Nat) (H Cs:List (Option (List ab))),bs.length<=Cs.length->(bR H bs Cs).length=H.length+(Cs.length-bs.length)
 |[],H,Cs,_=>by simp[bR]
 |b::bs,H,[],h=>by simp at h
 |b::bs,H,c::cs,h=>by
  have:=jw bs (H.set b c) cs (by simpa using h);simp only[bR,this,adV,aby];omega
def kU: ∀ (bs:List Nat) (H Cs:List (Option (List ab))),bs.Nodup->(∀ b∈bs,b<H.length)->bs.length<=Cs.length-> ∀ (b:Nat) (x:Option (List ab)),(bR H bs Cs)[b]? =some x->
  (∃ i:Nat,bs[i]? =some b/\Cs[i]? =some x)\/(b∉bs/\H[b]? =some x)\/(H.length<=b/\Cs[bs.length+(b-H.length)]? =some x)
 |[],H,Cs,_,_,_,b,x,h=>by
  simp[bR]at h;rcases abw b H.length with k|k
  ·rw[ac2 k]at h
   exact .inr (.inl ⟨by simp,h⟩)
  ·rw[ac0 k]at h
   exact .inr (.inr ⟨k,by simpa using h⟩)
 |c::bs,H,[],_,_,hl,b,x,h=>by simp at hl
 |c::bs,H,y::Cs,hn,hb,hl,b,x,h=>by
  simp[bR]at h;have hn':=afb.1 hn;rcases kU bs (H.set c y) Cs hn'.2 (fun b hb'=>by simpa using hb b (aet _ hb')) (by simpa using hl) b x h with ⟨i,h1,h2⟩|⟨h1,h2⟩|⟨h1,h2⟩
  ·exact .inl ⟨i+1,by simpa using h1,by simpa using h2⟩
  ·by_cases e:c=b
   ·subst e
    rw[List.getElem?_set_self (hb c (by simp))]at h2
    exact .inl ⟨0,by simp,by simpa using h2⟩
   ·rw[aei e]at h2
    exact .inr (.inl ⟨by simp[h1];exact fun h=>e h.symm,h2⟩)
  ·rw[adV]at h1 h2
   refine .inr (.inr ⟨h1,?_⟩);rw[show(c::bs).length+(b-H.length)=(bs.length+(b-H.length))+1 by simp;omega,List.getElem?_cons_succ];exact h2
def BK.cl (bs L:List Nat):BK->BK
 | .lock n=> .lock n
 | .wr b=>if b∈bs then .wr (bs.idxOf b)else if b∈L then .lock none else .lock (some 0)
 | .bB n (.cell b j)=>if b∈bs then .bB n (.cell (bs.idxOf b) j)else .lock (some n)
 | .bB n (.slot _)=> .lock (some n)
def BK.tD:BK->Bool
 | .lock _=>true
 |_=>false
def BK.bk (σ:Nat->Nat):BK->BK
 | .wr i=> .wr (σ i)
 | .bB n (.cell i j)=> .bB n (.cell (σ i) j)
 | .bB n (.slot _)=> .lock (some n)
 | .lock n=> .lock n
def BK.rJ {k:BK} (h:k.fits n):(k.cl bs L).fits n:=by
 cases k with
 |lock m=>exact h
 |wr b=>
  have hn:n=0:=by simpa[BK.fits]using h
  subst hn;unfold BK.cl;dsimp only;split
  ·simp[BK.fits]
  ·split<;>simp[BK.fits]
 |bB m l=>
  cases l with
  |slot i=>exact h
  |cell b j=>
   unfold BK.cl;dsimp only;split<;>exact h
def BK.Ul {k:BK} (h:(k.cl bs []).fits n):k.fits n:=by
 cases k with
 |lock m=>exact h
 |wr b=>
  unfold BK.cl at h;dsimp only at h;split at h
  ·exact h
  ·simpa[BK.fits]using h
 |bB m l=>
  cases l with
  |slot i=>exact h
  |cell b j=>
   unfold BK.cl at h;dsimp only at h;split at h<;>exact h
def BK.Lt {σ:Nat->Nat} {k:BK} :(k.bk σ).fits n↔k.fits n:=by
 cases k with
 |lock m=>exact Iff.rfl
 |wr b=>exact Iff.rfl
 |bB m l=>cases l<;>exact Iff.rfl
section
variable {w w':World} {κ κ':Nat->BK} {ρ ρ':Nat->Nat} {σ:Nat->Nat}
def bZ.bare {n:Nat} {l l':Loc} (hρ: ∀ b,b<n->ρ' (σ b)=ρ b): ∀ {x:ab} {v:Value},x.bare=true->x.ok n=true->bZ w κ ρ l x v->bZ w' κ' ρ' l' (x.dY σ) v
 | .f (.v x),v,_,_,h=>gk.2 (gk.1 h)
 | .f .aD,v,_,_,h=>eU.2 (eU.1 h)
 | .f (.row ..),_,hb,_,_=>by cases hb
 | .f (.ip ..),_,hb,_,_=>by cases hb
 | .ptr b off,v,_,hn,h=>by
  show v= .pointer (some ⟨ρ' (σ b),off,none⟩);rw[hρ b (by simpa[ab.ok]using hn)];exact h
 | .arr b off len cap,v,_,hn,h=>by
  show v= .slice (some ⟨ρ' (σ b),off,none⟩) len cap;rw[hρ b (by simpa[ab.ok]using hn)];exact h
 | .bB ..,_,hb,_,_=>by cases hb
 | .tV,_,_,_,h=>h
 | .any,_,_,_,_=>trivial
 | .mh b,v,_,hn,h=>by
  show v= .map (some (ρ' (σ b)));rw[hρ b (by simpa[ab.ok]using hn)];exact h
 | .mp ..,_,hb,_,_=>by cases hb
def bZ.dY {n:Nat} {l l':Loc} (G:gS w κ w' κ') (hρ: ∀ b,b<n->ρ' (σ b)=ρ b): ∀ {x:ab} {v:Value},x.ok n=true->(∀ q sz cs len,x= .bB q sz cs len->Dz w κ w' κ' l l')->bZ w κ ρ l x v->bZ w' κ' ρ' l' (x.dY σ) v
 | .f x,v,_,_,h=>cQ.grow G h
 | .ptr b off,v,hn,_,h=>by
  show v= .pointer (some ⟨ρ' (σ b),off,none⟩);rw[hρ b (by simpa[ab.ok]using hn)];exact h
 | .arr b off len cap,v,hn,_,h=>by
  show v= .slice (some ⟨ρ' (σ b),off,none⟩) len cap;rw[hρ b (by simpa[ab.ok]using hn)];exact h
 | .bB q sz cs len,v,_,ht,h=>by
  obtain⟨g,cap,rfl,hT⟩|h:=h
  rotate_left
  ·exact .inr h
  left;have⟨h1,h2⟩:=(ht _ _ _ _ rfl).bB g _ hT.lt hT.own;exact⟨g,cap,rfl,hT.mv G h1 h2⟩
 | .tV,_,_,_,h=>h
 | .any,_,_,_,_=>trivial
 | .mh b,v,hn,_,h=>by
  show v= .map (some (ρ' (σ b)));rw[hρ b (by simpa[ab.ok]using hn)];exact h
 | .mp ..,_,_,_,h=>h
def ab.m7 (x:ab):(x.dY σ).flat=x.flat:=by cases x<;>rfl
def bZ.rz {l l':Loc} (G:gS w κ w' κ') (hρ: ∀ b,b<n->ρ' b=ρ (σ b)): ∀ {x:ab} {v:Value},x.ok n=true->(∀ q sz cs len,x= .bB q sz cs len->Dz w κ w' κ' l l')->bZ w κ ρ l (x.dY σ) v->bZ w' κ' ρ' l' x v
 | .f x,v,_,_,h=>cQ.grow G h
 | .ptr b off,v,hn,_,h=>by
  show v= .pointer (some ⟨ρ' b,off,none⟩);rw[hρ b (by simpa[ab.ok]using hn)];exact h
 | .arr b off len cap,v,hn,_,h=>by
  show v= .slice (some ⟨ρ' b,off,none⟩) len cap;rw[hρ b (by simpa[ab.ok]using hn)];exact h
 | .bB q sz cs len,v,_,ht,h=>by
  obtain⟨g,cap,rfl,hT⟩|h:=h
  rotate_left
  ·exact .inr h
  left;have⟨h1,h2⟩:=(ht _ _ _ _ rfl).bB g _ hT.lt hT.own;exact⟨g,cap,rfl,hT.mv G h1 h2⟩
 | .tV,_,_,_,h=>h
 | .any,_,_,_,_=>trivial
 | .mh b,v,hn,_,h=>by
  show v= .map (some (ρ' b));rw[hρ b (by simpa[ab.ok]using hn)];exact h
 | .mp ..,_,_,_,h=>h
def fJ.rz {n:Nat} {l l':Loc} (G:gS w κ w' κ') (hρ: ∀ b,b<n->ρ' b=ρ (σ b)): ∀ {x:bJ} {v:Value},x.ok n=true->fJ w κ ρ l (x.dY σ) v->fJ w' κ' ρ' l' x v
 | .c x,v,hn,h=>by
  have hf:x.flat=true:=by rw[← ab.m7 (σ:=σ)];exact h.1
  exact⟨hf,bZ.rz G hρ hn (fun _ _ _ _ e=>by rw[e]at hf;cases hf) h.2⟩
 | .agg cs,v,hn,h=>by
  obtain⟨vs,rfl,hs,hi⟩:=h;refine⟨vs,rfl,by simpa using hs,fun i h h'=> ?_⟩;have h1:=hi i (by simpa using h) h';simp[abi]at h1;rw[ab.m7]at h1
  exact⟨h1.1,bZ.rz G hρ (abh.1 hn _ (abg h)) (fun _ _ _ _ e=>by have:=h1.1;rw[e]at this;cases this) h1.2⟩
def cm.rz {n:Nat} {l l':Loc} (G:gS w κ w' κ') (hρ: ∀ b,b<n->ρ' b=ρ (σ b)) {x:al} {v:Value} (hn:x.ok n=true) (hx:x.aZ=x) (h:cm w κ ρ l (x.dY σ) v):cm w' κ' ρ' l' x v:=by
 cases x with
 |c x=>exact bZ.rz G hρ hn (fun q sz cs len e=>absurd (by rw[e]) (kT hx q sz cs len)) h
 |agg cs=>exact fJ.rz (x:= .agg cs) G hρ hn h
 |dt ts=>
  obtain⟨vs,rfl,hs,hi⟩:=h;refine⟨vs,rfl,by simpa using hs,fun i h h'=> ?_⟩;have h1:=hi i (by simpa using h) h';simp[abi]at h1;exact fJ.rz G hρ (abh.1 hn _ (abg h)) h1
def bZ.back {l l':Loc} (hρ: ∀ b,b<n->ρ' (σ b)=ρ b) {x:ab} {v:Value} (hf:x.flat=true) (hx:x.ok n=true) (hc:gS w κ w' κ'\/x.bare=true) (h:bZ w κ ρ l x v):bZ w' κ' ρ' l' (x.dY σ) v:=by
 rcases hc with G|hb
 ·exact bZ.dY G hρ hx (fun _ _ _ _ e=>by rw[e]at hf;cases hf) h
 ·exact bZ.bare hρ hb hx h
def fJ.back {n:Nat} {l l':Loc} (hρ: ∀ b,b<n->ρ' (σ b)=ρ b) {x:bJ} {v:Value} (hx:x.ok n=true) (hc:gS w κ w' κ'\/x.bare=true) (h:fJ w κ ρ l x v):fJ w' κ' ρ' l' (x.dY σ) v:=by
 cases x with
 |c x=>exact⟨by rw[ab.m7];exact h.1,bZ.back hρ h.1 hx hc h.2⟩
 |agg cs=>
  obtain⟨vs,rfl,hs,hi⟩:=h;refine⟨vs,rfl,by simpa using hs,fun i h h'=> ?_⟩;have hi2:i<cs.length:=by simpa using h
  simp[abi];rw[ab.m7];exact⟨(hi i hi2 h').1,bZ.back hρ (hi i hi2 h').1 (abh.1 hx _ (abg hi2)) (hc.imp id fun hb=>abh.1 hb _ (abg hi2)) (hi i hi2 h').2⟩
def cm.back {n:Nat} {l l':Loc} (hρ: ∀ b,b<n->ρ' (σ b)=ρ b) {x:al} {v:Value} (hd:x.aZ=x) (hx:x.ok n=true) (hc:gS w κ w' κ'\/x.bare=true) (h:cm w κ ρ l x v):cm w' κ' ρ' l' (x.dY σ) v:=by
 cases x with
 |c x=>
  exact bZ.back hρ (ab.yl hd) hx hc h
 |agg cs=>exact fJ.back (x:= .agg cs) hρ hx hc h
 |dt ts=>
  obtain⟨vs,rfl,hs,hi⟩:=h;refine⟨vs,rfl,by simpa using hs,fun i h h'=> ?_⟩;have hi2:i<ts.length:=by simpa using h
  simp[abi];exact fJ.back hρ (abh.1 hx _ (abg hi2)) (hc.imp id fun hb=>abh.1 hb _ (abg hi2)) (hi i hi2 h')
def ab.lz {m:Nat} (hσ: ∀ b,b<n->σ b<m) {x:ab} (h:x.ok n=true):(x.dY σ).ok m=true:=by
 cases x<;>simp[ab.dY,ab.ok]at* <;>exact hσ _ h
def bJ.lz {n m:Nat} (hσ: ∀ b,b<n->σ b<m) {x:bJ} (h:x.ok n=true):(x.dY σ).ok m=true:=by
 cases x with
 |c x=>exact ab.lz hσ h
 |agg cs=>
  simp only[bJ.dY,bJ.ok,abh]at*;intro y hy;obtain⟨z,hz,rfl⟩:=abt.1 hy;exact ab.lz hσ (h z hz)
def al.lz {n m:Nat} (hσ: ∀ b,b<n->σ b<m) {x:al} (h:x.ok n=true):(x.dY σ).ok m=true:=by
 cases x with
 |c x=>exact ab.lz hσ h
 |agg cs=>
  simp only[al.dY,al.ok,abh]at*;intro y hy;obtain⟨z,hz,rfl⟩:=abt.1 hy;exact ab.lz hσ (h z hz)
 |dt ts=>
  simp only[al.dY,al.ok,abh]at*;intro y hy;obtain⟨z,hz,rfl⟩:=abt.1 hy;exact bJ.lz hσ (h z hz)
end
def okB (n:Nat):Option (List ab)->Bool
 |some cs=>cs.all (ab.ok n)
 |none=>true
def pD {i:Nat} {H:List (Option (List ab))} {cs:List ab} {x:ab} (h:H.all (okB n)=true) (hi:H[i]? =some (some cs)) (hx:x∈cs):x.ok n=true:=
 abh.1 (show cs.all (ab.ok n)=true from abh.1 h _ (acC hi)) x hx
section
variable {w w':World} {κ κ':Nat->BK} {ρ ρ':Nat->Nat}
def NP (hn:bs.Nodup) {i b:Nat} (h:bs[i]? =some b):bs.idxOf b=i:=by
 obtain⟨hi,rfl⟩:=abj.1 h;exact hn.idxOf_getElem i hi
def bZ.dP {s:St} {a:Act} {bs L:List Nat} (hR:Rel s a w κ ρ) (uJ: ∀ b∈L,b∉bs) {l:Loc} {x:ab} {v:Value} (hx:x.flat=true) (h:bZ w κ ρ l x v):bZ w (fun g=>(κ g).cl bs L) ρ l (x.dP s.H L) v:=by
 have G:gS w κ w (fun g=>(κ g).cl bs L):=fy fun g n hf=>BK.rJ hf;have gp:x.ok s.H.length=true->bZ w (fun g=>(κ g).cl bs L) ρ l x v:=fun hok=>bZ.gp (n:=s.H.length) G (fun _ _=>rfl) hok (fun _ _ _ _ e=>by rw[e]at hx;cases hx) h;cases x with
 |arr b off len cap=>
  have keep2:bZ w (fun g=>(κ g).cl bs L) ρ l (.arr b off len cap) v:=h;unfold ab.dP;dsimp only;split
  next hc=>
   split
   next cells hb=>
    split
    next fs Bp=>
     have hB:=hR.heap.eu b cells hb;have⟨f1,f2⟩:=kH _ fs Bp;have hv:v= .slice (some ⟨ρ b,off,none⟩) len cap:=h;rw[hv];refine iI ⟨ρ b,off,cap,rfl,hc.2,⟨fun i hi=> ?_,fun hne=>⟨?_,?_⟩⟩⟩
     ·have hi2:off+i<cells.length:=by rw[f1,ac8]at hi;omega
      have QC:=f2 i (by rw[← f1];exact hi) hi;rw[ab2]at QC
      have⟨u,QL,CE⟩:=hB.cell (hB.qS (GE hi2) fun q es e=>by rw[e]at QC;cases QC) (off+i) hi2;exact⟨u,QL,(ab.qI CE QC).grow G⟩
     ·exact hB.yn
     ·show((κ (ρ b)).cl bs L).fits _
      rw[hB.own];simp[BK.cl,uJ b hc.1,hc.1,if_true,if_false];trivial
    ·exact keep2
   ·exact keep2
  ·exact keep2
 |f y=>exact cQ.grow G h
 |ptr b off=>exact h
 |bB sz cs len=>cases hx
 |tV=>exact h
 |any=>trivial
 |mh b=>exact h
 |mp q es=>exact h
def ab.wm {H:List (Option (List ab))} {x:ab} (h:x.flat=true):(x.dP H L).flat=true:=by
 cases x with
 |arr b off len cap=>
  unfold ab.dP;dsimp only;split
  ·split
   ·split<;>rfl
   ·rfl
  ·rfl
 |_=>exact h
def fJ.dP {s:St} {a:Act} {bs L:List Nat} (hR:Rel s a w κ ρ) (uJ: ∀ b∈L,b∉bs) {l:Loc} {x:bJ} {v:Value} (h:fJ w κ ρ l x v):fJ w (fun g=>(κ g).cl bs L) ρ l (x.dP s.H L) v:=by
 cases x with
 |c x=>exact⟨ab.wm h.1,bZ.dP hR uJ h.1 h.2⟩
 |agg cs=>
  obtain⟨vs,rfl,hs,hi⟩:=h;refine⟨vs,rfl,by simpa using hs,fun i h h'=> ?_⟩;have hi2:i<cs.length:=by simpa using h
  simp[abi];exact⟨ab.wm (hi i hi2 h').1,bZ.dP hR uJ (hi i hi2 h').1 (hi i hi2 h').2⟩
def cm.dP {s:St} {a:Act} {bs L:List Nat} (hR:Rel s a w κ ρ) (uJ: ∀ b∈L,b∉bs) {l:Loc} {x:al} {v:Value} (hd:x.aZ=x) (h:cm w κ ρ l x v):cm w (fun g=>(κ g).cl bs L) ρ l (x.dP s.H L) v:=by
 cases x with
 |c x=>
  exact bZ.dP hR uJ (ab.yl hd) h
 |agg cs=>exact fJ.dP (x:= .agg cs) hR uJ h
 |dt ts=>
  obtain⟨vs,rfl,hs,hi⟩:=h;refine⟨vs,rfl,by simpa using hs,fun i h h'=> ?_⟩;have hi2:i<ts.length:=by simpa using h
  simp[abi];exact fJ.dP hR uJ (hi i hi2 h')
def al.Eg (x:al):x.aZ.aZ=x.aZ:=by
 cases x with
 |c x=>show al.c _=al.c _;rw[ab.dC x.iZ]
 |agg cs=>rfl
 |dt ts=>rfl
def al.QU {H:List (Option (List ab))} {x:al} (h:x.aZ=x):(x.dP H L).aZ=x.dP H L:=by
 cases x with
 |c x=>
  have hx:x.flat=true:=ab.yl h;show al.c (ab.aZ _)=_;rw[ab.dC (ab.wm hx)];rfl
 |agg cs=>rfl
 |dt ts=>rfl
def al.Iq {σ:Nat->Nat} {x:al} (h:(x.dY σ).aZ=x.dY σ):x.aZ=x:=by
 cases x with
 |c x=>
  show al.c _=al.c _;rw[ab.dC];have:=ab.yl h
  rwa [ab.m7]at this
 |agg cs=>rfl
 |dt ts=>rfl
def dV (σ:Nat->Nat):Option (List ab)->Option (List ab)
 |some cs=>some (cs.map (ab.dY σ))
 |none=>none
def qz {P:Program} {cG:List al} {Hs:List (Option (List ab))} {Q:al->List (Option (List ab))->Prop} {s:St} {a:Act} (hO:I6 P f cG Hs Q)
  (hnd:bs.Nodup) (hlt: ∀ b∈bs,b<s.H.length) (Uv:Hs.map (dV (sig s.H.length bs))=bs.map fun b=>s.H.getD b none) (hok: ∀ x∈cG,x.ok Hs.length=true) (hHok:Hs.all (okB Hs.length)=true)
  (hxl:cG.length=xs.length) (p8: ∀ i (hi:i<cG.length) (hix:i<xs.length),(cG[i]).dY (sig s.H.length bs)=((s.ev xs[i]).h).dP s.H L\/(cG[i]).dY (sig s.H.length bs)=((s.ev xs[i]).aZ).dP s.H L) (uJ: ∀ b∈L,b∉bs) (hQ: ∀ r Hs',Q r Hs'->Hs'.all (okB Hs'.length)=true/\(L=[]\/(r.bare=true/\Hs'.all Cf=true))) (hR:Rel s a w κ ρ):
  Calls P f (xs.map a.eval).toArray w fun e w'=> ∃ r Hs',Q r Hs'/\ ∃ v κ' ρ',e= .returned v/\Rel { s with H:=bR s.H bs (Hs'.map (dV (sig s.H.length bs))) } a w' κ' ρ'/\(∀ l,cm w' κ' ρ' l (r.dY (sig s.H.length bs)) v)/\(r.dY (sig s.H.length bs)).ok (bR s.H bs (Hs'.map (dV (sig s.H.length bs)))).length=true/\Fr w κ w' κ'/\ ∀ b,b<s.H.length->ρ' b=ρ b:=by
 generalize hn:s.H.length=n at*;have hHl:Hs.length=bs.length:=by simpa using congrArg adT Uv
 have uN: ∀ i (h:i<bs.length),sig n bs i=bs[i]:=fun i h=>by simp[sig,h]
 
 refine(hO.run w (fun g=>(κ g).cl bs L) (fun i=>ρ (sig n bs i)) (xs.map a.eval).toArray (by simpa using hxl.symm) (fun i hi hi' l=> ?_) hok ⟨fun i cs hi=> ?_,fun i cs hi=> ?_⟩).mono ?_
 ·have hix:i<xs.length:=by omega
  obtain⟨y,hy,e1,hyr⟩: ∃ y:al,y.aZ=y/\(cG[i]).dY (sig n bs)=y.dP s.H L/\cm w κ ρ l y (a.eval xs[i]):=by
   rcases p8 i hi hix with e|e
   ·exact⟨_,al.L4 _,e,(hR.ev (l:=l) xs[i]).nz⟩
   ·exact⟨_,al.Eg _,e,hR.ev (l:=l) xs[i]⟩
  have h1:=cm.dP (bs:=bs) (L:=L) hR uJ hy hyr;rw[← e1]at h1
  simp only[abi,abz];refine cm.rz (σ:=sig n bs) (ρ:=ρ) (gS.refl _ _) (n:=Hs.length) (fun b _=>rfl) (hok _ (abg hi)) ?_ h1;refine al.Iq (σ:=sig n bs) ?_;rw[e1];exact al.QU hy
 ·
  have⟨hi1,hi2⟩:=abj.1 hi;have hib:i<bs.length:=by omega
  have hb:s.H[bs[i]]? =some (some (cs.map (ab.dY (sig n bs)))):=by
   have:(Hs.map (dV (sig n bs)))[i]'(by simpa using hi1)=(bs.map fun b=>s.H.getD b none)[i]'(by simpa using hib):=by simp only[Uv]
   simp only[abi,hi2,dV]at this;have hl:=hlt _ (abg hib);rw[← hn]at hl
   rw[GD,GE hl]at this
   rw[GE hl];simpa using this.symm
  have ho:=(hR.heap.eu _ _ hb).own;have hobj:=(hR.heap.eu _ _ hb).obj;have zR:bs[i]∈bs:=abg hib;have aa6:bs.idxOf bs[i]=i:=hnd.idxOf_getElem i hib;refine⟨?_,?_⟩
  ·show(κ (ρ (sig n bs i))).cl bs L= .wr i
   rw[uN i hib,ho];simp[BK.cl,zR,aa6]
  rcases hobj with ⟨c,e,h1,h2,h3⟩|hM
  rotate_left
  ·right
   show kM w (fun g=>(κ g).cl bs L) (ρ (sig n bs i)) cs;rw[uN i hib];exact(kM.rz hM).mv (fy fun g m hf=>BK.rJ hf) rfl
  refine .inl ⟨c,e,?_,by simpa using h2,fun j hj hj'=> ?_⟩
  ·show w.heap[ρ (sig n bs i)]? =_
   rw[uN i hib];exact h1
  ·have h4:=h3 j (by simpa using hj) hj'
   simp only[abi]at h4;refine bZ.rz (σ:=sig n bs) (ρ:=ρ) (n:=Hs.length) (fy fun g m hf=>BK.rJ hf) (fun b _=>rfl) (pD hHok hi (abg hj)) (fun _ _ _ _ _=>⟨fy fun g m hf=>BK.rJ hf,fun g m hg hk=>⟨?_,rfl⟩⟩) h4;show(κ g).cl bs L=_;rw[hk];simp[BK.cl,zR,aa6]
 ·have⟨hi1,hi2⟩:=abj.1 hi
  intro x hx;exact pD hHok hi hx
 rintro e w' ⟨r,Hs',hq,v,κ',ρ',rfl,hr,hH,iy,hρ⟩;have⟨hflat,hrok,hlen⟩:=hO.res _ _ hq;have⟨Cz,zO⟩:=hQ _ _ hq
 
 let κ2:Nat->BK:=fun g=>if g<w.heap.size/\((κ g).cl bs L).tD=true then κ g else(κ' g).bk (sig n bs)
 let ρ2:Nat->Nat:=fun b=>if b<n then ρ b else ρ' (bs.length+(b-n))
 have zQ: ∀ g,g<w.heap.size->((κ g).cl bs L).tD=true->κ2 g=κ g/\κ' g=(κ g).cl bs L/\w'.heap[g]? =w.heap[g]? :=fun g hg hm=>by
  refine⟨aaN ⟨hg,hm⟩,?_⟩;cases hk:(κ g).cl bs L with
  |lock m=>exact iy.lock g m hg hk
  |wr b=>rw[hk]at hm;cases hm
  |bB m l=>rw[hk]at hm;cases hm
 have L8: ∀ g,(∀ m,κ' g≠ .lock m)->κ2 g=(κ' g).bk (sig n bs):=fun g dQ=>by
  refine aak fun⟨hg,hm⟩=> ?_;have⟨_,h1,_⟩:=zQ g hg hm;cases hk:(κ g).cl bs L with
  |lock m=>exact dQ m (h1.trans hk)
  |wr b=>rw[hk]at hm;cases hm
  |bB m l=>rw[hk]at hm;cases hm
 have hgr:gS w κ w' κ2:=by
  refine⟨iy.size,fun g o x hg hf hx=>iy.grow.cell g o x hg (BK.rJ hf) hx,fun g m hg hf=> ?_⟩;by_cases hm:((κ g).cl bs L).tD=true
  ·rw[(zQ g hg hm).1];exact hf
  ·show(if g<w.heap.size/\((κ g).cl bs L).tD=true then κ g else(κ' g).bk (sig n bs)).fits m
   rw[aak (fun h=>hm h.2)];exact BK.Lt.2 (iy.grow.fits g m hg (BK.rJ hf))
 have J9:L=[]->gS w' κ' w' κ2:=fun hL=>fy fun g m hf=>by
  by_cases hm:g<w.heap.size/\((κ g).cl bs L).tD=true
  ·have⟨h1,h2,_⟩:=zQ g hm.1 hm.2
   rw[h1];rw[h2,hL]at hf
   exact BK.Ul hf
  ·show(if g<w.heap.size/\((κ g).cl bs L).tD=true then κ g else(κ' g).bk (sig n bs)).fits m
   rw[aak hm];exact BK.Lt.2 hf
 have XS:bs.length<=Hs'.length:=by omega
 have hpl:(bR s.H bs (Hs'.map (dV (sig n bs)))).length=n+(Hs'.length-bs.length):=by
  rw[jw _ _ _ (by simpa using XS),hn];simp
 have GZ: ∀ b,b<Hs'.length->ρ2 (sig n bs b)=ρ' b:=fun b hb=>by
  by_cases h:b<bs.length
  ·rw[uN b h]
   have h1:=hlt _ (abg h);show(if bs[b]<n then ρ bs[b]else _)=_;rw[aaN h1,hρ b (by omega),uN b h]
  ·have e1:sig n bs b=n+(b-bs.length):=by simp[sig,show ¬ b<bs.length from h]
   rw[e1];show(if n+(b-bs.length)<n then _ else ρ' (bs.length+(n+(b-bs.length)-n)))=_;rw[aak (by omega)];congr 1;omega
 have Yl: ∀ b,b<Hs'.length->sig n bs b<n+(Hs'.length-bs.length):=fun b hb=>by
  by_cases h:b<bs.length
  ·rw[uN b h]
   have h1:=hlt _ (abg h);omega
  ·simp only[sig,GD,abr (Nat.le_of_not_lt h),ae2];omega
 have hrk:(r.dY (sig n bs)).ok (bR s.H bs (Hs'.map (dV (sig n bs)))).length=true:=by
  rw[hpl];exact al.lz Yl hrok
 have hbr:gS w' κ' w' κ2\/r.bare=true:=zO.imp J9 (·.1);refine⟨r,Hs',hq,v,κ2,ρ2,rfl,⟨hR.defers,fun i hi'=> ?_,hR.out,fun i=> ?_,⟨fun b cs hb=> ?_,fun b cs hb x hx=> ?_⟩⟩,fun l=>cm.back GZ hflat hrok hbr (hr l),hrk,⟨iy.os,iy.tape,iy.output,iy.size,fun g m hg hk=> ?_,hgr⟩,fun b hb=>aaN hb⟩
 ·refine cm.gp (n:=n) hgr (fun b hb=>aaN hb) (hn▸hR.ok i) (fun _ _ _ _ _=>⟨hgr,fun g m hg hk=> ?_⟩) (hR.slot i hi')
  have⟨h1,_,h3⟩:=zQ g hg (by rw[hk];rfl);exact⟨h1.trans hk,h3⟩
 ·show(s.sl i).ok (bR s.H bs (Hs'.map (dV (sig n bs)))).length=true
  rw[hpl];exact al.iO (by omega) _ (hn▸hR.ok i)
 ·rcases kU bs s.H _ hnd (fun b hb=>hn▸hlt b hb) (by simpa using XS) b _ hb with ⟨i,h1,h2⟩|⟨h1,h2⟩|⟨h1,h2⟩
  ·
   rw[acQ]at h2
   have⟨y,hy,qg⟩:=acF.1 h2;cases y with
   |none=>cases qg
   |some ds=>
    injection qg with qg;have⟨hib,Ux⟩:=abj.1 h1;have hBy:=hH.eu i ds hy;have ho:=hBy.own;have hi':i<Hs'.length:=by omega
    have BG:ρ2 b=ρ' i:=by rw[← Ux,← uN i hib];exact GZ i hi'
    refine⟨?_,?_⟩
    ·rw[BG,L8 _ (fun m=>by rw[ho];intro e;cases e),ho]
     simp[BK.bk,uN i hib,Ux]
    rcases hBy.obj with ⟨c,e,k1,k2,k3⟩|hM
    rotate_left
    ·right
     rw[BG,← qg];rcases zO with hL|hL
     ·exact(kM.dY hM).mv (J9 hL) rfl
     ·exfalso
      have⟨q,es,en,ck,e1,_⟩:=hM;have hb2:=abh.1 hL.2 _ (acC hy);rw[e1]at hb2
      cases hb2
    refine .inl ⟨c,e,by rw[BG];exact k1,by rw[← qg];simpa using k2,fun j hj hj'=> ?_⟩
    ·subst qg
     have hj2:j<ds.length:=by simpa using hj
     simp only[abi];have uL:=pD Cz hy (abg hj2);rcases zO with hL|hL
     ·refine bZ.dY (J9 hL) GZ uL (fun _ _ _ _ _=>⟨J9 hL,fun g m hg hk=>⟨?_,rfl⟩⟩) (k3 j hj2 hj')
      rw[L8 g (fun m=>by rw[hk];intro e;cases e),hk];simp[BK.bk,uN i hib,Ux]
     ·exact bZ.bare GZ (abh.1 (show ds.all ab.bare=true from abh.1 hL.2 _ (acC hy)) _ (abg hj2)) uL (k3 j hj2 hj')
  ·
   have hBb:=hR.heap.eu b cs h2;have ho:=hBb.own;have hbn:b<n:=by rw[← hn];exact(abj.1 h2).1
   have BG:ρ2 b=ρ b:=aaN hbn;have hl1:=hBb.yn;have⟨m1,_,m3⟩:=zQ (ρ b) hl1 (by rw[ho];simp only[BK.cl,h1,if_false];split<;>rfl);refine⟨by rw[BG,m1];exact ho,?_⟩;rcases hBb.obj with ⟨c,e,k1,k2,k3⟩|hM
   rotate_left
   ·right
    rw[BG];exact hM.mv hgr m3
   refine .inl ⟨c,e,by rw[BG,m3];exact k1,k2,fun j hj hj'=> ?_⟩;refine bZ.gp (n:=n) hgr (fun b hb=>aaN hb) (hn▸hR.heap.ok b cs h2 _ (abg hj)) (fun _ _ _ _ _=>⟨hgr,fun g m hg hk=> ?_⟩) (k3 j hj hj');have⟨q1,_,q3⟩:=zQ g hg (by rw[hk];simp[BK.cl,h1,BK.tD]);exact⟨q1.trans hk,q3⟩
  ·
   rw[acQ]at h2
   have⟨y,hy,qg⟩:=acF.1 h2;cases y with
   |none=>cases qg
   |some ds=>
    injection qg with qg;rw[hn]at h1 hy
    have hBy:=hH.eu _ ds hy;have ho:=hBy.own;have hi':bs.length+(b-n)<Hs'.length:=(abj.1 hy).1;have Yk:sig n bs (bs.length+(b-n))=b:=by
     simp only[sig,GD,abr (ae7 _ _),ae2];omega
    have BG:ρ2 b=ρ' (bs.length+(b-n)):=aak (by omega);refine⟨?_,?_⟩
    ·rw[BG,L8 _ (fun m=>by rw[ho];intro e;cases e),ho]
     simp[BK.bk,Yk]
    rcases hBy.obj with ⟨c,e,k1,k2,k3⟩|hM
    rotate_left
    ·right
     rw[BG,← qg];rcases zO with hL|hL
     ·exact(kM.dY hM).mv (J9 hL) rfl
     ·exfalso
      have⟨q,es,en,ck,e1,_⟩:=hM;have hb2:=abh.1 hL.2 _ (acC hy);rw[e1]at hb2
      cases hb2
    refine .inl ⟨c,e,by rw[BG];exact k1,by rw[← qg];simpa using k2,fun j hj hj'=> ?_⟩
    ·subst qg
     have hj2:j<ds.length:=by simpa using hj
     simp only[abi];have uL:=pD Cz hy (abg hj2);rcases zO with hL|hL
     ·refine bZ.dY (J9 hL) GZ uL (fun _ _ _ _ _=>⟨J9 hL,fun g m hg hk=>⟨?_,rfl⟩⟩) (k3 j hj2 hj')
      rw[L8 g (fun m=>by rw[hk];intro e;cases e),hk];simp[BK.bk,Yk]
     ·exact bZ.bare GZ (abh.1 (show ds.all ab.bare=true from abh.1 hL.2 _ (acC hy)) _ (abg hj2)) uL (k3 j hj2 hj')
 ·rw[show({ s with H:=bR s.H bs (Hs'.map (dV (sig n bs))) }:St).H.length=n+(Hs'.length-bs.length)from hpl]
  rcases kU bs s.H _ hnd (fun b hb=>hn▸hlt b hb) (by simpa using XS) b _ hb with ⟨i,h1,h2⟩|⟨h1,h2⟩|⟨h1,h2⟩
  ·rw[acQ]at h2
   have⟨y,hy,qg⟩:=acF.1 h2;cases y with
   |none=>cases qg
   |some ds=>
    cases qg;obtain⟨z,hz,rfl⟩:=abt.1 hx;exact ab.lz Yl (pD Cz hy hz)
  ·exact ab.iO (by omega) x (hn▸hR.heap.ok b cs h2 x hx)
  ·rw[acQ]at h2
   have⟨y,hy,qg⟩:=acF.1 h2;cases y with
   |none=>cases qg
   |some ds=>
    cases qg;obtain⟨z,hz,rfl⟩:=abt.1 hx;exact ab.lz Yl (pD Cz hy hz)
 ·have⟨h1,_,h3⟩:=zQ g hg (by rw[hk];rfl)
  exact⟨h1.trans hk,h3⟩
end
def wX {w:World} {κ:Nat->BK} {ρ:Nat->Nat} {P:Program} {cG:List al} {Hs:List (Option (List ab))} {Q:al->List (Option (List ab))->Prop} {s:St} {a:Act} (hO:I6 P f cG Hs Q)
  (hnd:bs.Nodup) (hlt: ∀ b∈bs,b<s.H.length) (Uv:Hs.map (dV (sig s.H.length bs))=bs.map fun b=>s.H.getD b none) (hok: ∀ x∈cG,x.ok Hs.length=true) (hHok:Hs.all (okB Hs.length)=true)
  (p8:cG.map (al.dY (sig s.H.length bs))=xs.map fun x=>((s.ev x).h).dP s.H L) (uJ: ∀ b∈L,b∉bs) (hQ: ∀ r Hs',Q r Hs'->Hs'.all (okB Hs'.length)=true/\(L=[]\/(r.bare=true/\Hs'.all Cf=true))) (hR:Rel s a w κ ρ):
  Calls P f (xs.map a.eval).toArray w fun e w'=> ∃ r Hs',Q r Hs'/\ ∃ v κ' ρ',e= .returned v/\Rel { s with H:=bR s.H bs (Hs'.map (dV (sig s.H.length bs))) } a w' κ' ρ'/\(∀ l,cm w' κ' ρ' l (r.dY (sig s.H.length bs)) v)/\(r.dY (sig s.H.length bs)).ok (bR s.H bs (Hs'.map (dV (sig s.H.length bs)))).length=true/\Fr w κ w' κ'/\ ∀ b,b<s.H.length->ρ' b=ρ b:=by
 refine qz hO hnd hlt Uv hok hHok (by simpa using congrArg adT p8) (fun i hi hix=> .inl ?_) uJ hQ hR;have:(cG.map (al.dY (sig s.H.length bs)))[i]'(by simpa using hi)=(xs.map fun x=>((s.ev x).h).dP s.H L)[i]'(by simpa using hix):=by simp[p8]
 simpa using this
def JG {P:Program} {cG:List al} {Hs Hs':List (Option (List ab))} {r:al} {s:St} {a:Act} {w:World} {κ:Nat->BK} {ρ:Nat->Nat} (hO:Ok P f cG Hs r Hs')
  (hnd:bs.Nodup) (hlt: ∀ b∈bs,b<s.H.length) (Uv:Hs.map (dV (sig s.H.length bs))=bs.map fun b=>s.H.getD b none) (hok: ∀ x∈cG,x.ok Hs.length=true) (hHok:Hs.all (okB Hs.length)=true) (Cz:Hs'.all (okB Hs'.length)=true)
  (p8:cG.map (al.dY (sig s.H.length bs))=xs.map fun x=>((s.ev x).h).dP s.H L) (uJ: ∀ b∈L,b∉bs) (zO:L=[]\/(r.bare=true/\Hs'.all Cf=true)) (hR:Rel s a w κ ρ):
  Calls P f (xs.map a.eval).toArray w fun e w'=> ∃ v κ' ρ',e= .returned v/\Rel { s with H:=bR s.H bs (Hs'.map (dV (sig s.H.length bs))) } a w' κ' ρ'/\(∀ l,cm w' κ' ρ' l (r.dY (sig s.H.length bs)) v)/\(r.dY (sig s.H.length bs)).ok (bR s.H bs (Hs'.map (dV (sig s.H.length bs)))).length=true/\Fr w κ w' κ'/\ ∀ b,b<s.H.length->ρ' b=ρ b:=by
 refine(wX hO.e hnd hlt Uv hok hHok p8 uJ (fun a b e=>by obtain⟨rfl,rfl⟩:=e;exact⟨Cz,zO⟩) hR).mono ?_;rintro e w' ⟨_,_,⟨rfl,rfl⟩,h⟩;exact h
def mf {w:World} {κ:Nat->BK} {ρ:Nat->Nat} {cs ds:List ab} {vs us:Array Value} (h1:cJ w κ ρ cs vs) (h2:cJ w κ ρ ds us):cJ w κ ρ (cs++ds) (vs++us):=by
 have e1:=h1.size;have e2:=h2.size;refine⟨by simp[e1,e2],fun x hx=> ?_,fun l i hi hi'=> ?_,fun i hi=> ?_⟩
 ·rcases afd.1 hx with h|h
  ·exact h1.flat x h
  ·exact h2.flat x h
 ·by_cases hlt:i<cs.length
  ·rw[acO hlt,ac1 (by omega)]
   exact h1.Ow l i hlt _
  ·have hi2:i-vs.size<us.size:=by
    rw[aeZ]at hi'
    omega
   rw[acM (by omega),ad5 (by omega)];have:=h2.Ow l (i-vs.size) (by omega) hi2;simpa[e1]using this
 ·by_cases hlt:i<vs.size
  ·rw[ac1 hlt]
   exact h1.one i hlt
  ·rw[ad5 (by omega)]
   exact h2.one _ _
def uB {w:World} {κ:Nat->BK} {ρ:Nat->Nat} {fs:List au} {vs:List Value} (hl:vs.length=fs.length) (hr: ∀ i (h:i<fs.length) (h':i<vs.length),cQ w κ fs[i] vs[i]):cJ w κ ρ (fs.map ab.f) vs.toArray:=by
 refine⟨by simp[hl],fun x hx=> ?_,fun l i hi hi'=> ?_,fun i hi=> ?_⟩
 ·obtain⟨y,_,rfl⟩:=abt.1 hx
  rfl
 ·rw[abi,abz]
  exact hr i (by simpa using hi) (by simpa using hi')
 ·rw[abz]
  exact(hr i (by simp at hi;omega) (by simpa using hi)).one
def Ge {P:Program} {s:St} {o:Oper} {t tx:TypeId} {x y:Operand} (ho:o.op= .call { callee:= .builtin .append,args:= #[x,y],argTypes:= #[t,tx] }) {sz by_:Nat} {zs:List ab} (hI:eS P t=some (sz,by_,zs)) {n:Nat} {fs:List au} (iR:bQ P s sz tx y=some (n,fs)) (Ja:n<=4611686018427387904) (ym:n*by_<=140737488355328) (hn0:n≠0)
  {a:Act} {w:World} {κ:Nat->BK} {ρ:Nat->Nat} (hR:Rel s a w κ ρ) (hv:a.eval x= .slice none 0 0):
  ∃ cap v w' κ' ρ',n<=cap/\(execOp a.eval o).run P w= .ok (.value v) w'/\Rel { s with H:=s.H++[some (fs.map ab.f++dc zs (cap-n))] } a w' κ' ρ'/\v= .slice (some ⟨ρ' s.H.length,0,none⟩) n cap/\Fr w κ w' κ'/\ ∀ b,b<s.H.length->ρ' b=ρ b:=by
 obtain⟨e,i,z,hu,hi,hz,rfl,rfl,rfl,hsz,hpos,h1⟩:=gN hI;have⟨news,hs,Jc,FH,sq⟩:=iM iR hR;have GY:(abA i.size 0 (.slice none 0 0)).run P w.drew= .ok ([]:List Value).toArray w.drew:=rfl;have lq:=growslice_fits (need:=0+n) (old:=0) (bytes:=i.bytes) (by omega) (by rw[acN];exact ym);have hrun:=run_append_grow_src (P:=P) w t tx o.type e i z hu hi hz none 0 0 [] GY (a.eval y) n news hs (by omega) (by omega) lq;have hge:n<=grownCap w (0+n) 0 e:=by
  have:=grownCap_ge w (0+n) 0 e;omega
 generalize grownCap w (0+n) 0 e=cap at*;have m1:=lQ s.H.length w κ ρ;have FG:=hR.mv m1 (fun _ h=>h);have hg:=m1.grow;have Ut:cJ w.drew κ ρ (fs.map ab.f) news.toArray:=uB Jc fun j hj hj'=>(sq j hj hj').grow hg;have Uu:cJ w.drew κ ρ (dc (z.cells.toList.map tW) (cap-n)) (abO z.cells (cap-n)):=mU z.cells (cap-n) (by omega) h1;have hC:=mf Ut Uu;have m2:=fF s.H.length w.drew κ ρ (.cells (news.toArray++abO z.cells (cap-n)) e) (.wr s.H.length) (fq ρ s.H.length w.drew.heap.size) (fun b hb=>aH _ _ (by omega))
 have hN:=FG.new e hC (fun x hx=>by
  rcases afd.1 hx with h|h
  ·obtain⟨y,_,rfl⟩:=abt.1 h
   rfl
  ·exact nD _ _ _ _ h)
 rw[acN,ae9]at hrun
 refine⟨cap,.slice (some ⟨w.heap.size,0,none⟩) n cap,_,_,fq ρ s.H.length w.drew.heap.size,hge,ft ho (by rw[hv];exact hrun),hN,?_,m1.fr.trans m2.fr,fun b hb=>aH _ _ (by omega)⟩;rw[aQ];rfl
def dF (ops:Array Oper) (s:St) (o:Oper):Option Bool:=
 match o.guard with
 |none=>some true
 |some (j,want)=>match ops[j]? with
  |some oj=>match oj.dst with
   |some d=>match s.ev (.tmp d)with
    | .c (.f (.v (.bool b)))=>some (b==want)
    | .c .tV=>some false
    |_=>none
   |none=>some false
  |none=>some false
def vA {ops:Array Oper} {s:St} {o:Oper} {t:Bool} (h:dF ops s o=some t) {a:Act} {w:World} {κ:Nat->BK} {ρ:Nat->Nat} (hR:Rel s a w κ ρ):acR o (yielded ops a.tmps)=t:=by
 unfold dF at h;unfold acR;split at h
 next hg=>
  injection h with h;rw[hg];exact h
 next j want hg=>
  rw[hg];simp only;split at h
  next oj hj=>
   split at h
   next d hd=>
    have hval: ∀ {v},a.eval (.tmp d)=v->v≠undef->a.tmps[d]? =some v:=fun{v} e hne=>by
     simp only[Act.eval,aew]at e;split at e
     next hlt=>
      rw[ad9 hlt];exact congrArg some e
     ·exact absurd e.symm hne
    split at h
    next b he=>
     injection h with h;have hv:a.eval (.tmp d)= .bool b:=hR.jl (by rw[he];rfl);have:=hval hv (by intro e;cases e);simp[yielded,hj,hd,this,← h]
    next he=>
     injection h with h;have hv:a.eval (.tmp d)=undef:=by
      have:=hR.Ev d;rw[he]at this
      exact this
     rw[← h];have hy:yielded ops a.tmps j=none:=by
      simp only[yielded,hj,hd,Option.bind_some];simp only[Act.eval,aew]at hv;split at hv
      next hlt=>
       rw[ad9 hlt];have hv':a.tmps[d]=undef:=hv;rw[hv'];rfl
      next hge=>
       rw[ada (by omega)]
     rw[hy];rfl
    ·cases h
   next hd=>
    injection h with h;rw[← h];simp[yielded,hj,hd]
  next hj=>
   injection h with h;rw[← h];simp[yielded,hj]
def gb (ops:Array Oper) (o:Oper):Bool:=
 match o.dst with
 |some d=>ops.toList.any fun p=>match p.op with
  | .call c=>match c.callee,c.args.toList with
   | .builtin .append,.tmp t::_=>t==d
   |_,_=>false
  |_=>false
 |none=>false
def dn (o:Oper):Option (FuncId×List Operand):=
 match o.op with
 | .call c=>match c.callee with
  | .value (.func f)=>some (f,c.args.toList)
  |_=>none
 |_=>none
structure Cl where
 fp:List Nat:=[]
 fr:List Nat:=[]
 wr:List Nat:=[]
 new:Option Nat:=none
 aZ:Bool:=false
 soft:Bool:=false
abbrev Cl.q0:Cl:={}
def qZ:al->List Nat
 | .c (.ptr b _)=>[b]
 |_=>[]
def jF:al->List Nat
 | .c (.arr b _ _ _)=>[b]
 |_=>[]
def wj:Op->Bool
 | .load .. =>true
 |_=>false
def xV (tr:Bool) (s:St) (o:Oper):List Nat:=
 match o.op with
 | .load _ x=>if tr=true then []else qZ (s.ev x)
 |_=>[]
def ou (tr:Bool) (s:St) (o:Oper):List Nat:=
 match o.op with
 | .load _ x=>if tr=true then qZ (s.ev x)else []
 | .store _ x _=>qZ (s.ev x)
 | .call c=>match c.args.toList with
  |[x,y]=>jF (s.ev x).aZ++jF (s.ev y).aZ
  |_=>[]
 |_=>[]
def gA.wr (c:gA):List Nat:=
 match c.eu with
 |some (b,_)=>[b]
 |none=>[]
def jI (tr:Bool) (s:St) (o:Oper) (c:gA):Cl:=⟨ou tr s o,xV tr s o,c.wr,if c.new.isSome then some s.H.length else none,c.aZ.isSome,wj o.op⟩
def FV (P:Program) (f:FuncId) (xs:List Operand) (s:St) (K:Cl->al->St->Prop):Prop:=
 (∃ r,(xs.all fun x=>(s.ev x).h.ok 0)=true/\Ok P f (xs.map fun x=>(s.ev x).h) [] r []/\K .q0 r s)\/
 ∃ (bs L:List Nat) (cG:List al) (Hs Hs':List (Option (List ab))) (r:al),Ok P f cG Hs r Hs'/\bs.Nodup/\(∀ b∈bs,b<s.H.length)/\Hs.map (dV (sig s.H.length bs))=(bs.map fun b=>s.H.getD b none)/\(∀ x∈cG,x.ok Hs.length=true)/\Hs.all (okB Hs.length)=true/\Hs'.all (okB Hs'.length)=true/\
  cG.map (al.dY (sig s.H.length bs))=(xs.map fun x=>((s.ev x).h).dP s.H L)/\(∀ b∈L,b∉bs)/\(L=[]\/(r.bare=true/\Hs'.all Cf=true))/\
  K ⟨bs++L,[],bs,if Hs'.length=bs.length then none else some s.H.length,false,false⟩ (r.dY (sig s.H.length bs)) { s with H:=bR s.H bs (Hs'.map (dV (sig s.H.length bs))) }
structure yR (P:Program) (s:St) (o:Oper) (v:Value):Prop where
 op: ∃ b t x y u,o.op= .binOp b t x y u
 plain:(o.op.operands.toList.all fun x=>(s.ev x).jl.isSome)=true
 run: ∀ w,(execOp s.env o).run P w= .ok (.value v) w
structure sF (P:Program) (o:Oper) (s:St) (x:al) (c:gA) (fp:List Nat):Prop where
 sim: ∀ s':St,(∀ y∈o.op.operands,s.ev y=s'.ev y)->(∀ b∈fp,s.H[b]? =s'.H[b]?)->(c.new.isSome=true->s.H.length=s'.H.length)->jY P o s' x c
 eu: ∀ b cs,c.eu=some (b,cs)->b∈fp/\b<s.H.length
 aZ:c.aZ=none
def sF.congr {P:Program} {o:Oper} {s s':St} {x:al} {c:gA} {fp:List Nat} (h:sF P o s x c fp) (h1: ∀ y∈o.op.operands,s.ev y=s'.ev y) (h2: ∀ b∈fp,s.H[b]? =s'.H[b]?) (h3:c.new.isSome=true->s.H.length=s'.H.length):sF P o s' x c fp:=
 ⟨fun s2 k1 k2 k3=>h.sim s2 (fun y hy=>(h1 y hy).trans (k1 y hy)) (fun b hb=>(h2 b hb).trans (k2 b hb)) (fun e=>(h3 e).trans (k3 e)),fun b cs e=>by
  have⟨q1,q2⟩:=h.eu b cs e;refine⟨q1,?_⟩;have:=h2 b q1;rw[GE q2]at this
  exact(abj.1 this.symm).1,h.aZ⟩
def mG (s:St) (fp:List Nat) (c:gA):Cl:=⟨fp,[],c.wr,if c.new.isSome then some s.H.length else none,false,false⟩
def Xa (P:Program) (ops:Array Oper) (o:Oper) (s:St) (K:Cl->St->Prop):Prop:=
 (∃ x c,np P (gb ops o) s o=some (x,c)/\K (jI (gb ops o) s o c) ((s.kZ c).put o.dst x))\/(∃ v,yR P s o v/\K .q0 (s.put o.dst (Bt v)))\/(∃ x c fp,sF P o s x c fp/\K (mG s fp c) ((s.kZ c).put o.dst x))
def vD (P:Program) (ops:Array Oper) (o:Oper) (s:St) (K:Cl->St->Prop):Prop:=
 match dF ops s o with
 |none=>False
 |some t=>if t=true then
  match dn o with
  |some (f,xs)=>FV P f xs s fun c r s'=>K c (s'.put o.dst r)
  |none=>Xa P ops o s K
  else K .q0 (s.put o.dst (.c .tV))
def Z9 (P:Program) (ops:Array Oper) (o:Oper) (s:St) (K:St->Prop):Prop:=
 dF ops s o=some true/\ ∃ f xs,dn o=some (f,xs)/\ ∃ (bs:List Nat) (cG:List al) (Hs:List (Option (List ab))) (Q:al->List (Option (List ab))->Prop),I6 P f cG Hs Q/\bs.Nodup/\(∀ b∈bs,b<s.H.length)/\Hs.map (dV (sig s.H.length bs))=(bs.map fun b=>s.H.getD b none)/\(∀ x∈cG,x.ok Hs.length=true)/\Hs.all (okB Hs.length)=true/\
  cG.map (al.dY (sig s.H.length bs))=(xs.map fun x=>((s.ev x).h).dP s.H [])/\
  ∀ r Hs',Q r Hs'->Hs'.all (okB Hs'.length)=true/\K (({ s with H:=bR s.H bs (Hs'.map (dV (sig s.H.length bs))) }:St).put o.dst (r.dY (sig s.H.length bs)))
def aaa (P:Program) (ops:Array Oper) (o:Oper) (s:St) (K:St->Prop):Prop:=
 dF ops s o=some true/\ ∃ (t tx:TypeId) (x y:Operand) (sz by_:Nat) (zs:List ab) (n:Nat) (fs:List au),o.op= .call { callee:= .builtin .append,args:= #[x,y],argTypes:= #[t,tx] }/\eS P t=some (sz,by_,zs)/\bQ P s sz tx y=some (n,fs)/\n<=4611686018427387904/\n*by_<=140737488355328/\n≠0/\s.ev x= .c (.f .aD)/\
  ∀ cap,n<=cap->K (({ s with H:=s.H++[some (fs.map ab.f++dc zs (cap-n))] }:St).put o.dst (.c (.arr s.H.length 0 n cap)))
def WkM (ops:Array Oper) (s s2:St):Prop:=(s.H.length<=s2.H.length/\ ∀ a w κ ρ,Rel s a w κ ρ-> ∃ κ',Rel s2 a w κ' ρ/\Fr w κ w κ')/\ ∀ o,dF ops s o=some true->dF ops s2 o=some true
def Z8 (P:Program) (ops:Array Oper) (o:Oper) (s:St) (K:St->Prop):Prop:=
 dF ops s o=some true/\ ∃ (α:Type) (F:α->St),(∀ x,s.H.length<=(F x).H.length)/\(∀ (a:Act) (w:World) (κ:Nat->BK) (ρ:Nat->Nat),Rel s a w κ ρ->(∀ t,o.dst=some t->t<a.tmps.size)-> ∀ (next:Act->World->Prop) (Q:Exit->Act->World->Prop),(∀ x a' w' κ' ρ',Rel (F x) a' w' κ' ρ'->Fr w κ w' κ'->(∀ b,b<s.H.length->ρ' b=ρ b)->a'.tmps.size=a.tmps.size->next a' w')->o.wp P a w next Q)/\ ∀ x,K (F x)
def xL (P:Program) (ops:Array Oper):List Oper->St->(St->Prop)->Prop
 |[],s,K=>K s
 |o::rest,s,K=>(vD P ops o s fun _ s'=>xL P ops rest s' K)\/(Z9 P ops o s fun s'=>xL P ops rest s' K)\/(aaa P ops o s fun s'=>xL P ops rest s' K)\/(∃ s2,WkM ops s s2/\vD P ops o s2 fun _ s'=>xL P ops rest s' K)\/Z8 P ops o s fun s'=>xL P ops rest s' K
def pZ (N:Nat) (o:Oper):Bool:=
 match o.dst with
 |some d=>decide (d<N)
 |none=>true
structure In (N n0:Nat) (w0:World) (κ0:Nat->BK) (ρ0:Nat->Nat) (s:St) (a:Act) (w:World) (κ:Nat->BK) (ρ:Nat->Nat):Prop where
 rel:Rel s a w κ ρ
 fr:Fr w0 κ0 w κ
 tX: ∀ b,b<n0->ρ b=ρ0 b
 len:n0<=s.H.length
 size:a.tmps.size=N
def o9 {N:Nat} {o:Oper} (h:pZ N o=true) {a:Act} (hs:a.tmps.size=N): ∀ t,o.dst=some t->t<a.tmps.size:=fun t e=>by
 unfold pZ at h;rw[e]at h
 rw[hs];exact of_decide_eq_true h
def dS (a:Act) (d:Option Tmp) (v:Value):(a.put d v).tmps.size=a.tmps.size:=by cases d<;>simp[Act.put]
def LA (s:St) (c:gA):s.H.length<=(s.kZ c).H.length:=by
 unfold St.kZ;cases c.aZ<;>cases c.eu<;>cases c.new<;>simp[St.ir,St.qy,St.qW,St.aZ,fN]
def lT (s:St) (d:Option Tmp) (x:al):(s.put d x).H.length=s.H.length:=by cases d<;>rfl
section
variable {P:Program} {ops:Array Oper} {N n0:Nat} {w0:World} {κ0:Nat->BK} {ρ0:Nat->Nat}
def og {ev:Operand->Value} {o:Oper} (ic:ev (.func f)= .func (.func f) #[] #[]) (h:dn o=some (f,xs)) (hf: ∃ fn,P.funcs[f]? =some fn/\fn.body.isSome=true/\(fn.name== "runtime.NumGoroutine")=false) (w:World):(execOp ev o).run P w= .ok (.enter f (xs.map ev).toArray) w:=by
 unfold dn at h;split at h
 next c ho=>
  split at h
  next g hc=>
   injection h with h;injection h with e1 e2;subst e1;subst e2;have⟨fn,h1,h2,h3⟩:=hf;have hb: ¬ fn.body=none:=by intro e;rw[e]at h2;cases h2
   have hn: ¬ fn.name= "runtime.NumGoroutine":=by simpa using h3
   have X6:c.args.map ev=(c.args.toList.map ev).toArray:=by rw[← ae4]
   simp[execOp,ho,resolve,hc,ic,Deferred.ofValue,ab5,afi,abP,invoke,callFunc];simp[program,acz,h1,hn,hb,X6]
  ·cases h
 ·cases h
def rD {o:Oper} {s:St} {K:Cl->St->Prop} (lL:pZ N o=true) (h:vD P ops o s K) {a:Act} {w:World} {κ:Nat->BK} {ρ:Nat->Nat} (hI:In N n0 w0 κ0 ρ0 s a w κ ρ) {next:Act->World->Prop} 
  (hK: ∀ c s a w κ ρ,K c s->In N n0 w0 κ0 ρ0 s a w κ ρ->next a w):
  if acR o (yielded ops a.tmps)then o.wp P a w next Q\/(o.asks P a w/\LetsOut Q)else next (a.put o.dst undef) w:=by
 unfold vD at h;split at h
 ·cases h
 next t ht=>
  rw[vA ht hI.rel];split at h
  next Yo=>
   subst Yo;simp[if_true];left;split at h
   next f xs hc=>
    rcases h with ⟨r,hok,hO,hk⟩|⟨bs,L,cG,Hs,Hs',r,hO,h1,h2,h3,h4,h5,h6,h7,h8,h9,hk⟩
    ·unfold adJ
     rw[og rfl hc hO.fn];refine(Np hO rfl (by simpa using hok) hI.rel).mono ?_;rintro e w' ⟨v,κ',rfl,EC,hr,hrok,iy⟩;refine hK _ _ _ _ κ' ρ hk ⟨EC.put (o9 lL hI.size) (fun t _=>hr _) hrok,hI.fr.trans iy,hI.tX,?_,(dS _ _ _).trans hI.size⟩;rw[lT];exact hI.len
    ·unfold adJ
     rw[og rfl hc hO.fn];refine(JG hO h1 h2 h3 h4 h5 h6 h7 h8 h9 hI.rel).mono ?_;rintro e w' ⟨v,κ',ρ',rfl,EC,hr,hrok,iy,hρ⟩;refine hK _ _ _ _ κ' ρ' hk ⟨EC.put (o9 lL hI.size) (fun t _=>hr _) hrok,hI.fr.trans iy,fun b hb=>(hρ b (abq hb hI.len)).trans (hI.tX b hb),?_,(dS _ _ _).trans hI.size⟩;rw[lT];refine acI hI.len ?_;have e1:Hs.length=bs.length:=by simpa using congrArg adT h3
     have e2:=hO.len;show s.H.length<=(bR s.H bs (Hs'.map (dV (sig s.H.length bs)))).length;rw[jw _ _ _ (by simp;omega)];omega
   ·rcases h with ⟨x,c,hx,h⟩|⟨v,hv,h⟩|⟨x,c,fp,hs,h⟩
    rotate_right
    ·have⟨v,w',κ',ρ',hy,EC,hr,hrok,iy,hρ⟩:=hs.sim s (fun _ _=>rfl) (fun _ _=>rfl) (fun _=>rfl) a w κ ρ hI.rel
     have xh:next (a.put o.dst v) w':=hK _ _ _ _ κ' ρ' h ⟨EC.put (o9 lL hI.size) (fun t ht=>hr t ht) hrok,hI.fr.trans iy,fun b hb=>(hρ b (abq hb hI.len)).trans (hI.tX b hb),by rw[lT];exact acI hI.len (LA _ _),(dS _ _ _).trans hI.size⟩
     unfold adJ;rcases hy with hy|⟨hy,rfl⟩
     ·rw[hy];exact xh
     ·rw[hy];exact xh
    ·have⟨v,w',κ',ρ',hy,EC,hr,hrok,iy,hρ⟩:=TT hx a w κ ρ hI.rel
     have xh:next (a.put o.dst v) w':=hK _ _ _ _ κ' ρ' h ⟨EC.put (o9 lL hI.size) (fun t ht=>hr t ht) hrok,hI.fr.trans iy,fun b hb=>(hρ b (abq hb hI.len)).trans (hI.tX b hb),by rw[lT];exact acI hI.len (LA _ _),(dS _ _ _).trans hI.size⟩
     unfold adJ;rcases hy with hy|⟨hy,rfl⟩
     ·rw[hy];exact xh
     ·rw[hy];exact xh
    ·have⟨b,t,x,y,u,ho⟩:=hv.op
     have he:execOp a.eval o=execOp s.env o:=execOp_congr o (fun cs b e=>by rw[ho]at e;cases e) (fun y hy=>by
      have:=abh.1 hv.plain y (acJ.2 hy);have⟨u,hu⟩:=ad8.1 this
      rw[hI.rel.jl hu,St.env,hu];rfl)
     unfold adJ;rw[he,hv.run w];exact hK _ _ _ _ κ ρ h ⟨hI.rel.put (o9 lL hI.size) (fun t _=>AO v) (Ku _ v),hI.fr,hI.tX,by rw[lT];exact hI.len,(dS _ _ _).trans hI.size⟩
  next Yo=>
   have:t=false:=by simpa using Yo
   subst this;simp[Bool.false_eq_true,if_false];exact hK _ _ _ _ κ ρ h ⟨hI.rel.put (o9 lL hI.size) (fun t _=>rfl) rfl,hI.fr,hI.tX,by rw[lT];exact hI.len,(dS _ _ _).trans hI.size⟩
def Jq {o:Oper} {s:St} {K:St->Prop} (lL:pZ N o=true) (h:Z9 P ops o s K) {a:Act} {w:World} {κ:Nat->BK} {ρ:Nat->Nat} (hI:In N n0 w0 κ0 ρ0 s a w κ ρ) {next:Act->World->Prop} 
  (hK: ∀ s a w κ ρ,K s->In N n0 w0 κ0 ρ0 s a w κ ρ->next a w):
  if acR o (yielded ops a.tmps)then o.wp P a w next Q\/(o.asks P a w/\LetsOut Q)else next (a.put o.dst undef) w:=by
 have⟨ht,f,xs,hc,bs,cG,Hs,Q',hO,h1,h2,h3,h4,h5,h7,hk⟩:=h;rw[vA ht hI.rel];simp[if_true];left;unfold adJ;rw[og rfl hc hO.fn];refine(wX (L:=[]) hO h1 h2 h3 h4 h5 h7 (by simp) (fun r Hs' hq=>⟨(hk r Hs' hq).1,.inl rfl⟩) hI.rel).mono ?_;rintro e w' ⟨r,Hs',hq,v,κ',ρ',rfl,EC,hr,hrok,iy,hρ⟩;refine hK _ _ _ κ' ρ' (hk r Hs' hq).2 ⟨EC.put (o9 lL hI.size) (fun t _=>hr _) hrok,hI.fr.trans iy,fun b hb=>(hρ b (abq hb hI.len)).trans (hI.tX b hb),?_,(dS _ _ _).trans hI.size⟩;rw[lT];refine acI hI.len ?_;have e1:Hs.length=bs.length:=by simpa using congrArg adT h3
 have e2:=(hO.res _ _ hq).2.2;show s.H.length<=(bR s.H bs (Hs'.map (dV (sig s.H.length bs)))).length;rw[jw _ _ _ (by simp;omega)];omega
def Jr {o:Oper} {s:St} {K:St->Prop} (lL:pZ N o=true) (h:aaa P ops o s K) {a:Act} {w:World} {κ:Nat->BK} {ρ:Nat->Nat} (hI:In N n0 w0 κ0 ρ0 s a w κ ρ) {next:Act->World->Prop} 
  (hK: ∀ s a w κ ρ,K s->In N n0 w0 κ0 ρ0 s a w κ ρ->next a w):
  if acR o (yielded ops a.tmps)then o.wp P a w next Q\/(o.asks P a w/\LetsOut Q)else next (a.put o.dst undef) w:=by
 have⟨ht,t,tx,x,y,sz,by_,zs,n,fs,ho,h1,h2,h3,h4,h5,h6,hk⟩:=h;rw[vA ht hI.rel];simp[if_true];left;have hv:a.eval x= .slice none 0 0:=by
  have:=hI.rel.ev (l:= .slot 0) x;rw[h6]at this
  exact eU.1 this
 obtain⟨cap,v,w',κ',ρ',k1,k2,k3,rfl,k5,k6⟩:=Ge ho h1 h2 h3 h4 h5 hI.rel hv;unfold adJ;rw[k2];refine hK _ _ _ κ' ρ' (hk cap k1) ⟨k3.put (o9 lL hI.size) (fun t _=>rfl) ?_,hI.fr.trans k5,fun b hb=>(k6 b (abq hb hI.len)).trans (hI.tX b hb),?_,(dS _ _ _).trans hI.size⟩
 ·simp[al.ok,ab.ok]
 ·rw[lT]
  refine acI hI.len ?_;simp
def Jp {o:Oper} {s:St} {K:St->Prop} (lL:pZ N o=true) (h:Z8 P ops o s K) {a:Act} {w:World} {κ:Nat->BK} {ρ:Nat->Nat} (hI:In N n0 w0 κ0 ρ0 s a w κ ρ) {next:Act->World->Prop} 
  (hK: ∀ s a w κ ρ,K s->In N n0 w0 κ0 ρ0 s a w κ ρ->next a w):
  if acR o (yielded ops a.tmps)then o.wp P a w next Q\/(o.asks P a w/\LetsOut Q)else next (a.put o.dst undef) w:=by
 have⟨ht,α,F,h1,h2,h3⟩:=h;rw[vA ht hI.rel];simp[if_true];exact .inl (h2 _ _ _ _ hI.rel (o9 lL hI.size) _ _ fun x a' w' κ' ρ' hR hF hρ hs=>hK _ _ _ κ' ρ' (h3 x) ⟨hR,hI.fr.trans hF,fun b hb=>(hρ b (abq hb hI.len)).trans (hI.tX b hb),acI hI.len (h1 x),hs.trans hI.size⟩)
def kg {Q:Exit->Act->World->Prop} {K:St->Prop} (hK: ∀ s a w κ ρ,K s->In N n0 w0 κ0 ρ0 s a w κ ρ->Q .normal a w):
  ∀ (l:List Oper) (s:St) (a:Act) (w:World) (κ:Nat->BK) (ρ:Nat->Nat),l.all (pZ N)=true->xL P ops l s K->In N n0 w0 κ0 ρ0 s a w κ ρ->wpList P ops Q l a w
 |[],s,a,w,κ,ρ,_,h,hI=>hK s a w κ ρ h hI
 |o::rest,s,a,w,κ,ρ,hd,h,hI=>by
  rw[aec,aca]at hd
  rcases h with h|h
  ·exact rD hd.1 h hI fun _ s a w κ ρ hk hI=>kg hK rest s a w κ ρ hd.2 hk hI
  ·rcases h with h|h|⟨s2,hm,h⟩|h
   rotate_right
   ·exact Jp hd.1 h hI fun s a w κ ρ hk hI=>kg hK rest s a w κ ρ hd.2 hk hI
   rotate_right
   ·have⟨κ2,hR2,hF2⟩:=hm.1.2 _ _ _ _ hI.rel
    exact rD hd.1 h ⟨hR2,hI.fr.trans hF2,hI.tX,acI hI.len hm.1.1,hI.size⟩ fun _ s a w κ ρ hk hI=>kg hK rest s a w κ ρ hd.2 hk hI
   ·exact Jq hd.1 h hI fun s a w κ ρ hk hI=>kg hK rest s a w κ ρ hd.2 hk hI
   ·exact Jr hd.1 h hI fun s a w κ ρ hk hI=>kg hK rest s a w κ ρ hd.2 hk hI
end
inductive bN where
 |normal
 |exit (id:Nat)
 |ret
def dG (n0:Nat) (s s2:St):Prop:=n0<=s2.H.length/\ ∀ a w κ ρ,Rel s a w κ ρ-> ∃ κ',Rel s2 a w κ' ρ/\Fr w κ w κ'
def dG.i {n0:Nat} {s s2:St} (h0:n0<=s2.H.length) (h: ∀ a w κ ρ,Rel s a w κ ρ->Rel s2 a w κ ρ):dG n0 s s2:=⟨h0,fun a w κ ρ k=>⟨κ,h a w κ ρ k,Fr.refl _ _⟩⟩
def dG.refl {n0:Nat} {s:St} (h:n0<=s.H.length):dG n0 s s:= .i h fun _ _ _ _ h=>h
def dG.trans {n0:Nat} {a b c:St} (h:dG n0 a b) (k:dG n0 b c):dG n0 a c:=⟨k.1,fun x w κ ρ hR=>by
 have⟨κ1,h1,h2⟩:=h.2 x w κ ρ hR;have⟨κ2,h3,h4⟩:=k.2 x w κ1 ρ h1
 exact⟨κ2,h3,h2.trans h4⟩⟩
def FZ (n0:Nat) (s:St) {α:Type} (F:α->St):Prop:=(∀ x,n0<=(F x).H.length)/\ ∀ a w κ ρ,Rel s a w κ ρ-> ∃ x κ' ρ',Rel (F x) a w κ' ρ'/\Fr w κ w κ'/\ ∀ b,b<n0->ρ' b=ρ b
def W (P:Program) (D:Array Oper->St->(St->Prop)->Prop) (n0:Nat):Code->St->(bN->St->Prop)->Prop
 | .skip,s,K=>K .normal s
 | .region _ ops false,s,K=>xL P ops ops.toList s (K .normal)
 | .region _ ops true,s,K=>D ops s (K .normal)
 | .seq a b,s,K=>W P D n0 a s fun e s'=>match e with
  | .normal=>W P D n0 b s' K\/(∃ s2,dG n0 s' s2/\W P D n0 b s2 K)\/ ∃ (α:Type) (F:α->St),FZ n0 s' F/\ ∀ x,W P D n0 b (F x) K
  | .exit i=>K (.exit i) s'
  | .ret=>K .ret s'
 | .cond c a b,s,K=>match s.ev c with
  | .c (.f (.v (.bool t)))=>if t=true then W P D n0 a s K else W P D n0 b s K
  |_=>False
 | .block id c,s,K=>W P D n0 c s fun e s'=>match e with
  | .normal=>K .normal s'
  | .exit j=>if j=id then K .normal s' else K (.exit j) s'
  | .ret=>K .ret s'
 | .loop c,s,K=> ∃ (α:Type) (I:α->St->Prop) (μ:α->Nat) (x0:α),(∃ s0,dG n0 s s0/\I x0 s0)/\ ∀ x s1,I x s1->W P D n0 c s1 fun e s'=>match e with
  | .normal=> ∃ y s2,dG n0 s' s2/\I y s2/\μ y<μ x
  | .exit i=>K (.exit i) s'
  | .ret=>K .ret s'
 | .exit id,s,K=>K (.exit id) s
 | .ret,s,K=>K .ret s
 |_,_,_=>False
def codeOk (N:Nat):Code->Bool
 | .region _ ops _=>ops.toList.all (pZ N)
 | .seq a b=>codeOk N a&&codeOk N b
 | .cond _ a b=>codeOk N a&&codeOk N b
 | .block _ c=>codeOk N c
 | .loop c=>codeOk N c
 |_=>true
def ac3 (N n0:Nat) (w0:World) (κ0:Nat->BK) (ρ0:Nat->Nat) (K:bN->St->Prop):Exit->Act->World->Prop
 | .normal,a,w=> ∃ s κ ρ,K .normal s/\In N n0 w0 κ0 ρ0 s a w κ ρ
 | .exit id,a,w=> ∃ s κ ρ,K (.exit id) s/\In N n0 w0 κ0 ρ0 s a w κ ρ
 | .ret,a,w=> ∃ s κ ρ,K .ret s/\In N n0 w0 κ0 ρ0 s a w κ ρ
 |_,_,_=>False
def B1 {P:Program} {a:Act} {w:World} {c:Code} {α:Type} (I:α->Act->World->Prop) (μ:α->Nat) (x0:α) (h₀:I x0 a w)
  (round: ∀ x a w,I x a w->c.wp P (Exit.then (fun a' w'=> ∃ y,I y a' w'/\μ y<μ x) Q) a w):(Code.loop c).wp P Q a w:=by
 intro b k cs;have key: ∀ n x a w,μ x=n->I x a w-> ∃ e a' w',Q e a' w'/\Arrives P (lone (b.at a (.code c:: .inLoop c::k)) cs w) b k cs e a' w':=by
  intro n
  induction n using Nat.strongRecOn with
  |_ n ih=>
   intro x a w hn hI;have⟨e,a₁,w₁,hq,tA⟩:=round x a w hI b (.inLoop c::k) cs;cases e with
   |normal=>
    have⟨y,hI₁,hlt⟩:=hq;have⟨e₂,a₂,w₂,hq₂,harr₂⟩:=ih (μ y) (hn▸hlt) y a₁ w₁ rfl hI₁;exact⟨e₂,a₂,w₂,hq₂,.of_steps (Steps.trans tA (.one step_inLoop)) harr₂⟩
   |exit id=>exact⟨_,a₁,w₁,hq,.pass (x:= .inLoop c) rfl (fun _ _=> .inl (by simp)) tA⟩
   |goto l=>exact⟨_,a₁,w₁,hq,.pass (x:= .inLoop c) rfl (fun _ _=> .inl (by simp)) tA⟩
   |ret=>exact⟨_,a₁,w₁,hq,.pass (x:= .inLoop c) rfl (fun _ _=> .inl (by simp)) tA⟩
   |panic ch=>exact⟨_,a₁,w₁,hq,.pass (x:= .inLoop c) rfl (fun _ _=> .inl (by simp)) tA⟩
   |outgrown=>exact⟨_,a₁,w₁,hq,.pass (x:= .inLoop c) rfl (fun _ _=> .inl (by simp)) tA⟩
 have⟨e,a',w',hq,tA⟩:=key _ x0 a w rfl h₀;exact⟨e,a',w',hq,.of_steps (.one step_loop) tA⟩
def Pb (P:Program) (ops:Array Oper) (s:St) (K:St->Prop):Prop:=
 ∀ (id N n0:Nat) (w0:World) (κ0:Nat->BK) (ρ0:Nat->Nat) (a:Act) (w:World) (κ:Nat->BK) (ρ:Nat->Nat),In N n0 w0 κ0 ρ0 s a w κ ρ->
  ops.toList.all (pZ N)=true-> ∀ Q:Exit->Act->World->Prop,(∀ s a w κ ρ,K s->In N n0 w0 κ0 ρ0 s a w κ ρ->Q .normal a w)->(Code.region id ops true).wp P Q a w
def qj (P:Program) (D:Array Oper->St->(St->Prop)->Prop):Prop:=
 ∀ (id:Nat) (ops:Array Oper) (s:St) (K:St->Prop),D ops s K-> ∀ (N n0:Nat) (w0:World) (κ0:Nat->BK) (ρ0:Nat->Nat) (a:Act) (w:World) (κ:Nat->BK) (ρ:Nat->Nat),In N n0 w0 κ0 ρ0 s a w κ ρ->
  ops.toList.all (pZ N)=true-> ∀ Q:Exit->Act->World->Prop,(∀ s a w κ ρ,K s->In N n0 w0 κ0 ρ0 s a w κ ρ->Q .normal a w)->(Code.region id ops true).wp P Q a w
def jf {P:Program} {D:Array Oper->St->(St->Prop)->Prop} (hD:qj P D) {N n0:Nat} {w0:World} {κ0:Nat->BK} {ρ0:Nat->Nat}: ∀ (c:Code) (s:St) (K:bN->St->Prop) (a:Act) (w:World) (κ:Nat->BK) (ρ:Nat->Nat),codeOk N c=true->W P D n0 c s K->In N n0 w0 κ0 ρ0 s a w κ ρ->c.wp P (ac3 N n0 w0 κ0 ρ0 K) a w
 | .skip,s,K,a,w,κ,ρ,Bo,h,hI=>wp_skip ⟨s,κ,ρ,h,hI⟩
 | .region id ops false,s,K,a,w,κ,ρ,Bo,h,hI=>wp_region_list (kg (fun s a w κ ρ hk hI=>⟨s,κ,ρ,hk,hI⟩) _ s a w κ ρ Bo h hI)
 | .region id ops true,s,K,a,w,κ,ρ,Bo,h,hI=>hD id ops s _ h N n0 w0 κ0 ρ0 a w κ ρ hI Bo _ (fun s a w κ ρ hk hI=>⟨s,κ,ρ,hk,hI⟩)
 | .seq x y,s,K,a,w,κ,ρ,Bo,h,hI=>by
  simp[codeOk,aca]at Bo;refine wp_seq (wp_mono (jf hD x s _ a w κ ρ Bo.1 h hI) fun e a' w' hq=> ?_);cases e with
  |normal=>
   have⟨s',κ',ρ',hk,GV⟩:=hq;rcases hk with hk|⟨s2,hw,hk⟩|⟨α,F,hw,hk⟩
   rotate_right
   ·have⟨x2,κ2,ρ2,hR2,hF2,hρ2⟩:=hw.2 _ _ _ _ GV.rel
    exact jf hD y (F x2) K a' w' κ2 ρ2 Bo.2 (hk x2) ⟨hR2,GV.fr.trans hF2,fun b hb=>(hρ2 b hb).trans (GV.tX b hb),hw.1 x2,GV.size⟩
   ·exact jf hD y s' K a' w' κ' ρ' Bo.2 hk GV
   ·have⟨κ2,hR2,hF2⟩:=hw.2 _ _ _ _ GV.rel
    exact jf hD y s2 K a' w' κ2 ρ' Bo.2 hk ⟨hR2,GV.fr.trans hF2,GV.tX,hw.1,GV.size⟩
  |exit i=>exact hq
  |ret=>exact hq
  |goto l=>exact hq
  |panic ch=>exact hq
  |outgrown=>exact hq
 | .cond c x y,s,K,a,w,κ,ρ,Bo,h,hI=>by
  simp[codeOk,aca]at Bo;unfold W at h;split at h
  next t ht=>
   have hc:a.eval c= .bool t:=hI.rel.jl (by rw[ht];rfl);refine wp_cond hc ?_;split at h
   ·rename_i Yo;rw[Yo];exact jf hD x s K a w κ ρ Bo.1 h hI
   ·rename_i Yo;rw[aak Yo];exact jf hD y s K a w κ ρ Bo.2 h hI
  ·cases h
 | .block id c,s,K,a,w,κ,ρ,Bo,h,hI=>by
  refine wp_block (wp_mono (jf hD c s _ a w κ ρ Bo h hI) fun e a' w' hq=> ?_);cases e with
  |normal=>exact hq
  |exit i=>
   have⟨s',κ',ρ',hk,GV⟩:=hq;simp[Exit.inBlock];by_cases e:i=id
   ·simp[aaN e]at hk⊢
    exact⟨s',κ',ρ',hk,GV⟩
   ·simp[aak e]at hk⊢
    exact⟨s',κ',ρ',hk,GV⟩
  |ret=>exact hq
  |goto l=>exact hq
  |panic ch=>exact hq
  |outgrown=>exact hq
 | .loop c,s,K,a,w,κ,ρ,Bo,h,hI=>by
  have⟨α,I,μ,x0,⟨s0,hw0,h0⟩,round⟩:=h;have⟨κ2,hR2,hF2⟩:=hw0.2 _ _ _ _ hI.rel;refine B1 (α:=α) (fun x a w=> ∃ s κ ρ,I x s/\In N n0 w0 κ0 ρ0 s a w κ ρ) μ x0 ⟨s0,κ2,ρ,h0,hR2,hI.fr.trans hF2,hI.tX,hw0.1,hI.size⟩ fun x a1 w1 h1=> ?_;have⟨s1,κ1,ρ1,hI1,adD⟩:=h1;refine wp_mono (jf hD c s1 _ a1 w1 κ1 ρ1 Bo (round x s1 hI1) adD) fun e a' w' hq=> ?_;cases e with
  |normal=>
   have⟨s',κ',ρ',⟨y,s2,hw,hy,hlt⟩,GV⟩:=hq;have⟨κ2,hR2,hF2⟩:=hw.2 _ _ _ _ GV.rel;exact⟨y,⟨s2,κ2,ρ',hy,hR2,GV.fr.trans hF2,GV.tX,hw.1,GV.size⟩,hlt⟩
  |exit i=>exact hq
  |ret=>exact hq
  |goto l=>exact hq
  |panic ch=>exact hq
  |outgrown=>exact hq
 | .exit id,s,K,a,w,κ,ρ,Bo,h,hI=>wp_exit ⟨s,κ,ρ,h,hI⟩
 | .ret,s,K,a,w,κ,ρ,Bo,h,hI=>wp_ret ⟨s,κ,ρ,h,hI⟩
 | .rangeFunc ..,_,_,_,_,_,_,_,h,_=>by cases h
 | .scope ..,_,_,_,_,_,_,_,h,_=>by cases h
 | .label ..,_,_,_,_,_,_,_,h,_=>by cases h
 | .goto ..,_,_,_,_,_,_,_,h,_=>by cases h
 | .refuse ..,_,_,_,_,_,_,_,h,_=>by cases h
end Av
end Go.Proofs.YtjkeeocnekggfaaGreat
